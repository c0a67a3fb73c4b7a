/-
  What the walk of StrikeTries is told of a slice of acts that came in: it is empty, or its elements' three numbers lie in a block that was there before the call. No condition.
-/
import Derived.Test.YtlcbpcemdipmfaaRows
import Derived.WalkKit
import Derived.ProofKit
import Derived.OpenShut
import Derived.Deep.Strs
import Derived.Deep.Slices
namespace Go.Proofs.Ytlcbpcemdipmfaa
open Go.ChangeShapes Go.WideShapes Go.ChangeAt Go.RowKit Go.Deep

/-- A slice of acts that came in: its elements' numbers. -/
def IsActs (w : World) (a : Option Addr) (len : Nat) (zn zm zt : Nat → Int) : Prop :=
  len ≤ 9223372036854775807 ∧
  (len = 0 ∨ ∃ b off, a = some ⟨b, off, none⟩ ∧ b < w.heap.size ∧ ∀ j, j < len → w.cell? ⟨b, off + j * 3, none⟩ = some (.int .i64 (zn j)) ∧ w.cell? ⟨b, off + j * 3 + 1, none⟩ = some (.int .i64 (zm j)) ∧ w.cell? ⟨b, off + j * 3 + 2, none⟩ = some (.int .i64 (zt j))) ∧
  ∀ j, j < len → (Lit.int .i64 (zn j)).wf = true ∧ (Lit.int .i64 (zm j)).wf = true ∧ (Lit.int .i64 (zt j)).wf = true

theorem cells53 : Try.prog.cellsOf 53 = 3 := by kernel_rfl
theorem cells3 : Try.prog.cellsOf 3 = 1 := by kernel_rfl

theorem block_of_cell {w : World} {p : Addr} {v : Value} (h : w.cell? p = some v) : p.block < w.heap.size := by
  rcases Nat.lt_or_ge p.block w.heap.size with h' | h'
  · exact h'
  · simp [World.cell?, Array.getElem?_eq_none h'] at h

/-- The three numbers of one act. -/
theorem act_cells {H : Type} {enc : TypeId × Value → H} {w : World} {base n : Nat} {spare : Nat → Bool} {held : Bool} {a : Addr} {cs : List Value} {x : DataW H × List MemPlace}
    (hc : w.cells? base a 3 = some cs) (h : DataW.trod enc Try.prog w base spare held n 53 cs = some x) :
    ∃ q : Int × Int × Int, w.cell? a = some (.int .i64 q.1) ∧ w.cell? (a.add 1) = some (.int .i64 q.2.1) ∧ w.cell? (a.add 2) = some (.int .i64 q.2.2) ∧
      (Lit.int .i64 q.1).wf = true ∧ (Lit.int .i64 q.2.1).wf = true ∧ (Lit.int .i64 q.2.2).wf = true := by
  obtain ⟨_, hl, hat⟩ := World.cells?_some hc
  match cs, hl with
  | [c0, c1, c2], _ =>
    obtain ⟨xs, m, _, _, _, hlen, hg⟩ := DataW.trod_struct Try.underlying53 h
    match xs, hlen with
    | [y0, y1, y2], _ =>
      have g0 := hg 0 _ rfl
      have g1 := hg 1 _ rfl
      have g2 := hg 2 _ rfl
      obtain ⟨n0, e0, _, w0⟩ := DataW.trod_int Try.underlying3 (x := y0) (by simpa [cells3] using g0)
      obtain ⟨n1, e1, _, w1⟩ := DataW.trod_int Try.underlying3 (x := y1) (by simpa [cells3] using g1)
      obtain ⟨n2, e2, _, w2⟩ := DataW.trod_int Try.underlying3 (x := y2) (by simpa [cells3] using g2)
      simp at e0 e1 e2
      subst e0 e1 e2
      exact ⟨(n0, n1, n2), by simpa [Addr.add] using hat 0 (by omega), by simpa using hat 1 (by omega), by simpa using hat 2 (by omega), w0, w1, w2⟩

theorem acts_open {H : Type} {enc : TypeId × Value → H} {w : World} {base fuel : Nat} {spare : Nat → Bool} {held : Bool} {a : Option Addr} {len cap : Nat} {x : DataW H × List MemPlace}
    (h : DataW.trod enc Try.prog w base spare held fuel 44 [.slice a len cap] = some x) : ∃ zn zm zt, IsActs w a len zn zm zt := by
  rcases open_slice Try.underlying44 h with ⟨hcs, _⟩ | ⟨x, l, c, m, n, D, Pl, hcs, _, hl, hm, hmm, _, hx⟩
  · simp at hcs
    obtain ⟨rfl, rfl, rfl⟩ := hcs
    exact ⟨fun _ => 0, fun _ => 0, fun _ => 0, by omega, Or.inl rfl, fun j hj => by omega⟩
  · simp at hcs
    obtain ⟨rfl, rfl, rfl⟩ := hcs
    have hlen : len ≤ m := by rw [hmm]; split <;> omega
    rw [cells53] at hx
    obtain ⟨f, hf⟩ := choose_lt (α := Int × Int × Int) (n := len) (p := fun i q => w.cell? (x.add (i * 3)) = some (.int .i64 q.1) ∧ w.cell? ((x.add (i * 3)).add 1) = some (.int .i64 q.2.1) ∧ w.cell? ((x.add (i * 3)).add 2) = some (.int .i64 q.2.2) ∧
      (Lit.int .i64 q.1).wf = true ∧ (Lit.int .i64 q.2.1).wf = true ∧ (Lit.int .i64 q.2.2).wf = true) (fun i hi => by
        obtain ⟨cs, h1, h2⟩ := hx i (by omega)
        exact act_cells h1 h2)
    refine ⟨fun i => (f i).1, fun i => (f i).2.1, fun i => (f i).2.2, by unfold maxLen at hm; omega, ?_, fun j hj => (hf j hj).2.2.2⟩
    by_cases h0 : len = 0
    · exact Or.inl h0
    · right
      obtain ⟨b, off, spot⟩ := x
      have hs0 := (hf 0 (by omega)).1
      have hspot : spot = none := by simpa [Addr.add] using World.cell?_spot hs0
      subst hspot
      refine ⟨b, off, rfl, block_of_cell hs0, fun j hj => ?_⟩
      obtain ⟨p1, p2, p3, _⟩ := hf j hj
      rw [add_plain] at p1 p2 p3
      rw [add_plain] at p2 p3
      exact ⟨p1, p2, p3⟩
end Go.Proofs.Ytlcbpcemdipmfaa
