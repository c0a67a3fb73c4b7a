/-
  The walk of the law WindowOrder: numbers less than 64 apart are marked in whatever order, each once. No condition beyond what a slice and a number of their kinds bear.
-/
import Derived.Test.YtlcbpcemdipmfaaWinMore
import Derived.Test.YtlcbpcemdipmfaaRowOf
import Derived.Deep.RegionHeld3
namespace Go.Proofs.Ytlcbpcemdipmfaa
open Go.RowKit
namespace Win
/-- The list holds numbers from n to n + 63, and S tells which. -/
def Ord (n : Int) (l : List Int) (S : Nat → Bool) : Prop := (∀ j : Nat, j < 64 → (S j = true ↔ (n + j) ∈ l)) ∧ ∀ x ∈ l, n ≤ x ∧ x < n + 64
theorem ord_empty (n : Int) : Ord n [] (fun _ => false) := ⟨fun _ _ => by simp, fun x h => by cases h⟩
theorem ord_top {n : Int} {l : List Int} {S : Nat → Bool} (h : Ord n l S) (h0 : 0 ≤ n) : top l < n + 64 := by
  have := foldl_max_le l (n + 63) (-1) (by omega) (fun x hx => by have := h.2 x hx; omega)
  unfold top; omega
theorem ord_fresh {n : Int} {l : List Int} {S : Nat → Bool} (h : Ord n l S) (h0 : 0 ≤ n) (h1 : n ≤ 4294967295) (j : Nat) (hj : j < 64) : fresh l (n + j) = !(S j) := by
  have ht := ord_top h h0
  have hi := h.1 j hj
  rw [Bool.eq_iff_iff, fresh_iff, Bool.not_eq_true', ← Bool.not_eq_true, hi]
  constructor
  · exact fun h => h.2.2.2
  · exact fun h => ⟨by omega, by omega, by omega, h⟩
theorem ord_mark {n : Int} {l : List Int} {S : Nat → Bool} (h : Ord n l S) (h0 : 0 ≤ n) (h1 : n ≤ 4294967295) (j : Nat) (hj : j < 64) : Ord n (mark l (n + j)) (fun i => S i || decide (i = j)) := by
  have hf := ord_fresh h h0 h1 j hj
  cases hS : S j with
  | true =>
    rw [hS] at hf
    rw [mark_false hf]
    refine ⟨fun i hi => ?_, h.2⟩
    have := h.1 i hi
    by_cases e : i = j
    · subst e; simp [hS] at this ⊢; exact this
    · simp [e, this]
  | false =>
    rw [hS] at hf
    rw [mark_true hf]
    refine ⟨fun i hi => ?_, fun x hx => ?_⟩
    · have := h.1 i hi
      have e : (n + (i : Int) = n + j) ↔ i = j := by omega
      rw [List.mem_append, List.mem_singleton, ← this, e]
      simp
    · rcases List.mem_append.1 hx with hx | hx
      · exact h.2 x hx
      · rw [List.mem_singleton] at hx; omega
end Win

/-- Block b is an array of 64 bools, S. -/
def SeenAt (w : World) (b : Nat) (S : Nat → Bool) : Prop := ∀ j, j < 64 → w.cell? ⟨b, j, none⟩ = some (.bool (S j)) ∧ w.frozen? ⟨b, j, none⟩ = false
theorem seen_new (w : World) : SeenAt (w.alloc (.cells (Array.replicate 64 (.bool false)) 37)) w.heap.size (fun _ => false) := by
  intro j hj
  have h := (MapKept.heap_alloc w (.cells (Array.replicate 64 (.bool false)) 37)).1
  constructor
  · unfold World.cell?
    rw [h]
    simp [hj]
  · unfold World.frozen?
    rw [h]
    simp
theorem SeenAt.set {w : World} {b : Nat} {S : Nat → Bool} (h : SeenAt w b S) (k : Nat) (hk : k < 64) : SeenAt (w.setCell ⟨b, k, none⟩ (.bool true)) b (fun i => S i || decide (i = k)) := by
  intro j hj
  refine ⟨?_, by rw [World.frozen?_setCell]; exact (h j hj).2⟩
  by_cases e : j = k
  · subst e
    rw [World.cell?_setCell_same w _ _ (h j hj).1]; simp
  · have hne : (⟨b, k, none⟩ : Addr) ≠ ⟨b, j, none⟩ := fun he => e (by injection he with _ h2; exact h2.symm)
    rw [World.cell?_setCell_other (h := hne), (h j hj).1]; simp [e]
theorem SeenAt.kept {w w' : World} {b : Nat} {S : Nat → Bool} (h : SeenAt w b S) (e : w'.heap[b]? = w.heap[b]?) : SeenAt w' b S :=
  fun j hj => ⟨(World.cell?_of_block (a := ⟨b, j, none⟩) e).trans (h j hj).1, (World.frozen?_of_block (a := ⟨b, j, none⟩) e).trans (h j hj).2⟩

set_option maxHeartbeats 400000 in
theorem order_any (n : Int) (a : Option Addr) (len cap : Nat) (zs : List Int) (w : World) (hm : len ≤ 9223372036854775807) (hn0 : 0 ≤ n) (hn1 : n ≤ 4294967295)
    (hs : len = 0 ∨ ∃ b off, a = some ⟨b, off, none⟩ ∧ b < w.heap.size ∧ ∀ j, j < len → w.cell? ⟨b, off + j, none⟩ = some (.int .u8 (zs.getD j 0)))
    (hwf : ∀ j, j < len → (Lit.int .u8 (zs.getD j 0)).wf = true) :
    Calls Try.prog 5 #[.int .u32 n, .slice a len cap] w fun e w' => e = .returned (.bool true) ∧ Below w.heap.size w w' := by
  by_cases h200 : 200 < len
  · go_enter Try.func5, Try.ntmps5
    go_wp2
    go_ret
    exact ⟨rfl, Below.refl _ _⟩
  · have HSL : Hid _ := hs
    have HWF : Hid _ := hwf
    have HA : Hid (WinAt _ _ _ ) := win_new w
    have HB : Hid (∀ W : World, SeenAt _ _ _) := seen_new
    clear hs hwf
    go_enter Try.func5, Try.ntmps5
    go_wp2_with fail
    go_loopw [7] (fun i wr => ∃ (k : Nat) (l : List Int) (S : Nat → Bool), k ≤ len ∧ i = .int .i64 k ∧ WinAt wr w.heap.size l ∧ SeenAt wr (w.heap.size + 1) S ∧ Win.Ord n l S ∧ Below w.heap.size w wr) (fun i _ => len - (intOf i).toNat)
    case atStart => exact ⟨0, [], _, by omega, rfl, HA.out.kept (Below.heap_alloc _ _ _ (by simp)), by have h := HB.out (w.alloc (.cells #[.int .i64 0, .int .u64 0] 26)); rw [show (w.alloc (.cells #[.int .i64 0, .int .u64 0] 26)).heap.size = w.heap.size + 1 from by simp] at h; exact h, Win.ord_empty n, ((Below.refl _ _).alloc (Nat.le_refl _) _).alloc (by simp) _⟩
    case round =>
      obtain ⟨k, l, S, hk, rfl, hW, hS, hO, hB⟩ := hrel
      by_cases hlt : k < len
      · obtain ⟨b, off, rfl, hb, hc⟩ := HSL.out.resolve_left (by omega)
        have hz := hc k hlt
        have hwz := HWF.out k hlt
        generalize zs.getD k 0 = z at hz hwz
        obtain ⟨hz0, hz1⟩ := bounds_u8 hwz
        have hz' := (hB.cell (p := ⟨b, off + k, none⟩) hb).trans hz
        obtain ⟨kk, hkk, hkz⟩ : ∃ kk : Nat, kk < 64 ∧ z % 64 = kk := ⟨(z % 64).toNat, by omega, by omega⟩
        have HF : Hid _ := Win.ord_fresh hO hn0 hn1 kk hkk
        have HO : Hid (Win.Ord n (Win.mark l (n + kk)) (fun i => S i || decide (i = kk))) := Win.ord_mark hO hn0 hn1 kk hkk
        have hsk := (hS kk hkk).1
        have hfk := (hS kk hkk).2
        have HS : Hid (SeenAt wr (w.heap.size + 1) S) := hS
        have hne : b ≠ w.heap.size := by omega
        have hkk' : (kk : Int) < 64 := by omega
        have hkk0 : (0 : Int) ≤ kk := by omega
        clear hwz hc hO hS HSL HWF HA HB hz
        generalize hs : S kk = s at hsk HF
        have HSS : Hid _ := hs
        clear hs
        have hwr0 : IntKind.i64.wrap n = n := IntWalk.i64_in _ (by omega)
        have hWd : WinAt wr.drew w.heap.size l := hW
        have hwr : IntKind.i64.wrap (n + ↑kk) = n + ↑kk := IntWalk.i64_in _ (by omega)
        go_wp2_with fail
        go_region_held3 (fun w' => w'.cell? ⟨w.heap.size + 1, kk, none⟩ = some (.bool s)) (first | go_keep | exact (o2.cell (by simp)).trans hsk)
          (first | (go_at_call 17; ((with_reducible refine (mark_to hWd HF.out rfl).mono ?_); rintro e w2 ⟨rfl, hW2, o2⟩)))
        have hfk2 : w2.frozen? ⟨w.heap.size + 1, kk, none⟩ = false := (o2.frozen (by simp)).trans hfk
        go_wp2
        go_roundw
        case rel => exact ⟨k + 1, _, _, by omega, by go_num, hW2.kept (Below.heap_setCell _ _ _ _ (by simp)), (HS.out.kept (o2.block _ (by simp))).set kk hkk, HO.out, (hB.drew.trans (o2.below (Nat.le_refl _))).setCell (by simp) _⟩
        case measure => simp [intOf]; omega
      · go_wp2_with fail
        refine (awake_win _).mono ?_
        rintro e w2 ⟨rfl, o2⟩
        go_wp2_with fail
        go_ret
        exact ⟨rfl, hB.trans (o2.mono hB.size)⟩
end Go.Proofs.Ytlcbpcemdipmfaa
