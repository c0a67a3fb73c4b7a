/-
  The contracts of the program's window (chapter 10): Fresh, Mark, Greatest at a window that lies in a block of its own and holds the list l of what was marked; each at nil; and the chapter's example. No condition beyond the block's shape.
-/
import Derived.Test.YtlcbpcemdipmfaaRows
import Derived.Test.YtlcbpcemdipmfaaWinPlain
import Derived.WalkKit
import Derived.RegionTactic
import Derived.ChangeAlike
import Derived.OneCell
namespace Go.Proofs.Ytlcbpcemdipmfaa
open Go.RowKit

/-- Block b is a window that holds 'nx' and 'cm'. -/
def WinRaw (w : World) (b : Nat) (nx cm : Int) : Prop := w.heap[b]? = some (.cells #[.int .i64 nx, .int .u64 cm] 26 (0, 0))

theorem WinRaw.c0 {w : World} {b : Nat} {nx cm : Int} (h : WinRaw w b nx cm) : w.cell? ⟨b, 0, none⟩ = some (.int .i64 nx) := by unfold WinRaw at h; simp [World.cell?, h]
theorem WinRaw.c1 {w : World} {b : Nat} {nx cm : Int} (h : WinRaw w b nx cm) : w.cell? ⟨b, 1, none⟩ = some (.int .u64 cm) := by unfold WinRaw at h; simp [World.cell?, h]
theorem WinRaw.f {w : World} {b : Nat} {nx cm : Int} (h : WinRaw w b nx cm) (o : Nat) : w.frozen? ⟨b, o, none⟩ = false := by unfold WinRaw at h; simp [World.frozen?, h]
theorem WinRaw.lt {w : World} {b : Nat} {nx cm : Int} (h : WinRaw w b nx cm) : b < w.heap.size := lt_of_block h

theorem WinRaw.set1 {w : World} {b : Nat} {nx cm : Int} (h : WinRaw w b nx cm) (c : Int) : WinRaw (w.setCell ⟨b, 1, none⟩ (.int .u64 c)) b nx c := by
  have hlt := h.lt
  have h' : w.heap[b] = .cells #[.int .i64 nx, .int .u64 cm] 26 (0, 0) := by simpa [WinRaw, Array.getElem?_eq_getElem hlt] using h
  show (w.heap.modify b _)[b]? = _
  rw [Array.getElem?_eq_getElem (by simpa using hlt), Array.getElem_modify_self, h']
  rfl
theorem WinRaw.set0 {w : World} {b : Nat} {nx cm : Int} (h : WinRaw w b nx cm) (c : Int) : WinRaw (w.setCell ⟨b, 0, none⟩ (.int .i64 c)) b c cm := by
  have hlt := h.lt
  have h' : w.heap[b] = .cells #[.int .i64 nx, .int .u64 cm] 26 (0, 0) := by simpa [WinRaw, Array.getElem?_eq_getElem hlt] using h
  show (w.heap.modify b _)[b]? = _
  rw [Array.getElem?_eq_getElem (by simpa using hlt), Array.getElem_modify_self, h']
  rfl

/-- Only block b may have turned; no block came. -/
structure Only (b : Nat) (w w' : World) : Prop where
  os : w'.os = w.os
  tape : w'.tape = w.tape
  output : w'.output = w.output
  size : w'.heap.size = w.heap.size
  block : ∀ k, k ≠ b → w'.heap[k]? = w.heap[k]?

theorem Only.refl (b : Nat) (w : World) : Only b w w := ⟨rfl, rfl, rfl, rfl, fun _ _ => rfl⟩
theorem Only.drew {b : Nat} {w w' : World} (h : Only b w w') : Only b w w'.drew := ⟨h.os, h.tape, h.output, h.size, h.block⟩
theorem Only.setCell {b : Nat} {w w' : World} (h : Only b w w') (o : Nat) (v : Value) : Only b w (w'.setCell ⟨b, o, none⟩ v) :=
  ⟨h.os, h.tape, h.output, by simpa [World.setCell] using h.size, fun k hk => by rw [Below.heap_setCell _ _ _ _ hk]; exact h.block k hk⟩
theorem Only.cell {b : Nat} {w w' : World} (h : Only b w w') {p : Addr} (hp : p.block ≠ b) : w'.cell? p = w.cell? p := World.cell?_of_block (h.block _ hp)
theorem Only.frozen {b : Nat} {w w' : World} (h : Only b w w') {p : Addr} (hp : p.block ≠ b) : w'.frozen? p = w.frozen? p := World.frozen?_of_block (h.block _ hp)
theorem Only.below {b B : Nat} {w w' : World} (h : Only b w w') (hb : B ≤ b) : Below B w w' := ⟨h.os, h.tape, h.output, by rw [h.size]; omega, fun k hk => h.block k (by omega)⟩

/-- Block b is a window that holds the list l. -/
def WinAt (w : World) (b : Nat) (l : List Int) : Prop := ∃ nx cm, WinRaw w b nx cm ∧ Win.Inv l nx cm

theorem WinAt.lt {w : World} {b : Nat} {l : List Int} (h : WinAt w b l) : b < w.heap.size := by obtain ⟨_, _, h, _⟩ := h; exact h.lt
theorem WinAt.nums {w : World} {b : Nat} {l : List Int} (h : WinAt w b l) : Win.Nums l := by obtain ⟨_, _, _, h⟩ := h; exact h.nums
theorem WinAt.kept {w w' : World} {b : Nat} {l : List Int} (h : WinAt w b l) (e : w'.heap[b]? = w.heap[b]?) : WinAt w' b l := by
  obtain ⟨nx, cm, h, i⟩ := h
  exact ⟨nx, cm, e.trans h, i⟩

theorem greatest_nil (w : World) : Calls Try.prog 19 #[.pointer none] w fun e w' => e = .returned (.int .i64 (-1)) ∧ w = w' := by
  go_enter Try.func19, Try.ntmps19
  go_wp2
  go_ret
  exact ⟨rfl, rfl⟩

theorem fresh_nil (n : Int) (w : World) : Calls Try.prog 15 #[.pointer none, .int .i64 n] w fun e w' => e = .returned (.bool false) ∧ w = w' := by
  go_enter Try.func15, Try.ntmps15
  go_wp2
  go_ret
  exact ⟨rfl, rfl⟩

theorem mark_nil (n : Int) (w : World) : Calls Try.prog 17 #[.pointer none, .int .i64 n] w fun e w' => e = .returned (.bool false) ∧ w = w' := by
  go_enter Try.func17, Try.ntmps17
  go_wp2_with (go_at_call 15; refine (fresh_nil _ _).mono ?_; rintro e w' ⟨rfl, rfl⟩)
  go_ret
  exact ⟨rfl, rfl⟩

theorem ret_int {k : IntKind} {a b : Int} (h : a = b) : Ending.returned (.int k a) = .returned (.int k b) := by rw [h]

theorem greatest_win {w : World} {b : Nat} {l : List Int} (h : WinAt w b l) :
    Calls Try.prog 19 #[.pointer (some ⟨b, 0, none⟩)] w fun e w' => e = .returned (.int .i64 (Win.top l)) ∧ w = w' := by
  obtain ⟨nx, cm, hr, hi⟩ := h
  have hc0 := hr.c0
  have hn0 := hi.next0
  have hn1 := hi.next1
  have e : nx - 1 = Win.top l := by rw [hi.next]; omega
  have E : Hid (nx - 1 = Win.top l) := e
  clear e hr hi
  go_enter Try.func19, Try.ntmps19
  go_wp2
  go_ret
  exact ⟨ret_int E.out, rfl⟩

theorem ret_bool {a b : Bool} (h : a = b) : Ending.returned (.bool a) = .returned (.bool b) := by rw [h]

theorem fresh_win {w : World} {b : Nat} {l : List Int} (n : Int) (h : WinAt w b l) :
    Calls Try.prog 15 #[.pointer (some ⟨b, 0, none⟩), .int .i64 n] w fun e w' => e = .returned (.bool (Win.fresh l n)) ∧ w = w' := by
  obtain ⟨nx, cm, hr, hi⟩ := h
  have hc0 := hr.c0
  have hc1 := hr.c1
  have hn0 := hi.next0
  have hn1 := hi.next1
  have hm0 := hi.lo
  have hm1 := hi.hi
  have HI : Hid (Win.Inv l nx cm) := hi
  clear hr hi
  go_enter Try.func15, Try.ntmps15
  by_cases h1 : n < 0 ∨ 4611686018427387903 < n
  · have HF : Hid (Win.fresh l n = false) := Win.fresh_out h1
    go_wp2
    all_goals go_ret
    all_goals exact ⟨ret_bool HF.out.symm, rfl⟩
  · have h2 : 0 ≤ n := by omega
    have h3 : n ≤ 4611686018427387903 := by omega
    clear h1
    by_cases h4 : nx ≤ n
    · have HF : Hid (Win.fresh l n = true) := Win.fresh_up HI.out h4 h3
      go_wp2
      all_goals go_ret
      all_goals exact ⟨ret_bool HF.out.symm, rfl⟩
    · by_cases h5 : nx - 1 - n < 64
      · have HF : Hid ((bits BinOp.and IntKind.u64 (cm / 2 ^ (nx - 1 - n).toNat) 1 == 0) = Win.fresh l n) := Win.fresh_of HI.out h2 h3 (by omega) h5
        go_wp2
        all_goals go_ret
        all_goals exact ⟨ret_bool (by rw [← HF.out]; simp; intro; omega), rfl⟩
      · have HF : Hid (Win.fresh l n = false) := Win.fresh_old HI.out (by omega)
        go_wp2
        all_goals go_ret
        all_goals exact ⟨ret_bool (by rw [HF.out]; simp; omega), rfl⟩

theorem Win.mark_true {l : List Int} {n : Int} (h : Win.fresh l n = true) : Win.mark l n = l ++ [n] := by unfold Win.mark; rw [if_pos h]
theorem Win.mark_false {l : List Int} {n : Int} (h : Win.fresh l n = false) : Win.mark l n = l := by unfold Win.mark; rw [if_neg (by simp [h])]

theorem mark_win {w : World} {b : Nat} {l : List Int} (n : Int) (h : WinAt w b l) :
    Calls Try.prog 17 #[.pointer (some ⟨b, 0, none⟩), .int .i64 n] w fun e w' => e = .returned (.bool (Win.fresh l n)) ∧ WinAt w' b (Win.mark l n) ∧ Only b w w' := by
  cases hF : Win.fresh l n with
  | false =>
    rw [Win.mark_false hF]
    go_enter Try.func17, Try.ntmps17
    go_wp2_with (go_at_call 15; refine (fresh_win _ h).mono ?_; rintro e w' ⟨rfl, rfl⟩)
    go_ret
    exact ⟨rfl, h, Only.refl _ _⟩
  | true =>
    rw [Win.mark_true hF]
    have hw := h
    obtain ⟨nx, cm, hr, hi⟩ := h
    have hc0 := hr.c0
    have hc1 := hr.c1
    have hf0 := hr.f 0
    have hf1 := hr.f 1
    have hn0 := hi.next0
    have hn1 := hi.next1
    have hm0 := hi.lo
    have hm1 := hi.hi
    have hF' := (Win.fresh_iff l n).1 hF
    have h2 : 0 ≤ n := hF'.1
    have h3 : n ≤ 4611686018427387903 := hF'.2.1
    have h6 : nx - 1 - n < 64 := by have := hi.next; have := hF'.2.2.1; omega
    have HI : Hid (Win.Inv l nx cm) := hi
    have HR : Hid (WinRaw w b nx cm) := hr
    clear hr hi hF'
    go_enter Try.func17, Try.ntmps17
    by_cases h4 : nx ≤ n
    · by_cases h5 : 64 < n + 1 - nx
      · go_wp2_with (go_at_call 15; refine (fresh_win _ hw).mono ?_; rintro e w' ⟨rfl, rfl⟩)
        go_ret
        exact ⟨rfl, ⟨_, _, (HR.out.set1 _).set0 _, Win.inv_up HI.out 64 (Or.inr ⟨by omega, by omega⟩) h4 h3⟩, ((Only.refl _ _).setCell _ _).setCell _ _⟩
      · go_wp2_with (go_at_call 15; refine (fresh_win _ hw).mono ?_; rintro e w' ⟨rfl, rfl⟩)
        go_ret
        exact ⟨rfl, ⟨_, _, (HR.out.set1 _).set0 _, Win.inv_up HI.out (n + 1 - nx).toNat (Or.inl (by omega)) h4 h3⟩, ((Only.refl _ _).setCell _ _).setCell _ _⟩
    · have h7 : n < nx := by omega
      go_wp2_with (go_at_call 15; refine (fresh_win _ hw).mono ?_; rintro e w' ⟨rfl, rfl⟩)
      go_region
      go_wp2
      go_ret
      exact ⟨rfl, ⟨_, _, (HR.out.set1 _), Win.inv_in HI.out h7 h2 h6⟩, ((Only.refl _ _).setCell _ _).drew⟩

theorem mark_to {w : World} {b : Nat} {l l' : List Int} {n : Int} {r : Bool} (h : WinAt w b l) (hf : Win.fresh l n = r) (hm : Win.mark l n = l') :
    Calls Try.prog 17 #[.pointer (some ⟨b, 0, none⟩), .int .i64 n] w fun e w' => e = .returned (.bool r) ∧ WinAt w' b l' ∧ Only b w w' := by
  subst hf hm; exact mark_win n h
theorem fresh_to {w : World} {b : Nat} {l : List Int} {n : Int} {r : Bool} (h : WinAt w b l) (hf : Win.fresh l n = r) :
    Calls Try.prog 15 #[.pointer (some ⟨b, 0, none⟩), .int .i64 n] w fun e w' => e = .returned (.bool r) ∧ w = w' := by
  subst hf; exact fresh_win n h
theorem greatest_to {w : World} {b : Nat} {l : List Int} {n : Int} (h : WinAt w b l) (hf : Win.top l = n) :
    Calls Try.prog 19 #[.pointer (some ⟨b, 0, none⟩)] w fun e w' => e = .returned (.int .i64 n) ∧ w = w' := by
  subst hf; exact greatest_win h

theorem win_new (w : World) : WinAt (w.alloc (.cells #[.int .i64 0, .int .u64 0] 26)) w.heap.size [] :=
  ⟨0, 0, (MapKept.heap_alloc w _).1, Win.inv_empty⟩

theorem awake_win (w : World) : Calls Try.prog 21 #[] w fun e w' => e = .returned (.bool true) ∧ Below w.heap.size w w' := by
  have a0 := win_new w
  go_enter Try.func21, Try.ntmps21
  go_wp2_with fail
  refine (mark_to (r := true) (l' := [100]) a0 (by decide) (by decide)).mono ?_
  rintro e w1 ⟨rfl, h1, o1⟩
  go_wp2_with fail
  refine (mark_to (r := true) (l' := [100, 37]) h1 (by decide) (by decide)).mono ?_
  rintro e w2 ⟨rfl, h2, o2⟩
  go_wp2_with fail
  refine (mark_to (r := false) (l' := [100, 37]) h2 (by decide) (by decide)).mono ?_
  rintro e w3 ⟨rfl, h3, o3⟩
  go_wp2_with fail
  refine (mark_to (r := false) (l' := [100, 37]) h3 (by decide) (by decide)).mono ?_
  rintro e w4 ⟨rfl, h4, o4⟩
  go_wp2_with fail
  refine (greatest_to (n := 100) h4 (by decide)).mono ?_
  rintro e w5 ⟨rfl, rfl⟩
  go_wp2_with fail
  go_ret
  exact ⟨rfl, (((((Below.refl _ _).alloc (Nat.le_refl _) _).trans (o1.below (Nat.le_refl _))).trans (o2.below (Nat.le_refl _))).trans (o3.below (Nat.le_refl _))).trans (o4.below (Nat.le_refl _))⟩

end Go.Proofs.Ytlcbpcemdipmfaa
