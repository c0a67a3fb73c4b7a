/-
  Plain lemmas on the window of chapter 10: which numbers are fresh, told by the list of all that were marked, and that the two words 'next' and 'came' of the program's window tell just that. No condition; no program in sight.
-/
import Derived.WalkKit
namespace Go.Proofs.Ytlcbpcemdipmfaa
namespace Win

/-- The greatest number that was marked; -1 without. -/
def top (l : List Int) : Int := l.foldl max (-1)

/-- Is n fresh, where l was marked? -/
def fresh (l : List Int) (n : Int) : Bool := decide (0 ≤ n) && decide (n ≤ 4611686018427387903) && decide (top l - 64 < n) && !(l.contains n)

/-- What has been marked behind a try to mark n. -/
def mark (l : List Int) (n : Int) : List Int := if fresh l n = true then l ++ [n] else l

theorem foldl_max_snoc (l : List Int) (n a : Int) : (l ++ [n]).foldl max a = max (l.foldl max a) n := by simp

theorem top_snoc (l : List Int) (n : Int) : top (l ++ [n]) = max (top l) n := foldl_max_snoc l n (-1)

theorem foldl_max_ge (l : List Int) : ∀ a : Int, a ≤ l.foldl max a := by
  induction l with
  | nil => intro a; simp
  | cons x r ih => intro a; have := ih (max a x); simp only [List.foldl_cons]; omega

theorem le_foldl_max (l : List Int) : ∀ (a x : Int), x ∈ l → x ≤ l.foldl max a := by
  induction l with
  | nil => intro a x h; cases h
  | cons y r ih =>
    intro a x h
    simp only [List.foldl_cons]
    rcases List.mem_cons.1 h with h | h
    · subst h; have := foldl_max_ge r (max a x); omega
    · exact ih _ x h

theorem foldl_max_le (l : List Int) (B : Int) : ∀ a : Int, a ≤ B → (∀ x ∈ l, x ≤ B) → l.foldl max a ≤ B := by
  induction l with
  | nil => intro a h _; simpa using h
  | cons y r ih =>
    intro a h hl
    simp only [List.foldl_cons]
    have hy := hl y (by simp)
    exact ih _ (by omega) (fun x hx => hl x (by simp [hx]))

theorem top_ge (l : List Int) : -1 ≤ top l := foldl_max_ge l (-1)
theorem le_top (l : List Int) (x : Int) (h : x ∈ l) : x ≤ top l := le_foldl_max l (-1) x h

/-- All that was marked is a number. -/
def Nums (l : List Int) : Prop := ∀ x ∈ l, 0 ≤ x ∧ x ≤ 4611686018427387903

theorem top_le (l : List Int) (h : Nums l) : top l ≤ 4611686018427387903 := foldl_max_le l _ (-1) (by omega) (fun x hx => (h x hx).2)

theorem fresh_iff (l : List Int) (n : Int) : fresh l n = true ↔ 0 ≤ n ∧ n ≤ 4611686018427387903 ∧ top l - 64 < n ∧ ¬ n ∈ l := by
  simp [fresh, and_assoc]

theorem nums_mark (l : List Int) (n : Int) (h : Nums l) : Nums (mark l n) := by
  unfold mark
  split
  · rename_i hf
    have := (fresh_iff l n).1 hf
    intro x hx
    rcases List.mem_append.1 hx with hx | hx
    · exact h x hx
    · rw [List.mem_singleton] at hx; subst hx; omega
  · exact h

/-- The program's window holds the list l: 'nx' is its greatest one and 1, bit k of 'cm' tells whether the greatest one less k was marked. -/
structure Inv (l : List Int) (nx cm : Int) : Prop where
  nums : Nums l
  next : nx = top l + 1
  lo : 0 ≤ cm
  hi : cm < 18446744073709551616
  bit : ∀ k : Nat, k < 64 → (cm.toNat.testBit k = true ↔ (nx - 1 - k) ∈ l)

theorem inv_empty : Inv [] 0 0 := ⟨(by intro x h; cases h), rfl, (by omega), (by omega), (by intro k _; simp)⟩

theorem Inv.next0 {l : List Int} {nx cm : Int} (h : Inv l nx cm) : 0 ≤ nx := by have := top_ge l; rw [h.next]; omega
theorem Inv.next1 {l : List Int} {nx cm : Int} (h : Inv l nx cm) : nx ≤ 4611686018427387904 := by have := top_le l h.nums; rw [h.next]; omega

/-- The test of a bit, as the walk spells it. -/
theorem bit_test (cm : Int) (h0 : 0 ≤ cm) (h1 : cm < 18446744073709551616) (k : Nat) :
    (bits BinOp.and IntKind.u64 (cm / 2 ^ k) 1 == 0) = !(cm.toNat.testBit k) := by
  obtain ⟨c, rfl⟩ := Int.eq_ofNat_of_zero_le h0
  have e : (Int.ofNat c : Int) / 2 ^ k = ((c / 2 ^ k : Nat) : Int) := by simp
  have hlt : c / 2 ^ k < 18446744073709551616 := Nat.lt_of_le_of_lt (Nat.div_le_self _ _) (by have : (c : Int) < 18446744073709551616 := h1; omega)
  rw [show ((c : Nat) : Int) = Int.ofNat c from rfl, e, show (1 : Int) = ((1 : Nat) : Int) from rfl, u64_and_nat _ _ hlt (by omega)]
  have : Nat.testBit c k = decide (c / 2 ^ k % 2 = 1) := Nat.testBit_eq_decide_div_mod_eq
  rw [show (Int.ofNat c).toNat = c from rfl, this, Nat.and_one_is_mod]
  rcases Nat.mod_two_eq_zero_or_one (c / 2 ^ k) with e | e <;> rw [e] <;> rfl

theorem wrap_shl (cm : Int) (h0 : 0 ≤ cm) (k : Nat) : (IntKind.u64.wrap (cm * 2 ^ k)) = ((cm.toNat * 2 ^ k % 2 ^ 64 : Nat) : Int) := by
  obtain ⟨c, rfl⟩ := Int.eq_ofNat_of_zero_le h0
  rw [IntKind.wrap_u64]
  simp

theorem wrap_shl_one (k : Nat) : (IntKind.u64.wrap (2 ^ k)) = ((2 ^ k % 2 ^ 64 : Nat) : Int) := by
  rw [IntKind.wrap_u64]
  simp

theorem or_u64 (a b : Nat) (ha : a < 18446744073709551616) (hb : b < 18446744073709551616) : bits .or .u64 (a : Int) (b : Int) = ((a ||| b : Nat) : Int) := u64_or_nat a b ha hb

/-- Marked above all others: the bits move up by what it is ahead. -/
theorem inv_up {l : List Int} {nx cm n : Int} (h : Inv l nx cm) (k : Nat) (hk : (k : Int) = n + 1 - nx ∨ (64 ≤ k ∧ 64 ≤ n + 1 - nx)) (hn : nx ≤ n) (hn1 : n ≤ 4611686018427387903) :
    Inv (l ++ [n]) (n + 1) (bits BinOp.or IntKind.u64 (IntKind.u64.wrap (cm * 2 ^ k)) 1) := by
  have h0 := h.next0
  have hx := h.next
  have hlt : cm.toNat * 2 ^ k % 2 ^ 64 < 18446744073709551616 := Nat.mod_lt _ (by decide)
  have e1 := or_u64 _ 1 hlt (by omega)
  rw [wrap_shl cm h.lo k, show bits BinOp.or IntKind.u64 _ 1 = _ from e1]
  refine ⟨?_, ?_, by omega, ?_, fun j hj => ?_⟩
  · intro x hx
    rcases List.mem_append.1 hx with hx | hx
    · exact h.nums x hx
    · rw [List.mem_singleton] at hx; subst hx; omega
  · rw [top_snoc]; omega
  · have : (cm.toNat * 2 ^ k % 2 ^ 64 ||| 1) < 2 ^ 64 := Nat.or_lt_two_pow (by omega) (by decide)
    omega
  · rw [Int.toNat_natCast, Nat.testBit_or, Nat.testBit_mod_two_pow, Nat.testBit_mul_two_pow]
    have hmem : (n + 1 - 1 - (j : Int)) ∈ l ++ [n] ↔ (n - j ∈ l ∨ j = 0) := by
      rw [List.mem_append, List.mem_singleton, show n + 1 - 1 - (j : Int) = n - j from by omega]
      constructor
      · rintro (h | h)
        · exact Or.inl h
        · exact Or.inr (by omega)
      · rintro (h | h)
        · exact Or.inl h
        · exact Or.inr (by omega)
    rw [hmem]
    have h1 : Nat.testBit 1 j = decide (0 = j) := Nat.testBit_two_pow (n := 0)
    rw [h1]
    by_cases hj0 : j = 0
    · simp [hj0]
    · have hj1 : ¬ 0 = j := fun e => hj0 e.symm
      by_cases hjk : k ≤ j
      · have hk' : (k : Int) = n + 1 - nx := by omega
        have := h.bit (j - k) (by omega)
        rw [show nx - 1 - ((j - k : Nat) : Int) = n - j from by omega] at this
        simp [hj, hj0, hj1, hjk, this]
      · have : ¬ (n - j) ∈ l := fun hm => by have := le_top l _ hm; omega
        simp [hj0, hj1, hjk, this]

/-- Marked among the last 64: its bit is set. -/
theorem inv_in {l : List Int} {nx cm n : Int} (h : Inv l nx cm) (hn : n < nx) (hn0 : 0 ≤ n) (hb : nx - 1 - n < 64) :
    Inv (l ++ [n]) nx (bits BinOp.or IntKind.u64 cm (IntKind.u64.wrap (2 ^ (nx - 1 - n).toNat))) := by
  have h1 := h.next1
  have hx := h.next
  have hlt : 2 ^ (nx - 1 - n).toNat % 2 ^ 64 < 18446744073709551616 := Nat.mod_lt _ (by decide)
  obtain ⟨c, hc⟩ := Int.eq_ofNat_of_zero_le h.lo
  have hi := h.hi
  rw [wrap_shl_one, hc, or_u64 _ _ (by omega) hlt]
  obtain ⟨d, hd⟩ : ∃ d : Nat, (d : Int) = nx - 1 - n := ⟨(nx - 1 - n).toNat, by omega⟩
  rw [← hd, Int.toNat_natCast]
  have hd64 : d < 64 := by omega
  have hm : 2 ^ d % 2 ^ 64 = 2 ^ d := Nat.mod_eq_of_lt (Nat.pow_lt_pow_right (by decide) hd64)
  rw [hm]
  refine ⟨?_, ?_, by omega, ?_, fun j hj => ?_⟩
  · intro x hx
    rcases List.mem_append.1 hx with hx | hx
    · exact h.nums x hx
    · rw [List.mem_singleton] at hx; subst hx; omega
  · rw [top_snoc]; omega
  · have : (c ||| 2 ^ d) < 2 ^ 64 := Nat.or_lt_two_pow (by omega) (Nat.pow_lt_pow_right (by decide) hd64)
    omega
  · have := h.bit j hj
    rw [hc, Int.toNat_natCast] at this
    rw [Int.toNat_natCast, Nat.testBit_or, Nat.testBit_two_pow, List.mem_append, List.mem_singleton]
    rw [Bool.or_eq_true, this, decide_eq_true_eq]
    constructor
    · rintro (h | h)
      · exact Or.inl h
      · exact Or.inr (by omega)
    · rintro (h | h)
      · exact Or.inl h
      · exact Or.inr (by omega)

/-- What 'Fresh' computes. -/
theorem fresh_of {l : List Int} {nx cm n : Int} (h : Inv l nx cm) (h0 : 0 ≤ n) (h1 : n ≤ 4611686018427387903) (hlt : n < nx) (hb : nx - 1 - n < 64) :
    (bits BinOp.and IntKind.u64 (cm / 2 ^ (nx - 1 - n).toNat) 1 == 0) = fresh l n := by
  obtain ⟨d, hd⟩ : ∃ d : Nat, (d : Int) = nx - 1 - n := ⟨(nx - 1 - n).toNat, by omega⟩
  rw [bit_test cm h.lo h.hi, ← hd, Int.toNat_natCast]
  have := h.bit d (by omega)
  rw [show nx - 1 - (d : Int) = n from by omega] at this
  have hx := h.next
  have hf := fresh_iff l n
  rw [Bool.eq_iff_iff, hf, Bool.not_eq_true', ← Bool.not_eq_true, this]
  constructor
  · intro hm; exact ⟨h0, h1, by omega, hm⟩
  · intro hm; exact hm.2.2.2

theorem fresh_up {l : List Int} {nx cm n : Int} (h : Inv l nx cm) (h0 : nx ≤ n) (h1 : n ≤ 4611686018427387903) : fresh l n = true := by
  have hx := h.next
  have := h.next0
  exact (fresh_iff l n).2 ⟨by omega, h1, by omega, fun hm => by have := le_top l n hm; omega⟩

theorem fresh_out {l : List Int} {n : Int} (h : n < 0 ∨ 4611686018427387903 < n) : fresh l n = false := by
  rw [← Bool.not_eq_true, fresh_iff]; omega

theorem fresh_old {l : List Int} {nx cm n : Int} (h : Inv l nx cm) (hb : 64 ≤ nx - 1 - n) : fresh l n = false := by
  have hx := h.next
  rw [← Bool.not_eq_true, fresh_iff]; omega

end Win
end Go.Proofs.Ytlcbpcemdipmfaa
