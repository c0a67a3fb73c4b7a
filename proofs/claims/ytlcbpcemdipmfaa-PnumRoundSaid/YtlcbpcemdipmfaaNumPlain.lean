/-
  Plain lemmas on the numbers of packets of chapter 09: the width that a number needs, a number cut, a number told again; and that the nearest of three candidates is what the reference tells. No condition beyond what each lemma names; no program in sight.
-/
import Derived.WalkKit
namespace Go.Proofs.Ytlcbpcemdipmfaa
namespace Num

/-- 256 to the power of a width of 1 to 4. -/
def sz (w : Int) : Int := if w = 1 then 256 else if w = 2 then 65536 else if w = 3 then 16777216 else 4294967296

theorem sz_cases (w : Int) : sz w = 256 ∨ sz w = 65536 ∨ sz w = 16777216 ∨ sz w = 4294967296 := by
  unfold sz; (repeat' split) <;> simp

theorem sz_lo (w : Int) : 256 ≤ sz w := by have := sz_cases w; omega
theorem sz_hi (w : Int) : sz w ≤ 4294967296 := by have := sz_cases w; omega

/-- May n be a number? -/
def num (n : Int) : Bool := decide (0 ≤ n) && decide (n ≤ 4611686018427387903)
theorem num_iff (n : Int) : num n = true ↔ 0 ≤ n ∧ n ≤ 4611686018427387903 := by simp [num]
theorem num_not (n : Int) : num n = false ↔ ¬ (0 ≤ n ∧ n ≤ 4611686018427387903) := by rw [← num_iff]; simp

/-- Is w a width? -/
def wide (w : Int) : Bool := decide (1 ≤ w) && decide (w ≤ 4)
theorem wide_iff (w : Int) : wide w = true ↔ 1 ≤ w ∧ w ≤ 4 := by simp [wide]
theorem wide_not (w : Int) : wide w = false ↔ ¬ (1 ≤ w ∧ w ≤ 4) := by rw [← wide_iff]; simp

/-- The width that n needs. -/
def width (n a : Int) : Int :=
  if 0 ≤ n ∧ n ≤ 4611686018427387903 ∧ -1 ≤ a ∧ a < n then
    if n - a ≤ 128 then 1 else if n - a ≤ 32768 then 2 else if n - a ≤ 8388608 then 3 else if n - a ≤ 2147483648 then 4 else 0
  else 0

/-- n, cut. -/
def cut (n w : Int) : Int := if 0 ≤ n ∧ n ≤ 4611686018427387903 ∧ 1 ≤ w ∧ w ≤ 4 then n % sz w else 0

/-- Of the numbers with the rest c the one that is nearest to e. -/
def told (e c s : Int) : Int :=
  if 4611686018427387903 < e - (e - c) % s then e - (e - c) % s - s
  else if e - (e - c) % s < 0 ∨ (e - (e - c) % s + s - e ≤ e - (e - (e - c) % s) ∧ e - (e - c) % s + s ≤ 4611686018427387903) then e - (e - c) % s + s
  else e - (e - c) % s

/-- A number told again. -/
def full (g c w : Int) : Int :=
  if -1 ≤ g ∧ g ≤ 4611686018427387903 ∧ 1 ≤ w ∧ w ≤ 4 ∧ 0 ≤ c ∧ c < sz w then told (g + 1) c (sz w) else -1

/-- How far two numbers are apart. -/
def off (a b : Int) : Int := max (a - b) (b - a)

/-- One step of the program's search. -/
def pick (e best n : Int) : Int := if num n = true ∧ (best < 0 ∨ off n e < off best e) then n else best

/-- The program's best one behind so many of its three candidates. -/
def best (e x s : Int) : Nat → Int
  | 0 => -1
  | 1 => pick e (-1) (x + s)
  | 2 => pick e (pick e (-1) (x + s)) x
  | _ => pick e (pick e (pick e (-1) (x + s)) x) (x - s)

theorem pick_yes {e b n : Int} (h : num n = true) (h2 : b < 0 ∨ off n e < off b e) : pick e b n = n := by unfold pick; rw [if_pos ⟨h, h2⟩]
theorem pick_no {e b n : Int} (h : num n = false ∨ (0 ≤ b ∧ off b e ≤ off n e)) : pick e b n = b := by
  unfold pick
  rw [if_neg]
  rintro ⟨h1, h2⟩
  rcases h with h | h
  · rw [h1] at h; cases h
  · omega

theorem told_best_aux (e c s : Int) (he : 0 ≤ e) (he1 : e ≤ 4611686018427387904) (hc : 0 ≤ c) (hcs : c < s) (hs : s = 256 ∨ s = 65536 ∨ s = 16777216 ∨ s = 4294967296) :
    best e (e - e % s + c) s 3 = told e c s := by
  unfold best pick told off num
  simp only [Bool.and_eq_true, decide_eq_true_eq]
  rcases hs with rfl | rfl | rfl | rfl <;> (repeat' split) <;> omega

theorem wraps_i64 (n : Int) (h0 : 0 ≤ n) (h1 : n < 2 ^ 63) : IntKind.i64.wrap n = n := by rw [IntKind.wrap_i64]; omega

theorem and_mask (x : Int) (h0 : 0 ≤ x) (h1 : x < 2 ^ 63) (i : Nat) (hi : i ≤ 63) : bits .and .i64 x (2 ^ i - 1) = x % 2 ^ i :=
  bits_mask .i64 63 (by decide) wraps_i64 i hi x h0 h1

theorem andNot_mask (x : Int) (h0 : 0 ≤ x) (h1 : x < 2 ^ 63) (i : Nat) (hi : i ≤ 63) : bits .andNot .i64 x (2 ^ i - 1) = x - x % 2 ^ i := by
  obtain ⟨a, rfl⟩ := Int.eq_ofNat_of_zero_le h0
  have ha : a < 2 ^ 63 := by exact_mod_cast h1
  have hpos : 0 < 2 ^ i := Nat.two_pow_pos i
  have hc : ((2 : Int) ^ i - 1) = ((2 ^ i - 1 : Nat) : Int) := by
    rw [Int.natCast_sub hpos]; simp
  have hle : 2 ^ i ≤ 2 ^ 63 := Nat.pow_le_pow_right (by decide) hi
  rw [hc]
  have e : ((BitVec.ofNat 64 a &&& ~~~BitVec.ofNat 64 (2 ^ i - 1)).toNat) = a - a % 2 ^ i := by
    apply Nat.eq_of_testBit_eq
    intro j
    have h1 : a - a % 2 ^ i = a / 2 ^ i * 2 ^ i := by have := Nat.div_add_mod a (2 ^ i); rw [Nat.mul_comm] at this; omega
    have ha64 : a % 2 ^ 64 = a := Nat.mod_eq_of_lt (by omega)
    rw [h1, Nat.testBit_mul_two_pow, Nat.testBit_div_two_pow, BitVec.testBit_toNat]
    simp only [BitVec.getLsbD_and, BitVec.getLsbD_not, BitVec.getLsbD_ofNat, Nat.testBit_two_pow_sub_one]
    by_cases hj : j < 64
    · by_cases hij : i ≤ j
      · simp [hj, hij]
      · simp [hj, hij]
        intro _
        omega
    · have : a.testBit j = false := Nat.testBit_lt_two_pow (Nat.lt_of_lt_of_le ha (Nat.pow_le_pow_right (by decide) (by omega)))
      by_cases hij : i ≤ j
      · simp [hj, hij]
        exact this
      · simp [hj, hij]
  show IntKind.i64.wrap ((BitVec.ofInt 64 (Int.ofNat a) &&& ~~~BitVec.ofInt 64 ((2 ^ i - 1 : Nat) : Int)).toNat : Int) = _
  rw [show BitVec.ofInt 64 (Int.ofNat a) = BitVec.ofNat 64 a from BitVec.ofInt_natCast _ _, BitVec.ofInt_natCast, e]
  have hm : a % 2 ^ i ≤ a := Nat.mod_le _ _
  rw [wraps_i64 _ (by omega) (by have : ((2 : Int) ^ 63) = ((2 ^ 63 : Nat) : Int) := by simp
                                 omega)]
  rw [Int.natCast_sub hm]
  simp
theorem or_join (x y : Int) (i : Nat) (hi : i ≤ 63) (hx0 : 0 ≤ x) (hx : x % 2 ^ i = 0) (hx1 : x < 2 ^ 63) (hy0 : 0 ≤ y) (hy : y < 2 ^ i) : bits .or .i64 x y = x + y := by
  have h1 : (2 : Nat) ^ i ≤ 2 ^ 63 := Nat.pow_le_pow_right (by decide) hi
  have h2 : (2 : Int) ^ i ≤ 2 ^ 63 := by exact_mod_cast h1
  exact bits_join .i64 63 (by decide) wraps_i64 i x y hx0 hx hx1 hy0 hy (Int.lt_of_lt_of_le hy h2)

/-- The program's near number. -/
theorem near_bits (e c w : Int) (h0 : 0 ≤ e) (h1 : e ≤ 4611686018427387904) (hc0 : 0 ≤ c) (hc1 : c < sz w) :
    bits .or .i64 (bits .andNot .i64 e (sz w - 1)) c = e - e % sz w + c := by
  obtain ⟨i, hi, hs⟩ : ∃ i : Nat, i ≤ 63 ∧ sz w = 2 ^ i := by
    rcases sz_cases w with h | h | h | h
    · exact ⟨8, by omega, h⟩
    · exact ⟨16, by omega, h⟩
    · exact ⟨24, by omega, h⟩
    · exact ⟨32, by omega, h⟩
  have hp := sz_lo w
  rw [hs] at hp hc1
  rw [hs]
  rw [andNot_mask e h0 (by omega) i hi]
  have hm0 := Int.emod_nonneg e (b := 2 ^ i) (by omega)
  have hm1 := Int.emod_lt_of_pos e (b := 2 ^ i) (by omega)
  have hle : e % 2 ^ i ≤ e := by
    have := Int.emod_add_mul_ediv e (2 ^ i)
    have := Int.mul_nonneg (Int.le_of_lt (by omega : (0 : Int) < 2 ^ i)) (Int.ediv_nonneg h0 (Int.le_of_lt (by omega : (0 : Int) < 2 ^ i)))
    omega
  exact or_join _ _ i hi (by omega) (by rw [Int.sub_emod, Int.emod_emod, Int.sub_self, Int.zero_emod]) (by omega) hc0 hc1

theorem cut_bits (n w : Int) (h0 : 0 ≤ n) (h1 : n ≤ 4611686018427387903) : bits .and .i64 n (sz w - 1) = n % sz w := by
  obtain ⟨i, hi, hs⟩ : ∃ i : Nat, i ≤ 63 ∧ sz w = 2 ^ i := by
    rcases sz_cases w with h | h | h | h
    · exact ⟨8, by omega, h⟩
    · exact ⟨16, by omega, h⟩
    · exact ⟨24, by omega, h⟩
    · exact ⟨32, by omega, h⟩
  rw [hs]
  exact and_mask n h0 (by omega) i hi

end Num
end Go.Proofs.Ytlcbpcemdipmfaa
