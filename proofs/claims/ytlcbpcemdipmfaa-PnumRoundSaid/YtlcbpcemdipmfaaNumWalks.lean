/-
  The contracts of chapter 09: number, wide, window, off, Cut and Width of the program; power, Width, Cut of the reference. Conditions: window and power at a width of 1 to 4 (power: 0 to 4), off at numbers that can be subtracted.
-/
import Derived.Test.YtlcbpcemdipmfaaRows
import Derived.Test.YtlcbpcemdipmfaaNumPlain
namespace Go.Proofs.Ytlcbpcemdipmfaa
open Go.RowKit

theorem num_ret_int {k : IntKind} {a b : Int} (h : a = b) : Ending.returned (.int k a) = .returned (.int k b) := by rw [h]

theorem num_ret_bool {a b : Bool} (h : a = b) : Ending.returned (.bool a) = .returned (.bool b) := by rw [h]

theorem number_any (n : Int) (w : World) : Calls Try.prog 37 #[.int .i64 n] w fun e w' => e = .returned (.bool (Num.num n)) ∧ w = w' := by
  by_cases h : 0 ≤ n
  · go_enter Try.func37, Try.ntmps37
    go_wp2
    all_goals go_ret
    all_goals exact ⟨by simp [Num.num, h], rfl⟩
  · have hF : Hid (Num.num n = false) := (Num.num_not n).2 (by omega)
    go_enter Try.func37, Try.ntmps37
    go_wp2
    all_goals go_ret
    all_goals exact ⟨num_ret_bool hF.out.symm, rfl⟩

theorem number_to {n : Int} {r : Bool} (h : Num.num n = r) (w : World) : Calls Try.prog 37 #[.int .i64 n] w fun e w' => e = .returned (.bool r) ∧ w = w' := by
  subst h; exact number_any n w

theorem wide_any (n : Int) (w : World) : Calls Try.prog 35 #[.int .i64 n] w fun e w' => e = .returned (.bool (Num.wide n)) ∧ w = w' := by
  by_cases h : 1 ≤ n
  · go_enter Try.func35, Try.ntmps35
    go_wp2
    all_goals go_ret
    all_goals exact ⟨by simp [Num.wide, h], rfl⟩
  · have hF : Hid (Num.wide n = false) := (Num.wide_not n).2 (by omega)
    go_enter Try.func35, Try.ntmps35
    go_wp2
    all_goals go_ret
    all_goals exact ⟨num_ret_bool hF.out.symm, rfl⟩

theorem wide_to {n : Int} {r : Bool} (h : Num.wide n = r) (w : World) : Calls Try.prog 35 #[.int .i64 n] w fun e w' => e = .returned (.bool r) ∧ w = w' := by
  subst h; exact wide_any n w

theorem window_any (n : Int) (h1 : 1 ≤ n) (h2 : n ≤ 4) (w : World) : Calls Try.prog 36 #[.int .i64 n] w fun e w' => e = .returned (.int .i64 (Num.sz n)) ∧ w = w' := by
  obtain rfl | rfl | rfl | rfl : n = 1 ∨ n = 2 ∨ n = 3 ∨ n = 4 := by omega
  all_goals
    go_enter Try.func36, Try.ntmps36
    go_wp2
    go_ret
    exact ⟨by simp [Num.sz], rfl⟩

theorem window_to {n s : Int} (h1 : 1 ≤ n) (h2 : n ≤ 4) (h : Num.sz n = s) (w : World) : Calls Try.prog 36 #[.int .i64 n] w fun e w' => e = .returned (.int .i64 s) ∧ w = w' := by
  subst h; exact window_any n h1 h2 w

theorem off_any (a b : Int) (h1 : 0 ≤ a) (h2 : a ≤ 4611686018427387904) (h3 : 0 ≤ b) (h4 : b ≤ 4611686018427387904) (w : World) :
    Calls Try.prog 38 #[.int .i64 a, .int .i64 b] w fun e w' => e = .returned (.int .i64 (Num.off a b)) ∧ w = w' := by
  by_cases h : a ≤ b
  · have hE : Hid (Num.off a b = b - a) := by show _ = _; unfold Num.off; omega
    go_enter Try.func38, Try.ntmps38
    go_wp2
    all_goals go_ret
    all_goals exact ⟨num_ret_int (by rw [hE.out]; try omega), rfl⟩
  · have hE : Hid (Num.off a b = a - b) := by show _ = _; unfold Num.off; omega
    go_enter Try.func38, Try.ntmps38
    go_wp2
    all_goals go_ret
    all_goals exact ⟨num_ret_int (by rw [hE.out]; try omega), rfl⟩

theorem off_to {a b r : Int} (h1 : 0 ≤ a) (h2 : a ≤ 4611686018427387904) (h3 : 0 ≤ b) (h4 : b ≤ 4611686018427387904) (h : Num.off a b = r) (w : World) :
    Calls Try.prog 38 #[.int .i64 a, .int .i64 b] w fun e w' => e = .returned (.int .i64 r) ∧ w = w' := by
  subst h; exact off_any a b h1 h2 h3 h4 w

theorem cut_any (n v : Int) (w : World) : Calls Try.prog 33 #[.int .i64 n, .int .i64 v] w fun e w' => e = .returned (.int .i64 (Num.cut n v)) ∧ w = w' := by
  cases hn : Num.num n with
  | false =>
    have HE : Hid (Num.cut n v = 0) := by show _ = _; have := (Num.num_not n).1 hn; unfold Num.cut; rw [if_neg (by omega)]
    go_enter Try.func33, Try.ntmps33
    go_wp2_with (first | (go_at_call 37; refine (number_to hn _).mono ?_; rintro e w' ⟨rfl, rfl⟩))
    go_ret
    exact ⟨num_ret_int HE.out.symm, rfl⟩
  | true =>
    cases hv : Num.wide v with
    | false =>
      have HE : Hid (Num.cut n v = 0) := by show _ = _; have := (Num.wide_not v).1 hv; unfold Num.cut; rw [if_neg (by omega)]
      go_enter Try.func33, Try.ntmps33
      go_wp2_with (first | (go_at_call 37; refine (number_to hn _).mono ?_; rintro e w' ⟨rfl, rfl⟩) | (go_at_call 35; refine (wide_to hv _).mono ?_; rintro e w' ⟨rfl, rfl⟩))
      go_ret
      exact ⟨num_ret_int HE.out.symm, rfl⟩
    | true =>
      have h1 := (Num.num_iff n).1 hn
      have h2 := (Num.wide_iff v).1 hv
      have hb := Num.cut_bits n v h1.1 h1.2
      have HE : Hid (Num.cut n v = n % Num.sz v) := by show _ = _; unfold Num.cut; rw [if_pos ⟨h1.1, h1.2, h2.1, h2.2⟩]
      have hs0 := Num.sz_lo v
      have hs1 := Num.sz_hi v
      obtain ⟨s, hs⟩ : ∃ s, Num.sz v = s := ⟨_, rfl⟩
      rw [hs] at hb hs0 hs1
      have HS : Hid _ := hs
      obtain ⟨v1, v2⟩ := h2
      have HB : Hid _ := hb
      clear hs h1 hb
      go_enter Try.func33, Try.ntmps33
      go_wp2_with (first | (go_at_call 37; refine (number_to hn _).mono ?_; rintro e w' ⟨rfl, rfl⟩) | (go_at_call 35; refine (wide_to hv _).mono ?_; rintro e w' ⟨rfl, rfl⟩) | (go_at_call 36; refine (window_to v1 v2 HS.out _).mono ?_; rintro e w' ⟨rfl, rfl⟩))
      go_ret
      exact ⟨num_ret_int (by rw [HE.out, HS.out]; exact HB.out), rfl⟩

/-- No width below k is enough. -/
def NoWidth (n a : Int) (k : Nat) : Prop := ∀ j : Int, 1 ≤ j → j < k → Num.sz j / 2 < n - a

theorem width_is {n a : Int} {k : Nat} (h1 : 0 ≤ n) (h2 : n ≤ 4611686018427387903) (h3 : -1 ≤ a) (h4 : a < n) (hk : 1 ≤ k) (hk4 : k ≤ 4) (hN : NoWidth n a k) (hs : n - a ≤ Num.sz k / 2) : Num.width n a = k := by
  unfold Num.width
  rw [if_pos ⟨h1, h2, h3, h4⟩]
  have n1 := hN 1
  have n2 := hN 2
  have n3 := hN 3
  have s1 : Num.sz 1 = 256 := rfl
  have s2 : Num.sz 2 = 65536 := rfl
  have s3 : Num.sz 3 = 16777216 := rfl
  have s4 : Num.sz 4 = 4294967296 := rfl
  obtain rfl | rfl | rfl | rfl : k = 1 ∨ k = 2 ∨ k = 3 ∨ k = 4 := by omega
  · have hs' : n - a ≤ Num.sz 1 / 2 := hs
    rw [if_pos (by omega)]; rfl
  · have hs' : n - a ≤ Num.sz 2 / 2 := hs
    rw [if_neg (by omega), if_pos (by omega)]; rfl
  · have hs' : n - a ≤ Num.sz 3 / 2 := hs
    rw [if_neg (by omega), if_neg (by omega), if_pos (by omega)]; rfl
  · have hs' : n - a ≤ Num.sz 4 / 2 := hs
    rw [if_neg (by omega), if_neg (by omega), if_neg (by omega), if_pos (by omega)]; rfl

theorem width_none {n a : Int} (hN : NoWidth n a 5) : Num.width n a = 0 := by
  unfold Num.width
  have n1 := hN 1 (by omega) (by omega)
  have n2 := hN 2 (by omega) (by omega)
  have n3 := hN 3 (by omega) (by omega)
  have n4 := hN 4 (by omega) (by omega)
  have s1 : Num.sz 1 = 256 := rfl
  have s2 : Num.sz 2 = 65536 := rfl
  have s3 : Num.sz 3 = 16777216 := rfl
  have s4 : Num.sz 4 = 4294967296 := rfl
  split
  · rw [if_neg (by omega), if_neg (by omega), if_neg (by omega), if_neg (by omega)]
  · rfl

theorem noWidth_step {n a : Int} {k : Nat} (hN : NoWidth n a k) (hs : Num.sz k / 2 < n - a) : NoWidth n a (k + 1) := by
  intro j h1 h2
  by_cases e : j = k
  · subst e; exact hs
  · exact hN j h1 (by omega)
theorem noWidth_zero (n a : Int) : NoWidth n a 1 := by intro j h1 h2; omega
theorem noWidth_nil (n a : Int) : NoWidth n a 0 := by intro j h1 h2; omega

theorem width_bad {n a : Int} (h : ¬ (0 ≤ n ∧ n ≤ 4611686018427387903 ∧ -1 ≤ a ∧ a < n)) : Num.width n a = 0 := by
  unfold Num.width; rw [if_neg h]

theorem width_any (n a : Int) (w : World) : Calls Try.prog 31 #[.int .i64 n, .int .i64 a] w fun e w' => e = .returned (.int .i64 (Num.width n a)) ∧ w = w' := by
  cases hn : Num.num n with
  | false =>
    have HE : Hid (Num.width n a = 0) := width_bad (by have := (Num.num_not n).1 hn; omega)
    go_enter Try.func31, Try.ntmps31
    go_wp2_with (first | (go_at_call 37; refine (number_to hn _).mono ?_; rintro e w' ⟨rfl, rfl⟩))
    go_ret
    exact ⟨num_ret_int HE.out.symm, rfl⟩
  | true =>
    obtain ⟨h1, h2⟩ := (Num.num_iff n).1 hn
    by_cases h3 : -1 ≤ a
    · by_cases h4 : a < n
      · go_enter Try.func31, Try.ntmps31
        go_wp2_with (first | (go_at_call 37; refine (number_to hn _).mono ?_; rintro e w' ⟨rfl, rfl⟩))
        go_loop [18] (fun i => ∃ k : Nat, k ≤ 5 ∧ i = .int .i64 k ∧ NoWidth n a k) (fun i => 5 - (intOf i).toNat)
        case atStart => exact ⟨0, by omega, rfl, noWidth_nil n a⟩
        case round =>
          obtain ⟨k, hk, rfl, hN⟩ := hrel
          by_cases hlt : k < 5
          · cases hv : Num.wide k with
            | false =>
              have hv0 := (Num.wide_not k).1 hv
              obtain rfl : k = 0 := by omega
              clear hv0
              go_wp2_with (go_at_call 35; refine (wide_to hv _).mono ?_; rintro e w' ⟨rfl, rfl⟩)
              go_round
              case rel => exact ⟨1, by omega, by go_num, noWidth_zero n a⟩
              case measure => simp [intOf]
            | true =>
              obtain ⟨v1, v2⟩ := (Num.wide_iff k).1 hv
              have hs0 := Num.sz_lo k
              have hs1 := Num.sz_hi k
              have hstep := @noWidth_step n a k hN
              have his := @width_is n a k h1 h2 h3 h4 (by omega) (by omega) hN
              obtain ⟨s, hs⟩ : ∃ s, Num.sz k = s := ⟨_, rfl⟩
              rw [hs] at hs0 hs1 hstep his
              have HS : Hid _ := hs
              have HT : Hid _ := hstep
              have HI : Hid _ := his
              clear hs hstep his
              by_cases hd : n - a ≤ s / 2
              · go_wp2_with (first | (go_at_call 35; refine (wide_to hv _).mono ?_; rintro e w' ⟨rfl, rfl⟩) | (go_at_call 36; refine (window_to v1 v2 HS.out _).mono ?_; rintro e w' ⟨rfl, rfl⟩))
                go_ret
                exact ⟨num_ret_int (HI.out hd).symm, rfl⟩
              · go_wp2_with (first | (go_at_call 35; refine (wide_to hv _).mono ?_; rintro e w' ⟨rfl, rfl⟩) | (go_at_call 36; refine (window_to v1 v2 HS.out _).mono ?_; rintro e w' ⟨rfl, rfl⟩))
                go_round
                case rel => exact ⟨k + 1, by omega, by go_num, HT.out (by omega)⟩
                case measure => simp [intOf]; omega
          · obtain rfl : k = 5 := by omega
            have HE : Hid (Num.width n a = 0) := width_none hN
            go_wp2_with fail
            go_ret
            exact ⟨num_ret_int HE.out.symm, rfl⟩
      · have HE : Hid (Num.width n a = 0) := width_bad (by omega)
        go_enter Try.func31, Try.ntmps31
        go_wp2_with (first | (go_at_call 37; refine (number_to hn _).mono ?_; rintro e w' ⟨rfl, rfl⟩))
        go_ret
        exact ⟨num_ret_int HE.out.symm, rfl⟩
    · have HE : Hid (Num.width n a = 0) := width_bad (by omega)
      go_enter Try.func31, Try.ntmps31
      go_wp2_with (first | (go_at_call 37; refine (number_to hn _).mono ?_; rintro e w' ⟨rfl, rfl⟩))
      go_ret
      exact ⟨num_ret_int HE.out.symm, rfl⟩

theorem width_to {n a r : Int} (h : Num.width n a = r) (w : World) : Calls Try.prog 31 #[.int .i64 n, .int .i64 a] w fun e w' => e = .returned (.int .i64 r) ∧ w = w' := by
  subst h; exact width_any n a w
theorem cut_to {n v r : Int} (h : Num.cut n v = r) (w : World) : Calls Try.prog 33 #[.int .i64 n, .int .i64 v] w fun e w' => e = .returned (.int .i64 r) ∧ w = w' := by
  subst h; exact cut_any n v w

/-- 256 so often. -/
def pw (k : Nat) : Int := 256 ^ k
theorem pw_le (k : Nat) (h : k ≤ 4) : 1 ≤ pw k ∧ pw k ≤ 4294967296 := by
  obtain rfl | rfl | rfl | rfl | rfl : k = 0 ∨ k = 1 ∨ k = 2 ∨ k = 3 ∨ k = 4 := by omega
  all_goals decide
theorem pw_succ (k : Nat) : pw (k + 1) = pw k * 256 := by unfold pw; rw [Int.pow_succ]
theorem pw_sz (k : Nat) (h1 : 1 ≤ k) (h : k ≤ 4) : pw k = Num.sz k := by
  obtain rfl | rfl | rfl | rfl : k = 1 ∨ k = 2 ∨ k = 3 ∨ k = 4 := by omega
  all_goals decide

theorem power_any (n : Int) (h1 : 1 ≤ n) (h2 : n ≤ 4) (w : World) : Calls Try.prog 39 #[.int .i64 n] w fun e w' => e = .returned (.int .i64 (Num.sz n)) ∧ w = w' := by
  obtain ⟨m, rfl⟩ := Int.eq_ofNat_of_zero_le (show 0 ≤ n by omega)
  have hm : m ≤ 4 := by omega
  have HZ : Hid _ := pw_sz m (by omega) hm
  clear h1 h2
  go_enter Try.func39, Try.ntmps39
  go_wp2_with fail
  go_loop [3, 4] (fun p i => ∃ k : Nat, k ≤ m ∧ i = .int .i64 k ∧ p = .int .i64 (pw k)) (fun _ i => m - (intOf i).toNat)
  case atStart => exact ⟨0, by omega, rfl, rfl⟩
  case round =>
    obtain ⟨k, hk, rfl, rfl⟩ := hrel
    obtain ⟨p1, p2⟩ := pw_le k (by omega)
    have hp := pw_succ k
    obtain ⟨q, hq⟩ : ∃ q, pw k = q := ⟨_, rfl⟩
    rw [hq] at hp p1 p2
    rw [hq]
    have HP : Hid _ := hp
    have HQ : Hid _ := hq
    clear hp hq
    by_cases hlt : k < m
    · go_wp2_with fail
      go_round
      case rel => exact ⟨k + 1, by omega, by go_num, by rw [HP.out]⟩
      case measure => simp [intOf]; omega
    · have hkm : k = m := by omega
      have HE : Hid (q = Num.sz m) := by show _ = _; rw [← HZ.out, ← HQ.out, hkm]
      clear hkm
      go_wp2_with fail
      go_ret
      exact ⟨num_ret_int HE.out, rfl⟩

theorem power_to {n s : Int} (h1 : 1 ≤ n) (h2 : n ≤ 4) (h : Num.sz n = s) (w : World) : Calls Try.prog 39 #[.int .i64 n] w fun e w' => e = .returned (.int .i64 s) ∧ w = w' := by
  subst h; exact power_any n h1 h2 w

theorem refcut_any (n v : Int) (w : World) : Calls Try.prog 34 #[.int .i64 n, .int .i64 v] w fun e w' => e = .returned (.int .i64 (Num.cut n v)) ∧ w = w' := by
  by_cases h : 0 ≤ n ∧ n ≤ 4611686018427387903 ∧ 1 ≤ v ∧ v ≤ 4
  · have HE : Hid (Num.cut n v = n % Num.sz v) := by show _ = _; unfold Num.cut; rw [if_pos h]
    obtain ⟨h1, h2, h3, h4⟩ := h
    have hs0 := Num.sz_lo v
    have hs1 := Num.sz_hi v
    obtain ⟨s, hs⟩ : ∃ s, Num.sz v = s := ⟨_, rfl⟩
    rw [hs] at hs0 hs1
    have HS : Hid _ := hs
    clear hs
    go_enter Try.func34, Try.ntmps34
    go_wp2_with (go_at_call 39; refine (power_to h3 h4 HS.out _).mono ?_; rintro e w' ⟨rfl, rfl⟩)
    go_ret
    exact ⟨num_ret_int (by rw [HE.out, HS.out]), rfl⟩
  · have HE : Hid (Num.cut n v = 0) := by show _ = _; unfold Num.cut; rw [if_neg h]
    by_cases h1 : n < 0
    · go_enter Try.func34, Try.ntmps34
      go_wp2_with fail
      go_ret
      exact ⟨num_ret_int HE.out.symm, rfl⟩
    · by_cases h2 : 4611686018427387903 < n
      · go_enter Try.func34, Try.ntmps34
        go_wp2_with fail
        go_ret
        exact ⟨num_ret_int HE.out.symm, rfl⟩
      · by_cases h3 : v < 1
        · go_enter Try.func34, Try.ntmps34
          go_wp2_with fail
          go_ret
          exact ⟨num_ret_int HE.out.symm, rfl⟩
        · have h4 : 4 < v := by omega
          clear h
          go_enter Try.func34, Try.ntmps34
          go_wp2_with fail
          go_ret
          exact ⟨num_ret_int HE.out.symm, rfl⟩

theorem refwidth_any (n a : Int) (w : World) : Calls Try.prog 32 #[.int .i64 n, .int .i64 a] w fun e w' => e = .returned (.int .i64 (Num.width n a)) ∧ w = w' := by
  by_cases h : 0 ≤ n ∧ n ≤ 4611686018427387903 ∧ -1 ≤ a ∧ a < n
  · obtain ⟨h1, h2, h3, h4⟩ := h
    go_enter Try.func32, Try.ntmps32
    go_wp2_with fail
    go_loop [5] (fun i => ∃ k : Nat, 1 ≤ k ∧ k ≤ 5 ∧ i = .int .i64 k ∧ NoWidth n a k) (fun i => 5 - (intOf i).toNat)
    case atStart => exact ⟨1, by omega, by omega, rfl, noWidth_zero n a⟩
    case round =>
      obtain ⟨k, hk1, hk, rfl, hN⟩ := hrel
      by_cases hlt : k < 5
      · have v1 : 1 ≤ (k : Int) := by omega
        have v2 : (k : Int) ≤ 4 := by omega
        have hs0 := Num.sz_lo k
        have hs1 := Num.sz_hi k
        have hstep := @noWidth_step n a k hN
        have his := @width_is n a k h1 h2 h3 h4 (by omega) (by omega) hN
        obtain ⟨s, hs⟩ : ∃ s, Num.sz k = s := ⟨_, rfl⟩
        rw [hs] at hs0 hs1 hstep his
        have HS : Hid _ := hs
        have HT : Hid _ := hstep
        have HI : Hid _ := his
        clear hs hstep his
        by_cases hd : n - a ≤ s / 2
        · go_wp2_with (go_at_call 39; refine (power_to v1 v2 HS.out _).mono ?_; rintro e w' ⟨rfl, rfl⟩)
          go_ret
          exact ⟨num_ret_int (HI.out hd).symm, rfl⟩
        · go_wp2_with (go_at_call 39; refine (power_to v1 v2 HS.out _).mono ?_; rintro e w' ⟨rfl, rfl⟩)
          go_round
          case rel => exact ⟨k + 1, by omega, by omega, by go_num, HT.out (by omega)⟩
          case measure => simp [intOf]; omega
      · obtain rfl : k = 5 := by omega
        have HE : Hid (Num.width n a = 0) := width_none hN
        go_wp2_with fail
        go_ret
        exact ⟨num_ret_int HE.out.symm, rfl⟩
  · have HE : Hid (Num.width n a = 0) := width_bad h
    by_cases h1 : n < 0
    · go_enter Try.func32, Try.ntmps32
      go_wp2_with fail
      go_ret
      exact ⟨num_ret_int HE.out.symm, rfl⟩
    · by_cases h2 : 4611686018427387903 < n
      · go_enter Try.func32, Try.ntmps32
        go_wp2_with fail
        go_ret
        exact ⟨num_ret_int HE.out.symm, rfl⟩
      · by_cases h3 : a < -1
        · go_enter Try.func32, Try.ntmps32
          go_wp2_with fail
          go_ret
          exact ⟨num_ret_int HE.out.symm, rfl⟩
        · have h4 : n ≤ a := by omega
          clear h
          go_enter Try.func32, Try.ntmps32
          go_wp2_with fail
          go_ret
          exact ⟨num_ret_int HE.out.symm, rfl⟩

theorem refcut_to {n v r : Int} (h : Num.cut n v = r) (w : World) : Calls Try.prog 34 #[.int .i64 n, .int .i64 v] w fun e w' => e = .returned (.int .i64 r) ∧ w = w' := by
  subst h; exact refcut_any n v w
theorem refwidth_to {n a r : Int} (h : Num.width n a = r) (w : World) : Calls Try.prog 32 #[.int .i64 n, .int .i64 a] w fun e w' => e = .returned (.int .i64 r) ∧ w = w' := by
  subst h; exact refwidth_any n a w

end Go.Proofs.Ytlcbpcemdipmfaa
