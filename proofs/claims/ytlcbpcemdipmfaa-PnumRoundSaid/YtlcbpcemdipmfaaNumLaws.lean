/-
  The walks of the laws PnumBack, PnumRound and PnumNear, and the plain lemmas beneath them. Conditions: those of the kinds of the numbers (PnumNear).
-/
import Derived.Test.YtlcbpcemdipmfaaNumFull
namespace Go.Proofs.Ytlcbpcemdipmfaa
open Go.RowKit
namespace Num

theorem width_cases {n a w : Int} (h : width n a = w) (hw : w ≠ 0) :
    0 ≤ n ∧ n ≤ 4611686018427387903 ∧ -1 ≤ a ∧ a < n ∧ 1 ≤ w ∧ w ≤ 4 ∧ n - a ≤ sz w / 2 ∧ (w = 1 ∨ (w = 2 ∧ 256 < 2 * (n - a)) ∨ (w = 3 ∧ 65536 < 2 * (n - a)) ∨ (w = 4 ∧ 16777216 < 2 * (n - a))) := by
  unfold width at h
  split at h
  · rename_i hc
    obtain ⟨h1, h2, h3, h4⟩ := hc
    refine ⟨h1, h2, h3, h4, ?_⟩
    have s1 : sz 1 = 256 := rfl
    have s2 : sz 2 = 65536 := rfl
    have s3 : sz 3 = 16777216 := rfl
    have s4 : sz 4 = 4294967296 := rfl
    (repeat' split at h) <;> subst h
    · rw [s1]; omega
    · rw [s2]; omega
    · rw [s3]; omega
    · rw [s4]; omega
    · exact absurd rfl hw
  · exact absurd h.symm hw

theorem told_near {n e s : Int} (h0 : 0 ≤ n) (h1 : n ≤ 4611686018427387903) (he : 0 ≤ e) (hen : e ≤ n) (hd : n - e < s / 2) (hs : s = 256 ∨ s = 65536 ∨ s = 16777216 ∨ s = 4294967296) : told e (n % s) s = n := by
  unfold told
  rcases hs with rfl | rfl | rfl | rfl <;> (repeat' split) <;> omega

theorem sz_mono {v w : Int} (h1 : 1 ≤ w) (h2 : w ≤ v) (h3 : v ≤ 4) : sz w ≤ sz v := by
  have s1 : sz 1 = 256 := rfl
  have s2 : sz 2 = 65536 := rfl
  have s3 : sz 3 = 16777216 := rfl
  have s4 : sz 4 = 4294967296 := rfl
  obtain rfl | rfl | rfl | rfl : w = 1 ∨ w = 2 ∨ w = 3 ∨ w = 4 := by omega
  all_goals
    obtain rfl | rfl | rfl | rfl : v = 1 ∨ v = 2 ∨ v = 3 ∨ v = 4 := by omega
    all_goals omega

theorem back {n a l v w : Int} (h : width n a = w) (hw : w ≠ 0) (h1 : a ≤ l) (h2 : l < n) (hv : w ≤ v) (hv4 : v ≤ 4) : full l (cut n v) v = n := by
  obtain ⟨n0, n1, a0, a1, w1, w4, hd, _⟩ := width_cases h hw
  have hm := sz_mono w1 hv hv4
  have hs := sz_cases v
  have hlo := sz_lo v
  have hc : cut n v = n % sz v := by unfold cut; rw [if_pos ⟨n0, n1, by omega, hv4⟩]
  have hm0 := Int.emod_nonneg n (b := sz v) (by omega)
  have hm1 := Int.emod_lt_of_pos n (b := sz v) (by omega)
  rw [hc]
  unfold full
  rw [if_pos ⟨by omega, by omega, by omega, hv4, hm0, hm1⟩]
  exact told_near n0 n1 (by omega) (by omega) (by omega) hs

theorem told_is {g c s : Int} (h0 : -1 ≤ g) (h1 : g ≤ 4611686018427387903) (hc0 : 0 ≤ c) (hc1 : c < s) (hs : s = 256 ∨ s = 65536 ∨ s = 16777216 ∨ s = 4294967296) :
    0 ≤ told (g + 1) c s ∧ told (g + 1) c s ≤ 4611686018427387903 ∧ told (g + 1) c s % s = c ∧
      ((told (g + 1) c s - g - 1 ≤ s / 2 ∧ -(s / 2) ≤ told (g + 1) c s - g - 1) ∨ told (g + 1) c s < s ∨ 4611686018427387903 - s < told (g + 1) c s) := by
  unfold told
  rcases hs with rfl | rfl | rfl | rfl <;> (repeat' split) <;> omega

end Num

theorem back_any (n a l : Int) (w : World) : Calls Try.prog 13 #[.int .i64 n, .int .i64 a, .int .i64 l] w fun e w' => e = .returned (.bool true) ∧ w = w' := by
  obtain ⟨v, hv⟩ : ∃ v, Num.width n a = v := ⟨_, rfl⟩
  have HV : Hid _ := hv
  by_cases h0 : v = 0
  · have hb : (v == 0) = true := by simpa using h0
    clear hv h0
    go_enter Try.func13, Try.ntmps13
    go_wp2_with fail
    refine (width_to HV.out _).mono ?_
    rintro e w' ⟨rfl, rfl⟩
    go_wp2_with fail
    refine (awake_num _).mono ?_
    rintro e w' ⟨rfl, rfl⟩
    go_wp2_with fail
    go_ret
    exact ⟨rfl, rfl⟩
  · obtain ⟨n0, n1, a0, a1, v1, v4, _, _⟩ := Num.width_cases hv h0
    have hb : (v == 0) = false := by simpa using h0
    by_cases h1 : l < a
    · clear hv h0
      go_enter Try.func13, Try.ntmps13
      go_wp2_with fail
      refine (width_to HV.out _).mono ?_
      rintro e w' ⟨rfl, rfl⟩
      go_wp2_with fail
      refine (awake_num _).mono ?_
      rintro e w' ⟨rfl, rfl⟩
      go_wp2_with fail
      go_ret
      exact ⟨rfl, rfl⟩
    · by_cases h2 : n ≤ l
      · clear hv h0
        go_enter Try.func13, Try.ntmps13
        go_wp2_with fail
        refine (width_to HV.out _).mono ?_
        rintro e w' ⟨rfl, rfl⟩
        go_wp2_with fail
        refine (awake_num _).mono ?_
        rintro e w' ⟨rfl, rfl⟩
        go_wp2_with fail
        go_ret
        exact ⟨rfl, rfl⟩
      · have hback := Num.back hv h0 (l := l) (v := v) (by omega) (by omega) (Int.le_refl _) v4
        obtain ⟨c, hc⟩ : ∃ c, Num.cut n v = c := ⟨_, rfl⟩
        rw [hc] at hback
        have HB : Hid _ := hback
        have HC : Hid _ := hc
        clear hv h0 hback hc
        go_enter Try.func13, Try.ntmps13
        go_wp2_with fail
        refine (width_to HV.out _).mono ?_
        rintro e w' ⟨rfl, rfl⟩
        go_wp2_with fail
        refine (cut_to HC.out _).mono ?_
        rintro e w' ⟨rfl, rfl⟩
        go_wp2_with fail
        refine (full_to HB.out _).mono ?_
        rintro e w' ⟨rfl, rfl⟩
        go_wp2_with fail
        refine (awake_num _).mono ?_
        rintro e w' ⟨rfl, rfl⟩
        go_wp2_with fail
        go_ret
        exact ⟨rfl, rfl⟩

theorem round_any (n a : Int) (w : World) : Calls Try.prog 14 #[.int .i64 n, .int .i64 a] w fun e w' => e = .returned (.bool true) ∧ w = w' := by
  obtain ⟨v, hv⟩ : ∃ v, Num.width n a = v := ⟨_, rfl⟩
  have HV : Hid _ := hv
  by_cases h0 : v = 0
  · have hb : (v == 0) = true := by simpa using h0
    clear hv h0
    go_enter Try.func14, Try.ntmps14
    go_wp2_with fail
    refine (width_to HV.out _).mono ?_
    rintro e w' ⟨rfl, rfl⟩
    go_wp2_with fail
    refine (awake_num _).mono ?_
    rintro e w' ⟨rfl, rfl⟩
    go_wp2_with fail
    go_ret
    exact ⟨rfl, rfl⟩
  · obtain ⟨n0, n1, a0, a1, v1, v4, hd, hcs⟩ := Num.width_cases hv h0
    have HB : Hid (∀ u : Int, v ≤ u → u ≤ 4 → Num.full (n - 1) (Num.cut n u) u = n) := fun u h1 h2 => Num.back hv h0 (by omega) (by omega) h1 h2
    have hda : n - a ≤ 2147483648 := by have := Num.sz_hi v; omega
    clear hv h0 hd
    have hl : -1 ≤ n - 1 := by omega
    rcases hcs with rfl | ⟨rfl, hq⟩ | ⟨rfl, hq⟩ | ⟨rfl, hq⟩
    all_goals
      go_enter Try.func14, Try.ntmps14
      go_wp2_with fail
      refine (width_to HV.out _).mono ?_
      rintro e w' ⟨rfl, rfl⟩
      go_wp2_with fail
    · go_loop [6] (fun i => ∃ k : Nat, 1 ≤ k ∧ k ≤ 5 ∧ i = .int .i64 k) (fun i => 5 - (intOf i).toNat)
      case atStart => exact ⟨1, by omega, by omega, rfl⟩
      case round =>
        obtain ⟨k, hk1, hk, rfl⟩ := hrel
        by_cases hlt : k < 5
        · have hfu := HB.out k (by omega) (by omega)
          obtain ⟨c, hc⟩ : ∃ c, Num.cut n k = c := ⟨_, rfl⟩
          rw [hc] at hfu
          have HC : Hid _ := hc
          have HF : Hid _ := hfu
          clear hc hfu
          have hk5 : k ≤ 4 := by omega
          go_wp2_with fail
          refine (cut_to HC.out _).mono ?_
          rintro e w' ⟨rfl, rfl⟩
          go_wp2_with fail
          refine (full_to HF.out _).mono ?_
          rintro e w' ⟨rfl, rfl⟩
          go_wp2_with fail
          go_round
          case rel => exact ⟨k + 1, by omega, by omega, by go_num⟩
          case measure => simp [intOf]; omega
        · go_wp2_with fail
          refine (awake_num _).mono ?_
          rintro e w' ⟨rfl, rfl⟩
          go_wp2_with fail
          go_ret
          exact ⟨rfl, rfl⟩
    · go_loop [6] (fun i => ∃ k : Nat, 2 ≤ k ∧ k ≤ 5 ∧ i = .int .i64 k) (fun i => 5 - (intOf i).toNat)
      case atStart => exact ⟨2, by omega, by omega, rfl⟩
      case round =>
        obtain ⟨k, hk1, hk, rfl⟩ := hrel
        by_cases hlt : k < 5
        · have hfu := HB.out k (by omega) (by omega)
          obtain ⟨c, hc⟩ : ∃ c, Num.cut n k = c := ⟨_, rfl⟩
          rw [hc] at hfu
          have HC : Hid _ := hc
          have HF : Hid _ := hfu
          clear hc hfu
          have hk5 : k ≤ 4 := by omega
          go_wp2_with fail
          refine (cut_to HC.out _).mono ?_
          rintro e w' ⟨rfl, rfl⟩
          go_wp2_with fail
          refine (full_to HF.out _).mono ?_
          rintro e w' ⟨rfl, rfl⟩
          go_wp2_with fail
          go_round
          case rel => exact ⟨k + 1, by omega, by omega, by go_num⟩
          case measure => simp [intOf]; omega
        · go_wp2_with fail
          refine (awake_num _).mono ?_
          rintro e w' ⟨rfl, rfl⟩
          go_wp2_with fail
          go_ret
          exact ⟨rfl, rfl⟩
    · go_loop [6] (fun i => ∃ k : Nat, 3 ≤ k ∧ k ≤ 5 ∧ i = .int .i64 k) (fun i => 5 - (intOf i).toNat)
      case atStart => exact ⟨3, by omega, by omega, rfl⟩
      case round =>
        obtain ⟨k, hk1, hk, rfl⟩ := hrel
        by_cases hlt : k < 5
        · have hfu := HB.out k (by omega) (by omega)
          obtain ⟨c, hc⟩ : ∃ c, Num.cut n k = c := ⟨_, rfl⟩
          rw [hc] at hfu
          have HC : Hid _ := hc
          have HF : Hid _ := hfu
          clear hc hfu
          have hk5 : k ≤ 4 := by omega
          go_wp2_with fail
          refine (cut_to HC.out _).mono ?_
          rintro e w' ⟨rfl, rfl⟩
          go_wp2_with fail
          refine (full_to HF.out _).mono ?_
          rintro e w' ⟨rfl, rfl⟩
          go_wp2_with fail
          go_round
          case rel => exact ⟨k + 1, by omega, by omega, by go_num⟩
          case measure => simp [intOf]; omega
        · go_wp2_with fail
          refine (awake_num _).mono ?_
          rintro e w' ⟨rfl, rfl⟩
          go_wp2_with fail
          go_ret
          exact ⟨rfl, rfl⟩
    · go_loop [6] (fun i => ∃ k : Nat, 4 ≤ k ∧ k ≤ 5 ∧ i = .int .i64 k) (fun i => 5 - (intOf i).toNat)
      case atStart => exact ⟨4, by omega, by omega, rfl⟩
      case round =>
        obtain ⟨k, hk1, hk, rfl⟩ := hrel
        by_cases hlt : k < 5
        · have hfu := HB.out k (by omega) (by omega)
          obtain ⟨c, hc⟩ : ∃ c, Num.cut n k = c := ⟨_, rfl⟩
          rw [hc] at hfu
          have HC : Hid _ := hc
          have HF : Hid _ := hfu
          clear hc hfu
          have hk5 : k ≤ 4 := by omega
          go_wp2_with fail
          refine (cut_to HC.out _).mono ?_
          rintro e w' ⟨rfl, rfl⟩
          go_wp2_with fail
          refine (full_to HF.out _).mono ?_
          rintro e w' ⟨rfl, rfl⟩
          go_wp2_with fail
          go_round
          case rel => exact ⟨k + 1, by omega, by omega, by go_num⟩
          case measure => simp [intOf]; omega
        · go_wp2_with fail
          refine (awake_num _).mono ?_
          rintro e w' ⟨rfl, rfl⟩
          go_wp2_with fail
          go_ret
          exact ⟨rfl, rfl⟩

set_option maxHeartbeats 1000000 in
theorem near1 (g u t : Int) (hu0 : 0 ≤ u) (hu1 : u ≤ 4294967295) (ht0 : 0 ≤ t) (ht1 : t ≤ 255) (hm : t % 4 = 0) (w : World) :
    Calls Try.prog 8 #[.int .i64 g, .int .u32 u, .int .u8 t] w fun e w' => e = .returned (.bool true) ∧ w = w' := by
  by_cases hg : -1 ≤ g ∧ g ≤ 4611686018427387903
  · obtain ⟨g0, g1⟩ := hg
    have hc0 : 0 ≤ u % 256 := by omega
    have hc1 : u % 256 < 256 := by omega
    have hN := Num.told_is (s := 256) g0 g1 hc0 hc1 (by omega)
    have hfull : Num.full g (u % 256) 1 = Num.told (g + 1) (u % 256) 256 := by unfold Num.full; rw [if_pos ⟨g0, g1, by omega, by omega, hc0, hc1⟩]; rfl
    obtain ⟨c, hc⟩ : ∃ c, u % 256 = c := ⟨_, rfl⟩
    rw [hc] at hN hfull hc0 hc1
    obtain ⟨n, hn⟩ : ∃ n, Num.told (g + 1) c 256 = n := ⟨_, rfl⟩
    rw [hn] at hN hfull
    have HF : Hid _ := hfull
    obtain ⟨n0, n1, n2, n3⟩ := hN
    have n2' : (n % 256 == c) = true := by simpa using n2
    clear hfull hn n2
    by_cases hD : n - g - 1 ≤ 128 ∧ -128 ≤ n - g - 1
    · obtain ⟨d0, d1⟩ := hD
      clear n3
      go_enter Try.func8, Try.ntmps8
      go_wp2_with fail
      refine (full_to HF.out _).mono ?_
      rintro e w' ⟨rfl, rfl⟩
      go_wp2_with fail
      refine (awake_num _).mono ?_
      rintro e w' ⟨rfl, rfl⟩
      go_wp2_with fail
      go_ret
      first | exact ⟨rfl, rfl⟩ | exact ⟨num_ret_bool (by simp; omega), rfl⟩
    · by_cases hE : n < 256
      · clear n3
        by_cases d0 : n - g - 1 ≤ 128
        · have d1 : n - g - 1 < -128 := by omega
          clear hD
          go_enter Try.func8, Try.ntmps8
          go_wp2_with fail
          refine (full_to HF.out _).mono ?_
          rintro e w' ⟨rfl, rfl⟩
          go_wp2_with fail
          refine (awake_num _).mono ?_
          rintro e w' ⟨rfl, rfl⟩
          go_wp2_with fail
          go_ret
          first | exact ⟨rfl, rfl⟩ | exact ⟨num_ret_bool (by simp; omega), rfl⟩
        · clear hD
          go_enter Try.func8, Try.ntmps8
          go_wp2_with fail
          refine (full_to HF.out _).mono ?_
          rintro e w' ⟨rfl, rfl⟩
          go_wp2_with fail
          refine (awake_num _).mono ?_
          rintro e w' ⟨rfl, rfl⟩
          go_wp2_with fail
          go_ret
          first | exact ⟨rfl, rfl⟩ | exact ⟨num_ret_bool (by simp; omega), rfl⟩
      · have hG : 4611686018427387903 - 256 < n := by omega
        clear n3
        by_cases d0 : n - g - 1 ≤ 128
        · have d1 : n - g - 1 < -128 := by omega
          clear hD
          go_enter Try.func8, Try.ntmps8
          go_wp2_with fail
          refine (full_to HF.out _).mono ?_
          rintro e w' ⟨rfl, rfl⟩
          go_wp2_with fail
          refine (awake_num _).mono ?_
          rintro e w' ⟨rfl, rfl⟩
          go_wp2_with fail
          go_ret
          first | exact ⟨rfl, rfl⟩ | exact ⟨num_ret_bool (by simp; omega), rfl⟩
        · clear hD
          go_enter Try.func8, Try.ntmps8
          go_wp2_with fail
          refine (full_to HF.out _).mono ?_
          rintro e w' ⟨rfl, rfl⟩
          go_wp2_with fail
          refine (awake_num _).mono ?_
          rintro e w' ⟨rfl, rfl⟩
          go_wp2_with fail
          go_ret
          first | exact ⟨rfl, rfl⟩ | exact ⟨num_ret_bool (by simp; omega), rfl⟩
  · have HF : Hid (Num.full g (u % 256) 1 = -1) := full_bad (by omega)
    by_cases g0 : g < -1
    · clear hg
      go_enter Try.func8, Try.ntmps8
      go_wp2_with fail
      refine (full_to HF.out _).mono ?_
      rintro e w' ⟨rfl, rfl⟩
      go_wp2_with fail
      refine (awake_num _).mono ?_
      rintro e w' ⟨rfl, rfl⟩
      go_wp2_with fail
      go_ret
      exact ⟨rfl, rfl⟩
    · have g1 : 4611686018427387903 < g := by omega
      clear hg
      go_enter Try.func8, Try.ntmps8
      go_wp2_with fail
      refine (full_to HF.out _).mono ?_
      rintro e w' ⟨rfl, rfl⟩
      go_wp2_with fail
      refine (awake_num _).mono ?_
      rintro e w' ⟨rfl, rfl⟩
      go_wp2_with fail
      go_ret
      exact ⟨rfl, rfl⟩

set_option maxHeartbeats 1000000 in
theorem near2 (g u t : Int) (hu0 : 0 ≤ u) (hu1 : u ≤ 4294967295) (ht0 : 0 ≤ t) (ht1 : t ≤ 255) (hm : t % 4 = 1) (w : World) :
    Calls Try.prog 8 #[.int .i64 g, .int .u32 u, .int .u8 t] w fun e w' => e = .returned (.bool true) ∧ w = w' := by
  by_cases hg : -1 ≤ g ∧ g ≤ 4611686018427387903
  · obtain ⟨g0, g1⟩ := hg
    have hc0 : 0 ≤ u % 65536 := by omega
    have hc1 : u % 65536 < 65536 := by omega
    have hN := Num.told_is (s := 65536) g0 g1 hc0 hc1 (by omega)
    have hfull : Num.full g (u % 65536) 2 = Num.told (g + 1) (u % 65536) 65536 := by unfold Num.full; rw [if_pos ⟨g0, g1, by omega, by omega, hc0, hc1⟩]; rfl
    obtain ⟨c, hc⟩ : ∃ c, u % 65536 = c := ⟨_, rfl⟩
    rw [hc] at hN hfull hc0 hc1
    obtain ⟨n, hn⟩ : ∃ n, Num.told (g + 1) c 65536 = n := ⟨_, rfl⟩
    rw [hn] at hN hfull
    have HF : Hid _ := hfull
    obtain ⟨n0, n1, n2, n3⟩ := hN
    have n2' : (n % 65536 == c) = true := by simpa using n2
    clear hfull hn n2
    by_cases hD : n - g - 1 ≤ 32768 ∧ -32768 ≤ n - g - 1
    · obtain ⟨d0, d1⟩ := hD
      clear n3
      go_enter Try.func8, Try.ntmps8
      go_wp2_with fail
      refine (full_to HF.out _).mono ?_
      rintro e w' ⟨rfl, rfl⟩
      go_wp2_with fail
      refine (awake_num _).mono ?_
      rintro e w' ⟨rfl, rfl⟩
      go_wp2_with fail
      go_ret
      first | exact ⟨rfl, rfl⟩ | exact ⟨num_ret_bool (by simp; omega), rfl⟩
    · by_cases hE : n < 65536
      · clear n3
        by_cases d0 : n - g - 1 ≤ 32768
        · have d1 : n - g - 1 < -32768 := by omega
          clear hD
          go_enter Try.func8, Try.ntmps8
          go_wp2_with fail
          refine (full_to HF.out _).mono ?_
          rintro e w' ⟨rfl, rfl⟩
          go_wp2_with fail
          refine (awake_num _).mono ?_
          rintro e w' ⟨rfl, rfl⟩
          go_wp2_with fail
          go_ret
          first | exact ⟨rfl, rfl⟩ | exact ⟨num_ret_bool (by simp; omega), rfl⟩
        · clear hD
          go_enter Try.func8, Try.ntmps8
          go_wp2_with fail
          refine (full_to HF.out _).mono ?_
          rintro e w' ⟨rfl, rfl⟩
          go_wp2_with fail
          refine (awake_num _).mono ?_
          rintro e w' ⟨rfl, rfl⟩
          go_wp2_with fail
          go_ret
          first | exact ⟨rfl, rfl⟩ | exact ⟨num_ret_bool (by simp; omega), rfl⟩
      · have hG : 4611686018427387903 - 65536 < n := by omega
        clear n3
        by_cases d0 : n - g - 1 ≤ 32768
        · have d1 : n - g - 1 < -32768 := by omega
          clear hD
          go_enter Try.func8, Try.ntmps8
          go_wp2_with fail
          refine (full_to HF.out _).mono ?_
          rintro e w' ⟨rfl, rfl⟩
          go_wp2_with fail
          refine (awake_num _).mono ?_
          rintro e w' ⟨rfl, rfl⟩
          go_wp2_with fail
          go_ret
          first | exact ⟨rfl, rfl⟩ | exact ⟨num_ret_bool (by simp; omega), rfl⟩
        · clear hD
          go_enter Try.func8, Try.ntmps8
          go_wp2_with fail
          refine (full_to HF.out _).mono ?_
          rintro e w' ⟨rfl, rfl⟩
          go_wp2_with fail
          refine (awake_num _).mono ?_
          rintro e w' ⟨rfl, rfl⟩
          go_wp2_with fail
          go_ret
          first | exact ⟨rfl, rfl⟩ | exact ⟨num_ret_bool (by simp; omega), rfl⟩
  · have HF : Hid (Num.full g (u % 65536) 2 = -1) := full_bad (by omega)
    by_cases g0 : g < -1
    · clear hg
      go_enter Try.func8, Try.ntmps8
      go_wp2_with fail
      refine (full_to HF.out _).mono ?_
      rintro e w' ⟨rfl, rfl⟩
      go_wp2_with fail
      refine (awake_num _).mono ?_
      rintro e w' ⟨rfl, rfl⟩
      go_wp2_with fail
      go_ret
      exact ⟨rfl, rfl⟩
    · have g1 : 4611686018427387903 < g := by omega
      clear hg
      go_enter Try.func8, Try.ntmps8
      go_wp2_with fail
      refine (full_to HF.out _).mono ?_
      rintro e w' ⟨rfl, rfl⟩
      go_wp2_with fail
      refine (awake_num _).mono ?_
      rintro e w' ⟨rfl, rfl⟩
      go_wp2_with fail
      go_ret
      exact ⟨rfl, rfl⟩

set_option maxHeartbeats 1000000 in
theorem near3 (g u t : Int) (hu0 : 0 ≤ u) (hu1 : u ≤ 4294967295) (ht0 : 0 ≤ t) (ht1 : t ≤ 255) (hm : t % 4 = 2) (w : World) :
    Calls Try.prog 8 #[.int .i64 g, .int .u32 u, .int .u8 t] w fun e w' => e = .returned (.bool true) ∧ w = w' := by
  by_cases hg : -1 ≤ g ∧ g ≤ 4611686018427387903
  · obtain ⟨g0, g1⟩ := hg
    have hc0 : 0 ≤ u % 16777216 := by omega
    have hc1 : u % 16777216 < 16777216 := by omega
    have hN := Num.told_is (s := 16777216) g0 g1 hc0 hc1 (by omega)
    have hfull : Num.full g (u % 16777216) 3 = Num.told (g + 1) (u % 16777216) 16777216 := by unfold Num.full; rw [if_pos ⟨g0, g1, by omega, by omega, hc0, hc1⟩]; rfl
    obtain ⟨c, hc⟩ : ∃ c, u % 16777216 = c := ⟨_, rfl⟩
    rw [hc] at hN hfull hc0 hc1
    obtain ⟨n, hn⟩ : ∃ n, Num.told (g + 1) c 16777216 = n := ⟨_, rfl⟩
    rw [hn] at hN hfull
    have HF : Hid _ := hfull
    obtain ⟨n0, n1, n2, n3⟩ := hN
    have n2' : (n % 16777216 == c) = true := by simpa using n2
    clear hfull hn n2
    by_cases hD : n - g - 1 ≤ 8388608 ∧ -8388608 ≤ n - g - 1
    · obtain ⟨d0, d1⟩ := hD
      clear n3
      go_enter Try.func8, Try.ntmps8
      go_wp2_with fail
      refine (full_to HF.out _).mono ?_
      rintro e w' ⟨rfl, rfl⟩
      go_wp2_with fail
      refine (awake_num _).mono ?_
      rintro e w' ⟨rfl, rfl⟩
      go_wp2_with fail
      go_ret
      first | exact ⟨rfl, rfl⟩ | exact ⟨num_ret_bool (by simp; omega), rfl⟩
    · by_cases hE : n < 16777216
      · clear n3
        by_cases d0 : n - g - 1 ≤ 8388608
        · have d1 : n - g - 1 < -8388608 := by omega
          clear hD
          go_enter Try.func8, Try.ntmps8
          go_wp2_with fail
          refine (full_to HF.out _).mono ?_
          rintro e w' ⟨rfl, rfl⟩
          go_wp2_with fail
          refine (awake_num _).mono ?_
          rintro e w' ⟨rfl, rfl⟩
          go_wp2_with fail
          go_ret
          first | exact ⟨rfl, rfl⟩ | exact ⟨num_ret_bool (by simp; omega), rfl⟩
        · clear hD
          go_enter Try.func8, Try.ntmps8
          go_wp2_with fail
          refine (full_to HF.out _).mono ?_
          rintro e w' ⟨rfl, rfl⟩
          go_wp2_with fail
          refine (awake_num _).mono ?_
          rintro e w' ⟨rfl, rfl⟩
          go_wp2_with fail
          go_ret
          first | exact ⟨rfl, rfl⟩ | exact ⟨num_ret_bool (by simp; omega), rfl⟩
      · have hG : 4611686018427387903 - 16777216 < n := by omega
        clear n3
        by_cases d0 : n - g - 1 ≤ 8388608
        · have d1 : n - g - 1 < -8388608 := by omega
          clear hD
          go_enter Try.func8, Try.ntmps8
          go_wp2_with fail
          refine (full_to HF.out _).mono ?_
          rintro e w' ⟨rfl, rfl⟩
          go_wp2_with fail
          refine (awake_num _).mono ?_
          rintro e w' ⟨rfl, rfl⟩
          go_wp2_with fail
          go_ret
          first | exact ⟨rfl, rfl⟩ | exact ⟨num_ret_bool (by simp; omega), rfl⟩
        · clear hD
          go_enter Try.func8, Try.ntmps8
          go_wp2_with fail
          refine (full_to HF.out _).mono ?_
          rintro e w' ⟨rfl, rfl⟩
          go_wp2_with fail
          refine (awake_num _).mono ?_
          rintro e w' ⟨rfl, rfl⟩
          go_wp2_with fail
          go_ret
          first | exact ⟨rfl, rfl⟩ | exact ⟨num_ret_bool (by simp; omega), rfl⟩
  · have HF : Hid (Num.full g (u % 16777216) 3 = -1) := full_bad (by omega)
    by_cases g0 : g < -1
    · clear hg
      go_enter Try.func8, Try.ntmps8
      go_wp2_with fail
      refine (full_to HF.out _).mono ?_
      rintro e w' ⟨rfl, rfl⟩
      go_wp2_with fail
      refine (awake_num _).mono ?_
      rintro e w' ⟨rfl, rfl⟩
      go_wp2_with fail
      go_ret
      exact ⟨rfl, rfl⟩
    · have g1 : 4611686018427387903 < g := by omega
      clear hg
      go_enter Try.func8, Try.ntmps8
      go_wp2_with fail
      refine (full_to HF.out _).mono ?_
      rintro e w' ⟨rfl, rfl⟩
      go_wp2_with fail
      refine (awake_num _).mono ?_
      rintro e w' ⟨rfl, rfl⟩
      go_wp2_with fail
      go_ret
      exact ⟨rfl, rfl⟩

set_option maxHeartbeats 1000000 in
theorem near4 (g u t : Int) (hu0 : 0 ≤ u) (hu1 : u ≤ 4294967295) (ht0 : 0 ≤ t) (ht1 : t ≤ 255) (hm : t % 4 = 3) (w : World) :
    Calls Try.prog 8 #[.int .i64 g, .int .u32 u, .int .u8 t] w fun e w' => e = .returned (.bool true) ∧ w = w' := by
  by_cases hg : -1 ≤ g ∧ g ≤ 4611686018427387903
  · obtain ⟨g0, g1⟩ := hg
    have hc0 : 0 ≤ u % 4294967296 := by omega
    have hc1 : u % 4294967296 < 4294967296 := by omega
    have hN := Num.told_is (s := 4294967296) g0 g1 hc0 hc1 (by omega)
    have hfull : Num.full g (u % 4294967296) 4 = Num.told (g + 1) (u % 4294967296) 4294967296 := by unfold Num.full; rw [if_pos ⟨g0, g1, by omega, by omega, hc0, hc1⟩]; rfl
    obtain ⟨c, hc⟩ : ∃ c, u % 4294967296 = c := ⟨_, rfl⟩
    rw [hc] at hN hfull hc0 hc1
    obtain ⟨n, hn⟩ : ∃ n, Num.told (g + 1) c 4294967296 = n := ⟨_, rfl⟩
    rw [hn] at hN hfull
    have HF : Hid _ := hfull
    obtain ⟨n0, n1, n2, n3⟩ := hN
    have n2' : (n % 4294967296 == c) = true := by simpa using n2
    clear hfull hn n2
    by_cases hD : n - g - 1 ≤ 2147483648 ∧ -2147483648 ≤ n - g - 1
    · obtain ⟨d0, d1⟩ := hD
      clear n3
      go_enter Try.func8, Try.ntmps8
      go_wp2_with fail
      refine (full_to HF.out _).mono ?_
      rintro e w' ⟨rfl, rfl⟩
      go_wp2_with fail
      refine (awake_num _).mono ?_
      rintro e w' ⟨rfl, rfl⟩
      go_wp2_with fail
      go_ret
      first | exact ⟨rfl, rfl⟩ | exact ⟨num_ret_bool (by simp; omega), rfl⟩
    · by_cases hE : n < 4294967296
      · clear n3
        by_cases d0 : n - g - 1 ≤ 2147483648
        · have d1 : n - g - 1 < -2147483648 := by omega
          clear hD
          go_enter Try.func8, Try.ntmps8
          go_wp2_with fail
          refine (full_to HF.out _).mono ?_
          rintro e w' ⟨rfl, rfl⟩
          go_wp2_with fail
          refine (awake_num _).mono ?_
          rintro e w' ⟨rfl, rfl⟩
          go_wp2_with fail
          go_ret
          first | exact ⟨rfl, rfl⟩ | exact ⟨num_ret_bool (by simp; omega), rfl⟩
        · clear hD
          go_enter Try.func8, Try.ntmps8
          go_wp2_with fail
          refine (full_to HF.out _).mono ?_
          rintro e w' ⟨rfl, rfl⟩
          go_wp2_with fail
          refine (awake_num _).mono ?_
          rintro e w' ⟨rfl, rfl⟩
          go_wp2_with fail
          go_ret
          first | exact ⟨rfl, rfl⟩ | exact ⟨num_ret_bool (by simp; omega), rfl⟩
      · have hG : 4611686018427387903 - 4294967296 < n := by omega
        clear n3
        by_cases d0 : n - g - 1 ≤ 2147483648
        · have d1 : n - g - 1 < -2147483648 := by omega
          clear hD
          go_enter Try.func8, Try.ntmps8
          go_wp2_with fail
          refine (full_to HF.out _).mono ?_
          rintro e w' ⟨rfl, rfl⟩
          go_wp2_with fail
          refine (awake_num _).mono ?_
          rintro e w' ⟨rfl, rfl⟩
          go_wp2_with fail
          go_ret
          first | exact ⟨rfl, rfl⟩ | exact ⟨num_ret_bool (by simp; omega), rfl⟩
        · clear hD
          go_enter Try.func8, Try.ntmps8
          go_wp2_with fail
          refine (full_to HF.out _).mono ?_
          rintro e w' ⟨rfl, rfl⟩
          go_wp2_with fail
          refine (awake_num _).mono ?_
          rintro e w' ⟨rfl, rfl⟩
          go_wp2_with fail
          go_ret
          first | exact ⟨rfl, rfl⟩ | exact ⟨num_ret_bool (by simp; omega), rfl⟩
  · have HF : Hid (Num.full g (u % 4294967296) 4 = -1) := full_bad (by omega)
    by_cases g0 : g < -1
    · clear hg
      go_enter Try.func8, Try.ntmps8
      go_wp2_with fail
      refine (full_to HF.out _).mono ?_
      rintro e w' ⟨rfl, rfl⟩
      go_wp2_with fail
      refine (awake_num _).mono ?_
      rintro e w' ⟨rfl, rfl⟩
      go_wp2_with fail
      go_ret
      exact ⟨rfl, rfl⟩
    · have g1 : 4611686018427387903 < g := by omega
      clear hg
      go_enter Try.func8, Try.ntmps8
      go_wp2_with fail
      refine (full_to HF.out _).mono ?_
      rintro e w' ⟨rfl, rfl⟩
      go_wp2_with fail
      refine (awake_num _).mono ?_
      rintro e w' ⟨rfl, rfl⟩
      go_wp2_with fail
      go_ret
      exact ⟨rfl, rfl⟩

theorem near_any (g u t : Int) (hu0 : 0 ≤ u) (hu1 : u ≤ 4294967295) (ht0 : 0 ≤ t) (ht1 : t ≤ 255) (w : World) :
    Calls Try.prog 8 #[.int .i64 g, .int .u32 u, .int .u8 t] w fun e w' => e = .returned (.bool true) ∧ w = w' := by
  have hcs : t % 4 = 0 ∨ t % 4 = 1 ∨ t % 4 = 2 ∨ t % 4 = 3 := by omega
  rcases hcs with hm | hm | hm | hm
  · exact near1 g u t hu0 hu1 ht0 ht1 hm w
  · exact near2 g u t hu0 hu1 ht0 ht1 hm w
  · exact near3 g u t hu0 hu1 ht0 ht1 hm w
  · exact near4 g u t hu0 hu1 ht0 ht1 hm w

end Go.Proofs.Ytlcbpcemdipmfaa
