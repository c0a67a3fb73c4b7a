/-
  The contracts of chapter 09, more: Full of the program and of the reference (a number told again: both the same function of their three numbers), and the chapter's examples. No condition.
-/
import Derived.Test.YtlcbpcemdipmfaaNumWalks
namespace Go.Proofs.Ytlcbpcemdipmfaa
open Go.RowKit

theorem full_bad {g c v : Int} (h : ¬ (-1 ≤ g ∧ g ≤ 4611686018427387903 ∧ 1 ≤ v ∧ v ≤ 4 ∧ 0 ≤ c ∧ c < Num.sz v)) : Num.full g c v = -1 := by
  unfold Num.full; rw [if_neg h]

/-- The program's best one behind k of its candidates. -/
def IsBest (e x s : Int) (k : Nat) (b : Int) : Prop := Num.best e x s k = b ∧ -1 ≤ b ∧ b ≤ 4611686018427387903

theorem pick_bd {e b y : Int} (h1 : -1 ≤ b) (h2 : b ≤ 4611686018427387903) : -1 ≤ Num.pick e b y ∧ Num.pick e b y ≤ 4611686018427387903 := by
  unfold Num.pick
  split
  · rename_i h
    have := (Num.num_iff y).1 h.1
    omega
  · omega

theorem isBest0 (e x s : Int) : IsBest e x s 0 (-1) := ⟨rfl, by omega, by omega⟩
theorem isBest1 {e x s b r : Int} (h : IsBest e x s 0 b) (hr : Num.pick e b (x + s) = r) : IsBest e x s 1 r := by
  obtain ⟨h, h1, h2⟩ := h
  subst h
  subst hr
  exact ⟨rfl, pick_bd h1 h2⟩
theorem isBest2 {e x s b r : Int} (h : IsBest e x s 1 b) (hr : Num.pick e b x = r) : IsBest e x s 2 r := by
  obtain ⟨h, h1, h2⟩ := h
  subst h
  subst hr
  exact ⟨rfl, pick_bd h1 h2⟩
theorem isBest3 {e x s b r : Int} (h : IsBest e x s 2 b) (hr : Num.pick e b (x - s) = r) : IsBest e x s 3 r := by
  obtain ⟨h, h1, h2⟩ := h
  subst h
  subst hr
  exact ⟨rfl, pick_bd h1 h2⟩

set_option maxHeartbeats 1000000 in
theorem full_any (g c v : Int) (w : World) : Calls Try.prog 22 #[.int .i64 g, .int .i64 c, .int .i64 v] w fun e w' => e = .returned (.int .i64 (Num.full g c v)) ∧ w = w' := by
  by_cases g1 : g < -1
  · have HE : Hid (Num.full g c v = -1) := full_bad (by omega)
    go_enter Try.func22, Try.ntmps22
    go_wp2_with fail
    go_ret
    exact ⟨num_ret_int HE.out.symm, rfl⟩
  · by_cases g2 : 4611686018427387903 < g
    · have HE : Hid (Num.full g c v = -1) := full_bad (by omega)
      go_enter Try.func22, Try.ntmps22
      go_wp2_with fail
      go_ret
      exact ⟨num_ret_int HE.out.symm, rfl⟩
    · cases hv : Num.wide v with
      | false =>
        have HE : Hid (Num.full g c v = -1) := full_bad (by have := (Num.wide_not v).1 hv; omega)
        go_enter Try.func22, Try.ntmps22
        go_wp2_with (go_at_call 35; refine (wide_to hv _).mono ?_; rintro e w' ⟨rfl, rfl⟩)
        go_ret
        exact ⟨num_ret_int HE.out.symm, rfl⟩
      | true =>
        obtain ⟨v1, v2⟩ := (Num.wide_iff v).1 hv
        by_cases c1 : c < 0
        · have HE : Hid (Num.full g c v = -1) := full_bad (by omega)
          go_enter Try.func22, Try.ntmps22
          go_wp2_with (go_at_call 35; refine (wide_to hv _).mono ?_; rintro e w' ⟨rfl, rfl⟩)
          go_ret
          exact ⟨num_ret_int HE.out.symm, rfl⟩
        · have hs0 := Num.sz_lo v
          have hs1 := Num.sz_hi v
          have hbad : ¬ c < Num.sz v → Num.full g c v = -1 := fun h => full_bad (fun k => h k.2.2.2.2.2)
          have hnear := fun h => Num.near_bits (g + 1) c v (by omega) (by omega) (by omega) h
          have htold := fun h => Num.told_best_aux (g + 1) c (Num.sz v) (by omega) (by omega) (by omega) h (Num.sz_cases v)
          have hmod0 := Int.emod_nonneg (g + 1) (b := Num.sz v) (by omega)
          have hmod1 := Int.emod_lt_of_pos (g + 1) (b := Num.sz v) (by omega)
          have hmod2 : (g + 1) % Num.sz v ≤ g + 1 := by
            rcases Num.sz_cases v with h | h | h | h <;> rw [h] <;> omega
          have hfull : c < Num.sz v → Num.full g c v = Num.told (g + 1) c (Num.sz v) := fun h => by unfold Num.full; rw [if_pos ⟨by omega, by omega, v1, v2, by omega, h⟩]
          obtain ⟨s, hs⟩ : ∃ s, Num.sz v = s := ⟨_, rfl⟩
          rw [hs] at hs0 hs1 hbad hnear htold hmod0 hmod1 hmod2 hfull
          have HS : Hid _ := hs
          clear hs
          by_cases c2 : c < s
          · have hx := hnear c2
            obtain ⟨x, hxx⟩ : ∃ x, g + 1 - (g + 1) % s + c = x := ⟨_, rfl⟩
            rw [hxx] at hx htold
            have hx0 : 0 ≤ x := by omega
            have hx1 : x ≤ 4611686022722355200 := by omega
            have HF : Hid _ := (htold c2).trans (hfull c2).symm
            have HX : Hid _ := hx
            have i0 : ∀ w : World, (Instr.index 65 (.agg #[.int .i64 (x + s), .int .i64 x, .int .i64 (x - s)]) (.int .i64 0)).run Try.prog w = .ok (.int .i64 (x + s)) w := fun _ => by kernel_rfl
            have i1 : ∀ w : World, (Instr.index 65 (.agg #[.int .i64 (x + s), .int .i64 x, .int .i64 (x - s)]) (.int .i64 1)).run Try.prog w = .ok (.int .i64 x) w := fun _ => by kernel_rfl
            have i2 : ∀ w : World, (Instr.index 65 (.agg #[.int .i64 (x + s), .int .i64 x, .int .i64 (x - s)]) (.int .i64 2)).run Try.prog w = .ok (.int .i64 (x - s)) w := fun _ => by kernel_rfl
            clear hmod0 hmod1 hmod2 hnear htold hfull hbad hxx
            go_enter Try.func22, Try.ntmps22
            go_wp2_with (first | (go_at_call 35; refine (wide_to hv _).mono ?_; rintro e w' ⟨rfl, rfl⟩) | (go_at_call 36; refine (window_to v1 v2 HS.out _).mono ?_; rintro e w' ⟨rfl, rfl⟩))
            go_loop [10, 52] (fun best i => ∃ (k : Nat) (b : Int), k ≤ 3 ∧ i = .int .i64 k ∧ best = .int .i64 b ∧ IsBest (g + 1) x s k b) (fun _ i => 3 - (intOf i).toNat)
            case atStart => exact ⟨0, -1, by omega, rfl, rfl, isBest0 _ _ _⟩
            case round =>
              obtain ⟨k, b, hk, rfl, rfl, hB⟩ := hrel
              obtain rfl | rfl | rfl | rfl : k = 0 ∨ k = 1 ∨ k = 2 ∨ k = 3 := by omega
              · have hb1 := hB.2.1
                have hb2 := hB.2.2
                cases hy : Num.num (x + s) with
                | false =>
                  have HN : Hid _ := isBest1 hB (Num.pick_no (Or.inl hy))
                  go_wp2_with (go_at_call 37; refine (number_to hy _).mono ?_; rintro e w' ⟨rfl, rfl⟩)
                  go_round
                  case rel => exact ⟨1, b, by omega, rfl, rfl, HN.out⟩
                  case measure => simp [intOf]
                | true =>
                  obtain ⟨y1, y2⟩ := (Num.num_iff _).1 hy
                  by_cases hbn : b < 0
                  · have HN : Hid _ := isBest1 hB (Num.pick_yes hy (Or.inl hbn))
                    go_wp2_with (go_at_call 37; refine (number_to hy _).mono ?_; rintro e w' ⟨rfl, rfl⟩)
                    go_round
                    case rel => exact ⟨1, _, by omega, rfl, rfl, HN.out⟩
                    case measure => simp [intOf]
                  · have hb0 : 0 ≤ b := by omega
                    obtain ⟨p, hp⟩ : ∃ p, Num.off (x + s) (g + 1) = p := ⟨_, rfl⟩
                    obtain ⟨q, hq⟩ : ∃ q, Num.off b (g + 1) = q := ⟨_, rfl⟩
                    by_cases hpq : p < q
                    · have HN : Hid _ := isBest1 hB (Num.pick_yes hy (Or.inr (by rw [hp, hq]; exact hpq)))
                      have HP : Hid _ := hp
                      have HQ : Hid _ := hq
                      clear hp hq hbn
                      go_wp2_with fail
                      refine (number_to hy _).mono ?_
                      rintro e w' ⟨rfl, rfl⟩
                      go_wp2_with fail
                      refine (off_to (by omega) (by omega) (by omega) (by omega) HP.out _).mono ?_
                      rintro e w' ⟨rfl, rfl⟩
                      go_wp2_with fail
                      refine (off_to (by omega) (by omega) (by omega) (by omega) HQ.out _).mono ?_
                      rintro e w' ⟨rfl, rfl⟩
                      go_wp2_with fail
                      go_round
                      case rel => exact ⟨1, _, by omega, rfl, rfl, HN.out⟩
                      case measure => simp [intOf]
                    · have HN : Hid _ := isBest1 hB (Num.pick_no (Or.inr ⟨hb0, by rw [hp, hq]; omega⟩))
                      have HP : Hid _ := hp
                      have HQ : Hid _ := hq
                      clear hp hq hbn
                      go_wp2_with fail
                      refine (number_to hy _).mono ?_
                      rintro e w' ⟨rfl, rfl⟩
                      go_wp2_with fail
                      refine (off_to (by omega) (by omega) (by omega) (by omega) HP.out _).mono ?_
                      rintro e w' ⟨rfl, rfl⟩
                      go_wp2_with fail
                      refine (off_to (by omega) (by omega) (by omega) (by omega) HQ.out _).mono ?_
                      rintro e w' ⟨rfl, rfl⟩
                      go_wp2_with fail
                      go_round
                      case rel => exact ⟨1, b, by omega, rfl, rfl, HN.out⟩
                      case measure => simp [intOf]
              · have hb1 := hB.2.1
                have hb2 := hB.2.2
                cases hy : Num.num (x) with
                | false =>
                  have HN : Hid _ := isBest2 hB (Num.pick_no (Or.inl hy))
                  go_wp2_with (go_at_call 37; refine (number_to hy _).mono ?_; rintro e w' ⟨rfl, rfl⟩)
                  go_round
                  case rel => exact ⟨2, b, by omega, rfl, rfl, HN.out⟩
                  case measure => simp [intOf]
                | true =>
                  obtain ⟨y1, y2⟩ := (Num.num_iff _).1 hy
                  by_cases hbn : b < 0
                  · have HN : Hid _ := isBest2 hB (Num.pick_yes hy (Or.inl hbn))
                    go_wp2_with (go_at_call 37; refine (number_to hy _).mono ?_; rintro e w' ⟨rfl, rfl⟩)
                    go_round
                    case rel => exact ⟨2, _, by omega, rfl, rfl, HN.out⟩
                    case measure => simp [intOf]
                  · have hb0 : 0 ≤ b := by omega
                    obtain ⟨p, hp⟩ : ∃ p, Num.off (x) (g + 1) = p := ⟨_, rfl⟩
                    obtain ⟨q, hq⟩ : ∃ q, Num.off b (g + 1) = q := ⟨_, rfl⟩
                    by_cases hpq : p < q
                    · have HN : Hid _ := isBest2 hB (Num.pick_yes hy (Or.inr (by rw [hp, hq]; exact hpq)))
                      have HP : Hid _ := hp
                      have HQ : Hid _ := hq
                      clear hp hq hbn
                      go_wp2_with fail
                      refine (number_to hy _).mono ?_
                      rintro e w' ⟨rfl, rfl⟩
                      go_wp2_with fail
                      refine (off_to (by omega) (by omega) (by omega) (by omega) HP.out _).mono ?_
                      rintro e w' ⟨rfl, rfl⟩
                      go_wp2_with fail
                      refine (off_to (by omega) (by omega) (by omega) (by omega) HQ.out _).mono ?_
                      rintro e w' ⟨rfl, rfl⟩
                      go_wp2_with fail
                      go_round
                      case rel => exact ⟨2, _, by omega, rfl, rfl, HN.out⟩
                      case measure => simp [intOf]
                    · have HN : Hid _ := isBest2 hB (Num.pick_no (Or.inr ⟨hb0, by rw [hp, hq]; omega⟩))
                      have HP : Hid _ := hp
                      have HQ : Hid _ := hq
                      clear hp hq hbn
                      go_wp2_with fail
                      refine (number_to hy _).mono ?_
                      rintro e w' ⟨rfl, rfl⟩
                      go_wp2_with fail
                      refine (off_to (by omega) (by omega) (by omega) (by omega) HP.out _).mono ?_
                      rintro e w' ⟨rfl, rfl⟩
                      go_wp2_with fail
                      refine (off_to (by omega) (by omega) (by omega) (by omega) HQ.out _).mono ?_
                      rintro e w' ⟨rfl, rfl⟩
                      go_wp2_with fail
                      go_round
                      case rel => exact ⟨2, b, by omega, rfl, rfl, HN.out⟩
                      case measure => simp [intOf]
              · have hb1 := hB.2.1
                have hb2 := hB.2.2
                cases hy : Num.num (x - s) with
                | false =>
                  have HN : Hid _ := isBest3 hB (Num.pick_no (Or.inl hy))
                  go_wp2_with (go_at_call 37; refine (number_to hy _).mono ?_; rintro e w' ⟨rfl, rfl⟩)
                  go_round
                  case rel => exact ⟨3, b, by omega, rfl, rfl, HN.out⟩
                  case measure => simp [intOf]
                | true =>
                  obtain ⟨y1, y2⟩ := (Num.num_iff _).1 hy
                  by_cases hbn : b < 0
                  · have HN : Hid _ := isBest3 hB (Num.pick_yes hy (Or.inl hbn))
                    go_wp2_with (go_at_call 37; refine (number_to hy _).mono ?_; rintro e w' ⟨rfl, rfl⟩)
                    go_round
                    case rel => exact ⟨3, _, by omega, rfl, rfl, HN.out⟩
                    case measure => simp [intOf]
                  · have hb0 : 0 ≤ b := by omega
                    obtain ⟨p, hp⟩ : ∃ p, Num.off (x - s) (g + 1) = p := ⟨_, rfl⟩
                    obtain ⟨q, hq⟩ : ∃ q, Num.off b (g + 1) = q := ⟨_, rfl⟩
                    by_cases hpq : p < q
                    · have HN : Hid _ := isBest3 hB (Num.pick_yes hy (Or.inr (by rw [hp, hq]; exact hpq)))
                      have HP : Hid _ := hp
                      have HQ : Hid _ := hq
                      clear hp hq hbn
                      go_wp2_with fail
                      refine (number_to hy _).mono ?_
                      rintro e w' ⟨rfl, rfl⟩
                      go_wp2_with fail
                      refine (off_to (by omega) (by omega) (by omega) (by omega) HP.out _).mono ?_
                      rintro e w' ⟨rfl, rfl⟩
                      go_wp2_with fail
                      refine (off_to (by omega) (by omega) (by omega) (by omega) HQ.out _).mono ?_
                      rintro e w' ⟨rfl, rfl⟩
                      go_wp2_with fail
                      go_round
                      case rel => exact ⟨3, _, by omega, rfl, rfl, HN.out⟩
                      case measure => simp [intOf]
                    · have HN : Hid _ := isBest3 hB (Num.pick_no (Or.inr ⟨hb0, by rw [hp, hq]; omega⟩))
                      have HP : Hid _ := hp
                      have HQ : Hid _ := hq
                      clear hp hq hbn
                      go_wp2_with fail
                      refine (number_to hy _).mono ?_
                      rintro e w' ⟨rfl, rfl⟩
                      go_wp2_with fail
                      refine (off_to (by omega) (by omega) (by omega) (by omega) HP.out _).mono ?_
                      rintro e w' ⟨rfl, rfl⟩
                      go_wp2_with fail
                      refine (off_to (by omega) (by omega) (by omega) (by omega) HQ.out _).mono ?_
                      rintro e w' ⟨rfl, rfl⟩
                      go_wp2_with fail
                      go_round
                      case rel => exact ⟨3, b, by omega, rfl, rfl, HN.out⟩
                      case measure => simp [intOf]
              · have HE : Hid (Num.full g c v = b) := HF.out.symm.trans hB.1
                go_wp2_with fail
                go_ret
                exact ⟨num_ret_int HE.out.symm, rfl⟩
          · have HE : Hid (Num.full g c v = -1) := hbad c2
            clear hbad hnear htold hmod0 hmod1 hmod2 hfull
            go_enter Try.func22, Try.ntmps22
            go_wp2_with (first | (go_at_call 35; refine (wide_to hv _).mono ?_; rintro e w' ⟨rfl, rfl⟩) | (go_at_call 36; refine (window_to v1 v2 HS.out _).mono ?_; rintro e w' ⟨rfl, rfl⟩))
            go_ret
            exact ⟨num_ret_int HE.out.symm, rfl⟩
theorem tmod_emod (a b : Int) : a.tmod b % b = a % b := by
  rw [Int.tmod_def, Int.sub_emod, Int.mul_emod_right, Int.sub_zero, Int.emod_emod]
theorem neg_lt_tmod (a b : Int) (h : 0 < b) : -b < a.tmod b := by
  have h1 := Int.tmod_lt_of_pos (-a) h
  rw [Int.neg_tmod] at h1
  omega

theorem reffull_any (g c v : Int) (w : World) : Calls Try.prog 23 #[.int .i64 g, .int .i64 c, .int .i64 v] w fun e w' => e = .returned (.int .i64 (Num.full g c v)) ∧ w = w' := by
  by_cases g1 : g < -1
  · have HE : Hid (Num.full g c v = -1) := full_bad (by omega)
    go_enter Try.func23, Try.ntmps23
    go_wp2_with fail
    go_ret
    exact ⟨num_ret_int HE.out.symm, rfl⟩
  · by_cases g2 : 4611686018427387903 < g
    · have HE : Hid (Num.full g c v = -1) := full_bad (by omega)
      go_enter Try.func23, Try.ntmps23
      go_wp2_with fail
      go_ret
      exact ⟨num_ret_int HE.out.symm, rfl⟩
    · by_cases v1 : v < 1
      · have HE : Hid (Num.full g c v = -1) := full_bad (by omega)
        go_enter Try.func23, Try.ntmps23
        go_wp2_with fail
        go_ret
        exact ⟨num_ret_int HE.out.symm, rfl⟩
      · by_cases v2 : 4 < v
        · have HE : Hid (Num.full g c v = -1) := full_bad (by omega)
          go_enter Try.func23, Try.ntmps23
          go_wp2_with fail
          go_ret
          exact ⟨num_ret_int HE.out.symm, rfl⟩
        · by_cases c1 : c < 0
          · have HE : Hid (Num.full g c v = -1) := full_bad (by omega)
            go_enter Try.func23, Try.ntmps23
            go_wp2_with fail
            go_ret
            exact ⟨num_ret_int HE.out.symm, rfl⟩
          · have w1 : 1 ≤ v := by omega
            have w2 : v ≤ 4 := by omega
            have hs0 := Num.sz_lo v
            have hs1 := Num.sz_hi v
            have hbad : ¬ c < Num.sz v → Num.full g c v = -1 := fun h => full_bad (fun k => h k.2.2.2.2.2)
            have hfull : c < Num.sz v → Num.full g c v = Num.told (g + 1) c (Num.sz v) := fun h => by unfold Num.full; rw [if_pos ⟨by omega, by omega, w1, w2, by omega, h⟩]
            obtain ⟨s, hs⟩ : ∃ s, Num.sz v = s := ⟨_, rfl⟩
            rw [hs] at hs0 hs1 hbad hfull
            have HS : Hid _ := hs
            clear hs
            by_cases c2 : c < s
            · have HF : Hid _ := hfull c2
              clear hfull hbad
              have hu : ((g + 1 - c).tmod s + s) % s = (g + 1 - c) % s := by rw [Int.add_emod_right, tmod_emod]
              have ht1 := Int.tmod_lt_of_pos (g + 1 - c) (b := s) (by omega)
              have ht0 := neg_lt_tmod (g + 1 - c) s (by omega)
              have hu0 := Int.emod_nonneg (g + 1 - c) (b := s) (by omega)
              have hu1 := Int.emod_lt_of_pos (g + 1 - c) (b := s) (by omega)
              have HT : Hid (Num.full g c v = if 4611686018427387903 < g + 1 - (g + 1 - c) % s then g + 1 - (g + 1 - c) % s - s
                else if g + 1 - (g + 1 - c) % s < 0 ∨ (g + 1 - (g + 1 - c) % s + s - (g + 1) ≤ g + 1 - (g + 1 - (g + 1 - c) % s) ∧ g + 1 - (g + 1 - c) % s + s ≤ 4611686018427387903) then g + 1 - (g + 1 - c) % s + s
                else g + 1 - (g + 1 - c) % s) := HF.out
              obtain ⟨u, hue⟩ : ∃ u, (g + 1 - c) % s = u := ⟨_, rfl⟩
              obtain ⟨t, hte⟩ : ∃ t, (g + 1 - c).tmod s = t := ⟨_, rfl⟩
              rw [hue] at hu hu0 hu1 HT
              rw [hte] at hu ht0 ht1
              have hu2 : (t + s).tmod s = u := by rw [Int.tmod_eq_emod_of_nonneg (by omega)]; exact hu
              have HUE : Hid _ := hue
              clear hue HF
              go_enter Try.func23, Try.ntmps23
              go_wp2_with (go_at_call 39; refine (power_to w1 w2 HS.out _).mono ?_; rintro e w' ⟨rfl, rfl⟩)
              all_goals go_ret
              all_goals exact ⟨num_ret_int (by rw [HT.out]; (repeat' split) <;> omega), rfl⟩
            · have HE : Hid (Num.full g c v = -1) := hbad c2
              clear hbad hfull
              go_enter Try.func23, Try.ntmps23
              go_wp2_with (go_at_call 39; refine (power_to w1 w2 HS.out _).mono ?_; rintro e w' ⟨rfl, rfl⟩)
              go_ret
              exact ⟨num_ret_int HE.out.symm, rfl⟩
theorem full_to {g c v r : Int} (h : Num.full g c v = r) (w : World) : Calls Try.prog 22 #[.int .i64 g, .int .i64 c, .int .i64 v] w fun e w' => e = .returned (.int .i64 r) ∧ w = w' := by
  subst h; exact full_any g c v w
theorem reffull_to {g c v r : Int} (h : Num.full g c v = r) (w : World) : Calls Try.prog 23 #[.int .i64 g, .int .i64 c, .int .i64 v] w fun e w' => e = .returned (.int .i64 r) ∧ w = w' := by
  subst h; exact reffull_any g c v w

theorem awake_num (w : World) : Calls Try.prog 24 #[] w fun e w' => e = .returned (.bool true) ∧ w = w' := by
  go_enter Try.func24, Try.ntmps24
  go_wp2_with fail
  refine (full_to (r := 2821692210) (by decide +kernel) _).mono ?_
  rintro e w' ⟨rfl, rfl⟩
  go_wp2_with fail
  refine (width_to (r := 2) (by decide +kernel) _).mono ?_
  rintro e w' ⟨rfl, rfl⟩
  go_wp2_with fail
  go_ret
  exact ⟨rfl, rfl⟩

/-- The law PnumFulls. -/
theorem fulls_any (g c v : Int) (w : World) : Calls Try.prog 7 #[.int .i64 g, .int .i64 c, .int .i64 v] w fun e w' => e = .returned (.bool true) ∧ w = w' := by
  obtain ⟨r, hr⟩ : ∃ r, Num.full g c v = r := ⟨_, rfl⟩
  have HR : Hid _ := hr
  clear hr
  go_enter Try.func7, Try.ntmps7
  go_wp2_with fail
  refine (full_to HR.out _).mono ?_
  rintro e w' ⟨rfl, rfl⟩
  go_wp2_with fail
  refine (reffull_to HR.out _).mono ?_
  rintro e w' ⟨rfl, rfl⟩
  go_wp2_with fail
  refine (awake_num _).mono ?_
  rintro e w' ⟨rfl, rfl⟩
  go_wp2_with fail
  go_ret
  exact ⟨rfl, rfl⟩

/-- The law PnumWidths. -/
theorem widths_any (n a v : Int) (w : World) : Calls Try.prog 12 #[.int .i64 n, .int .i64 a, .int .i64 v] w fun e w' => e = .returned (.bool true) ∧ w = w' := by
  obtain ⟨r, hr⟩ : ∃ r, Num.width n a = r := ⟨_, rfl⟩
  have HR : Hid _ := hr
  obtain ⟨q, hq⟩ : ∃ q, Num.cut n v = q := ⟨_, rfl⟩
  have HQ : Hid _ := hq
  clear hr hq
  go_enter Try.func12, Try.ntmps12
  go_wp2_with fail
  refine (width_to HR.out _).mono ?_
  rintro e w' ⟨rfl, rfl⟩
  go_wp2_with fail
  refine (refwidth_to HR.out _).mono ?_
  rintro e w' ⟨rfl, rfl⟩
  go_wp2_with fail
  refine (cut_to HQ.out _).mono ?_
  rintro e w' ⟨rfl, rfl⟩
  go_wp2_with fail
  refine (refcut_to HQ.out _).mono ?_
  rintro e w' ⟨rfl, rfl⟩
  go_wp2_with fail
  refine (awake_num _).mono ?_
  rintro e w' ⟨rfl, rfl⟩
  go_wp2_with fail
  go_ret
  exact ⟨rfl, rfl⟩

end Go.Proofs.Ytlcbpcemdipmfaa
