/-
  Proved: 'Rows.WindowOldSaid': for every n and back the law WindowOld returns true and leaves its arguments as they were. No condition.
-/
import Derived.Test.YtlcbpcemdipmfaaWinWalks
import Derived.WalkKit
import Derived.ProofKit
import Derived.OpenShut
import Derived.ShutString
import Derived.ChangeOld
import Derived.Below
namespace Go.Proofs.Ytlcbpcemdipmfaa.windowOld
open Go.ChangeShapes Go.WideShapes Go.ChangeAt Go.RowKit
open Go.ChangeMaps (open_string shut_string)
set_option linter.unusedVariables false

theorem own : ownKnob Try.prog.godebug = none := by kernel_rfl
theorem laidOut : laidOutB Try.prog = true := by kernel_rfl

theorem Win.old_fresh (g k : Int) (h0 : 100 ≤ g) (h1 : g ≤ 4611686018427387903) (k0 : 0 ≤ k) (k1 : k < 100) : Win.fresh [g] (g - k) = (decide (1 ≤ k) && decide (k < 64)) := by
  have e : Win.top [g] = g := by unfold Win.top; simp; omega
  rw [Bool.eq_iff_iff, Win.fresh_iff, e]
  simp
  omega
theorem Win.first_fresh (g : Int) (h0 : 0 ≤ g) (h1 : g ≤ 4611686018427387903) : Win.fresh [] g = true := by
  rw [Win.fresh_iff]
  have e : Win.top [] = -1 := rfl
  rw [e]; simp; omega

theorem walk (a0 : Int) (a1 : Int) (w : World) (w0 : (Lit.int .u32 a0).wf = true) (w1 : (Lit.int .u16 a1).wf = true) :
    Calls Try.prog 6 #[.int .u32 a0, .int .u16 a1] w fun e w' => e = .returned (.bool true) ∧ Below w.heap.size w w' := by
  obtain ⟨l0, u0⟩ := bounds_u32 w0
  obtain ⟨l1, u1⟩ := bounds_u16 w1
  have HA : Hid (WinAt _ _ _ ) := win_new w
  have HF : Hid _ := Win.first_fresh (a0 + 100) (by omega) (by omega)
  have HM : Hid _ := Win.mark_true HF.out
  have HO : Hid _ := Win.old_fresh (a0 + 100) (a1 % 100) (by omega) (by omega) (by omega) (by omega)
  clear w0 w1
  by_cases hk : 1 ≤ a1 % 100
  · by_cases hk2 : a1 % 100 < 64
    · have HR : Hid (Win.fresh ([] ++ [a0 + 100]) (a0 + 100 - a1 % 100) = true) := HO.out.trans (by simp [hk, hk2])
      go_enter Try.func6, Try.ntmps6
      go_wp2_with fail
      refine (mark_to HA.out HF.out HM.out).mono ?_
      rintro e w1 ⟨rfl, h1, o1⟩
      go_wp2_with fail
      refine (fresh_to h1 HR.out).mono ?_
      rintro e w2 ⟨rfl, rfl⟩
      go_wp2_with fail
      refine (awake_win _).mono ?_
      rintro e w3 ⟨rfl, o3⟩
      go_wp2_with fail
      go_ret
      exact ⟨rfl, (((Below.refl _ _).alloc (Nat.le_refl _) _).trans (o1.below (Nat.le_refl _))).trans (o3.mono (by rw [o1.size]; simp))⟩
    · have HR : Hid (Win.fresh ([] ++ [a0 + 100]) (a0 + 100 - a1 % 100) = false) := HO.out.trans (by simp [hk2])
      go_enter Try.func6, Try.ntmps6
      go_wp2_with fail
      refine (mark_to HA.out HF.out HM.out).mono ?_
      rintro e w1 ⟨rfl, h1, o1⟩
      go_wp2_with fail
      refine (fresh_to h1 HR.out).mono ?_
      rintro e w2 ⟨rfl, rfl⟩
      go_wp2_with fail
      refine (awake_win _).mono ?_
      rintro e w3 ⟨rfl, o3⟩
      go_wp2_with fail
      go_ret
      exact ⟨ret_bool (by simp; omega), (((Below.refl _ _).alloc (Nat.le_refl _) _).trans (o1.below (Nat.le_refl _))).trans (o3.mono (by rw [o1.size]; simp))⟩
  · have HR : Hid (Win.fresh ([] ++ [a0 + 100]) (a0 + 100 - a1 % 100) = false) := HO.out.trans (by simp [hk])
    go_enter Try.func6, Try.ntmps6
    go_wp2_with fail
    refine (mark_to HA.out HF.out HM.out).mono ?_
    rintro e w1 ⟨rfl, h1, o1⟩
    go_wp2_with fail
    refine (fresh_to h1 HR.out).mono ?_
    rintro e w2 ⟨rfl, rfl⟩
    go_wp2_with fail
    refine (awake_win _).mono ?_
    rintro e w3 ⟨rfl, o3⟩
    go_wp2_with fail
    go_ret
    exact ⟨rfl, (((Below.refl _ _).alloc (Nat.le_refl _) _).trans (o1.below (Nat.le_refl _))).trans (o3.mono (by rw [o1.size]; simp))⟩

/-! ### THE ROW's STEP: WRITTEN OUT: LEAVE IT -/
set_option maxRecDepth 100000 in
theorem lifted (os : Os) (started : os.Started) (H : Type) (enc : TypeId × Value → H) :
    ReturnsInHanded {} Try.checked os 6 .any (Rows.windowOldSpec.pre6 enc Try.prog Try.f6 Rows.windowOldRow.domain false) (Rows.windowOldSpec.post enc Try.prog Try.f6 false true false false) := by
  refine returnsInHanded_of_change (C := Try.checked) own started (by kernel_rfl) Try.func6
    (ChangeSpec.witness6 (enc := enc) (C := Try.checked) false ⟨#[], #[.int .u32 0, .int .u16 0], []⟩ 8 (by kernel_rfl) (by kernel_rfl) (by kernel_rfl) (by kernel_rfl)) ?_
  intro W base args ds gs before hval0 hW hcnd _
  have hval : ∀ (j : Nat) t v, Try.f6.params[j]? = some t → args[j]? = some v → Value.okWide Try.prog W .any base t v := hval0
  have hW' := hW
  obtain ⟨p, q, hA0, hV, rfl, hfz, hnd⟩ := hW
  have hA : DataW.TrodAll enc Try.prog W 0 (fun _ => true) true Try.f6.params.toList args.toList ds p := hA0
  rw [Try.params6] at hA hval
  obtain ⟨v0, vs0, d0, ds0, p0, q0, hargs, rfl, rfl, h0, r0⟩ := trodAll_cons hA
  obtain ⟨v1, vs1, d1, ds1, p1, q1, rfl, rfl, rfl, h1, r1⟩ := trodAll_cons r0
  obtain ⟨rfl, rfl, rfl⟩ := trodAll_nil r1
  obtain rfl : args = #[v0, v1] := by cases args; simp_all
  obtain ⟨rfl, rfl⟩ := trodVars_none hV
  obtain ⟨a0, rfl, rfl, rfl, w0⟩ := open_int Try.underlying35 (hval 0 35 v0 rfl rfl) h0
  obtain ⟨a1, rfl, rfl, rfl, w1⟩ := open_int Try.underlying39 (hval 1 39 v1 rfl rfl) h1
  clear hA0 hval0
  refine (walk a0 a1 W w0 w1).mono fun e W' ⟨he, bel⟩ => ?_
  subst he
  exact ⟨_, rfl, _, _, _, [], _, [], hW', trodAll_mk1 (shut_bool Try.underlying4 _), (trodAll_cons_mk (shut_int Try.underlying35 w0) (trodAll_cons_mk (shut_int Try.underlying39 w1) trodAll_mk0)), rfl, bel.frame _, fun h => by cases h⟩

theorem over : Rows.windowOldRow.holds Try.pinned (OpenSpec.ofChange Rows.windowOldSpec) :=
  OpenClaim.holds_of_wide 6 Try.f6 rfl rfl rfl rfl rfl rfl rfl ⟨rfl, rfl, rfl, rfl, rfl⟩ rfl rfl rfl rfl rfl (by kernel_rfl) Try.func6 (by kernel_rfl)
    (of_decide_eq_true (by kernel_rfl)) (by unfold Func.isWrapper; first | (rw [if_pos (by decide +kernel)]; kernel_rfl) | (rw [if_neg (by decide +kernel)]; exact ⟨rfl, rfl⟩))
    (fun os started H enc _ => lifted os started H enc)

/-- ████ THE STATEMENT ████ -/
theorem proved : Rows.WindowOldSaid := over
#print axioms proved
end Go.Proofs.Ytlcbpcemdipmfaa.windowOld
