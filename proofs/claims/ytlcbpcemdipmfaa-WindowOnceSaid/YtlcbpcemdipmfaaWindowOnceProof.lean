/-
  Proved: 'Rows.WindowOnceSaid': for every input the law WindowOnce returns true and leaves its arguments as they were. No condition.
-/
import Derived.Test.YtlcbpcemdipmfaaWinMore
import Derived.Test.YtlcbpcemdipmfaaRowOf
import Derived.WalkKit
import Derived.ProofKit
import Derived.OpenShut
import Derived.ShutString
import Derived.ChangeOld
import Derived.Below
namespace Go.Proofs.Ytlcbpcemdipmfaa.windowOnce
open Go.ChangeShapes Go.WideShapes Go.ChangeAt Go.RowKit
open Go.ChangeMaps (open_string shut_string)
set_option linter.unusedVariables false

theorem own : ownKnob Try.prog.godebug = none := by kernel_rfl
theorem laidOut : laidOutB Try.prog = true := by kernel_rfl

theorem once_any (a : Option Addr) (len cap : Nat) (n : Int) (zs : List Int) (w : World) (hm : len ≤ 9223372036854775807)
    (hs : len = 0 ∨ ∃ b off, a = some ⟨b, off, none⟩ ∧ b < w.heap.size ∧ ∀ j, j < len → w.cell? ⟨b, off + j, none⟩ = some (.int .i64 (zs.getD j 0))) :
    Calls Try.prog 4 #[.slice a len cap, .int .i64 n] w fun e w' => e = .returned (.bool true) ∧ Below w.heap.size w w' := by
  by_cases h200 : 200 < len
  · go_enter Try.func4, Try.ntmps4
    go_wp2
    go_ret
    exact ⟨rfl, Below.refl _ _⟩
  · have HSL : Hid _ := hs
    clear hs
    · have HA : Hid (WinAt _ _ _ ) := win_new w
      go_enter Try.func4, Try.ntmps4
      go_wp2_with fail
      go_loopw [6, 7] (fun s i wr => ∃ (k : Nat) (l : List Int) (st : Bool), k ≤ len ∧ s = .bool st ∧ i = .int .i64 k ∧ WinAt wr w.heap.size l ∧ (st = true → Win.fresh l n = false) ∧ Below w.heap.size w wr) (fun _ i _ => len - (intOf i).toNat)
      case atStart => exact ⟨0, [], false, by omega, rfl, rfl, HA.out, by simp, (Below.refl _ _).alloc (Nat.le_refl _) _⟩
      case round =>
        obtain ⟨k, l, st, hk, rfl, rfl, hW, hst, hB⟩ := hrel
        by_cases hlt : k < len
        · obtain ⟨b, off, rfl, hb, hc⟩ := HSL.out.resolve_left (by omega)
          have hz := hc k hlt
          generalize zs.getD k 0 = z at hz
          have hz0 := (hB.cell (p := ⟨b, off + k, none⟩) hb).trans hz
          have HS : Hid _ := hst
          clear hst hc HSL
          have hf2 : Win.fresh (Win.mark l z) z = false := Win.fresh_marked l z
          have hm2 : Win.mark (Win.mark l z) z = Win.mark l z := Win.mark_marked l z
          have hr3 : st = true → Win.fresh (Win.mark l z) n = false := fun h => Win.fresh_mono z (HS.out h)
          have HF2 : Hid _ := hf2
          have HM2 : Hid _ := hm2
          have hne : b ≠ w.heap.size := by omega
          clear hf2 hm2
          obtain ⟨r, hr⟩ : ∃ r, Win.fresh l z = r := ⟨_, rfl⟩
          obtain ⟨r3, hr4⟩ : ∃ r, Win.fresh (Win.mark l z) n = r := ⟨_, rfl⟩
          have HR : Hid _ := hr
          have HR4 : Hid _ := hr4
          have HS3 : Hid (st = true → r3 = false) := fun h => by rw [← hr4]; exact hr3 h
          clear hr hr4 hr3 HS
          cases r <;> cases st <;> cases r3
          all_goals
            first
            | (exfalso; have := HS3.out rfl; cases this; done)
            | (go_wp2_with fail
               refine (fresh_to hW HR.out).mono ?_
               rintro e w1 ⟨rfl, rfl⟩
               go_wp2_with fail
               refine (mark_to hW HR.out rfl).mono ?_
               rintro e w2 ⟨rfl, hW2, o2⟩
               have hz2 := (o2.cell (p := ⟨b, off + k, none⟩) hne).trans hz0
               go_wp2_with fail
               refine (fresh_to hW2 HF2.out).mono ?_
               rintro e w3 ⟨rfl, rfl⟩
               go_wp2_with fail
               refine (mark_to hW2 HF2.out HM2.out).mono ?_
               rintro e w4 ⟨rfl, hW4, o4⟩
               go_wp2_with fail
               refine (fresh_to hW4 HR4.out).mono ?_
               rintro e w5 ⟨rfl, rfl⟩
               go_wp2_with fail
               go_roundw
               case rel => exact ⟨k + 1, Win.mark l z, _, by omega, rfl, by go_num, hW4, (by first | exact (fun _ => HR4.out) | simp), (hB.trans (o2.below (Nat.le_refl _))).trans (o4.below (Nat.le_refl _))⟩
               case measure => simp [intOf]; omega)
        · have hg := Win.fresh_next hW.nums
          have hg0 := Win.top_ge l
          have hg1 := Win.top_le l hW.nums
          obtain ⟨g, hG⟩ : ∃ g, Win.top l = g := ⟨_, rfl⟩
          rw [hG] at hg hg0 hg1
          have HG : Hid _ := hG
          clear hG hst HSL
          by_cases hgm : g = 4611686018427387903
          · have hgm' : (g == 4611686018427387903) = true := by simpa using hgm
            clear hgm hg
            go_wp2_with fail
            refine (greatest_to hW HG.out).mono ?_
            rintro e w1 ⟨rfl, rfl⟩
            go_wp2_with fail
            refine (awake_win _).mono ?_
            rintro e w2 ⟨rfl, o2⟩
            go_wp2_with fail
            go_ret
            exact ⟨rfl, hB.trans (o2.mono hB.size)⟩
          · have hgm' : (g == 4611686018427387903) = false := by simpa using hgm
            have HN : Hid _ := hg hgm
            clear hgm hg
            go_wp2_with fail
            refine (greatest_to hW HG.out).mono ?_
            rintro e w1 ⟨rfl, rfl⟩
            go_wp2_with fail
            refine (fresh_to hW HN.out).mono ?_
            rintro e w2 ⟨rfl, rfl⟩
            go_wp2_with fail
            refine (awake_win _).mono ?_
            rintro e w2 ⟨rfl, o2⟩
            go_wp2_with fail
            go_ret
            exact ⟨rfl, hB.trans (o2.mono hB.size)⟩
theorem walk (a0 : Option Addr) (len0 cap0 : Nat) (z0 : List Int) (a1 : Int) (w : World) (w0 : IsRow .i64 w a0 len0 cap0 z0) (w1 : (Lit.int .i64 a1).wf = true) :
    Calls Try.prog 4 #[.slice a0 len0 cap0, .int .i64 a1] w fun e w' => e = .returned (.bool true) ∧ Below w.heap.size w w' :=
  once_any a0 len0 cap0 a1 z0 w w0.len w0.form

set_option maxRecDepth 100000 in
theorem lifted (os : Os) (started : os.Started) (H : Type) (enc : TypeId × Value → H) :
    ReturnsInHanded {} Try.checked os 4 .any (Rows.windowOnceSpec.pre6 enc Try.prog Try.f4 Rows.windowOnceRow.domain false) (Rows.windowOnceSpec.post enc Try.prog Try.f4 false true false false) := by
  refine returnsInHanded_of_change (C := Try.checked) own started (by kernel_rfl) Try.func4
    (ChangeSpec.witness6 (enc := enc) (C := Try.checked) false ⟨#[], #[.slice none 0 0, .int .i64 0], []⟩ 8 (by kernel_rfl) (by kernel_rfl) (by kernel_rfl) (by kernel_rfl)) ?_
  intro W base args ds gs before hval0 hW hcnd _
  have hval : ∀ (j : Nat) t v, Try.f4.params[j]? = some t → args[j]? = some v → Value.okWide Try.prog W .any base t v := hval0
  have hW' := hW
  obtain ⟨p, q, hA0, hV, rfl, hfz, hnd⟩ := hW
  have hA : DataW.TrodAll enc Try.prog W 0 (fun _ => true) true Try.f4.params.toList args.toList ds p := hA0
  rw [Try.params4] at hA hval
  obtain ⟨v0, vs0, d0, ds0, p0, q0, hargs, rfl, rfl, h0, r0⟩ := trodAll_cons hA
  obtain ⟨v1, vs1, d1, ds1, p1, q1, rfl, rfl, rfl, h1, r1⟩ := trodAll_cons r0
  obtain ⟨rfl, rfl, rfl⟩ := trodAll_nil r1
  obtain rfl : args = #[v0, v1] := by cases args; simp_all
  obtain ⟨rfl, rfl⟩ := trodVars_none hV
  obtain ⟨a0, len0, cap0, rfl⟩ := okWide_slice Try.underlying22 (hval 0 22 v0 rfl rfl)
  have k0 := h0
  have lt0 : ∀ x ∈ p0, x.block < W.heap.size := by obtain ⟨m, hm⟩ := k0; exact DataW.trod_lt m _ _ _ hm
  obtain ⟨z0, w0⟩ : ∃ zs, IsRow .i64 W a0 len0 cap0 zs := by
    obtain ⟨fuel, hf⟩ := h0
    rcases open_ints Try.underlying22 Try.underlying3 (by kernel_rfl) hf with ⟨hcs, _⟩ | ⟨x, l, c, zs, hcs, _, hl, hm, hz, _, hcell, hwz⟩
    · simp [Value.cells] at hcs
      obtain ⟨rfl, rfl, rfl⟩ := hcs
      exact ⟨[], .inl ⟨rfl, rfl, rfl, rfl⟩⟩
    · simp [Value.cells] at hcs
      obtain ⟨rfl, rfl, rfl⟩ := hcs
      exact ⟨zs, .inr ⟨_, rfl, hl, hm, by simpa using hz, hcell, hwz⟩⟩
  obtain ⟨a1, rfl, rfl, rfl, w1⟩ := open_int Try.underlying3 (hval 1 3 v1 rfl rfl) h1
  clear hA0 hval0
  refine (walk a0 len0 cap0 z0 a1 W w0 w1).mono fun e W' ⟨he, bel⟩ => ?_
  subst he
  exact ⟨_, rfl, _, _, _, [], _, [], hW', trodAll_mk1 (shut_bool Try.underlying4 _), (trodAll_cons_mk (Below.trod laidOut (by kernel_rfl) (of_decide_eq_true (by kernel_rfl)) k0 bel lt0) (trodAll_cons_mk (shut_int Try.underlying3 w1) trodAll_mk0)), rfl, bel.frame _, fun h => by cases h⟩

theorem over : Rows.windowOnceRow.holds Try.pinned (OpenSpec.ofChange Rows.windowOnceSpec) :=
  OpenClaim.holds_of_wide 4 Try.f4 rfl rfl rfl rfl rfl rfl rfl ⟨rfl, rfl, rfl, rfl, rfl⟩ rfl rfl rfl rfl rfl (by kernel_rfl) Try.func4 (by kernel_rfl)
    (of_decide_eq_true (by kernel_rfl)) (by unfold Func.isWrapper; first | (rw [if_pos (by decide +kernel)]; kernel_rfl) | (rw [if_neg (by decide +kernel)]; exact ⟨rfl, rfl⟩))
    (fun os started H enc _ => lifted os started H enc)

/-- The given statement. -/
theorem proved : Rows.WindowOnceSaid := over
#print axioms proved
end Go.Proofs.Ytlcbpcemdipmfaa.windowOnce
