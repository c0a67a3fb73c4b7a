/-
  The walk of the law WindowMarks: the program's window and the reference's, told the same numbers, answer alike. No condition beyond what two slices of integers bear.
-/
import Derived.Test.YtlcbpcemdipmfaaWinRef
import Derived.Deep.RegionHeld3
namespace Go.Proofs.Ytlcbpcemdipmfaa
open Go.RowKit

set_option maxHeartbeats 1000000 in
theorem marks_any (a0 : Option Addr) (len0 cap0 : Nat) (z0 : List Int) (a1 : Option Addr) (len1 cap1 : Nat) (z1 : List Int) (w : World) (hm0 : len0 ≤ 9223372036854775807) (hm1 : len1 ≤ 9223372036854775807)
    (hs0 : len0 = 0 ∨ ∃ b off, a0 = some ⟨b, off, none⟩ ∧ b < w.heap.size ∧ ∀ j, j < len0 → w.cell? ⟨b, off + j, none⟩ = some (.int .i64 (z0.getD j 0)))
    (hs1 : len1 = 0 ∨ ∃ b off, a1 = some ⟨b, off, none⟩ ∧ b < w.heap.size ∧ ∀ j, j < len1 → w.cell? ⟨b, off + j, none⟩ = some (.int .i64 (z1.getD j 0))) :
    Calls Try.prog 3 #[.slice a0 len0 cap0, .slice a1 len1 cap1] w fun e w' => e = .returned (.bool true) ∧ Below w.heap.size w w' := by
  by_cases h200 : 200 < len0 ∨ 200 < len1
  · go_enter Try.func3, Try.ntmps3
    by_cases h1 : 200 < len0
    · go_wp2
      go_ret
      exact ⟨rfl, Below.refl _ _⟩
    · have h2 : 200 < len1 := by omega
      go_wp2
      go_ret
      exact ⟨rfl, Below.refl _ _⟩
  · have h1 : len0 ≤ 200 := by omega
    have h2 : len1 ≤ 200 := by omega
    have HS0 : Hid _ := hs0
    have HS1 : Hid _ := hs1
    have HA : Hid (WinAt _ _ _ ) := win_new w
    have hb := ref_new (w.alloc (.cells #[.int .i64 0, .int .u64 0] 26))
    have e1 : (w.alloc (.cells #[.int .i64 0, .int .u64 0] 26)).heap.size = w.heap.size + 1 := by simp
    rw [e1] at hb
    have HB : Hid (RefAt _ _ _ _) := hb
    clear hs0 hs1 hb e1 h200
    go_enter Try.func3, Try.ntmps3
    go_wp2_with fail
    go_loopw [7] (fun i wr => ∃ (k : Nat) (l : List Int), k ≤ len0 ∧ i = .int .i64 k ∧ WinAt wr w.heap.size l ∧ RefAt wr (w.heap.size + 1) (w.heap.size + 1 + 1) l ∧ l.length ≤ k ∧ Below w.heap.size w wr ∧ w.heap.size + 1 + 1 ≤ wr.heap.size) (fun i _ => len0 - (intOf i).toNat)
    case atStart => exact ⟨0, [], by omega, rfl, HA.out.kept (Below.heap_alloc _ _ _ (by simp)), HB.out, by simp, ((Below.refl _ _).alloc (Nat.le_refl _) _).alloc (by simp) _, by simp⟩
    case round =>
      obtain ⟨k, l, hk, rfl, hW, hR, hl, hB, hsz⟩ := hrel
      by_cases hlt : k < len0
      · obtain ⟨b, off, rfl, hb, hc⟩ := HS0.out.resolve_left (by omega)
        have hz := hc k hlt
        generalize z0.getD k 0 = z at hz
        have hz' := (hB.cell (p := ⟨b, off + k, none⟩) hb).trans hz
        have hne : b ≠ w.heap.size := by omega
        have hne1 : b ≠ w.heap.size + 1 := by omega
        have hb1 : b < w.heap.size + 1 + 1 := by omega
        have hll : l.length ≤ 1000 := by omega
        have hWd : WinAt wr.drew w.heap.size l := hW
        have hRd : RefAt wr.drew (w.heap.size + 1) (w.heap.size + 1 + 1) l := hR
        obtain ⟨r, hr⟩ : ∃ r, Win.fresh l z = r := ⟨_, rfl⟩
        obtain ⟨l', hl'⟩ : ∃ l', Win.mark l z = l' := ⟨_, rfl⟩
        obtain ⟨t, ht⟩ : ∃ t, Win.top l' = t := ⟨_, rfl⟩
        have HL : Hid (l'.length ≤ k + 1) := by have := Win.mark_length l z; rw [hl'] at this; show _ ≤ _; omega
        have HR : Hid _ := hr
        have HL' : Hid _ := hl'
        have HT : Hid _ := ht
        clear hr hl' ht hc HS0 HS1 HA HB hz
        cases r
        all_goals
          go_wp2_with fail
          go_region_held3 (fun w' => w'.cell? ⟨b, off + k, none⟩ = some (.int .i64 z)) (first | go_keep | exact (o2.cell hne).trans hz' | exact ((o3.cell hne1 hb1).trans (o2.cell hne)).trans hz')
            (first
              | (go_at_call 15; ((with_reducible refine (fresh_to hWd HR.out).mono ?_); rintro e w1 ⟨rfl, rfl⟩))
              | (go_at_call 16; ((with_reducible refine (reffresh_to hRd HR.out).mono ?_); rintro e w1 ⟨rfl, rfl⟩))
              | (go_at_call 17; ((with_reducible refine (mark_to hWd HR.out HL'.out).mono ?_); rintro e w2 ⟨rfl, hW2, o2⟩; have hR2 := hRd.kept (w' := w2) (fun k hk => o2.block k (by omega)); have hs2 : w.heap.size + 1 + 1 ≤ w2.heap.size := (by rw [o2.size]; exact hsz)))
              | (go_at_call 18; ((with_reducible refine (refmark_to hR2 hll hs2 HR.out HL'.out).mono ?_); rintro e w3 ⟨rfl, hR3, o3⟩; have hW3 := hW2.kept (w' := w3) (o3.block _ (by omega) (by omega))))
              | (go_at_call 19; ((with_reducible refine (greatest_to hW3 HT.out).mono ?_); rintro e w4 ⟨rfl, rfl⟩))
              | (go_at_call 20; ((with_reducible refine (refgreatest_to hR3 HT.out).mono ?_); rintro e w4 ⟨rfl, rfl⟩)))
          go_wp2
          go_roundw
          case rel => exact ⟨k + 1, l', by omega, by go_num, hW3, hR3, HL.out, (hB.drew.trans (o2.below (Nat.le_refl _))).trans (o3.below (by omega) (by omega)), Nat.le_trans hs2 o3.size⟩
          case measure => simp [intOf]; omega
      · clear hl HA HB HS0
        have HL0 : Hid _ := hlt
        clear hlt
        have hge : len0 ≤ k := Nat.le_of_not_lt HL0.out
        have hd : decide (k < len0) = false := by simp; omega
        go_wp2_with fail
        go_loopw [8] (fun i wr' => ∃ (k : Nat), k ≤ len1 ∧ i = .int .i64 k ∧ WinAt wr' w.heap.size l ∧ RefAt wr' (w.heap.size + 1) (w.heap.size + 1 + 1) l ∧ Below w.heap.size w wr') (fun i _ => len1 - (intOf i).toNat)
        case atStart => exact ⟨0, by omega, rfl, hW, hR, hB⟩
        case round =>
          clear hW hR hB hsz hge
          obtain ⟨j, hj, rfl, hW, hR, hB⟩ := hrel
          by_cases hlt : j < len1
          · obtain ⟨b, off, rfl, hb, hc⟩ := HS1.out.resolve_left (by omega)
            have hz := hc j hlt
            generalize z1.getD j 0 = z at hz
            rename World => wq
            have hz' := (hB.cell (p := ⟨b, off + j, none⟩) hb).trans hz
            obtain ⟨r, hr⟩ : ∃ r, Win.fresh l z = r := ⟨_, rfl⟩
            have hWd : WinAt wq.drew w.heap.size l := hW
            have hRd : RefAt wq.drew (w.heap.size + 1) (w.heap.size + 1 + 1) l := hR
            have HR : Hid _ := hr
            clear hr hc HS1 hz
            cases r
            all_goals
              go_wp2_with fail
              go_region_held3 (fun w' => w'.cell? ⟨b, off + j, none⟩ = some (.int .i64 z)) (go_keep)
                (first
                  | (go_at_call 15; ((with_reducible refine (fresh_to hWd HR.out).mono ?_); rintro e w1 ⟨rfl, rfl⟩))
                  | (go_at_call 16; ((with_reducible refine (reffresh_to hRd HR.out).mono ?_); rintro e w1 ⟨rfl, rfl⟩)))
              go_wp2
              go_roundw
              case rel => exact ⟨j + 1, by omega, by go_num, hW, hR, hB.drew⟩
              case measure => simp [intOf]; omega
          · go_wp2_with fail
            refine (fresh_nil _ _).mono ?_
            rintro e w1 ⟨rfl, rfl⟩
            go_wp2_with fail
            refine (mark_nil _ _).mono ?_
            rintro e w1 ⟨rfl, rfl⟩
            go_wp2_with fail
            refine (greatest_nil _).mono ?_
            rintro e w1 ⟨rfl, rfl⟩
            go_wp2_with fail
            refine (awake_win _).mono ?_
            rintro e w2 ⟨rfl, o2⟩
            go_wp2_with fail
            go_ret
            exact ⟨rfl, hB.trans (o2.mono hB.size)⟩
end Go.Proofs.Ytlcbpcemdipmfaa
