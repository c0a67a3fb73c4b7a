/-
  The walk of the law StrikeFull: behind as many as there is room for nothing is taken, until something is old. Conditions: those of the kinds of the two numbers.
-/
import Derived.Test.YtlcbpcemdipmfaaStrWalks
namespace Go.Proofs.Ytlcbpcemdipmfaa
open Go.RowKit Go.Maps
namespace Str

/-- The numbers from 1 to k, made at 5. -/
def fill (k : Nat) : List (Int × Int) := (List.range k).map fun (i : Nat) => ((i : Int) + 1, (5 : Int))

theorem fill_length (k : Nat) : (fill k).length = k := by simp [fill]
theorem fill_succ (k : Nat) : fill (k + 1) = fill k ++ [((k : Int) + 1, 5)] := by simp [fill, List.range_succ]
theorem fill_mem {k : Nat} {p : Int × Int} (h : p ∈ fill k) : 1 ≤ p.1 ∧ p.1 ≤ k ∧ p.2 = 5 := by
  unfold fill at h
  obtain ⟨i, hi, rfl⟩ := List.mem_map.1 h
  have := List.mem_range.1 hi
  simp
  omega
theorem fill_held {k : Nat} {n : Int} (h : (k : Int) < n) : held (fill k) n = false := by
  rw [held, List.any_eq_false]
  intro p hp e
  have := fill_mem hp
  have e : p.1 = n := by simpa using e
  omega
theorem fill_sweep {W : Int} (k : Nat) (h : 0 ≤ W) : sweep W 5 (fill k) = fill k := by
  unfold sweep
  rw [List.filter_eq_self]
  intro p hp
  have := fill_mem hp
  unfold keep
  simp
  omega
theorem fill_gone {W : Int} (k : Nat) : sweep W (5 + W + 1) (fill k) = [] := by
  unfold sweep
  rw [List.filter_eq_nil_iff]
  intro p hp
  have := fill_mem hp
  unfold keep
  simp
  omega

theorem tried_fill {W R : Int} {k : Nat} (hW : 0 ≤ W) (hk : (k : Int) < R) : tried W R (fill k) ((k : Int) + 1) 5 5 = (0, fill (k + 1)) := by
  unfold tried
  rw [if_neg (by omega), if_neg (by omega), fill_sweep k hW, fill_held (by omega), if_neg (by simp), fill_length, if_neg (by omega), fill_succ]
theorem tried_full {W : Int} {k : Nat} (hW : 0 ≤ W) (hk : (k : Int) < 1000) : tried W k (fill k) 1000 5 5 = (5, fill k) := by
  unfold tried
  rw [if_neg (by omega), if_neg (by omega), fill_sweep k hW, fill_held hk, if_neg (by simp), fill_length, if_pos (by omega)]
theorem tried_later {W : Int} {k : Nat} (hW : 0 ≤ W) (hk : 0 < k) : tried W k (fill k) 1000 (5 + W + 1) (5 + W + 1) = (0, [(1000, 5 + W + 1)]) := by
  unfold tried
  rw [if_neg (by omega), if_neg (by omega), fill_gone]
  rw [if_neg (by simp [held]), if_neg (by simp; omega)]
  rfl
theorem tried_none {W : Int} (hW : 0 ≤ W) : tried W 0 (fill 0) 1000 (5 + W + 1) (5 + W + 1) = (5, []) := by
  unfold tried
  rw [if_neg (by omega), if_neg (by omega), fill_gone]
  rw [if_neg (by simp [held]), if_pos (by simp)]

end Str

theorem wf64 {n : Int} (h : -9223372036854775808 ≤ n ∧ n ≤ 9223372036854775807) : (Lit.int .i64 n).wf = true := WalkArith.wf_i64 h

theorem full_walk (a : Int) (m : Nat) (ha0 : 0 ≤ a) (ha1 : a ≤ 255) (hm : m ≤ 255) (w : World) :
    Calls Try.prog 11 #[.int .u8 a, .int .u8 m] w fun e w' => e = .returned (.bool true) ∧ Below w.heap.size w w' := by
  have hm0 : (0 : Int) ≤ m := by omega
  have hm1 : (m : Int) ≤ 255 := by omega
  have hnew := new_store a m (by omega) w
  rw [show max a 0 = a from by omega, show min (max (m : Int) 0) 65536 = m from by omega] at hnew
  have HN := hnew
  clear hnew
  go_enter Try.func11, Try.ntmps11
  go_wp2_with fail
  refine HN.mono ?_
  rintro e w1 ⟨rfl, h1, b1, s1⟩
  have H1 : Hid (StoreAt w1 (w.heap.size + 1) w.heap.size a m []) := h1
  have S1 : Hid (w1.heap.size = w.heap.size + 2) := s1
  clear h1 s1 HN
  go_wp2_with fail
  go_loopw [6] (fun i wr => ∃ k : Nat, k ≤ m ∧ i = .int .i64 k ∧ StoreAt wr (w.heap.size + 1) w.heap.size a m (Str.fill k) ∧ Below w.heap.size w wr ∧ w.heap.size + 2 ≤ wr.heap.size) (fun i _ => m - (intOf i).toNat)
  case atStart => exact ⟨0, by omega, rfl, H1.out, b1, by rw [S1.out]; omega⟩
  case round =>
    clear b1
    obtain ⟨k, hk, rfl, hS, hB, hsz⟩ := hrel
    by_cases hlt : k < m
    · have HT : Hid _ := Str.tried_fill (W := a) (R := m) (k := k) ha0 (by omega)
      have hwf : (Lit.int .i64 ((k : Int) + 1)).wf = true := wf64 (by omega)
      have HWF : Hid _ := hwf
      clear hwf
      go_wp2_with fail
      refine (try_to hS HWF.out (by decide) (by decide) HT.out).mono ?_
      rintro e w2 ⟨rfl, h2, g2⟩
      go_wp2_with fail
      go_roundw
      case rel => exact ⟨k + 1, by omega, by go_num, h2, hB.grown g2 (by omega) (fun j hj => by cases hj; omega), Nat.le_trans hsz g2.size⟩
      case measure => simp [intOf]; omega
    · obtain rfl : k = m := by omega
      have HT : Hid _ := Str.tried_full (W := a) (k := k) ha0 (by omega)
      have hwl : (Lit.int .i64 (5 + a + 1)).wf = true := wf64 (by omega)
      have HWL : Hid _ := hwl
      clear hwl hlt hk
      by_cases hk0 : 0 < k
      · have HL : Hid _ := Str.tried_later (W := a) (k := k) ha0 hk0
        have hki : (0 : Int) < k := by omega
        clear hk0
        go_wp2_with fail
        refine (try_to hS (by decide) (by decide) (by decide) HT.out).mono ?_
        rintro e w2 ⟨rfl, h2, g2⟩
        go_wp2_with fail
        refine (many_to h2 (Str.fill_length k)).mono ?_
        rintro e w3 ⟨rfl, rfl⟩
        go_wp2_with fail
        refine (try_to h2 (by decide) HWL.out HWL.out HL.out).mono ?_
        rintro e w3 ⟨rfl, h3, g3⟩
        go_wp2_with fail
        refine (many_to (q := 1) h3 rfl).mono ?_
        rintro e w4 ⟨rfl, rfl⟩
        go_wp2_with fail
        refine (awake_str _).mono ?_
        rintro e w5 ⟨rfl, b5⟩
        go_wp2_with fail
        go_ret
        have hB2 := hB.grown g2 (by omega) (fun j hj => by cases hj; omega)
        have hs2 := g2.size
        have hB3 := hB2.grown g3 (by omega) (fun j hj => by cases hj; omega)
        exact ⟨rfl, hB3.trans (b5.mono hB3.size)⟩
      · obtain rfl : k = 0 := by omega
        have HL : Hid _ := Str.tried_none (W := a) ha0
        clear hk0
        go_wp2_with fail
        refine (try_to hS (by decide) (by decide) (by decide) HT.out).mono ?_
        rintro e w2 ⟨rfl, h2, g2⟩
        go_wp2_with fail
        refine (many_to h2 (Str.fill_length 0)).mono ?_
        rintro e w3 ⟨rfl, rfl⟩
        go_wp2_with fail
        refine (try_to h2 (by decide) HWL.out HWL.out HL.out).mono ?_
        rintro e w3 ⟨rfl, h3, g3⟩
        go_wp2_with fail
        refine (many_to (q := 0) h3 rfl).mono ?_
        rintro e w4 ⟨rfl, rfl⟩
        go_wp2_with fail
        refine (awake_str _).mono ?_
        rintro e w5 ⟨rfl, b5⟩
        go_wp2_with fail
        go_ret
        have hB2 := hB.grown g2 (by omega) (fun j hj => by cases hj; omega)
        have hs2 := g2.size
        have hB3 := hB2.grown g3 (by omega) (fun j hj => by cases hj; omega)
        exact ⟨rfl, hB3.trans (b5.mono hB3.size)⟩
end Go.Proofs.Ytlcbpcemdipmfaa
