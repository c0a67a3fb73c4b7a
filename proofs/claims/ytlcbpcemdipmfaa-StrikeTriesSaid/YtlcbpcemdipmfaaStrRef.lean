/-
  The contracts of the reference's store (chapter 18): New and Try at a store whose one slice owns the list of what is held. Conditions: the numbers fit their kinds; at most 1000000 are held.
-/
import Derived.Test.YtlcbpcemdipmfaaStrWalks
namespace Go.Proofs.Ytlcbpcemdipmfaa
open Go.RowKit

/-- The cells of a list of what is held. -/
def flat (L : List (Int × Int)) : List Value := L.flatMap fun p => [.int .i64 p.1, .int .i64 p.2]

/-- Block c is the reference's store: its window, its room, and a slice that owns the list L. -/
def RefStore (w : World) (c : Nat) (W R : Int) (L : List (Int × Int)) : Prop := ∃ v, w.heap[c]? = some (.cells #[.int .i64 W, .int .i64 R, v] 56 (0, 0)) ∧ w.ownsRow 0 71 2 v L.length (flat L)

theorem flat_length (L : List (Int × Int)) : (flat L).length = L.length * 2 := by
  induction L with
  | nil => rfl
  | cons p r ih => simp only [flat, List.flatMap_cons, List.length_append, List.length_cons, List.length_nil] at ih ⊢; omega
theorem flat_append (L M : List (Int × Int)) : flat (L ++ M) = flat L ++ flat M := by simp [flat]
theorem flat_get (L : List (Int × Int)) : ∀ (j : Nat) (h : j < L.length), (flat L)[j * 2]? = some (.int .i64 L[j].1) ∧ (flat L)[j * 2 + 1]? = some (.int .i64 L[j].2) := by
  induction L with
  | nil => intro j h; cases h
  | cons p r ih =>
    intro j h
    have e : flat (p :: r) = .int .i64 p.1 :: .int .i64 p.2 :: flat r := rfl
    rw [e]
    cases j with
    | zero => exact ⟨rfl, rfl⟩
    | succ j =>
      have := ih j (by simpa using h)
      rw [show (j + 1) * 2 = j * 2 + 1 + 1 from by omega]
      simpa using this

theorem refnew_any (a b : Int) (w : World) : Calls Try.prog 26 #[.int .i64 a, .int .i64 b] w fun e w' =>
    e = .returned (.pointer (some ⟨w.heap.size, 0, none⟩)) ∧ w' = w.alloc (.cells #[.int .i64 (max a 0), .int .i64 (min (max b 0) 65536), .slice none 0 0] 56) := by
  by_cases h1 : a < 0
  · have HW : Hid (max a 0 = 0) := by show _ = _; omega
    by_cases h2 : b < 0
    · have HR : Hid (min (max b 0) 65536 = 0) := by show _ = _; omega
      go_enter Try.func26, Try.ntmps26
      go_wp2
      go_ret
      exact ⟨rfl, by rw [HW.out, HR.out]⟩
    · by_cases h3 : 65536 < b
      · have HR : Hid (min (max b 0) 65536 = 65536) := by show _ = _; omega
        go_enter Try.func26, Try.ntmps26
        go_wp2
        go_ret
        exact ⟨rfl, by rw [HW.out, HR.out]⟩
      · have HR : Hid (min (max b 0) 65536 = b) := by show _ = _; omega
        go_enter Try.func26, Try.ntmps26
        go_wp2
        go_ret
        exact ⟨rfl, by rw [HW.out, HR.out]⟩
  · have HW : Hid (max a 0 = a) := by show _ = _; omega
    by_cases h2 : b < 0
    · have HR : Hid (min (max b 0) 65536 = 0) := by show _ = _; omega
      go_enter Try.func26, Try.ntmps26
      go_wp2
      go_ret
      exact ⟨rfl, by rw [HW.out, HR.out]⟩
    · by_cases h3 : 65536 < b
      · have HR : Hid (min (max b 0) 65536 = 65536) := by show _ = _; omega
        go_enter Try.func26, Try.ntmps26
        go_wp2
        go_ret
        exact ⟨rfl, by rw [HW.out, HR.out]⟩
      · have HR : Hid (min (max b 0) 65536 = b) := by show _ = _; omega
        go_enter Try.func26, Try.ntmps26
        go_wp2
        go_ret
        exact ⟨rfl, by rw [HW.out, HR.out]⟩

/-- What the walk is told of the slice that owns L. -/
theorem flat_form {w : World} {base : Nat} {v : Value} {L : List (Int × Int)} (h : w.ownsRow base 71 2 v L.length (flat L)) :
    ∃ a cap, v = .slice a L.length cap ∧ L.length ≤ 9223372036854775807 ∧ (L.length = 0 ∨ ∃ g, a = some ⟨g, 0, none⟩ ∧ base ≤ g ∧ g < w.heap.size ∧
      ∀ j (hj : j < L.length), w.cell? ⟨g, j * 2, none⟩ = some (.int .i64 L[j].1) ∧ w.cell? ⟨g, j * 2 + 1, none⟩ = some (.int .i64 L[j].2)) := by
  obtain ⟨h1, h2⟩ := h
  rcases h2 with ⟨hv, hn⟩ | ⟨g, cap, cur, hv, hg, hh, h3, h4, h5, h6⟩
  · exact ⟨none, 0, by rw [hv, hn], by omega, Or.inl hn⟩
  · refine ⟨some ⟨g, 0, none⟩, cap, hv, by unfold maxLen at h4; omega, Or.inr ⟨g, rfl, hg, lt_of_block hh, fun j hj => ?_⟩⟩
    have e : ∀ i, i < L.length * 2 → cur[i]? = (flat L)[i]? := by
      intro i hi
      rw [← h6, List.getElem?_take, if_pos hi]
      simp
    obtain ⟨f1, f2⟩ := flat_get L j hj
    unfold World.cell?
    simp only [hh]
    exact ⟨by simpa using (e (j * 2) (by omega)).trans f1, by simpa using (e (j * 2 + 1) (by omega)).trans f2⟩

theorem RefStore.c0 {w : World} {c : Nat} {W R : Int} {v : Value} (h : w.heap[c]? = some (.cells #[.int .i64 W, .int .i64 R, v] 56 (0, 0))) : w.cell? ⟨c, 0, none⟩ = some (.int .i64 W) := by simp [World.cell?, h]
theorem RefStore.c1 {w : World} {c : Nat} {W R : Int} {v : Value} (h : w.heap[c]? = some (.cells #[.int .i64 W, .int .i64 R, v] 56 (0, 0))) : w.cell? ⟨c, 1, none⟩ = some (.int .i64 R) := by simp [World.cell?, h]
theorem RefStore.c2 {w : World} {c : Nat} {W R : Int} {v : Value} (h : w.heap[c]? = some (.cells #[.int .i64 W, .int .i64 R, v] 56 (0, 0))) : w.cell? ⟨c, 2, none⟩ = some v := by simp [World.cell?, h]
theorem RefStore.f {w : World} {c : Nat} {W R : Int} {v : Value} (h : w.heap[c]? = some (.cells #[.int .i64 W, .int .i64 R, v] 56 (0, 0))) (o : Nat) : w.frozen? ⟨c, o, none⟩ = false := by simp [World.frozen?, h]
theorem RefStore.set2 {w : World} {c : Nat} {W R : Int} {v u : Value} (h : w.heap[c]? = some (.cells #[.int .i64 W, .int .i64 R, v] 56 (0, 0))) : (w.setCell ⟨c, 2, none⟩ u).heap[c]? = some (.cells #[.int .i64 W, .int .i64 R, u] 56 (0, 0)) := by
  have hlt := lt_of_block h
  have h' : w.heap[c] = .cells #[.int .i64 W, .int .i64 R, v] 56 (0, 0) := by simpa [Array.getElem?_eq_getElem hlt] using h
  show (w.heap.modify c _)[c]? = _
  rw [Array.getElem?_eq_getElem (by simpa using hlt), Array.getElem_modify_self, h']
  rfl

theorem Try.info71 : (Try.prog.info? 71).map (fun i => (i.zero, i.size, i.bytes)) = some (some (.agg #[.int .i64 0, .int .i64 0]), 2, 16) := by kernel_rfl

theorem own_block_ge {w : World} {base e size n : Nat} {v : Value} {xs : List Value} (h : w.ownsRow base e size v n xs) (g : Nat) (hg : v.ownBlock = some g) : base ≤ g := by
  rcases h.2 with ⟨rfl, _⟩ | ⟨g', cap, cur, rfl, hg', _⟩
  · cases hg
  · simp [Value.ownBlock] at hg; omega
theorem owns_base {w : World} {base base' e size n : Nat} {v : Value} {xs : List Value} (h : w.ownsRow base e size v n xs) (hb : base' ≤ base) : w.ownsRow base' e size v n xs := by
  refine ⟨h.1, ?_⟩
  rcases h.2 with h2 | ⟨g, cap, cur, hv, hg, r⟩
  · exact Or.inl h2
  · exact Or.inr ⟨g, cap, cur, hv, by omega, r⟩

theorem sweep_keep {W now : Int} {l : List (Int × Int)} {q : Int × Int} (h : now - q.2 ≤ W) : Str.sweep W now (l ++ [q]) = Str.sweep W now l ++ [q] := by
  unfold Str.sweep; rw [List.filter_append]; simp [Str.keep, h]
theorem sweep_drop {W now : Int} {l : List (Int × Int)} {q : Int × Int} (h : ¬ now - q.2 ≤ W) : Str.sweep W now (l ++ [q]) = Str.sweep W now l := by
  unfold Str.sweep; rw [List.filter_append]; simp [Str.keep, h]

/-- n is not among the first k. -/
def NotIn (n : Int) (M : List (Int × Int)) (k : Nat) : Prop := ∀ p ∈ M.take k, p.1 ≠ n
theorem notIn_zero (n : Int) (M : List (Int × Int)) : NotIn n M 0 := by intro p h; simp at h
theorem notIn_step {n : Int} {M : List (Int × Int)} {k : Nat} (h : NotIn n M k) (hk : k < M.length) (hne : M[k].1 ≠ n) : NotIn n M (k + 1) := by
  intro p hp
  rw [List.take_succ_eq_append_getElem hk] at hp
  rcases List.mem_append.1 hp with hp | hp
  · exact h p hp
  · rw [List.mem_singleton] at hp; subst hp; exact hne
theorem notIn_end {n : Int} {M : List (Int × Int)} (h : NotIn n M M.length) : Str.held M n = false := by
  rw [Str.held, List.any_eq_false]
  intro p hp e
  exact h p (by rw [List.take_length]; exact hp) (by simpa using e)
theorem held_at {n : Int} {M : List (Int × Int)} {k : Nat} (hk : k < M.length) (he : M[k].1 = n) : Str.held M n = true := List.any_eq_true.2 ⟨M[k], List.getElem_mem hk, by simpa using he⟩

set_option maxHeartbeats 2000000 in
theorem reftry_loop {w : World} {c : Nat} {W R : Int} {L : List (Int × Int)} (h : RefStore w c W R L) (ht : Str.Times L) (hL : L.length ≤ 1000000) (n made now : Int) (h3 : 0 ≤ made) (h4 : 0 ≤ now) (hm1 : made ≤ 9223372036854775807) (hn1 : now ≤ 9223372036854775807) (h5 : made ≤ now) (h6 : now - made ≤ W) :
    Calls Try.prog 28 #[.pointer (some ⟨c, 0, none⟩), .int .i64 n, .int .i64 made, .int .i64 now] w fun e w' =>
      e = .returned (.int .i64 (Str.tried W R L n made now).1) ∧ RefStore w' c W R (Str.tried W R L n made now).2 ∧ w.grownBy w' (some c) := by
  obtain ⟨i0, hi, hz0, hz1, hz2⟩ := info_parts Try.info71
  have hw := h
  obtain ⟨v, hc, ho⟩ := h
  have hc0 := RefStore.c0 hc
  have hc1 := RefStore.c1 hc
  have hc2 := RefStore.c2 hc
  have HC : Hid _ := hc
  have hcl := lt_of_block hc
  obtain ⟨a, cap, rfl, hm, hf⟩ := flat_form ho
  have HF : Hid _ := hf
  clear hf hc ho
  go_enter Try.func28, Try.ntmps28
  go_wp2_with fail
  go_loopw [9, 10] (fun lv i wr => ∃ (k : Nat), k ≤ L.length ∧ i = .int .i64 k ∧ wr.ownsRow w.heap.size 71 2 lv (Str.sweep W now (L.take k)).length (flat (Str.sweep W now (L.take k))) ∧ Below w.heap.size w wr) (fun _ i _ => L.length - (intOf i).toNat)
  case atStart => exact ⟨0, by omega, rfl, World.ownsRow_nil _ _ _ _, Below.refl _ _⟩
  case round =>
    obtain ⟨k, hk, rfl, hown, hB⟩ := hrel
    have hk0 := (hB.cell (p := ⟨c, 0, none⟩) hcl).trans hc0
    have hk1 := (hB.cell (p := ⟨c, 1, none⟩) hcl).trans hc1
    have hk2 := (hB.cell (p := ⟨c, 2, none⟩) hcl).trans hc2
    by_cases hlt : k < L.length
    · obtain ⟨g, rfl, _, hg, hce⟩ := HF.out.resolve_left (by omega)
      have hz := hce k hlt
      obtain ⟨e1, e2⟩ := hz
      have e1' := (hB.cell (p := ⟨g, k * 2, none⟩) hg).trans e1
      have e2' := (hB.cell (p := ⟨g, k * 2 + 1, none⟩) hg).trans e2
      have hs : L.take (k + 1) = L.take k ++ [L[k]] := List.take_succ_eq_append_getElem hlt
      have htk := ht L[k] (List.getElem_mem hlt)
      generalize L[k] = q at e1' e2' hs htk
      obtain ⟨qn, qm⟩ := q
      obtain ⟨t0, t1⟩ := htk
      have HS : Hid _ := hs
      clear hce e1 e2 hc0 hc1 hc2 hs
      have hsl : (Str.sweep W now (L.take k)).length ≤ 1000000 := by have := Str.sweep_length W now (L.take k); have := List.length_take_le k L; omega
      have hbs := hB.size
      by_cases hd : now - qm ≤ W
      · have HK : Hid (Str.sweep W now (L.take (k + 1)) = Str.sweep W now (L.take k) ++ [(qn, qm)]) := by show _ = _; rw [HS.out]; exact sweep_keep hd
        obtain ⟨M, hM⟩ : ∃ M, Str.sweep W now (L.take k) = M := ⟨_, rfl⟩
        rw [hM] at hown HK hsl
        clear hM
        go_wp2_with fail
        go_region
        go_wp2_with (first
          | (at_builtin; refine wpList_append_own _ rfl _ _ 54 rfl w.heap.size 71 i0 (.agg #[.int .i64 0, .int .i64 0]) 2 16 Try.underlying54 hi hz0 hz1 hz2 rfl (by decide) _ _ _ rfl ((hown.drew).alloc _) ⟨wr.heap.size, 0, none⟩ 1 1 [.int .i64 qn, .int .i64 qm] rfl rfl ?c1 ?c2 ?c3 ?c4 ?c5 ?_))
        case c1 =>
          intro j u hj
          match j, hj with
          | 0, hj => simp at hj; subst hj; simp [Addr.add]
          | 1, hj => simp at hj; subst hj; simp [Addr.add]
        case c2 => intro u hu; simp at hu; rcases hu with rfl | rfl <;> rfl
        case c3 => unfold maxLen; omega
        case c4 => omega
        case c5 => simp; omega
        intro v' w2 hown' hgrow _
        have HB2 : Hid (Below w.heap.size w w2) := ((hB.alloc hbs _).drew).grown hgrow (by simp; omega) (fun j hj => own_block_ge hown j hj)
        have HO2 : Hid (w2.ownsRow w.heap.size 71 2 v' (Str.sweep W now (L.take (k + 1))).length (flat (Str.sweep W now (L.take (k + 1))))) := by
          show World.ownsRow _ _ _ _ _ _ _
          rw [HK.out, flat_append, List.length_append]; exact hown'
        clear hown' hgrow hown hB
        go_wp2
        go_roundw
        case rel => exact ⟨k + 1, by omega, by go_num, HO2.out, HB2.out⟩
        case measure => simp [intOf]; omega
      · have HK : Hid (Str.sweep W now (L.take (k + 1)) = Str.sweep W now (L.take k)) := by show _ = _; rw [HS.out]; exact sweep_drop hd
        go_wp2_with fail
        go_region
        go_wp2_with fail
        go_roundw
        case rel => exact ⟨k + 1, by omega, by go_num, by rw [HK.out]; exact hown, hB.drew⟩
        case measure => simp [intOf]; omega
    · have hkl : k = L.length := by omega
      have htk : L.take k = L := by rw [hkl, List.take_length]
      rw [htk] at hown
      obtain ⟨M, hM⟩ : ∃ M, Str.sweep W now L = M := ⟨_, rfl⟩
      have hML := Str.sweep_length W now L
      rw [hM] at hown hML
      have HM : Hid _ := hM
      obtain ⟨a', cap', rfl, hm', hf'⟩ := flat_form hown
      have HO : Hid _ := hown
      have HCR : Hid _ := (hB.block c hcl).trans HC.out
      have HBB : Hid (Below w.heap.size w wr) := hB
      have hkf := (RefStore.f HCR.out 2)
      have HT : Hid (Str.tried W R L n made now = if Str.held M n = true then (10, M) else if R ≤ (M.length : Int) then (5, M) else (0, M ++ [(n, made)])) := by
        show _ = _
        unfold Str.tried
        rw [if_neg (by omega), if_neg (by omega), hM]
      have HO : Hid (wr.ownsRow w.heap.size 71 2 (.slice a' M.length cap') M.length (flat M)) := hown
      have hdl : decide (k < L.length) = false := by simpa using hlt
      clear hf' hkl htk hM hown hw hB HF hc0 hc1 hc2 hlt
      go_wp2_with fail
      go_loopw [11] (fun i wx => ∃ (j : Nat), j ≤ M.length ∧ i = .int .i64 j ∧ NotIn n M j ∧ wx.ownsRow w.heap.size 71 2 (.slice a' M.length cap') M.length (flat M) ∧
        wx.heap[c]? = some (.cells #[.int .i64 W, .int .i64 R, .slice a' M.length cap'] 56 (0, 0)) ∧ w.grownBy wx (some c)) (fun i _ => M.length - (intOf i).toNat)
      case atStart => exact ⟨0, by omega, rfl, notIn_zero n M, ownsRow_setCell_below HO.out hcl _, RefStore.set2 HCR.out,
        ⟨HBB.out.os, HBB.out.tape, HBB.out.output, by have := HBB.out.size; simpa [World.setCell] using this, fun q hq hne => by rw [Below.heap_setCell _ _ _ _ (by simpa using hne)]; exact HBB.out.block q hq⟩⟩
      case round =>
        clear hk0 hk1 hk2 hkf hk
        obtain ⟨j, hj, rfl, hN, hown, hcx, hgx⟩ := hrel
        obtain ⟨a2, cap2, hv, _, hf⟩ := flat_form hown
        obtain ⟨rfl, rfl⟩ : a' = a2 ∧ cap' = cap2 := by injection hv with h1 _ h2; exact ⟨h1, h2⟩
        have HF : Hid _ := hf
        have HOX : Hid (World.ownsRow _ w.heap.size 71 2 (.slice a' M.length cap') M.length (flat M)) := hown
        have hx1 := RefStore.c1 hcx
        have hx2 := RefStore.c2 hcx
        have hxf := RefStore.f hcx 2
        have HCX : Hid _ := hcx
        clear hf hv hcx
        by_cases hlt : j < M.length
        · obtain ⟨g, rfl, _, hg, hce⟩ := HF.out.resolve_left (by omega)
          have hz := (hce j hlt).1
          have hst := @notIn_step n M j hN hlt
          have hat := @held_at n M j hlt
          generalize M[j].1 = z at hz hst hat
          have HST : Hid _ := hst
          have HAT : Hid _ := hat
          clear hce hst hat
          by_cases hzn : z = n
          · have hzb : (z == n) = true := by simpa using hzn
            have HR : Hid (Str.tried W R L n made now = (10, M)) := by show _ = _; rw [HT.out, if_pos (HAT.out hzn)]
            clear hzn
            go_wp2_with fail
            go_ret
            exact ⟨str_ret_int (by rw [HR.out]), by rw [HR.out]; exact ⟨_, HCX.out, owns_base hown (by omega)⟩, hgx⟩
          · have hzb : (z == n) = false := by simpa using hzn
            have HNN : Hid _ := HST.out hzn
            clear hzn
            go_wp2_with fail
            go_roundw
            case rel => exact ⟨j + 1, by omega, by go_num, HNN.out, hown, HCX.out, hgx⟩
            case measure => simp [intOf]; omega
        · have hjl : j = M.length := by omega
          have HNH : Hid (Str.held M n = false) := notIn_end (by rw [← hjl]; exact hN)
          have hdj : decide (j < M.length) = false := by simpa using hlt
          clear hjl hlt
          by_cases hfull : R ≤ (M.length : Int)
          · have HR : Hid (Str.tried W R L n made now = (5, M)) := by show _ = _; rw [HT.out, if_neg (by rw [HNH.out]; simp), if_pos hfull]
            go_wp2_with fail
            go_ret
            exact ⟨str_ret_int (by rw [HR.out]), by rw [HR.out]; exact ⟨_, HCX.out, owns_base hown (by omega)⟩, hgx⟩
          · have HR : Hid (Str.tried W R L n made now = (0, M ++ [(n, made)])) := by show _ = _; rw [HT.out, if_neg (by rw [HNH.out]; simp), if_neg hfull]
            have hgs := hgx.size
            rename World => wq
            go_wp2_with (first
              | (at_builtin; refine wpList_append_own _ rfl _ _ 54 rfl w.heap.size 71 i0 (.agg #[.int .i64 0, .int .i64 0]) 2 16 Try.underlying54 hi hz0 hz1 hz2 rfl (by decide) _ _ _ rfl (hown.alloc _) ⟨wq.heap.size, 0, none⟩ 1 1 [.int .i64 n, .int .i64 made] rfl rfl ?c1 ?c2 ?c3 ?c4 ?c5 ?_))
            case c2 => exact ⟨rfl, rfl⟩
            case c3 => unfold maxLen; omega
            case c4 => omega
            case c5 => omega
            intro v' w3 hown' hgrow hnn
            have hge := own_block_ge hown
            have hcq := lt_of_block HCX.out
            have hblk : ∀ q, q < w.heap.size → w3.heap[q]? = wq.heap[q]? := fun q hq =>
              (hgrow.block q (by simp; omega) (fun e => by have := hge q e.symm; omega)).trans (Below.heap_alloc _ _ _ (by omega))
            have hc3 := (hblk c hcl).trans HCX.out
            have HC3 : Hid _ := hc3
            have hk2 := RefStore.c2 hc3
            have hkf := RefStore.f hc3 2
            have HG3 : Hid (w.grownBy w3 (some c)) := ⟨hgrow.os.trans hgx.os, hgrow.tape.trans hgx.tape, hgrow.output.trans hgx.output, by have := hgrow.size; simp at this; omega, fun q hq hne => (hblk q hq).trans (hgx.block q hq hne)⟩
            have HO3 : Hid (w3.ownsRow w.heap.size 71 2 v' (M ++ [(n, made)]).length (flat (M ++ [(n, made)]))) := by
              show World.ownsRow _ _ _ _ _ _ _
              rw [flat_append, List.length_append]; exact hown'
            obtain ⟨a3, cap3, rfl, _, _⟩ := flat_form HO3.out
            clear hown' hgrow hnn hge hblk hc3 hown hgx hx1 hx2 hxf
            go_wp2
            go_ret
            have hfin : RefStore (w3.setCell ⟨c, 2, none⟩ (.slice a3 (M.length + 1) cap3)) c W R (M ++ [(n, made)]) := by
              refine ⟨_, RefStore.set2 HC3.out, ?_⟩
              have e : M.length + 1 = (M ++ [(n, made)]).length := by simp
              rw [e]
              exact owns_base (ownsRow_setCell_below HO3.out hcl _) (by omega)
            refine ⟨str_ret_int (by rw [HR.out]), by rw [HR.out]; exact hfin, ?_⟩
            exact ⟨HG3.out.os, HG3.out.tape, HG3.out.output, by have := HG3.out.size; simpa [World.setCell] using this, fun q hq hne => by rw [Below.heap_setCell _ _ _ _ (by simpa using hne)]; exact HG3.out.block q hq hne⟩
theorem reftry_any {w : World} {c : Nat} {W R : Int} {L : List (Int × Int)} (h : RefStore w c W R L) (ht : Str.Times L) (hL : L.length ≤ 1000000) (n made now : Int) (hm1 : made ≤ 9223372036854775807) (hn1 : now ≤ 9223372036854775807) :
    Calls Try.prog 28 #[.pointer (some ⟨c, 0, none⟩), .int .i64 n, .int .i64 made, .int .i64 now] w fun e w' =>
      e = .returned (.int .i64 (Str.tried W R L n made now).1) ∧ RefStore w' c W R (Str.tried W R L n made now).2 ∧ w.grownBy w' (some c) := by
  by_cases h1 : made < 0
  · have HE : Hid (Str.tried W R L n made now = (1, L)) := by show _ = _; unfold Str.tried; rw [if_pos (Or.inl h1)]
    go_enter Try.func28, Try.ntmps28
    go_wp2_with fail
    go_ret
    exact ⟨str_ret_int (by rw [HE.out]), by rw [HE.out]; exact h, grown_refl _ _⟩
  · by_cases h2 : now < 0
    · have HE : Hid (Str.tried W R L n made now = (1, L)) := by show _ = _; unfold Str.tried; rw [if_pos (Or.inr h2)]
      go_enter Try.func28, Try.ntmps28
      go_wp2_with fail
      go_ret
      exact ⟨str_ret_int (by rw [HE.out]), by rw [HE.out]; exact h, grown_refl _ _⟩
    · have h3 : 0 ≤ made := by omega
      have h4 : 0 ≤ now := by omega
      by_cases h5 : now < made
      · have HE : Hid (Str.tried W R L n made now = (9, L)) := by show _ = _; unfold Str.tried; rw [if_neg (by omega), if_pos (Or.inl h5)]
        clear h1 h2
        go_enter Try.func28, Try.ntmps28
        go_wp2_with fail
        go_ret
        exact ⟨str_ret_int (by rw [HE.out]), by rw [HE.out]; exact h, grown_refl _ _⟩
      · by_cases h6 : W < now - made
        · have HE : Hid (Str.tried W R L n made now = (9, L)) := by show _ = _; unfold Str.tried; rw [if_neg (by omega), if_pos (Or.inr h6)]
          have hw := h
          obtain ⟨v, hc, _⟩ := h
          have hc0 := RefStore.c0 hc
          clear h1 h2 hc
          go_enter Try.func28, Try.ntmps28
          go_wp2_with fail
          go_ret
          exact ⟨str_ret_int (by rw [HE.out]), by rw [HE.out]; exact hw, grown_refl _ _⟩
        · exact reftry_loop h ht hL n made now h3 h4 hm1 hn1 (by omega) (by omega)

theorem reftry_to {w : World} {c : Nat} {W R r : Int} {L L' : List (Int × Int)} (h : RefStore w c W R L) (ht : Str.Times L) (hL : L.length ≤ 1000000) {n made now : Int} (hwm : (Lit.int .i64 made).wf = true) (hww : (Lit.int .i64 now).wf = true)
    (hr : Str.tried W R L n made now = (r, L')) :
    Calls Try.prog 28 #[.pointer (some ⟨c, 0, none⟩), .int .i64 n, .int .i64 made, .int .i64 now] w fun e w' =>
      e = .returned (.int .i64 r) ∧ RefStore w' c W R L' ∧ w.grownBy w' (some c) := by
  have := reftry_any h ht hL n made now (wf_ge hwm).2 (wf_ge hww).2
  rw [hr] at this
  exact this

/-- The reference's store stays what it is while the other store's map turns. -/
theorem RefStore.kept {w w' : World} {c : Nat} {W R : Int} {L : List (Int × Int)} (h : RefStore w c W R L) {sb mb : Nat} {W' R' : Int} {L' : List (Int × Int)} (hs : StoreAt w sb mb W' R' L') (hg : w.grownBy w' (some mb)) : RefStore w' c W R L := by
  obtain ⟨v, h1, h2⟩ := h
  obtain ⟨D, ⟨es, clock, hb, _⟩, _⟩ := hs.map
  refine ⟨v, (hg.block c (lt_of_block h1) (fun e => ?_)).trans h1, h2.kept hg ?_⟩
  · injection e with e; rw [e, hb] at h1; cases h1
  · rcases h2.2 with ⟨rfl, _⟩ | ⟨g, cap, cur, rfl, _, hh, _⟩
    · exact Or.inl rfl
    · refine Or.inr (fun e => ?_)
      simp [Value.ownBlock] at e
      rw [e, hb] at hh
      cases hh

/-- The program's store stays what it is while the reference's turns. -/
theorem StoreAt.keptRef {w w' : World} {sb mb : Nat} {W R : Int} {L : List (Int × Int)} (h : StoreAt w sb mb W R L) {c : Nat} {W' R' : Int} {L' : List (Int × Int)} (hr : RefStore w c W' R' L') (hg : w.grownBy w' (some c)) : StoreAt w' sb mb W R L := by
  obtain ⟨v, h1, _⟩ := hr
  obtain ⟨D, ⟨es, clock, hb, F, hs, hD⟩, hS⟩ := h.map
  have hc := h.cells
  have e1 : sb ≠ c := fun e => by
    rw [e, h1] at hc
    injection hc with hc
    injection hc with _ hc
    cases hc
  have e2 : mb ≠ c := fun e => by rw [e, h1] at hb; cases hb
  exact ⟨(hg.block sb (lt_of_block hc) (by simpa using e1)).trans hc, ⟨D, ⟨es, clock, (hg.block mb (lt_of_block hb) (by simpa using e2)).trans hb, F, hs, hD⟩, hS⟩, h.times, h.w0, h.w1, h.r0, h.r1⟩

theorem RefStore.slot {w : World} {c : Nat} {W R : Int} {L : List (Int × Int)} (h : RefStore w c W R L) : ∃ a cap, w.cell? ⟨c, 2, none⟩ = some (.slice a L.length cap) := by
  obtain ⟨v, h1, h2⟩ := h
  obtain ⟨a, cap, rfl, _⟩ := flat_form h2
  exact ⟨a, cap, RefStore.c2 h1⟩

theorem refnew_store (a b : Int) (w : World) : Calls Try.prog 26 #[.int .i64 a, .int .i64 b] w fun e w' =>
    e = .returned (.pointer (some ⟨w.heap.size, 0, none⟩)) ∧ RefStore w' w.heap.size (max a 0) (min (max b 0) 65536) [] ∧ w' = w.alloc (.cells #[.int .i64 (max a 0), .int .i64 (min (max b 0) 65536), .slice none 0 0] 56) := by
  refine (refnew_any a b w).mono fun e w' ⟨he, hw⟩ => ⟨he, ?_, hw⟩
  subst hw
  exact ⟨.slice none 0 0, (MapKept.heap_alloc w _).1, World.ownsRow_nil _ _ _ _⟩

end Go.Proofs.Ytlcbpcemdipmfaa
