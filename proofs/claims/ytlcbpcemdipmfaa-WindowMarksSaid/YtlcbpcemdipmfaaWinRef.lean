/-
  The contracts of the reference's window (chapter 10): Greatest, Fresh, Mark at a window whose one field is a slice that the call itself made and that holds the list l. Condition of Mark: l has at most 1000 numbers.
-/
import Derived.Test.YtlcbpcemdipmfaaWinMore
import Derived.Test.YtlcbpcemdipmfaaRowOf
namespace Go.Proofs.Ytlcbpcemdipmfaa
open Go.RowKit

/-- Block c is the reference's window: its one field is a slice that owns the list l, in blocks from 'base' on. -/
def RefAt (w : World) (c base : Nat) (l : List Int) : Prop := ∃ v, w.heap[c]? = some (.cells #[v] 29 (0, 0)) ∧ w.ownsRow base 3 1 v l.length (l.map (Value.int .i64)) ∧ c < base ∧ Win.Nums l

theorem owns_form {w : World} {base : Nat} {v : Value} {l : List Int} (h : w.ownsRow base 3 1 v l.length (l.map (Value.int .i64))) :
    ∃ a cap, v = .slice a l.length cap ∧ l.length ≤ 9223372036854775807 ∧ (l.length = 0 ∨ ∃ g, a = some ⟨g, 0, none⟩ ∧ base ≤ g ∧ ∀ j, j < l.length → w.cell? ⟨g, j, none⟩ = some (.int .i64 (l.getD j 0))) := by
  obtain ⟨h1, h2⟩ := h
  rcases h2 with ⟨hv, hn⟩ | ⟨g, cap, cur, hv, hg, hh, h3, h4, h5, h6⟩
  · exact ⟨none, 0, by rw [hv, hn], by omega, Or.inl hn⟩
  · refine ⟨some ⟨g, 0, none⟩, cap, hv, by unfold maxLen at h4; omega, Or.inr ⟨g, rfl, hg, fun j hj => ?_⟩⟩
    unfold World.cell?
    simp only [hh]
    have e : cur[j]? = (cur.toList.take (l.length * 1))[j]? := by
      rw [List.getElem?_take, if_pos (by omega)]
      simp
    rw [h6] at e
    simp [e, hj]

theorem refgreatest_any {w : World} {c base : Nat} {l : List Int} (h : RefAt w c base l) :
    Calls Try.prog 20 #[.pointer (some ⟨c, 0, none⟩)] w fun e w' => e = .returned (.int .i64 (Win.top l)) ∧ w = w' := by
  obtain ⟨v, hc, ho, hlt, hnum⟩ := h
  obtain ⟨a, cap, rfl, hm, hf⟩ := owns_form ho
  have hcc := cell_of_one hc
  have HF : Hid _ := hf
  clear hc ho hf hnum
  go_enter Try.func20, Try.ntmps20
  go_wp2_with fail
  go_loop [3, 4] (fun g i => ∃ k : Nat, k ≤ l.length ∧ g = .int .i64 ((l.take k).foldl max (-1)) ∧ i = .int .i64 k) (fun _ i => l.length - (intOf i).toNat)
  case atStart => exact ⟨0, by omega, rfl, rfl⟩
  case round =>
    obtain ⟨k, hk, rfl, rfl⟩ := hrel
    obtain ⟨g, hg⟩ : ∃ g, (l.take k).foldl max (-1) = g := ⟨_, rfl⟩
    rw [hg]
    have HG : Hid _ := hg
    clear hg
    by_cases hlt : k < l.length
    · obtain ⟨b, rfl, hb, hce⟩ := HF.out.resolve_left (by omega)
      have hz := hce k hlt
      have hs : l.take (k + 1) = l.take k ++ [l.getD k 0] := by rw [List.take_succ_eq_append_getElem hlt]; simp [hlt]
      generalize l.getD k 0 = z at hz hs
      have HS : Hid _ := hs
      clear hs hce
      by_cases hgz : g < z
      · have HE : Hid ((l.take (k + 1)).foldl max (-1) = z) := by show _ = _; rw [HS.out, Win.foldl_max_snoc, HG.out]; omega
        go_wp2_with fail
        go_round
        case rel => exact ⟨k + 1, by omega, by rw [HE.out], by go_num⟩
        case measure => simp [intOf]; omega
      · have HE : Hid ((l.take (k + 1)).foldl max (-1) = g) := by show _ = _; rw [HS.out, Win.foldl_max_snoc, HG.out]; omega
        go_wp2_with fail
        go_round
        case rel => exact ⟨k + 1, by omega, by rw [HE.out], by go_num⟩
        case measure => simp [intOf]; omega
    · have hkl : k = l.length := by omega
      have HK : Hid _ := hkl
      clear hkl
      go_wp2_with fail
      go_ret
      exact ⟨ret_int (by rw [← HG.out, HK.out, List.take_length]; rfl), rfl⟩
theorem RefAt.nums {w : World} {c base : Nat} {l : List Int} (h : RefAt w c base l) : Win.Nums l := by obtain ⟨_, _, _, _, h⟩ := h; exact h
theorem RefAt.kept {w w' : World} {c base : Nat} {l : List Int} (h : RefAt w c base l) (e : ∀ k, (k = c ∨ base ≤ k) → w'.heap[k]? = w.heap[k]?) : RefAt w' c base l := by
  obtain ⟨v, h1, h2, h3, h4⟩ := h
  refine ⟨v, (e c (Or.inl rfl)).trans h1, ⟨h2.1, ?_⟩, h3, h4⟩
  rcases h2.2 with h | ⟨g, cap, cur, hv, hg, hh, r⟩
  · exact Or.inl h
  · exact Or.inr ⟨g, cap, cur, hv, hg, (e g (Or.inr hg)).trans hh, r⟩

theorem reffresh_any {w : World} {c base : Nat} {l : List Int} (n : Int) (h : RefAt w c base l) :
    Calls Try.prog 16 #[.pointer (some ⟨c, 0, none⟩), .int .i64 n] w fun e w' => e = .returned (.bool (Win.fresh l n)) ∧ w = w' := by
  have hw := h
  have hnum := h.nums
  have ht0 := Win.top_ge l
  have ht1 := Win.top_le l hnum
  obtain ⟨v, hc, ho, hlt, _⟩ := h
  obtain ⟨a, cap, rfl, hm, hf⟩ := owns_form ho
  have hcc := cell_of_one hc
  have HF : Hid _ := hf
  have HFI : Hid _ := Win.fresh_iff l n
  obtain ⟨t, ht⟩ : ∃ t, Win.top l = t := ⟨_, rfl⟩
  rw [ht] at ht0 ht1
  have HT : Hid _ := ht
  have hg := refgreatest_any hw
  rw [ht] at hg
  have HG := hg
  clear hc ho hf hnum ht hg hw
  by_cases h1 : n < 0 ∨ 4611686018427387903 < n
  · have HR : Hid (Win.fresh l n = false) := Win.fresh_out h1
    go_enter Try.func16, Try.ntmps16
    go_wp2_with (go_at_call 20; refine HG.mono ?_; rintro e w' ⟨rfl, rfl⟩)
    all_goals go_ret
    all_goals exact ⟨ret_bool HR.out.symm, rfl⟩
  · have h2 : 0 ≤ n := by omega
    have h3 : n ≤ 4611686018427387903 := by omega
    clear h1
    by_cases h4 : n ≤ t - 64
    · have HR : Hid (Win.fresh l n = false) := by
        show _ = _
        rw [← Bool.not_eq_true, HFI.out, HT.out]; omega
      go_enter Try.func16, Try.ntmps16
      go_wp2_with (go_at_call 20; refine HG.mono ?_; rintro e w' ⟨rfl, rfl⟩)
      all_goals go_ret
      all_goals exact ⟨ret_bool HR.out.symm, rfl⟩
    · have HR : Hid (n ∉ l → Win.fresh l n = true) := fun hn => HFI.out.2 ⟨h2, h3, by rw [HT.out]; omega, hn⟩
      have HN : Hid (n ∈ l → Win.fresh l n = false) := fun hn => by rw [← Bool.not_eq_true, HFI.out]; exact fun h => h.2.2.2 hn
      go_enter Try.func16, Try.ntmps16
      go_wp2_with (go_at_call 20; refine HG.mono ?_; rintro e w' ⟨rfl, rfl⟩)
      go_loop [5] (fun i => ∃ k : Nat, k ≤ l.length ∧ i = .int .i64 k ∧ n ∉ l.take k) (fun i => l.length - (intOf i).toNat)
      case atStart => exact ⟨0, by omega, rfl, by simp⟩
      case round =>
        obtain ⟨k, hk, rfl, hn⟩ := hrel
        have HNK : Hid _ := hn
        clear hn
        by_cases hlt : k < l.length
        · obtain ⟨b, rfl, hb, hce⟩ := HF.out.resolve_left (by omega)
          have hz := hce k hlt
          have hs : l.take (k + 1) = l.take k ++ [l.getD k 0] := by rw [List.take_succ_eq_append_getElem hlt]; simp [hlt]
          have hzm : l.getD k 0 ∈ l := by simp [hlt]
          generalize l.getD k 0 = z at hz hs hzm
          have HS : Hid _ := hs
          have HZ : Hid _ := hzm
          clear hs hce hzm
          by_cases hzn : z = n
          · have hzb : (z == n) = true := by simpa using hzn
            have HE : Hid (Win.fresh l n = false) := HN.out (hzn ▸ HZ.out)
            clear hzn
            go_wp2_with fail
            go_ret
            exact ⟨ret_bool HE.out.symm, rfl⟩
          · have hzb : (z == n) = false := by simpa using hzn
            have HE : Hid (n ∉ l.take (k + 1)) := by
              show ¬ _
              rw [HS.out, List.mem_append, List.mem_singleton]
              exact fun h => h.elim HNK.out (fun h => hzn h.symm)
            clear hzn
            go_wp2_with fail
            go_round
            case rel => exact ⟨k + 1, by omega, by go_num, HE.out⟩
            case measure => simp [intOf]; omega
        · have hkl : k = l.length := by omega
          have HE : Hid (Win.fresh l n = true) := HR.out (by have := HNK.out; rw [hkl, List.take_length] at this; exact this)
          clear hkl
          go_wp2_with fail
          go_ret
          exact ⟨ret_bool HE.out.symm, rfl⟩
theorem Try.info3 : (Try.prog.info? 3).map (fun i => (i.zero, i.size, i.bytes)) = some (some (.int .i64 0), 1, 8) := by kernel_rfl

/-- Only block c and blocks from 'base' on may have turned; none has gone. -/
structure OnlyRef (c base : Nat) (w w' : World) : Prop where
  os : w'.os = w.os
  tape : w'.tape = w.tape
  output : w'.output = w.output
  size : w.heap.size ≤ w'.heap.size
  block : ∀ k, k ≠ c → k < base → w'.heap[k]? = w.heap[k]?
theorem OnlyRef.refl (c base : Nat) (w : World) : OnlyRef c base w w := ⟨rfl, rfl, rfl, Nat.le_refl _, fun _ _ _ => rfl⟩
theorem OnlyRef.cell {c base : Nat} {w w' : World} (h : OnlyRef c base w w') {p : Addr} (hp : p.block ≠ c) (hb : p.block < base) : w'.cell? p = w.cell? p := World.cell?_of_block (h.block _ hp hb)
theorem OnlyRef.below {c base B : Nat} {w w' : World} (h : OnlyRef c base w w') (hc : B ≤ c) (hb : B ≤ base) : Below B w w' := ⟨h.os, h.tape, h.output, h.size, fun k hk => h.block k (by omega) (by omega)⟩

set_option maxHeartbeats 400000 in
theorem refmark_any {w : World} {c base : Nat} {l : List Int} (n : Int) (h : RefAt w c base l) (hl : l.length ≤ 1000) (hbs : base ≤ w.heap.size) :
    Calls Try.prog 18 #[.pointer (some ⟨c, 0, none⟩), .int .i64 n] w fun e w' => e = .returned (.bool (Win.fresh l n)) ∧ RefAt w' c base (Win.mark l n) ∧ OnlyRef c base w w' := by
  obtain ⟨i0, hi, hz0, hz1, hz2⟩ := info_parts Try.info3
  have hw := h
  have hfr := reffresh_any n h
  cases hF : Win.fresh l n with
  | false =>
    rw [Win.mark_false hF]
    rw [hF] at hfr
    go_enter Try.func18, Try.ntmps18
    go_wp2_with (go_at_call 16; refine hfr.mono ?_; rintro e w' ⟨rfl, rfl⟩)
    go_ret
    exact ⟨rfl, h, OnlyRef.refl _ _ _⟩
  | true =>
    rw [Win.mark_true hF]
    rw [hF] at hfr
    have hnum := Win.nums_mark l n h.nums
    rw [Win.mark_true hF] at hnum
    obtain ⟨v, hc, ho, hlt, _⟩ := h
    have hcc := cell_of_one hc
    have hcf := free_of_one hc
    have HC : Hid _ := hc
    have HNUM : Hid _ := hnum
    clear hc hnum hF
    go_enter Try.func18, Try.ntmps18
    go_wp2_with (first
      | (go_at_call 16; refine hfr.mono ?_; rintro e w' ⟨rfl, rfl⟩)
      | (at_builtin; refine wpList_append_own _ rfl _ _ 22 rfl base 3 i0 (.int .i64 0) 1 8 Try.underlying22 hi hz0 hz1 hz2 rfl (by decide) _ _ _ rfl (ho.alloc _) ⟨w.heap.size, 0, none⟩ 1 1 [.int .i64 n] rfl rfl ?c1 ?c2 ?c3 ?c4 ?c5 ?_))
    case c1 =>
      intro j u hj
      match j, hj with
      | 0, hj => simp at hj; subst hj; simp [Addr.add]
    case c2 => intro u hu; simp at hu; subst hu; rfl
    case c3 => unfold maxLen; omega
    case c4 => omega
    case c5 => simp; omega
    intro v' w1 hown' hgrow hnn
    have hcw := lt_of_block HC.out
    have hvb : ∀ g, v.ownBlock = some g → base ≤ g := by
      intro g hg
      rcases ho.2 with ⟨rfl, _⟩ | ⟨g', cap, cur, rfl, hg', _⟩
      · cases hg
      · simp [Value.ownBlock] at hg; omega
    have hblk : ∀ k, k < base → w1.heap[k]? = w.heap[k]? := fun k hk =>
      (hgrow.block k (by simp; omega) (fun e => by have := hvb k e.symm; omega)).trans (Below.heap_alloc _ _ _ (by omega))
    have hc1 := (hblk c hlt).trans HC.out
    have hcc1 := cell_of_one hc1
    have hcf1 := free_of_one hc1
    have HC1 : Hid _ := hc1
    have HOW : Hid _ := hown'
    have hgs := hgrow.size
    have hgo := hgrow.os
    have hgt := hgrow.tape
    have hgu := hgrow.output
    have HON : Hid (OnlyRef c base w w1) := ⟨hgo, hgt, hgu, by simp at hgs; omega, fun k _ hk => hblk k hk⟩
    obtain ⟨a', n', cap', rfl⟩ : ∃ a' n' cap', v' = .slice a' n' cap' := by
      rcases hown'.2 with ⟨rfl, _⟩ | ⟨g', cap, cur, rfl, _⟩
      · exact ⟨_, _, _, rfl⟩
      · exact ⟨_, _, _, rfl⟩
    clear hown' hgrow hnn hblk hvb hc1 hgs hgo hgt hgu hfr ho hcc hcf
    go_wp2
    go_ret
    refine ⟨rfl, ⟨_, one_setCell HC1.out, ?_, hlt, HNUM.out⟩, ⟨HON.out.os, HON.out.tape, HON.out.output, by simpa [World.setCell] using HON.out.size, fun k hk hb => by rw [Below.heap_setCell _ _ _ _ hk]; exact HON.out.block k hk hb⟩⟩
    have := ownsRow_setCell_below HOW.out (a := ⟨c, 0, none⟩) hlt (.slice a' n' cap')
    simpa using this
theorem refmark_to {w : World} {c base : Nat} {l l' : List Int} {n : Int} {r : Bool} (h : RefAt w c base l) (hl : l.length ≤ 1000) (hbs : base ≤ w.heap.size) (hf : Win.fresh l n = r) (hm : Win.mark l n = l') :
    Calls Try.prog 18 #[.pointer (some ⟨c, 0, none⟩), .int .i64 n] w fun e w' => e = .returned (.bool r) ∧ RefAt w' c base l' ∧ OnlyRef c base w w' := by
  subst hf hm; exact refmark_any n h hl hbs
theorem reffresh_to {w : World} {c base : Nat} {l : List Int} {n : Int} {r : Bool} (h : RefAt w c base l) (hf : Win.fresh l n = r) :
    Calls Try.prog 16 #[.pointer (some ⟨c, 0, none⟩), .int .i64 n] w fun e w' => e = .returned (.bool r) ∧ w = w' := by
  subst hf; exact reffresh_any n h
theorem refgreatest_to {w : World} {c base : Nat} {l : List Int} {n : Int} (h : RefAt w c base l) (hf : Win.top l = n) :
    Calls Try.prog 20 #[.pointer (some ⟨c, 0, none⟩)] w fun e w' => e = .returned (.int .i64 n) ∧ w = w' := by
  subst hf; exact refgreatest_any h

theorem Win.mark_length (l : List Int) (n : Int) : (Win.mark l n).length ≤ l.length + 1 := by
  unfold Win.mark; split <;> simp

theorem ref_new (w : World) : RefAt (w.alloc (.cells #[.slice none 0 0] 29)) w.heap.size (w.heap.size + 1) [] :=
  ⟨.slice none 0 0, (MapKept.heap_alloc w _).1, World.ownsRow_nil _ _ _ _, by omega, by intro x h; cases h⟩

end Go.Proofs.Ytlcbpcemdipmfaa
