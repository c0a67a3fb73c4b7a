/-
  The contracts of the store of chapter 18: New, Try, Many of the program at a store whose map holds the list of what is held, in whatever order the map is ranged over; each at nil; and the chapter's example. Conditions: the numbers fit their kinds.
-/
import Derived.Test.YtlcbpcemdipmfaaRows
import Derived.Test.YtlcbpcemdipmfaaStrPlain
import Derived.Carry
import Derived.OneCell
import Derived.RegionTactic
import Derived.ChangeAlike
import Derived.OpenShut
namespace Go.Proofs.Ytlcbpcemdipmfaa
open Go.RowKit Go.Maps

theorem law51 : Keyed Try.prog 51 := int_keyed Try.underlying51
theorem zero3 (w : World) : (zeroValue 3).run Try.prog w = .ok (.int .i64 0) w := by kernel_rfl

/-- Block sb is a store: its window, its room, and its map in block mb, which holds the list L. -/
structure StoreAt (w : World) (sb mb : Nat) (W R : Int) (L : List (Int × Int)) : Prop where
  cells : w.heap[sb]? = some (.cells #[.int .i64 W, .int .i64 R, .map (some mb)] 68 (0, 0))
  map : ∃ D : DataW Unit, w.ownsMap Try.prog 51 (plainElem Try.prog 3) mb L.length D ∧ Str.Same D L
  times : Str.Times L
  w0 : 0 ≤ W
  w1 : W ≤ 9223372036854775807
  r0 : 0 ≤ R
  r1 : R ≤ 65536

theorem StoreAt.c0 {w : World} {sb mb : Nat} {W R : Int} {L : List (Int × Int)} (h : StoreAt w sb mb W R L) : w.cell? ⟨sb, 0, none⟩ = some (.int .i64 W) := by have := h.cells; simp [World.cell?, this]
theorem StoreAt.c1 {w : World} {sb mb : Nat} {W R : Int} {L : List (Int × Int)} (h : StoreAt w sb mb W R L) : w.cell? ⟨sb, 1, none⟩ = some (.int .i64 R) := by have := h.cells; simp [World.cell?, this]
theorem StoreAt.c2 {w : World} {sb mb : Nat} {W R : Int} {L : List (Int × Int)} (h : StoreAt w sb mb W R L) : w.cell? ⟨sb, 2, none⟩ = some (.map (some mb)) := by have := h.cells; simp [World.cell?, this]

theorem owns_size {w : World} {b n : Nat} {D : DataW Unit} (h : w.ownsMap Try.prog 51 (plainElem Try.prog 3) b n D) : w.ownsMap Try.prog 51 (plainElem Try.prog 3) b (Maps.size D) D := by
  obtain ⟨es, clock, hb, F, _, hD⟩ := h
  exact ⟨es, clock, hb, F, by rw [hD]; simp [Maps.size, length_sorted], hD⟩

theorem new_any (a b : Int) (w : World) : Calls Try.prog 25 #[.int .i64 a, .int .i64 b] w fun e w' =>
    e = .returned (.pointer (some ⟨w.heap.size + 1, 0, none⟩)) ∧ w' = (w.alloc (.map #[] 0)).alloc (.cells #[.int .i64 (max a 0), .int .i64 (min (max b 0) 65536), .map (some w.heap.size)] 68) := by
  have hmm := @run_makeMap Try.prog
  by_cases h1 : a < 0
  · have HW : Hid (max a 0 = 0) := by show _ = _; omega
    by_cases h2 : b < 0
    · have HR : Hid (min (max b 0) 65536 = 0) := by show _ = _; omega
      go_enter Try.func25, Try.ntmps25
      go_wp2
      go_ret
      exact ⟨rfl, by rw [HW.out, HR.out]⟩
    · by_cases h3 : 65536 < b
      · have HR : Hid (min (max b 0) 65536 = 65536) := by show _ = _; omega
        go_enter Try.func25, Try.ntmps25
        go_wp2
        go_ret
        exact ⟨rfl, by rw [HW.out, HR.out]⟩
      · have HR : Hid (min (max b 0) 65536 = b) := by show _ = _; omega
        go_enter Try.func25, Try.ntmps25
        go_wp2
        go_ret
        exact ⟨rfl, by rw [HW.out, HR.out]⟩
  · have HW : Hid (max a 0 = a) := by show _ = _; omega
    by_cases h2 : b < 0
    · have HR : Hid (min (max b 0) 65536 = 0) := by show _ = _; omega
      go_enter Try.func25, Try.ntmps25
      go_wp2
      go_ret
      exact ⟨rfl, by rw [HW.out, HR.out]⟩
    · by_cases h3 : 65536 < b
      · have HR : Hid (min (max b 0) 65536 = 65536) := by show _ = _; omega
        go_enter Try.func25, Try.ntmps25
        go_wp2
        go_ret
        exact ⟨rfl, by rw [HW.out, HR.out]⟩
      · have HR : Hid (min (max b 0) 65536 = b) := by show _ = _; omega
        go_enter Try.func25, Try.ntmps25
        go_wp2
        go_ret
        exact ⟨rfl, by rw [HW.out, HR.out]⟩

theorem new_store (a b : Int) (ha : a ≤ 9223372036854775807) (w : World) : Calls Try.prog 25 #[.int .i64 a, .int .i64 b] w fun e w' =>
    e = .returned (.pointer (some ⟨w.heap.size + 1, 0, none⟩)) ∧ StoreAt w' (w.heap.size + 1) w.heap.size (max a 0) (min (max b 0) 65536) [] ∧ Below w.heap.size w w' ∧ w'.heap.size = w.heap.size + 2 := by
  refine (new_any a b w).mono fun e w' ⟨he, hw⟩ => ⟨he, ?_, ?_, ?_⟩
  · subst hw
    have e1 : (w.alloc (.map #[] 0)).heap.size = w.heap.size + 1 := by simp
    refine ⟨?_, ⟨.map [], (World.ownsMap_made w _ _ _).alloc _, Str.same_empty⟩, (by intro p h; cases h), by omega, by omega, by omega, by omega⟩
    rw [← e1]
    exact (MapKept.heap_alloc _ _).1
  · subst hw
    exact ((Below.refl _ _).alloc (Nat.le_refl _) _).alloc (by simp) _
  · subst hw
    simp

theorem str_ret_bool {a b : Bool} (h : a = b) : Ending.returned (.bool a) = .returned (.bool b) := by rw [h]
theorem str_ret_int {k : IntKind} {a b : Int} (h : a = b) : Ending.returned (.int k a) = .returned (.int k b) := by rw [h]

theorem many_any {w : World} {sb mb : Nat} {W R : Int} {L : List (Int × Int)} (h : StoreAt w sb mb W R L) :
    Calls Try.prog 29 #[.pointer (some ⟨sb, 0, none⟩)] w fun e w' => e = .returned (.int .i64 L.length) ∧ w = w' := by
  have hc2 := h.c2
  obtain ⟨D, hown, hS⟩ := h.map
  have HZ : Hid _ := hS.size
  clear h hS
  go_enter Try.func29, Try.ntmps29
  go_wp2_with (at_len; refine wpList_len_own _ rfl _ 66 rfl 51 3 Try.underlying66 _ mb _ D rfl hown ?_)
  go_ret
  exact ⟨str_ret_int (by rw [HZ.out]), rfl⟩

theorem many_nil (w : World) : Calls Try.prog 29 #[.pointer none] w fun e w' => e = .returned (.int .i64 0) ∧ w = w' := by
  go_enter Try.func29, Try.ntmps29
  go_wp2
  go_ret
  exact ⟨rfl, rfl⟩

theorem old_any {w : World} {sb : Nat} {W : Int} (hc : w.cell? ⟨sb, 0, none⟩ = some (.int .i64 W)) {made now : Int} (h0 : 0 ≤ made) (h1 : made ≤ 9223372036854775807) (h2 : 0 ≤ now) (h3 : now ≤ 9223372036854775807) :
    Calls Try.prog 40 #[.pointer (some ⟨sb, 0, none⟩), .int .i64 made, .int .i64 now] w fun e w' => e = .returned (.bool (decide (W < now - made))) ∧ w = w' := by
  go_enter Try.func40, Try.ntmps40
  go_wp2
  go_ret
  exact ⟨rfl, rfl⟩

theorem old_to {w : World} {sb : Nat} {W : Int} (hc : w.cell? ⟨sb, 0, none⟩ = some (.int .i64 W)) {made now : Int} (h0 : 0 ≤ made) (h1 : made ≤ 9223372036854775807) (h2 : 0 ≤ now) (h3 : now ≤ 9223372036854775807) {r : Bool} (hr : decide (W < now - made) = r) :
    Calls Try.prog 40 #[.pointer (some ⟨sb, 0, none⟩), .int .i64 made, .int .i64 now] w fun e w' => e = .returned (.bool r) ∧ w = w' := by
  subst hr; exact old_any hc h0 h1 h2 h3

theorem try_nil (n made now : Int) (w : World) : Calls Try.prog 27 #[.pointer none, .int .i64 n, .int .i64 made, .int .i64 now] w fun e w' => e = .returned (.int .i64 1) ∧ w = w' := by
  go_enter Try.func27, Try.ntmps27
  go_wp2
  go_ret
  exact ⟨rfl, rfl⟩
theorem StoreAt.ne {w : World} {sb mb : Nat} {W R : Int} {L : List (Int × Int)} (h : StoreAt w sb mb W R L) : sb ≠ mb := by
  obtain ⟨D, ⟨es, clock, hb, _⟩, _⟩ := h.map
  have := h.cells
  intro e
  rw [e, hb] at this
  cases this

/-- The store behind a turn of its map alone. -/
theorem StoreAt.behind {w w' : World} {sb mb : Nat} {W R : Int} {L L' : List (Int × Int)} (h : StoreAt w sb mb W R L) (hg : w.grownBy w' (some mb))
    (hm : ∃ D : DataW Unit, w'.ownsMap Try.prog 51 (plainElem Try.prog 3) mb L'.length D ∧ Str.Same D L') (ht : Str.Times L') : StoreAt w' sb mb W R L' :=
  ⟨(hg.block sb (lt_of_block h.cells) (by simpa using h.ne)).trans h.cells, hm, ht, h.w0, h.w1, h.r0, h.r1⟩

theorem grown_refl (w : World) (row : Option Nat) : w.grownBy w row := ⟨rfl, rfl, rfl, Nat.le_refl _, fun _ _ _ => rfl⟩

theorem wf_ge {n : Int} (h : (Lit.int .i64 n).wf = true) : -9223372036854775808 ≤ n ∧ n ≤ 9223372036854775807 := bounds_i64 h

set_option maxHeartbeats 1000000 in
theorem try_any {w : World} {sb mb : Nat} {W R : Int} {L : List (Int × Int)} (h : StoreAt w sb mb W R L) (n made now : Int) (hwn : (Lit.int .i64 n).wf = true) (hm1 : made ≤ 9223372036854775807) (hn1 : now ≤ 9223372036854775807) (hwm : (Lit.int .i64 made).wf = true) :
    Calls Try.prog 27 #[.pointer (some ⟨sb, 0, none⟩), .int .i64 n, .int .i64 made, .int .i64 now] w fun e w' =>
      e = .returned (.int .i64 (Str.tried W R L n made now).1) ∧ StoreAt w' sb mb W R (Str.tried W R L n made now).2 ∧ w.grownBy w' (some mb) := by
  have hc0 := h.c0
  have hc1 := h.c1
  have hc2 := h.c2
  have HST : Hid (StoreAt w sb mb W R L) := h
  have hne := h.ne
  by_cases h1 : made < 0
  · have HE : Hid (Str.tried W R L n made now = (1, L)) := by show _ = _; unfold Str.tried; rw [if_pos (Or.inl h1)]
    clear h
    go_enter Try.func27, Try.ntmps27
    go_wp2
    go_ret
    exact ⟨str_ret_int (by rw [HE.out]), by rw [HE.out]; exact HST.out, grown_refl _ _⟩
  · by_cases h2 : now < 0
    · have HE : Hid (Str.tried W R L n made now = (1, L)) := by show _ = _; unfold Str.tried; rw [if_pos (Or.inr h2)]
      clear h
      go_enter Try.func27, Try.ntmps27
      go_wp2
      go_ret
      exact ⟨str_ret_int (by rw [HE.out]), by rw [HE.out]; exact HST.out, grown_refl _ _⟩
    · have h3 : 0 ≤ made := by omega
      have h4 : 0 ≤ now := by omega
      by_cases h5 : now < made
      · have HE : Hid (Str.tried W R L n made now = (9, L)) := by show _ = _; unfold Str.tried; rw [if_neg (by omega), if_pos (Or.inl h5)]
        clear h h1 h2
        go_enter Try.func27, Try.ntmps27
        go_wp2_with fail
        go_ret
        exact ⟨str_ret_int (by rw [HE.out]), by rw [HE.out]; exact HST.out, grown_refl _ _⟩
      · by_cases h6 : W < now - made
        · have HE : Hid (Str.tried W R L n made now = (9, L)) := by show _ = _; unfold Str.tried; rw [if_neg (by omega), if_pos (Or.inr h6)]
          have hd : decide (W < now - made) = true := by simpa using h6
          clear h h1 h2
          go_enter Try.func27, Try.ntmps27
          go_wp2_with (go_at_call 40; refine (old_to hc0 h3 hm1 h4 hn1 hd).mono ?_; rintro e w' ⟨rfl, rfl⟩)
          go_ret
          exact ⟨str_ret_int (by rw [HE.out]), by rw [HE.out]; exact HST.out, grown_refl _ _⟩
        · have hd : decide (W < now - made) = false := by simpa using h6
          obtain ⟨D, hown, hS⟩ := h.map
          have HS : Hid (Str.Same D L) := hS
          clear h h1 h2 hS
          go_enter Try.func27, Try.ntmps27
          go_wp2_with (first
            | (go_at_call 40; refine (old_to hc0 h3 hm1 h4 hn1 hd).mono ?_; rintro e w' ⟨rfl, rfl⟩)
            | (at_range; refine wpList_range_own _ rfl _ 66 rfl 51 3 law51 Try.underlying66 _ mb L.length _ rfl hown ?_; intro w0 hrg0 hg0 hs0))
          go_frame
          go_loopw [9] (fun _ wr => ∃ (left : Lit → Bool) (cnt : Nat) (E : DataW Unit), wr.ranges Try.prog 51 (plainElem Try.prog 3) mb w.heap.size L.length E left cnt ∧ Str.Same E (Str.swept W now L left) ∧ w.grownBy wr (some mb))
            (fun _ wr => wr.rangeLeft mb w.heap.size)
          case atStart => exact ⟨_, _, D, hrg0, by rw [Str.swept_start HS.out]; exact HS.out, hg0.but _⟩
          case round =>
            obtain ⟨left, cnt, E, hrg, hE, hgw⟩ := hrel
            clear hrg0 hg0 hs0
            have hk0 := hgw.cell hc0 (by simpa using hne)
            have hk1 := hgw.cell hc1 (by simpa using hne)
            have hk2 := hgw.cell hc2 (by simpa using hne)
            have HE : Hid (Str.Same E (Str.swept W now L left)) := hE
            clear hE
            go_wp2_with (first
              | (at_next; refine wpList_next_ranges_ii _ rfl _ rfl 51 3 .i64 .i64 law51 Try.underlying51 Try.underlying3 mb w.heap.size L.length _ _ _ rfl hrg ?_ ?_))
            · intro _ hl0
              have hM := HE.out
              rw [Str.swept_end W now L left hl0] at hM
              have hown1 := owns_size hrg.owns
              have HM : Hid (Str.Same E (Str.sweep W now L)) := hM
              obtain ⟨r, hr⟩ : ∃ r, Str.held (Str.sweep W now L) n = r := ⟨_, rfl⟩
              have hhas : Maps.has E (.int .i64 n) = r := (hM.has n).trans hr
              clear hM hrg hown
              cases r
              · clear HE
                go_wp2_with (first
                  | (at_lookup; refine wpList_lookup_own_ok_int _ rfl _ _ 66 rfl 51 3 .i64 law51 Try.underlying66 Try.underlying3 (zero3 _) mb _ E rfl hown1 _ _ rfl (keyOf_int_mk Try.underlying51 hwn) ?_; intro c hat hwc))
                obtain ⟨q, hq⟩ : ∃ q : Nat, (Str.sweep W now L).length = q := ⟨_, rfl⟩
                have hsz : Maps.size E = q := HM.out.size.trans hq
                have hown2 : wr.drew.ownsMap Try.prog 51 (plainElem Try.prog 3) mb (Maps.size E) E := hown1
                have hlen := fun ty => hown2.len Try.underlying66 ty
                rw [hsz] at hlen
                have HQ : Hid _ := hq
                have HSZ : Hid _ := hsz
                have HR : Hid _ := hr
                have hql : q ≤ L.length := by rw [← hq]; exact Str.sweep_length _ _ _
                have hgd : w.grownBy wr.drew (some mb) := ⟨hgw.os, hgw.tape, hgw.output, hgw.size, hgw.block⟩
                clear hsz hq hr
                by_cases hfull : R ≤ (q : Int)
                · have HT : Hid (Str.tried W R L n made now = (5, Str.sweep W now L)) := by
                    show _ = _
                    unfold Str.tried
                    rw [if_neg (by omega), if_neg (by omega), if_neg (by rw [HR.out]; simp), if_pos (by rw [HQ.out]; exact hfull)]
                  go_region
                  go_wp2
                  go_ret
                  exact ⟨str_ret_int (by rw [HT.out]), by rw [HT.out]; exact HST.out.behind hgd ⟨E, by rw [← HM.out.size]; exact hown2, HM.out⟩ (Str.times_sweep HST.out.times _ _), hgd⟩
                · have HT : Hid (Str.tried W R L n made now = (0, Str.sweep W now L ++ [(n, made)])) := by
                    show _ = _
                    unfold Str.tried
                    rw [if_neg (by omega), if_neg (by omega), if_neg (by rw [HR.out]; simp), if_neg (by rw [HQ.out]; exact hfull)]
                  have hr1 := HST.out.r1
                  have hlm : Maps.size E < maxLen := by rw [HSZ.out]; unfold maxLen; omega
                  have HP : Hid _ := HM.out.put (hown1.tidy law51) n made HR.out
                  go_region
                  go_wp2_with (first
                    | (at_mapUpdate; refine wpList_mapUpdate_own _ rfl _ _ _ 66 rfl 51 3 law51 Try.underlying66 _ mb _ _ rfl hown2 hlm _ _ _ rfl rfl (keyOf_int_mk Try.underlying51 hwn) _ [] (plainElem_int Try.underlying3 hwm) ?_; intro w3 hown3 hgrow3))
                  go_ret
                  have hown4 := owns_size hown3
                  rw [HP.out.size] at hown4
                  have hgw3 : w.grownBy w3 (some mb) := hgd.andThen hgrow3 (fun j hj => by cases hj; exact Or.inr rfl)
                  exact ⟨str_ret_int (by rw [HT.out]), by rw [HT.out]; exact HST.out.behind hgw3 ⟨_, hown4, HP.out⟩ (by have := Str.tried_times HST.out.times W R n made now hm1; rw [HT.out] at this; exact this), hgw3⟩
              · have HT : Hid (Str.tried W R L n made now = (10, Str.sweep W now L)) := by show _ = _; unfold Str.tried; rw [if_neg (by omega), if_neg (by omega), if_pos hr]
                clear HE
                go_wp2_with (first
                  | (at_lookup; refine wpList_lookup_own_ok_int _ rfl _ _ 66 rfl 51 3 .i64 law51 Try.underlying66 Try.underlying3 (zero3 _) mb _ E rfl hown1 _ _ rfl (keyOf_int_mk Try.underlying51 hwn) ?_; intro c hat hwc))
                go_ret
                exact ⟨str_ret_int (by rw [HT.out]), by rw [HT.out]; exact HST.out.behind hgw ⟨E, by rw [← HM.out.size]; exact hown1, HM.out⟩ (Str.times_sweep HST.out.times _ _), hgw⟩
            · intro x c w1 cnt1 hwx hwc hlx hat hrg1 hlt hg1 hs1 hen
              have hgw1 := hgw.andThen hg1 (fun j hj => by cases hj; exact Or.inl (Nat.le_refl _))
              have hj0 := hgw1.cell hc0 (by simpa using hne)
              have hj2 := hgw1.cell hc2 (by simpa using hne)
              have hwc' := wf_ge hwc
              have hct := HST.out.times
              have hcm := (List.mem_filter.1 (Str.came HE.out hat)).1
              have hc3 : 0 ≤ c := (hct _ hcm).1
              have hc4 : c ≤ 9223372036854775807 := (hct _ hcm).2
              clear hct hcm hwc' hk0 hk1 hk2
              obtain ⟨r, hr⟩ : ∃ r, decide (W < now - c) = r := ⟨_, rfl⟩
              have HR : Hid _ := hr
              clear hr
              cases r
              · go_wp2_with (first
                  | (go_at_call 40; refine (old_to hj0 hc3 hc4 h4 hn1 HR.out).mono ?_; rintro e w' ⟨rfl, rfl⟩))
                go_roundw
                case rel => exact ⟨_, cnt1, E, hrg1, Str.swept_stays HS.out.apart HE.out hat (by have := HR.out; simpa using this), hgw1⟩
                case measure => rw [hrg1.left_eq, hrg.left_eq]; exact hlt
              · go_wp2_with (first
                  | (go_at_call 40; refine (old_to hj0 hc3 hc4 h4 hn1 HR.out).mono ?_; rintro e w' ⟨rfl, rfl⟩)
                  | (at_delete; refine wpList_delete_ranges _ rfl _ _ 66 51 rfl 3 law51 Try.underlying66 _ mb w.heap.size L.length _ _ _ rfl hrg1 _ _ rfl (keyOf_int_mk Try.underlying51 hwx) ?_; intro w2 cnt2 hrg2 hle hturn; go_frame))
                rw [Maps.strike_twice] at hrg2
                go_roundw
                case rel => exact ⟨_, cnt2, _, hrg2, Str.swept_struck HS.out.apart HE.out (hrg.owns.tidy law51) hat (by have := HR.out; simpa using this), hgw1.andThen hturn.grown (fun j hj => by cases hj; exact Or.inr rfl)⟩
                case measure => rw [hrg2.left_eq, hrg.left_eq]; omega
theorem try_to {w : World} {sb mb : Nat} {W R r : Int} {L L' : List (Int × Int)} (h : StoreAt w sb mb W R L) {n made now : Int} (hwn : (Lit.int .i64 n).wf = true) (hwm : (Lit.int .i64 made).wf = true) (hww : (Lit.int .i64 now).wf = true)
    (ht : Str.tried W R L n made now = (r, L')) :
    Calls Try.prog 27 #[.pointer (some ⟨sb, 0, none⟩), .int .i64 n, .int .i64 made, .int .i64 now] w fun e w' =>
      e = .returned (.int .i64 r) ∧ StoreAt w' sb mb W R L' ∧ w.grownBy w' (some mb) := by
  have := try_any h n made now hwn (wf_ge hwm).2 (wf_ge hww).2 hwm
  rw [ht] at this
  exact this

theorem many_to {w : World} {sb mb : Nat} {W R : Int} {L : List (Int × Int)} (h : StoreAt w sb mb W R L) {q : Nat} (hq : L.length = q) :
    Calls Try.prog 29 #[.pointer (some ⟨sb, 0, none⟩)] w fun e w' => e = .returned (.int .i64 q) ∧ w = w' := by
  subst hq; exact many_any h

theorem awake_str (w : World) : Calls Try.prog 30 #[] w fun e w' => e = .returned (.bool true) ∧ Below w.heap.size w w' := by
  go_enter Try.func30, Try.ntmps30
  go_wp2_with fail
  refine (new_store 5 1 (by omega) _).mono ?_
  rintro e w1 ⟨rfl, h1, b1, _⟩
  go_wp2_with fail
  refine (try_to (r := 0) (L' := [(7, 10)]) h1 (by decide) (by decide) (by decide) (by decide)).mono ?_
  rintro e w2 ⟨rfl, h2, g2⟩
  go_wp2_with fail
  refine (try_to (r := 10) (L' := [(7, 10)]) h2 (by decide) (by decide) (by decide) (by decide)).mono ?_
  rintro e w3 ⟨rfl, h3, g3⟩
  go_wp2_with fail
  refine (try_to (r := 0) (L' := [(8, 16)]) h3 (by decide) (by decide) (by decide) (by decide)).mono ?_
  rintro e w4 ⟨rfl, h4, g4⟩
  go_wp2_with fail
  refine (many_to (q := 1) h4 rfl).mono ?_
  rintro e w5 ⟨rfl, rfl⟩
  go_wp2_with fail
  go_ret
  have hs1 := b1.size
  have hs2 := g2.size
  have hs3 := g3.size
  exact ⟨rfl, ((b1.grown g2 (by omega) (fun k hk => by cases hk; omega)).grown g3 (by omega) (fun k hk => by cases hk; omega)).grown g4 (by omega) (fun k hk => by cases hk; omega)⟩
end Go.Proofs.Ytlcbpcemdipmfaa
