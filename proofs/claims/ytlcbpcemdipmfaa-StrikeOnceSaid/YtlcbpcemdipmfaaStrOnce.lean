/-
  The walk of the law StrikeOnce: no number is taken twice where the time goes on, and the plain lemma beneath it. Conditions: those of the kinds of the numbers and of the slice.
-/
import Derived.Test.YtlcbpcemdipmfaaStrWalks
import Derived.Test.YtlcbpcemdipmfaaRowOf
namespace Go.Proofs.Ytlcbpcemdipmfaa
open Go.RowKit Go.Maps
namespace Str

/-- Each number that was taken is held, or what was made when it was made is old. -/
def Once (W t : Int) (L : List (Int × Int)) (T : Nat → Bool) : Prop := ∀ k : Nat, k < 16 → T k = true → ((k : Int), 3 * (k : Int)) ∈ L ∨ W < t - 3 * k

theorem once_start (W t : Int) : Once W t [] (fun _ => false) := fun _ _ h => by cases h

theorem tried_cases {W R n made now r : Int} {L L' : List (Int × Int)} (h : tried W R L n made now = (r, L')) :
    (r ≠ 0 ∧ (L' = L ∨ L' = sweep W now L)) ∨ (r = 0 ∧ made ≤ now ∧ now - made ≤ W ∧ held (sweep W now L) n = false ∧ L' = sweep W now L ++ [(n, made)]) := by
  unfold tried at h
  split at h
  · injection h with h1 h2; subst h1 h2; exact Or.inl ⟨by omega, Or.inl rfl⟩
  · split at h
    · injection h with h1 h2; subst h1 h2; exact Or.inl ⟨by omega, Or.inl rfl⟩
    · split at h
      · injection h with h1 h2; subst h1 h2; exact Or.inl ⟨by omega, Or.inr rfl⟩
      · split at h
        · injection h with h1 h2; subst h1 h2; exact Or.inl ⟨by omega, Or.inr rfl⟩
        · rename_i h3 _
          injection h with h1 h2; subst h1 h2
          exact Or.inr ⟨rfl, by omega, by omega, by simpa using h3, rfl⟩

theorem sweep_or {W t : Int} {L : List (Int × Int)} {p : Int × Int} (h : p ∈ L) : p ∈ sweep W t L ∨ W < t - p.2 := by
  by_cases hk : t - p.2 ≤ W
  · exact Or.inl (List.mem_filter.2 ⟨h, by unfold keep; simpa using hk⟩)
  · exact Or.inr (by omega)

theorem once_step {W R t t' r : Int} {L L' : List (Int × Int)} {T : Nat → Bool} (h : Once W t L T) (ht : t ≤ t') {k : Nat} (hk : k < 16) (hr : tried W R L k (3 * k) t' = (r, L')) :
    (r = 0 → T k = false ∧ 3 * (k : Int) ≤ t' ∧ t' - 3 * (k : Int) ≤ W) ∧ Once W t' L' (fun i => if i = k then (T k || decide (r = 0)) else T i) := by
  have hmem : ∀ j : Nat, j < 16 → T j = true → ((j : Int), 3 * (j : Int)) ∈ sweep W t' L ∨ W < t' - 3 * j := by
    intro j hj hT
    rcases h j hj hT with h1 | h1
    · exact sweep_or h1
    · exact Or.inr (by omega)
  rcases tried_cases hr with ⟨hr0, hL⟩ | ⟨hr0, h1, h2, h3, hL⟩
  · refine ⟨fun e => absurd e hr0, fun j hj hT => ?_⟩
    have hT' : T j = true := by
      by_cases e : j = k
      · subst e; simpa [hr0] using hT
      · simpa [e] using hT
    rcases hL with hL | hL
    · rw [hL]
      rcases h j hj hT' with h1 | h1
      · exact Or.inl h1
      · exact Or.inr (by omega)
    · rw [hL]; exact hmem j hj hT'
  · have hTk : T k = false := by
      cases hT : T k with
      | false => rfl
      | true =>
        rcases hmem k hk hT with h4 | h4
        · have : held (sweep W t' L) k = true := List.any_eq_true.2 ⟨_, h4, by simp⟩
          rw [h3] at this; cases this
        · omega
    refine ⟨fun _ => ⟨hTk, h1, h2⟩, fun j hj hT => ?_⟩
    rw [hL]
    by_cases e : j = k
    · subst e; exact Or.inl (List.mem_append.2 (Or.inr (by simp)))
    · have hT' : T j = true := by simpa [e] using hT
      rcases hmem j hj hT' with h4 | h4
      · exact Or.inl (List.mem_append.2 (Or.inl h4))
      · exact Or.inr h4

end Str

/-- Block b is an array of 16 bools, S. -/
def TakenAt (w : World) (b : Nat) (S : Nat → Bool) : Prop := b < w.heap.size ∧ ∀ j, j < 16 → w.cell? ⟨b, j, none⟩ = some (.bool (S j)) ∧ w.frozen? ⟨b, j, none⟩ = false
theorem taken_new (w : World) : TakenAt (w.alloc (.cells (Array.replicate 16 (.bool false)) 59)) w.heap.size (fun _ => false) := by
  refine ⟨by simp, ?_⟩
  intro j hj
  have h := (MapKept.heap_alloc w (.cells (Array.replicate 16 (.bool false)) 59)).1
  constructor
  · unfold World.cell?
    rw [h]
    simp [hj]
  · unfold World.frozen?
    rw [h]
    simp
theorem TakenAt.set {w : World} {b : Nat} {S : Nat → Bool} (h : TakenAt w b S) (k : Nat) (v : Bool) : TakenAt (w.setCell ⟨b, k, none⟩ (.bool v)) b (fun i => if i = k then v else S i) := by
  refine ⟨by simpa [World.setCell] using h.1, ?_⟩
  intro j hj
  refine ⟨?_, by rw [World.frozen?_setCell]; exact (h.2 j hj).2⟩
  by_cases e : j = k
  · subst e
    rw [World.cell?_setCell_same w _ _ (h.2 j hj).1]; simp
  · have hne : (⟨b, k, none⟩ : Addr) ≠ ⟨b, j, none⟩ := fun he => e (by injection he with _ h2; exact h2.symm)
    rw [World.cell?_setCell_other (h := hne), (h.2 j hj).1]; simp [e]
theorem TakenAt.kept {w w' : World} {b : Nat} {S : Nat → Bool} (h : TakenAt w b S) (hs : w.heap.size ≤ w'.heap.size) (e : w'.heap[b]? = w.heap[b]?) : TakenAt w' b S :=
  ⟨Nat.lt_of_lt_of_le h.1 hs, fun j hj => ⟨(World.cell?_of_block (a := ⟨b, j, none⟩) e).trans (h.2 j hj).1, (World.frozen?_of_block (a := ⟨b, j, none⟩) e).trans (h.2 j hj).2⟩⟩

theorem StoreAt.kept {w w' : World} {sb mb : Nat} {W R : Int} {L : List (Int × Int)} (h : StoreAt w sb mb W R L) (e1 : w'.heap[sb]? = w.heap[sb]?) (e2 : w'.heap[mb]? = w.heap[mb]?) : StoreAt w' sb mb W R L := by
  obtain ⟨D, ⟨es, clock, hb, F, hs, hD⟩, hS⟩ := h.map
  exact ⟨e1.trans h.cells, ⟨D, ⟨es, clock, e2.trans hb, F, hs, hD⟩, hS⟩, h.times, h.w0, h.w1, h.r0, h.r1⟩

set_option maxHeartbeats 1000000 in
theorem strike_once (p m : Int) (a : Option Addr) (len cap : Nat) (zs : List Int) (w : World) (hm : len ≤ 9223372036854775807) (hp0 : 0 ≤ p) (hp1 : p ≤ 255) (hm0 : 0 ≤ m) (hm1 : m ≤ 255)
    (hs : len = 0 ∨ ∃ b off, a = some ⟨b, off, none⟩ ∧ b < w.heap.size ∧ ∀ j, j < len → w.cell? ⟨b, off + j, none⟩ = some (.int .u16 (zs.getD j 0)))
    (hwf : ∀ j, j < len → (Lit.int .u16 (zs.getD j 0)).wf = true) :
    Calls Try.prog 10 #[.int .u8 p, .int .u8 m, .slice a len cap] w fun e w' => e = .returned (.bool true) ∧ Below w.heap.size w w' := by
  by_cases h100 : 100 < len
  · go_enter Try.func10, Try.ntmps10
    go_wp2
    go_ret
    exact ⟨rfl, Below.refl _ _⟩
  · have HSL : Hid _ := hs
    have HWF : Hid _ := hwf
    have hnew := new_store p m (by omega) w
    rw [show max p 0 = p from by omega, show min (max m 0) 65536 = m from by omega] at hnew
    have HN := hnew
    have HB : Hid (∀ W : World, TakenAt _ _ _) := taken_new
    clear hs hwf hnew
    go_enter Try.func10, Try.ntmps10
    go_wp2_with fail
    refine HN.mono ?_
    rintro e w1 ⟨rfl, h1, b1, s1⟩
    have H1 : Hid (StoreAt w1 (w.heap.size + 1) w.heap.size p m []) := h1
    have S1 : Hid (w1.heap.size = w.heap.size + 2) := s1
    clear h1 s1 HN
    go_wp2_with fail
    go_loopw [9, 10] (fun t i wr => ∃ (k : Nat) (t' : Int) (L : List (Int × Int)) (T : Nat → Bool), k ≤ len ∧ i = .int .i64 k ∧ t = .int .i64 t' ∧ 0 ≤ t' ∧ t' ≤ 7 * k ∧ StoreAt wr (w.heap.size + 1) w.heap.size p m L ∧ TakenAt wr w1.heap.size T ∧ Str.Once p t' L T ∧ (L.length : Int) ≤ m ∧ Below w.heap.size w wr) (fun _ i _ => len - (intOf i).toNat)
    case atStart => exact ⟨0, 0, [], _, by omega, rfl, rfl, by omega, by omega, H1.out.kept (Below.heap_alloc _ _ _ (by rw [S1.out]; omega)) (Below.heap_alloc _ _ _ (by rw [S1.out]; omega)), HB.out w1, Str.once_start _ _, by simpa using hm0, b1.alloc (by rw [S1.out]; omega) _⟩
    case round =>
      clear b1
      obtain ⟨k, t, L, T, hk, rfl, rfl, ht0, ht1, hS, hT, hO, hlen, hB⟩ := hrel
      by_cases hlt : k < len
      · obtain ⟨b, off, rfl, hb, hc⟩ := HSL.out.resolve_left (by omega)
        have hz := hc k hlt
        have hwz := HWF.out k hlt
        generalize zs.getD k 0 = z at hz hwz
        obtain ⟨hz0, hz1⟩ := bounds_u16 hwz
        have hz' := (hB.cell (p := ⟨b, off + k, none⟩) hb).trans hz
        obtain ⟨d, hd⟩ : ∃ d, z / 16 % 8 = d := ⟨_, rfl⟩
        have hd0 : 0 ≤ d := by omega
        have hd1 : d ≤ 7 := by omega
        obtain ⟨q, hq, hqz⟩ : ∃ q : Nat, q < 16 ∧ z % 16 = q := ⟨(z % 16).toNat, by omega, by omega⟩
        obtain ⟨r, L', hr⟩ : ∃ r L', Str.tried p m L q (3 * q) (t + d) = (r, L') := ⟨_, _, rfl⟩
        have hst := Str.once_step hO (t' := t + d) (by omega) hq hr
        have hwq : (Lit.int .i64 (q : Int)).wf = true := WalkArith.wf_i64 (by omega)
        have hwm : (Lit.int .i64 (3 * (q : Int))).wf = true := WalkArith.wf_i64 (by omega)
        have hwt : (Lit.int .i64 (t + d)).wf = true := WalkArith.wf_i64 (by omega)
        have HTRY : Hid (Calls Try.prog 27 #[.pointer (some ⟨w.heap.size + 1, 0, none⟩), .int .i64 q, .int .i64 (3 * (q : Int)), .int .i64 (t + d)] wr fun e w' =>
            e = .returned (.int .i64 r) ∧ StoreAt w' (w.heap.size + 1) w.heap.size p m L' ∧ wr.grownBy w' (some w.heap.size)) := try_to hS hwq hwm hwt hr
        have HSB : Hid (w.heap.size + 1 < w1.heap.size) := by have := S1.out; show _ < _; omega
        have hroom := Str.tried_room (W := p) hlen q (3 * q) (t + d)
        rw [hr] at hroom
        have HROOM : Hid ((L'.length : Int) ≤ m) := hroom
        have hq0 : (0 : Int) ≤ q := by omega
        have hq1 : (q : Int) < 16 := by omega
        have hne : b ≠ w.heap.size := by omega
        have hT0 := (hT.2 q hq).1
        have hT1 := (hT.2 q hq).2
        have HTT : Hid (TakenAt wr w1.heap.size T) := hT
        obtain ⟨u, hu⟩ : ∃ u, T q = u := ⟨_, rfl⟩
        rw [hu] at hst
        have HU : Hid (T q = u) := hu
        clear hc hwz hwq hwm hwt hroom hO hT hr hS HSL HWF HB hz hu hT0 hT1
        by_cases hr0 : r = 0
        · obtain ⟨hst1, hst2⟩ := hst
          obtain ⟨hu0, hu1, hu2⟩ := hst1 hr0
          subst hr0
          subst hu0
          have HON : Hid (Str.Once p (t + d) L' (fun i => if i = q then true else T i)) := by show Str.Once _ _ _ _; simpa using hst2
          clear hst1 hst2
          go_wp2_with fail
          refine HTRY.out.mono ?_
          rintro e w2 ⟨rfl, h2, g2⟩
          have e2 := g2.block w1.heap.size HTT.out.1 (by have := HSB.out; simp; omega)
          have HT2 := HTT.out.kept g2.size e2
          have hT2 := (HT2.2 q hq).1
          rw [HU.out] at hT2
          have hT3 := (HT2.2 q hq).2
          have H2 : Hid (StoreAt w2 (w.heap.size + 1) w.heap.size p m L') := h2
          have HT4 : Hid (TakenAt w2 w1.heap.size T) := HT2
          clear e2 HT2 h2
          go_wp2_with fail
          go_roundw
          case rel => exact ⟨k + 1, t + d, L', _, by omega, by go_num, rfl, by omega, by omega, H2.out.kept (Below.heap_setCell _ _ _ _ (by have := HSB.out; simp; omega)) (Below.heap_setCell _ _ _ _ (by have := HSB.out; simp; omega)), HT4.out.set q true, HON.out, HROOM.out, (hB.grown g2 (by have := HTT.out.1; have := HSB.out; omega) (fun j hj => by cases hj; omega)).setCell (by have := HSB.out; simp; omega) _⟩
          case measure => simp [intOf]; omega
        · have hrb : (r == 0) = false := by simpa using hr0
          have HON : Hid (Str.Once p (t + d) L' (fun i => if i = q then u else T i)) := by have := hst.2; show Str.Once _ _ _ _; simpa [hr0] using this
          clear hst hr0
          cases u
          all_goals
            go_wp2_with fail
            refine HTRY.out.mono ?_
            rintro e w2 ⟨rfl, h2, g2⟩
            have e2 := g2.block w1.heap.size HTT.out.1 (by have := HSB.out; simp; omega)
            have HT2 := HTT.out.kept g2.size e2
            have hT2 := (HT2.2 q hq).1
            rw [HU.out] at hT2
            have hT3 := (HT2.2 q hq).2
            have H2 : Hid (StoreAt w2 (w.heap.size + 1) w.heap.size p m L') := h2
            have HT4 : Hid (TakenAt w2 w1.heap.size T) := HT2
            clear e2 HT2 h2
            go_wp2_with fail
            go_roundw
            case rel => exact ⟨k + 1, t + d, L', _, by omega, by go_num, rfl, by omega, by omega, H2.out.kept (Below.heap_setCell _ _ _ _ (by have := HSB.out; simp; omega)) (Below.heap_setCell _ _ _ _ (by have := HSB.out; simp; omega)), HT4.out.set q _, HON.out, HROOM.out, (hB.grown g2 (by have := HTT.out.1; have := HSB.out; omega) (fun j hj => by cases hj; omega)).setCell (by have := HSB.out; simp; omega) _⟩
            case measure => simp [intOf]; omega
      · have HS : Hid (StoreAt wr (w.heap.size + 1) w.heap.size p m L) := hS
        clear hT hO hS
        go_wp2_with fail
        refine (many_any HS.out).mono ?_
        rintro e w2 ⟨rfl, rfl⟩
        go_wp2_with fail
        refine (awake_str _).mono ?_
        rintro e w3 ⟨rfl, b3⟩
        go_wp2_with fail
        go_ret
        exact ⟨rfl, hB.trans (b3.mono hB.size)⟩
end Go.Proofs.Ytlcbpcemdipmfaa
