/-
  The walk of the law StrikeTries: the program's store and the reference's, told the same acts, answer alike. Conditions: the first number and the acts' numbers fit their kinds.
-/
import Derived.Test.YtlcbpcemdipmfaaStrRef
import Derived.Deep.RegionHeld3
namespace Go.Proofs.Ytlcbpcemdipmfaa
open Go.RowKit

/-- What holds under a sharper condition on the worlds of a region holds under a weaker one. -/
theorem wpAnyH_weaken {P : Program} {ops : Array Oper} {Q : Exit → Act → World → Prop} {md : Region.Mode} {S S' : World → Prop} (h : ∀ w, S' w → S w) :
    ∀ (fuel : Nat) (listed : Array Bool) (a : Act) (w : World), wpAnyH P md ops Q S' fuel listed a w → wpAnyH P md ops Q S fuel listed a w
  | 0, _, _, _, hw => hw
  | fuel + 1, _, _, _, hw => ⟨hw.1, fun i hi => wpOp_mono (fun a' w' hs => ⟨h _ hs.1, wpAnyH_weaken h fuel _ a' w' hs.2⟩) (hw.2 i hi)⟩

set_option maxHeartbeats 4000000 in
theorem tries_any (p m : Int) (a : Option Addr) (len cap : Nat) (zn zm zt : Nat → Int) (w : World) (hp : p ≤ 9223372036854775807) (hm : len ≤ 9223372036854775807)
    (hs : len = 0 ∨ ∃ b off, a = some ⟨b, off, none⟩ ∧ b < w.heap.size ∧ ∀ j, j < len → w.cell? ⟨b, off + j * 3, none⟩ = some (.int .i64 (zn j)) ∧ w.cell? ⟨b, off + j * 3 + 1, none⟩ = some (.int .i64 (zm j)) ∧ w.cell? ⟨b, off + j * 3 + 2, none⟩ = some (.int .i64 (zt j)))
    (hwf : ∀ j, j < len → (Lit.int .i64 (zn j)).wf = true ∧ (Lit.int .i64 (zm j)).wf = true ∧ (Lit.int .i64 (zt j)).wf = true) :
    Calls Try.prog 9 #[.int .i64 p, .int .i64 m, .slice a len cap] w fun e w' => e = .returned (.bool true) ∧ Below w.heap.size w w' := by
  by_cases h100 : 100 < len
  · go_enter Try.func9, Try.ntmps9
    go_wp2
    go_ret
    exact ⟨rfl, Below.refl _ _⟩
  · have HSL : Hid _ := hs
    have HWF : Hid _ := hwf
    obtain ⟨W, hW⟩ : ∃ W, max p 0 = W := ⟨_, rfl⟩
    obtain ⟨R, hR⟩ : ∃ R, min (max m 0) 65536 = R := ⟨_, rfl⟩
    have hr0 : 0 ≤ R := by omega
    have hr1 : R ≤ 65536 := by omega
    have HN := new_store p m hp w
    have HM := fun w => refnew_store p m w
    rw [hW, hR] at HN
    simp only [hW, hR] at HM
    clear hs hwf hW hR
    go_enter Try.func9, Try.ntmps9
    go_wp2_with fail
    refine HN.mono ?_
    rintro e w1 ⟨rfl, h1, b1, s1⟩
    have H1 : Hid (StoreAt w1 (w.heap.size + 1) w.heap.size W R []) := h1
    have S1 : Hid (w1.heap.size = w.heap.size + 2) := s1
    have HM1 := HM w1
    clear h1 s1 HN HM
    go_wp2_with fail
    refine HM1.mono ?_
    rintro e w2 ⟨rfl, h2, e2⟩
    have H2 : Hid (RefStore w2 w1.heap.size W R []) := h2
    have S2 : Hid (StoreAt w2 (w.heap.size + 1) w.heap.size W R []) := by
      have hs := S1.out
      obtain ⟨D, ⟨es, clock, hb, F, hs', hD⟩, hS⟩ := H1.out.map
      subst e2
      exact ⟨(Below.heap_alloc _ _ _ (by omega)).trans H1.out.cells, ⟨D, ⟨es, clock, (Below.heap_alloc _ _ _ (by omega)).trans hb, F, hs', hD⟩, hS⟩, H1.out.times, H1.out.w0, H1.out.w1, H1.out.r0, H1.out.r1⟩
    have B2 : Hid (Below w.heap.size w w2) := by subst e2; exact b1.alloc (by rw [S1.out]; omega) _
    have S3 : Hid (w2.heap.size = w.heap.size + 3) := by subst e2; show _ = _; simp [S1.out]
    clear HM1 h2 e2 b1 H1
    go_wp2_with fail
    go_loopw [9] (fun i wr => ∃ (k : Nat) (L : List (Int × Int)), k ≤ len ∧ i = .int .i64 k ∧ StoreAt wr (w.heap.size + 1) w.heap.size W R L ∧ RefStore wr w1.heap.size W R L ∧ (L.length : Int) ≤ R ∧ Below w.heap.size w wr ∧ w.heap.size + 3 ≤ wr.heap.size) (fun i _ => len - (intOf i).toNat)
    case atStart => exact ⟨0, [], by omega, rfl, S2.out, H2.out, by simpa using hr0, B2.out, by rw [S3.out]; omega⟩
    case round =>
      obtain ⟨k, L, hk, rfl, hS, hF, hlen, hB, hsz⟩ := hrel
      by_cases hlt : k < len
      · obtain ⟨b, off, rfl, hb, hc⟩ := HSL.out.resolve_left (by omega)
        obtain ⟨e1, e2, e3⟩ := hc k hlt
        obtain ⟨f1, f2, f3⟩ := HWF.out k hlt
        generalize zn k = n at e1 f1
        generalize zm k = made at e2 f2
        generalize zt k = now at e3 f3
        have d1 := (hB.cell (p := ⟨b, off + k * 3, none⟩) hb).trans e1
        have d2 := (hB.cell (p := ⟨b, off + k * 3 + 1, none⟩) hb).trans e2
        have d3 := (hB.cell (p := ⟨b, off + k * 3 + 2, none⟩) hb).trans e3
        obtain ⟨r, L', hr⟩ : ∃ r L', Str.tried W R L n made now = (r, L') := ⟨_, _, rfl⟩
        have hroom := Str.tried_room (W := W) hlen n made now
        rw [hr] at hroom
        have hSd : StoreAt wr.drew (w.heap.size + 1) w.heap.size W R L := ⟨hS.cells, hS.map, hS.times, hS.w0, hS.w1, hS.r0, hS.r1⟩
        have hFd : RefStore wr.drew w1.heap.size W R L := hF
        have hLL : L.length ≤ 1000000 := by omega
        have HT : Hid (Str.Times L) := hS.times
        have HR : Hid _ := hr
        have F1 : Hid _ := f1
        have F2 : Hid _ := f2
        have F3 : Hid _ := f3
        have HROOM : Hid ((L'.length : Int) ≤ R) := hroom
        have hne : b ≠ w.heap.size := by omega
        have hne2 : b ≠ w1.heap.size := by have := S1.out; omega
        clear hr f1 f2 f3 hroom hc e1 e2 e3 HSL HWF
        go_wp2_with fail
        refine wp_region_held_drew (S := fun w' : World => w'.cell? ⟨b, off + k * 3, none⟩ = some (.int .i64 n) ∧ w'.cell? ⟨b, off + k * 3 + 1, none⟩ = some (.int .i64 made) ∧ w'.cell? ⟨b, off + k * 3 + 2, none⟩ = some (.int .i64 now)) (by kernel_rfl) ⟨d1, d2, d3⟩ (fun hHeld => ?_)
        refine wpAnyH_take (i := 0) (v := ?v0) rfl (by kernel_rfl) (by kernel_rfl) (by kernel_rfl) (fun _ _ _ h => h) (Or.inl ⟨by rfl, ?y0⟩) (by assumption) ?r0
        case y0 => (intro w hSw; (try dsimp only at hSw); go_simp; (try (with_reducible rfl)))
        go_frame
        refine wpAnyH_take (i := 1) (v := ?v1) rfl (by kernel_rfl) (by kernel_rfl) (by kernel_rfl) (fun _ _ _ h => h) (Or.inl ⟨by rfl, ?y1⟩) (by assumption) ?r1
        case y1 => (intro w hSw; (try dsimp only at hSw); go_simp; (try (with_reducible rfl)))
        go_frame
        refine wpAnyH_take (i := 2) (v := ?v2) rfl (by kernel_rfl) (by kernel_rfl) (by kernel_rfl) (fun _ _ _ h => h) (Or.inl ⟨by rfl, ?y2⟩) (by assumption) ?r2
        case y2 => (intro w hSw; (try dsimp only at hSw); go_simp; (try (with_reducible rfl)))
        go_frame
        refine wpAnyH_take (i := 3) (v := ?v3) rfl (by kernel_rfl) (by kernel_rfl) (by kernel_rfl) (fun _ _ _ h => h) (Or.inl ⟨by rfl, ?y3⟩) (by assumption) ?r3
        case y3 => (intro w hSw; (try dsimp only at hSw); go_simp; (try (with_reducible rfl)))
        go_frame
        refine wpAnyH_take (i := 4) (v := ?v4) rfl (by kernel_rfl) (by kernel_rfl) (by kernel_rfl) (fun _ _ _ h => h) (Or.inl ⟨by rfl, ?y4⟩) (by assumption) ?r4
        case y4 => (intro w hSw; (try dsimp only at hSw); go_simp; (try (with_reducible rfl)))
        go_frame
        refine wpAnyH_take (i := 5) (v := ?v5) rfl (by kernel_rfl) (by kernel_rfl) (by kernel_rfl) (fun _ _ _ h => h) (Or.inl ⟨by rfl, ?y5⟩) (by assumption) ?r5
        case y5 => (intro w hSw; (try dsimp only at hSw); go_simp; (try (with_reducible rfl)))
        go_frame
        refine wpAnyH_take (i := 6) (v := ?v6) rfl (by kernel_rfl) (by kernel_rfl) (by kernel_rfl) (fun _ _ _ h => h) (Or.inl ⟨by rfl, ?y6⟩) (by assumption) ?r6
        case y6 => (intro w hSw; (try dsimp only at hSw); go_simp; (try (with_reducible rfl)))
        go_frame
        refine wpAnyH_take (i := 7) (v := ?v7) rfl (by kernel_rfl) (by kernel_rfl) (by kernel_rfl) (fun _ _ _ h => h) (Or.inl ⟨by rfl, ?y7⟩) (by assumption) ?r7
        case y7 => (intro w hSw; (try dsimp only at hSw); go_simp; (try (with_reducible rfl)))
        go_frame
        refine wpAnyH_take (i := 8) (v := ?v8) rfl (by kernel_rfl) (by kernel_rfl) (by kernel_rfl) (fun _ _ _ h => h) (Or.inl ⟨by rfl, ?y8⟩) (by assumption) ?r8
        case y8 => (intro w hSw; (try dsimp only at hSw); go_simp; (try (with_reducible rfl)))
        go_frame
        refine wpAnyH_take (i := 9) (v := ?v9) rfl (by kernel_rfl) (by kernel_rfl) (by kernel_rfl) (fun _ _ _ h => h) (Or.inl ⟨by rfl, ?y9⟩) (by assumption) ?r9
        case y9 => (intro w hSw; (try dsimp only at hSw); go_simp; (try (with_reducible rfl)))
        go_frame
        refine wpAnyH_take (i := 10) (v := ?v10) rfl (by kernel_rfl) (by kernel_rfl) (by kernel_rfl) (fun _ _ _ h => h) (Or.inl ⟨by rfl, ?y10⟩) (by assumption) ?r10
        case y10 => (intro w hSw; (try dsimp only at hSw); go_simp; (try (with_reducible rfl)))
        go_frame
        refine wpAnyH_take (i := 11) (v := ?v11) rfl (by kernel_rfl) (by kernel_rfl) (by kernel_rfl) (fun _ _ _ h => h) (Or.inl ⟨by rfl, ?y11⟩) (by assumption) ?r11
        case y11 => (intro w hSw; (try dsimp only at hSw); go_simp; (try (with_reducible rfl)))
        go_frame
        refine wpAnyH_take (i := 12) (v := ?v12) rfl (by kernel_rfl) (by kernel_rfl) (by kernel_rfl) (fun _ _ _ h => h) (Or.inl ⟨by rfl, ?y12⟩) (by assumption) ?r12
        case y12 => (intro w hSw; (try dsimp only at hSw); go_simp; (try (with_reducible rfl)))
        go_frame
        refine wpAnyH_take (i := 13) (v := ?v13) rfl (by kernel_rfl) (by kernel_rfl) (by kernel_rfl) (fun _ _ _ h => h) (Or.inl ⟨by rfl, ?y13⟩) (by assumption) ?r13
        case y13 => (intro w hSw; (try dsimp only at hSw); go_simp; (try (with_reducible rfl)))
        go_frame
        refine wpAnyH_take (i := 14) (v := ?v14) rfl (by kernel_rfl) (by kernel_rfl) (by kernel_rfl) (fun _ _ _ h => h) (Or.inl ⟨by rfl, ?y14⟩) (by assumption) ?r14
        case y14 => (intro w hSw; (try dsimp only at hSw); go_simp; (try (with_reducible rfl)))
        go_frame
        refine wpAnyH_take (i := 15) (v := ?v15) rfl (by kernel_rfl) (by kernel_rfl) (by kernel_rfl) (fun _ _ _ h => h) (Or.inl ⟨by rfl, ?y15⟩) (by assumption) ?r15
        case y15 => (intro w hSw; (try dsimp only at hSw); go_simp; (try (with_reducible rfl)))
        go_frame
        refine wpAnyH_take (i := 17) (v := ?v17) rfl (by kernel_rfl) (by kernel_rfl) (by kernel_rfl) (fun _ _ _ h => h) (Or.inl ⟨by rfl, ?y17⟩) (by assumption) ?r17
        case y17 => (intro w hSw; (try dsimp only at hSw); go_simp; (try (with_reducible rfl)))
        go_frame
        refine wpAnyH_take (i := 18) (v := ?v18) rfl (by kernel_rfl) (by kernel_rfl) (by kernel_rfl) (fun _ _ _ h => h) (Or.inl ⟨by rfl, ?y18⟩) (by assumption) ?r18
        case y18 => (intro w hSw; (try dsimp only at hSw); go_simp; (try (with_reducible rfl)))
        go_frame
        refine wpAnyH_take (i := 19) (v := ?v19) rfl (by kernel_rfl) (by kernel_rfl) (by kernel_rfl) (fun _ _ _ h => h) (Or.inl ⟨by rfl, ?y19⟩) (by assumption) ?r19
        case y19 => (intro w hSw; (try dsimp only at hSw); go_simp; (try (with_reducible rfl)))
        go_frame
        refine wpAnyH_take (i := 20) (v := ?v20) rfl (by kernel_rfl) (by kernel_rfl) (by kernel_rfl) (fun _ _ _ h => h) (Or.inl ⟨by rfl, ?y20⟩) (by assumption) ?r20
        case y20 => (intro w hSw; (try dsimp only at hSw); go_simp; (try (with_reducible rfl)))
        go_frame
        refine wpAnyH_take (i := 21) (v := ?v21) rfl (by kernel_rfl) (by kernel_rfl) (by kernel_rfl) (fun _ _ _ h => h) (Or.inl ⟨by rfl, ?y21⟩) (by assumption) ?r21
        case y21 => (intro w hSw; (try dsimp only at hSw); go_simp; (try (with_reducible rfl)))
        go_frame
        refine wpAnyH_take (i := 22) (v := ?v22) rfl (by kernel_rfl) (by kernel_rfl) (by kernel_rfl) (fun _ _ _ h => h) (Or.inl ⟨by rfl, ?y22⟩) (by assumption) ?r22
        case y22 => (intro w hSw; (try dsimp only at hSw); go_simp; (try (with_reducible rfl)))
        go_frame
        refine wpAnyH_take (i := 23) (v := ?v23) rfl (by kernel_rfl) (by kernel_rfl) (by kernel_rfl) (fun _ _ _ h => h) (Or.inl ⟨by rfl, ?y23⟩) (by assumption) ?r23
        case y23 => (intro w hSw; (try dsimp only at hSw); go_simp; (try (with_reducible rfl)))
        go_frame
        refine wpAnyH_take (i := 24) (v := ?v24) rfl (by kernel_rfl) (by kernel_rfl) (by kernel_rfl) (fun _ _ _ h => h) (Or.inl ⟨by rfl, ?y24⟩) (by assumption) ?r24
        case y24 => (intro w hSw; (try dsimp only at hSw); go_simp; (try (with_reducible rfl)))
        go_frame
        refine wpAnyH_take (i := 25) (v := ?v25) rfl (by kernel_rfl) (by kernel_rfl) (by kernel_rfl) (fun _ _ _ h => h) (Or.inl ⟨by rfl, ?y25⟩) (by assumption) ?r25
        case y25 => (intro w hSw; (try dsimp only at hSw); go_simp; (try (with_reducible rfl)))
        go_frame
        refine wpAnyH_take (i := 26) (v := ?v26) rfl (by kernel_rfl) (by kernel_rfl) (by kernel_rfl) (fun _ _ _ h => h) (Or.inl ⟨by rfl, ?y26⟩) (by assumption) ?r26
        case y26 => (intro w hSw; (try dsimp only at hSw); go_simp; (try (with_reducible rfl)))
        go_frame
        refine wpAnyH_take (i := 27) (v := ?v27) rfl (by kernel_rfl) (by kernel_rfl) (by kernel_rfl) (fun _ _ _ h => h) (Or.inl ⟨by rfl, ?y27⟩) (by assumption) ?r27
        case y27 => (intro w hSw; (try dsimp only at hSw); go_simp; (try (with_reducible rfl)))
        go_frame
        refine wpAnyH_take (i := 28) (v := ?v28) rfl (by kernel_rfl) (by kernel_rfl) (by kernel_rfl) (fun _ _ _ h => h) (Or.inl ⟨by rfl, ?y28⟩) (by assumption) ?r28
        case y28 => (intro w hSw; (try dsimp only at hSw); go_simp; (try (with_reducible rfl)))
        go_frame
        refine wpAnyH_take (i := 29) (v := ?v29) rfl (by kernel_rfl) (by kernel_rfl) (by kernel_rfl) (fun _ _ _ h => h) (Or.inl ⟨by rfl, ?y29⟩) (by assumption) ?r29
        case y29 => (intro w hSw; (try dsimp only at hSw); go_simp; (try (with_reducible rfl)))
        go_frame
        refine wpAnyH_take (i := 30) (v := ?v30) rfl (by kernel_rfl) (by kernel_rfl) (by kernel_rfl) (fun _ _ _ h => h) (Or.inl ⟨by rfl, ?y30⟩) (by assumption) ?r30
        case y30 => (intro w hSw; (try dsimp only at hSw); go_simp; (try (with_reducible rfl)))
        go_frame
        refine wpAnyH_take (i := 31) (v := ?v31) rfl (by kernel_rfl) (by kernel_rfl) (by kernel_rfl) (fun _ _ _ h => h) (Or.inl ⟨by rfl, ?y31⟩) (by assumption) ?r31
        case y31 => (intro w hSw; (try dsimp only at hSw); go_simp; (try (with_reducible rfl)))
        go_frame
        refine wpAnyH_take (i := 32) (v := ?v32) rfl (by kernel_rfl) (by kernel_rfl) (by kernel_rfl) (fun _ _ _ h => h) (Or.inl ⟨by rfl, ?y32⟩) (by assumption) ?r32
        case y32 => (intro w hSw; (try dsimp only at hSw); go_simp; (try (with_reducible rfl)))
        go_frame
        refine wpAnyH_ready (rs := [16]) (by kernel_rfl) (by simp) ?_
        refine AllReadyH.cons rfl (fun K hK => ?_) AllReadyH.nil
        go_simp
        refine (try_to hSd F1.out F2.out F3.out HR.out).mono ?_
        rintro e wa ⟨rfl, hSa, ga⟩
        have hFa := hFd.kept hSd ga
        have q1 := ga.cell d1 (by simpa using hne)
        have q2 := ga.cell d2 (by simpa using hne)
        have q3 := ga.cell d3 (by simpa using hne)
        refine hK.out _ _ ⟨q1, q2, q3⟩ (fun hHeld2 => ?_)
        clear hK hHeld
        (try go_frame)
        refine wpAnyH_ready (rs := [33]) (by kernel_rfl) (by simp) ?_
        refine AllReadyH.cons rfl (fun K hK => ?_) AllReadyH.nil
        go_simp
        refine (reftry_to hFa HT.out hLL F2.out F3.out HR.out).mono ?_
        rintro e wb ⟨rfl, hFb, gb⟩
        have hSb := hSa.keptRef hFa gb
        obtain ⟨ab, capb, hk2⟩ := hFb.slot
        refine hK.out _ _ ⟨gb.cell q1 (by simpa using hne2), gb.cell q2 (by simpa using hne2), gb.cell q3 (by simpa using hne2)⟩ (fun hHeld3 => ?_)
        clear hK hHeld2
        refine wpAnyH_weaken (S' := fun w' : World => (w'.cell? ⟨b, off + k * 3, none⟩ = some (.int .i64 n) ∧ w'.cell? ⟨b, off + k * 3 + 1, none⟩ = some (.int .i64 made) ∧ w'.cell? ⟨b, off + k * 3 + 2, none⟩ = some (.int .i64 now)) ∧ w'.cell? ⟨w1.heap.size, 2, none⟩ = some (.slice ab L'.length capb)) (fun _ h => h.1) _ _ _ _ ?_
        have hHeld4 := And.intro hHeld3 hk2
        clear hHeld3
        (try go_frame)
        refine wpAnyH_take (i := 34) (v := ?v34) rfl (by kernel_rfl) (by kernel_rfl) (by kernel_rfl) (fun _ _ _ h => h) (Or.inl ⟨by rfl, ?y34⟩) (by assumption) ?r34
        case y34 => (intro w hSw; (try dsimp only at hSw); go_simp; (try (with_reducible rfl)))
        go_frame
        refine wpAnyH_take (i := 35) (v := ?v35) rfl (by kernel_rfl) (by kernel_rfl) (by kernel_rfl) (fun _ _ _ h => h) (Or.inl ⟨by rfl, ?y35⟩) (by assumption) ?r35
        case y35 => (intro w hSw; (try dsimp only at hSw); go_simp; (try (with_reducible rfl)))
        go_frame
        refine wpAnyH_take (i := 36) (v := ?v36) rfl (by kernel_rfl) (by kernel_rfl) (by kernel_rfl) (fun _ _ _ h => h) (Or.inl ⟨by rfl, ?y36⟩) (by assumption) ?r36
        case y36 => (intro w hSw; (try dsimp only at hSw); go_simp; (try (with_reducible rfl)))
        go_frame
        refine wpAnyH_take (i := 38) (v := ?v38) rfl (by kernel_rfl) (by kernel_rfl) (by kernel_rfl) (fun _ _ _ h => h) (Or.inl ⟨by rfl, ?y38⟩) (by assumption) ?r38
        case y38 => (intro w hSw; (try dsimp only at hSw); go_simp; (try (with_reducible rfl)))
        go_frame
        refine wpAnyH_take (i := 39) (v := ?v39) rfl (by kernel_rfl) (by kernel_rfl) (by kernel_rfl) (fun _ _ _ h => h) (Or.inl ⟨by rfl, ?y39⟩) (by assumption) ?r39
        case y39 => (intro w hSw; (try dsimp only at hSw); go_simp; (try (with_reducible rfl)))
        go_frame
        refine wpAnyH_take (i := 40) (v := ?v40) rfl (by kernel_rfl) (by kernel_rfl) (by kernel_rfl) (fun _ _ _ h => h) (Or.inl ⟨by rfl, ?y40⟩) (by assumption) ?r40
        case y40 => (intro w hSw; (try dsimp only at hSw); go_simp; (try (with_reducible rfl)))
        go_frame
        refine wpAnyH_take (i := 41) (v := ?v41) rfl (by kernel_rfl) (by kernel_rfl) (by kernel_rfl) (fun _ _ _ h => h) (Or.inl ⟨by rfl, ?y41⟩) (by assumption) ?r41
        case y41 => (intro w hSw; (try dsimp only at hSw); go_simp; (try (with_reducible rfl)))
        go_frame
        refine wpAnyH_take (i := 42) (v := ?v42) rfl (by kernel_rfl) (by kernel_rfl) (by kernel_rfl) (fun _ _ _ h => h) (Or.inl ⟨by rfl, ?y42⟩) (by assumption) ?r42
        case y42 => (intro w hSw; (try dsimp only at hSw); go_simp; (try (with_reducible rfl)))
        go_frame
        refine wpAnyH_ready (rs := [37]) (by kernel_rfl) (by simp) ?_
        refine AllReadyH.cons rfl (fun K hK => ?_) AllReadyH.nil
        go_simp
        refine (many_any hSb).mono ?_
        rintro e wc ⟨rfl, rfl⟩
        refine hK.out _ _ hHeld4 (fun hHeld5 => ?_)
        clear hK hHeld4
        (try go_frame)
        refine wpAnyH_take (i := 43) (v := ?v43) rfl (by kernel_rfl) (by kernel_rfl) (by kernel_rfl) (fun _ _ _ h => h) (Or.inl ⟨by rfl, ?y43⟩) (by assumption) ?r43
        case y43 => (intro w hSw; (try dsimp only at hSw); go_simp; (try (with_reducible rfl)))
        go_frame
        refine wpAnyH_take (i := 44) (v := ?v44) rfl (by kernel_rfl) (by kernel_rfl) (by kernel_rfl) (fun _ _ _ h => h) (Or.inl ⟨by rfl, ?y44⟩) (by assumption) ?r44
        case y44 => (intro w hSw; (try dsimp only at hSw); go_simp; (try (with_reducible rfl)))
        go_frame
        refine wpAnyH_done (by kernel_rfl) ?_ _
        clear hHeld5
        go_wp2
        go_roundw
        case rel =>
          have z1 := ga.size
          have hB2 := hB.drew.grown ga (by show w.heap.size ≤ wr.heap.size; omega) (fun j hj => by cases hj; exact Nat.le_refl _)
          exact ⟨k + 1, L', by omega, by go_num, hSb, hFb, HROOM.out, hB2.grown gb hB2.size (fun j hj => by cases hj; have := S1.out; omega), Nat.le_trans hsz (Nat.le_trans z1 gb.size)⟩
        case measure => simp [intOf]; omega
      · go_wp2_with fail
        refine (try_nil _ _ _ _).mono ?_
        rintro e w3 ⟨rfl, rfl⟩
        go_wp2_with fail
        refine (many_nil _).mono ?_
        rintro e w3 ⟨rfl, rfl⟩
        go_wp2_with fail
        refine (awake_str _).mono ?_
        rintro e w3 ⟨rfl, b3⟩
        go_wp2_with fail
        go_ret
        exact ⟨rfl, hB.trans (b3.mono hB.size)⟩

end Go.Proofs.Ytlcbpcemdipmfaa
