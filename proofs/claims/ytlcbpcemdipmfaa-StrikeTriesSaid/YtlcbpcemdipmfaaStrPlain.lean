/-
  Plain lemmas on the store of chapter 18: what a try answers and leaves (told by the list of what is held), and that a map as read holds just the list, also while it is swept in whatever order. No condition beyond what each lemma names; no program in sight.
-/
import Derived.WalkKit
import Derived.Maps.RangeWalk
import Derived.Maps.Ext
namespace Go.Proofs.Ytlcbpcemdipmfaa
namespace Str

/-- Is what was made then still held at now? -/
def keep (W now : Int) (p : Int × Int) : Bool := decide (now - p.2 ≤ W)
/-- What is left when what is old has gone. -/
def sweep (W now : Int) (L : List (Int × Int)) : List (Int × Int) := L.filter (keep W now)
/-- Is n held? -/
def held (L : List (Int × Int)) (n : Int) : Bool := L.any (fun p => p.1 == n)
/-- A try: the error's number, and what is held behind it. -/
def tried (W R : Int) (L : List (Int × Int)) (n made now : Int) : Int × List (Int × Int) :=
  if made < 0 ∨ now < 0 then (1, L)
  else if now < made ∨ W < now - made then (9, L)
  else if held (sweep W now L) n = true then (10, sweep W now L)
  else if R ≤ ((sweep W now L).length : Int) then (5, sweep W now L)
  else (0, sweep W now L ++ [(n, made)])

/-- The map as read holds just the list. -/
structure Same (D : DataW Unit) (L : List (Int × Int)) : Prop where
  has : ∀ n : Int, Maps.has D (.int .i64 n) = held L n
  elem : ∀ p ∈ L, ∀ z, D.atKey (.int .i64 p.1) z = .lit (.int .i64 p.2)
  size : Maps.size D = L.length
  apart : L.Pairwise (fun p q => p.1 ≠ q.1)

theorem same_empty : Same (.map []) [] := ⟨fun _ => rfl, (by intro p h; cases h), rfl, List.Pairwise.nil⟩

theorem key_ne {a b : Int} (h : a ≠ b) : (Lit.int .i64 a) ≠ (Lit.int .i64 b) := fun e => h (by injection e)
theorem sameKey_int (a b : Int) : (Lit.int .i64 a).sameKey (.int .i64 b) = (a == b) := by
  by_cases h : a = b
  · subst h; simp [Lit.sameKey]
  · rw [Maps.sameKey_ne (key_ne h)]; simp [h]

theorem held_append (L : List (Int × Int)) (n m k : Int) : held (L ++ [(n, m)]) k = (held L k || (n == k)) := by simp [held]

theorem Same.put {D : DataW Unit} {L : List (Int × Int)} (h : Same D L) (ht : Maps.Tidy D) (n m : Int) (hn : held L n = false) : Same (D.put (.int .i64 n) (.lit (.int .i64 m))) (L ++ [(n, m)]) := by
  have hnm : ∀ p ∈ L, p.1 ≠ n := by
    intro p hp e
    have : held L n = true := List.any_eq_true.2 ⟨p, hp, by simpa using e⟩
    rw [hn] at this; cases this
  refine ⟨fun k => ?_, fun p hp z => ?_, ?_, ?_⟩
  · rw [held_append]
    by_cases e : k = n
    · subst e; rw [Maps.has_put_same ht.isMap (by trivial)]; simp
    · rw [Maps.has_put_other (key_ne e), h.has]; simp [Ne.symm e]
  · rcases List.mem_append.1 hp with hp | hp
    · rw [Maps.atKey_put_other (key_ne (hnm p hp))]; exact h.elem p hp z
    · rw [List.mem_singleton] at hp; subst hp; exact Maps.atKey_put_same ht.isMap (by trivial) _ _
  · rw [Maps.size_put ht, h.has, hn]; simp [h.size]
  · rw [List.pairwise_append]
    refine ⟨h.apart, by simp, ?_⟩
    intro p hp q hq
    rw [List.mem_singleton] at hq; subst hq; exact hnm p hp

theorem length_strike : ∀ (L : List (Int × Int)) (n : Int), L.Pairwise (fun p q => p.1 ≠ q.1) → (L.filter fun p => !(p.1 == n)).length + (if held L n then 1 else 0) = L.length
  | [], _, _ => rfl
  | y :: r, n, h => by
    obtain ⟨h1, h2⟩ := List.pairwise_cons.1 h
    have ih := length_strike r n h2
    by_cases hy : y.1 = n
    · have hr : held r n = false := by
        rw [held, List.any_eq_false]
        intro p hp e
        exact h1 p hp (hy.trans (by simpa using e : p.1 = n).symm)
      have hy' : held (y :: r) n = true := by simp [held, hy]
      rw [hr] at ih
      rw [hy']
      simp only [List.filter_cons, hy]
      simp at ih ⊢
      omega
    · have hy' : held (y :: r) n = held r n := by simp [held, hy]
      rw [hy']
      simp only [List.filter_cons]
      have : (!(y.1 == n)) = true := by simp [hy]
      rw [this]
      simp only [if_true, List.length_cons]
      omega

theorem held_filter_ne (L : List (Int × Int)) (n k : Int) : held (L.filter fun p => !(p.1 == n)) k = (held L k && !(k == n)) := by
  rw [Bool.eq_iff_iff]
  simp only [held, List.any_eq_true, List.mem_filter, Bool.and_eq_true, Bool.not_eq_true', beq_eq_false_iff_ne, beq_iff_eq, ne_eq]
  constructor
  · rintro ⟨p, ⟨hp, hn⟩, hk⟩; exact ⟨⟨p, hp, hk⟩, by rw [← hk]; exact hn⟩
  · rintro ⟨⟨p, hp, hk⟩, hn⟩; exact ⟨p, ⟨hp, by rw [hk]; exact hn⟩, hk⟩

theorem Same.del {D : DataW Unit} {L : List (Int × Int)} (h : Same D L) (ht : Maps.Tidy D) (n : Int) : Same (D.del (.int .i64 n)) (L.filter fun p => !(p.1 == n)) := by
  refine ⟨fun k => ?_, fun p hp z => ?_, ?_, h.apart.filter _⟩
  · rw [held_filter_ne]
    by_cases e : k = n
    · subst e; rw [Maps.has_del_same]; simp
    · rw [Maps.has_del_other (key_ne e), h.has]; simp [e]
  · obtain ⟨hp1, hp2⟩ := List.mem_filter.1 hp
    have hne : p.1 ≠ n := by simpa using hp2
    rw [Maps.atKey_del_other (key_ne hne)]; exact h.elem p hp1 z
  · have h1 := Maps.size_del (k := .int .i64 n) ht
    have h2 := length_strike L n h.apart
    rw [h.has] at h1
    rw [h.size] at h1
    omega

/-- What the list is while the map is swept: what is kept, and what is still to come. -/
def swept (W now : Int) (L : List (Int × Int)) (left : Lit → Bool) : List (Int × Int) := L.filter (fun p => left (.int .i64 p.1) || keep W now p)

theorem swept_start {D : DataW Unit} {L : List (Int × Int)} (h : Same D L) (W now : Int) : swept W now L (Maps.has D) = L := by
  unfold swept
  rw [List.filter_eq_self]
  intro p hp
  have : held L p.1 = true := List.any_eq_true.2 ⟨p, hp, by simp⟩
  rw [h.has, this]; rfl

theorem swept_end (W now : Int) (L : List (Int × Int)) (left : Lit → Bool) (h : ∀ kl, left kl = false) : swept W now L left = sweep W now L := by
  unfold swept sweep
  exact List.filter_congr (fun p _ => by simp [h])

theorem eq_of_apart {L : List (Int × Int)} (h : L.Pairwise (fun p q => p.1 ≠ q.1)) {p q : Int × Int} (hp : p ∈ L) (hq : q ∈ L) (e : p.1 = q.1) : p = q := by
  induction L with
  | nil => cases hp
  | cons y r ih =>
    obtain ⟨h1, h2⟩ := List.pairwise_cons.1 h
    rcases List.mem_cons.1 hp with hp' | hp'
    · rcases List.mem_cons.1 hq with hq' | hq'
      · rw [hp', hq']
      · exact absurd (hp' ▸ e) (h1 q hq')
    · rcases List.mem_cons.1 hq with hq' | hq'
      · exact absurd (hq' ▸ e.symm) (h1 p hp')
      · exact ih h2 hp' hq'

theorem came {D : DataW Unit} {W now : Int} {L : List (Int × Int)} {left : Lit → Bool} (h : Same D (swept W now L left)) {x c : Int} (hat : ∀ z, D.atKey (.int .i64 x) z = .lit (.int .i64 c)) : (x, c) ∈ swept W now L left := by
  have h1 := Maps.has_true_of_atKey hat
  rw [h.has] at h1
  obtain ⟨p, hp, e⟩ := List.any_eq_true.1 h1
  have e : p.1 = x := by simpa using e
  have h2 := h.elem p hp .nil
  rw [e, hat] at h2
  have h3 : c = p.2 := by injection h2 with h2; injection h2
  have : p = (x, c) := Prod.ext e h3.symm
  exact this ▸ hp

theorem swept_struck {D : DataW Unit} {W now : Int} {L : List (Int × Int)} {left : Lit → Bool} (hL : L.Pairwise (fun p q => p.1 ≠ q.1)) (h : Same D (swept W now L left)) (ht : Maps.Tidy D) {x c : Int}
    (hat : ∀ z, D.atKey (.int .i64 x) z = .lit (.int .i64 c)) (hk : W < now - c) : Same (D.del (.int .i64 x)) (swept W now L (fun z => left z && !z.sameKey (.int .i64 x))) := by
  have hm := (List.mem_filter.1 (came h hat)).1
  have e : swept W now L (fun z => left z && !z.sameKey (.int .i64 x)) = (swept W now L left).filter (fun p => !(p.1 == x)) := by
    unfold swept
    rw [List.filter_filter]
    refine List.filter_congr (fun p hp => ?_)
    show ((left (.int .i64 p.1) && !(Lit.int .i64 p.1).sameKey (.int .i64 x)) || keep W now p) = _
    rw [sameKey_int]
    by_cases ex : p.1 = x
    · have : p = (x, c) := eq_of_apart hL hp hm ex
      have hkeep : keep W now p = false := by rw [this]; unfold keep; simp; omega
      rw [hkeep, ex]; simp
    · have hb : (p.1 == x) = false := by simpa using ex
      rw [hb]; simp
  rw [e]
  exact h.del ht x

theorem swept_stays {D : DataW Unit} {W now : Int} {L : List (Int × Int)} {left : Lit → Bool} (hL : L.Pairwise (fun p q => p.1 ≠ q.1)) (h : Same D (swept W now L left)) {x c : Int}
    (hat : ∀ z, D.atKey (.int .i64 x) z = .lit (.int .i64 c)) (hk : now - c ≤ W) : Same D (swept W now L (fun z => left z && !z.sameKey (.int .i64 x))) := by
  have hm := (List.mem_filter.1 (came h hat)).1
  have e : swept W now L (fun z => left z && !z.sameKey (.int .i64 x)) = swept W now L left := by
    unfold swept
    refine List.filter_congr (fun p hp => ?_)
    show ((left (.int .i64 p.1) && !(Lit.int .i64 p.1).sameKey (.int .i64 x)) || keep W now p) = _
    rw [sameKey_int]
    by_cases ex : p.1 = x
    · have : p = (x, c) := eq_of_apart hL hp hm ex
      have hkeep : keep W now p = true := by rw [this]; unfold keep; simp; omega
      rw [hkeep]; simp
    · have hb : (p.1 == x) = false := by simpa using ex
      rw [hb]; simp
  rw [e]
  exact h

/-- All that is held was made at a time from 0 on that is no greater than an int. -/
def Times (L : List (Int × Int)) : Prop := ∀ p ∈ L, 0 ≤ p.2 ∧ p.2 ≤ 9223372036854775807

theorem times_sweep {L : List (Int × Int)} (h : Times L) (W now : Int) : Times (sweep W now L) := fun p hp => h p (List.mem_filter.1 hp).1

theorem sweep_length (W now : Int) (L : List (Int × Int)) : (sweep W now L).length ≤ L.length := List.length_filter_le _ _

theorem tried_times {L : List (Int × Int)} (h : Times L) (W R n made now : Int) (h2 : made ≤ 9223372036854775807) : Times (tried W R L n made now).2 := by
  unfold tried
  (repeat' split) <;> try exact h
  all_goals try exact times_sweep h W now
  intro p hp
  rcases List.mem_append.1 hp with hp | hp
  · exact times_sweep h W now p hp
  · rw [List.mem_singleton] at hp; subst hp; simp; omega

theorem tried_room {L : List (Int × Int)} {W R : Int} (h : (L.length : Int) ≤ R) (n made now : Int) : ((tried W R L n made now).2.length : Int) ≤ R := by
  have := sweep_length W now L
  unfold tried
  (repeat' split) <;> simp <;> omega

end Str
end Go.Proofs.Ytlcbpcemdipmfaa
