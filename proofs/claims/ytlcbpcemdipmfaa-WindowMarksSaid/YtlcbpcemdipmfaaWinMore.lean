/-
  Plain lemmas on the window's list: what is not fresh stays so; a number is not fresh behind a try to mark it; the one above all others is fresh. No condition; no program in sight.
-/
import Derived.Test.YtlcbpcemdipmfaaWinWalks
namespace Go.Proofs.Ytlcbpcemdipmfaa
namespace Win
theorem fresh_mono {l : List Int} {n : Int} (m : Int) (h : fresh l n = false) : fresh (mark l m) n = false := by
  rw [← Bool.not_eq_true, fresh_iff] at *
  unfold mark
  split
  · rw [top_snoc]
    intro ⟨a, b, c, d⟩
    exact h ⟨a, b, by omega, fun hm => d (List.mem_append.2 (Or.inl hm))⟩
  · exact h
theorem fresh_marked (l : List Int) (z : Int) : fresh (mark l z) z = false := by
  cases h : fresh l z with
  | false => exact fresh_mono z h
  | true =>
    rw [← Bool.not_eq_true, fresh_iff]
    unfold mark
    rw [if_pos h]
    intro ⟨_, _, _, d⟩
    exact d (List.mem_append.2 (Or.inr (by simp)))
theorem mark_marked (l : List Int) (z : Int) : mark (mark l z) z = mark l z := mark_false (fresh_marked l z)
theorem fresh_next {l : List Int} (h : Nums l) (hne : top l ≠ 4611686018427387903) : fresh l (top l + 1) = true := by
  have a := top_ge l
  have b := top_le l h
  exact (fresh_iff l _).2 ⟨by omega, by omega, by omega, fun hm => by have := le_top l _ hm; omega⟩
end Win

end Go.Proofs.Ytlcbpcemdipmfaa
