/-
  Pieces of a text between bytes of one kind.
-/
import Derived.Test.YtbldikkinholnaaDoorAb26
import Derived.Lib.Bytealg
namespace Go.Proofs
open Go.Ab
set_option linter.unusedSimpArgs false
set_option linter.unusedVariables false

def pieces (c : UInt8) : List UInt8 → List (List UInt8)
  | [] => [[]]
  | x :: xs => if x = c then [] :: pieces c xs else match pieces c xs with
    | p :: ps => (x :: p) :: ps
    | [] => [[x]]

theorem pieces_ne (c : UInt8) (s : List UInt8) : pieces c s ≠ [] := by
  cases s with
  | nil => simp [pieces]
  | cons x xs =>
    simp only [pieces]
    split
    · simp
    · split <;> simp

theorem idx_cases (c : UInt8) (r : List UInt8) : (Lib.indexByte r c = -1 ∧ pieces c r = [r]) ∨ ∃ j : Nat, Lib.indexByte r c = j ∧ j < r.length ∧ pieces c r = r.take j :: pieces c (r.drop (j + 1)) := by
  induction r with
  | nil => exact .inl ⟨rfl, rfl⟩
  | cons x xs ih =>
    by_cases hx : x = c
    · subst hx
      exact .inr ⟨0, by simp [Lib.indexByte], by simp, by simp [pieces]⟩
    · rcases ih with ⟨h1, h2⟩ | ⟨j, h1, h2, h3⟩
      · exact .inl ⟨by simp [Lib.indexByte, hx, h1], by simp [pieces, hx, h2]⟩
      · refine .inr ⟨j + 1, ?_, by simpa using h2, by simp [pieces, hx, h3]⟩
        have : ((j : Int) == -1) = false := by simp
        simp [Lib.indexByte, hx, h1, this]

end Go.Proofs
