/-
  FilesMeant, the plain law.
-/
import Derived.Test.YtbldikkinholnaaDoorL1
import Derived.Test.YtbldikkinholnaaDoorG11
namespace Go.Proofs
open Go Go.Ab
set_option linter.unusedSimpArgs false
set_option linter.unusedVariables false

theorem alive_true : alive 2097152 = some true := by kernel_rfl

theorem fnd_small (l : List Src) (p : List UInt8) : fndGo l p 0 < (l.length : Int) ∧ -1 ≤ fndGo l p 0 := by
  have h := fndGo_lt l p 0
  simp only [Int.natCast_zero, Int.zero_add] at h
  omega

theorem incl_some {l : List Src} {from_ : Int} {p : List UInt8} {q : Bool} (hl : l.length ≤ 1048576) (hx : ∀ x ∈ l, x.path.length ≤ 1048576) (hp : p.length ≤ 1048576) :
    ∃ k, inclF 2097152 l from_ p q = some k ∧ k < (l.length : Int) ∧ -1 ≤ k := by
  unfold inclF
  rcases bool_or ((decide (from_ < 0)) || (decide (from_ ≥ (l.length : Int)))) with g | g
  · rw [g, cond_true]; exact ⟨-1, rfl, by omega, by omega⟩
  · rw [g, cond_false]
    cases q
    · simp only [Bool.not_false, cond_true]
      obtain ⟨r, h1, _⟩ := beside_some (a := [108, 105, 98, 47, 120]) (p := p) (by decide) hp
      rw [h1]
      simp only [ob, find_eq hl]
      exact ⟨_, rfl, fnd_small _ _⟩
    · simp only [Bool.not_true, cond_false]
      simp only [Bool.or_eq_false_iff, decide_eq_false_iff_not] at g
      obtain ⟨i, rfl⟩ : ∃ i : Nat, from_ = i := ⟨from_.toNat, by omega⟩
      rw [rd_nat (by omega)]
      obtain ⟨r, h1, _⟩ := beside_some (a := (l[i]'(by omega)).path) (p := p) (hx _ (List.getElem_mem _)) hp
      simp only [ob, h1, find_eq hl]
      rcases bool_or (decide (fndGo l r 0 ≥ 0)) with g2 | g2
      · rw [g2, cond_true]; exact ⟨_, rfl, fnd_small _ _⟩
      · rw [g2, cond_false]
        obtain ⟨r, h1, _⟩ := beside_some (a := [120]) (p := p) (by decide) hp
        simp only [h1, find_eq hl]
        exact ⟨_, rfl, fnd_small _ _⟩

theorem meant_loop {l : List Src} {from_ : Int} {p : List UInt8} {q : Bool} (hl : l.length ≤ 1048576) (hx : ∀ x ∈ l, x.path.length ≤ 1048576) (hp : p.length ≤ 1048576) :
    ∀ (m i fuel : Nat), i + m = l.length → m < fuel → loopF (fun again1 v => filesMeant_b1 l 2097152 p from_ q again1 v) fuel (i : Int) = some true
  | m, i, 0, _, h => by omega
  | 0, i, fuel + 1, h, _ => by
    show filesMeant_b1 l _ p from_ q _ _ = _
    rw [filesMeant_b1, lt_dec, decide_eq_false (by omega), cond_false]
    obtain ⟨k, h1, h2, h3⟩ := incl_some (from_ := from_) (q := q) hl hx hp
    simp only [ob, h1]
    rw [decide_eq_true h2, cond_true]
    by_cases h0 : k < 0
    · rw [decide_eq_true h0]; rfl
    · rw [decide_eq_false h0, cond_false]
      obtain ⟨j, rfl⟩ : ∃ j : Nat, k = j := ⟨k.toNat, by omega⟩
      rw [rd_nat (by omega)]
      simp only [find_eq hl]
      have := fndGo_le l (l[j]'(by omega)).path 0 j _ (List.getElem?_eq_getElem (by omega)) rfl
      rw [decide_eq_true (by simpa using this)]
  | m + 1, i, fuel + 1, h, hf => by
    show filesMeant_b1 l _ p from_ q _ _ = _
    have hi : i < l.length := by omega
    rw [filesMeant_b1, lt_dec, decide_eq_true hi, cond_true, rd_nat hi]
    obtain ⟨r, h1, h2⟩ := beside_some (a := l[i].path) (p := p) (hx _ (List.getElem_mem _)) hp
    simp only [ob, h1]
    have ih := meant_loop (from_ := from_) (q := q) hl hx hp m (i + 1) fuel (by omega) (by omega)
    by_cases hr : r = []
    · subst hr
      simp only [beq_self_eq_true, Bool.not_true, cond_false]
      rw [wrap_up (by omega)]; exact ih
    · have : clean 2097152 r = some true := by
        rcases h2 with h2 | h2
        · exact absurd h2 hr
        · exact h2
      rw [show (r == ([] : List UInt8)) = false from by simpa using hr]
      simp only [Bool.not_false, cond_true, this, Bool.not_true, cond_false]
      rw [wrap_up (by omega)]; exact ih

theorem meant_true {l : List Src} {from_ : Int} {p : List UInt8} {q : Bool} (hl : l.length ≤ 1048576) (hx : ∀ x ∈ l, x.path.length ≤ 1048576) (hp : p.length ≤ 1048576) : filesMeant 2097152 l from_ p q = some true := by
  unfold filesMeant
  rw [alive_true]
  simp only [ob, Bool.not_true, cond_false]
  have := meant_loop (from_ := from_) (q := q) hl hx hp l.length 0 2097152 (by omega) (by omega)
  exact this

end Go.Proofs
