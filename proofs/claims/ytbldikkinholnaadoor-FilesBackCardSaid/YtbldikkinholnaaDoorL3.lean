/-
  The plain law of an edit and its return: what an edit put in, the edit behind it takes out again.
-/
import Derived.Test.YtbldikkinholnaaDoorL2
namespace Go.Proofs
open Go Go.Ab
set_option linter.unusedSimpArgs false
set_option linter.unusedVariables false

def OkAt (l : List Src) (j : Nat) : Prop := ∀ x, l[j]? = some x → clean 2097152 x.path = some true ∧ ¬ (x.text.length : Int) > 3000 ∧ (0 < j → ∀ y, l[j - 1]? = some y → Op.bytesLess y.path x.path = true)

theorem wrong_loop {l : List Src} (hl : l.length ≤ 8) : ∀ (m i fuel : Nat), i + m = l.length → m < fuel → ∃ w, loopF (fun again1 v => wrong_b1 l 2097152 again1 v) fuel (i : Int) = some w ∧ (w.err = 0 ↔ ∀ j, i ≤ j → OkAt l j)
  | m, i, 0, _, h => by omega
  | 0, i, fuel + 1, h, _ => by
    refine ⟨⟨0, -1, 0⟩, ?_, ?_⟩
    · show wrong_b1 l 2097152 _ _ = _
      rw [wrong_b1, lt_dec, decide_eq_false (by omega), cond_false]
    · refine ⟨fun _ j hj x hx => ?_, fun _ => rfl⟩
      rw [List.getElem?_eq_none (by omega)] at hx
      cases hx
  | m + 1, i, fuel + 1, h, hf => by
    have hi : i < l.length := by omega
    obtain ⟨w, hw, hw2⟩ := wrong_loop hl m (i + 1) fuel (by omega) (by omega)
    obtain ⟨c, hc⟩ := clean_some l[i].path
    have hx : l[i]? = some l[i] := List.getElem?_eq_getElem hi
    show ∃ w, wrong_b1 l 2097152 _ _ = some w ∧ _
    rw [wrong_b1, lt_dec, decide_eq_true hi, cond_true, rd_nat hi]
    simp only [ob, hc]
    cases c with
    | false =>
      refine ⟨_, rfl, ⟨fun e => (by cases e), fun e => ?_⟩⟩
      have := (e i (Nat.le_refl _) _ hx).1
      rw [hc] at this
      cases this
    | true =>
      simp only [Bool.not_true, cond_false]
      by_cases ht : (l[i].text.length : Int) > 3000
      · rw [decide_eq_true ht, cond_true]
        refine ⟨_, rfl, ⟨fun e => (by cases e), fun e => ?_⟩⟩
        exact absurd ht (e i (Nat.le_refl _) _ hx).2.1
      · rw [decide_eq_false ht, cond_false]
        by_cases h0 : 0 < i
        · rw [decide_eq_true (by omega : (i : Int) > 0), cond_true, wrap_down h0 (by omega), rd_nat (by omega)]
          simp only []
          cases hb : Op.bytesLess l[i - 1].path l[i].path with
          | false =>
            simp only [Bool.not_false, cond_true]
            refine ⟨_, rfl, ⟨fun e => (by cases e), fun e => ?_⟩⟩
            have := (e i (Nat.le_refl _) _ hx).2.2 h0 _ (List.getElem?_eq_getElem (by omega))
            rw [hb] at this
            cases this
          | true =>
            simp only [Bool.not_true, cond_false]
            rw [wrap_up (by omega)]
            refine ⟨w, hw, hw2.trans ⟨fun e j hj => ?_, fun e j hj => e j (by omega)⟩⟩
            rcases Nat.lt_or_ge i j with h1 | h1
            · exact e j h1
            · obtain rfl : i = j := by omega
              intro x hx'
              obtain rfl : l[i] = x := Option.some.inj (hx.symm.trans hx')
              refine ⟨hc, ht, fun _ y hy => ?_⟩
              rw [List.getElem?_eq_getElem (by omega)] at hy
              cases hy
              exact hb
        · rw [decide_eq_false (by omega : ¬ (i : Int) > 0), cond_false]
          simp only [cond_false]
          rw [wrap_up (by omega)]
          refine ⟨w, hw, hw2.trans ⟨fun e j hj => ?_, fun e j hj => e j (by omega)⟩⟩
          rcases Nat.lt_or_ge i j with h1 | h1
          · exact e j h1
          · obtain rfl : i = j := by omega
            intro x hx'
            obtain rfl : l[i] = x := Option.some.inj (hx.symm.trans hx')
            exact ⟨hc, ht, fun h => absurd h h0⟩

def GoodL (l : List Src) : Prop := l.length ≤ 8 ∧ ∀ j, OkAt l j
theorem wrong_spec (l : List Src) : ∃ w, wrong 2097152 l = some w ∧ (w.err = 0 ↔ GoodL l) := by
  unfold wrong
  by_cases h : (l.length : Int) > 8
  · rw [decide_eq_true h, cond_true]
    refine ⟨_, rfl, ⟨fun e => (by cases e), fun e => ?_⟩⟩
    have := e.1
    omega
  · rw [decide_eq_false h, cond_false]
    obtain ⟨w, h1, h2⟩ := wrong_loop (l := l) (by omega) l.length 0 2097152 (by omega) (by omega)
    refine ⟨w, h1, h2.trans ⟨fun e => ⟨by omega, fun j => e j (Nat.zero_le _)⟩, fun e j _ => e.2 j⟩⟩

/-! the texts behind it -/
theorem small_loop {l : List Src} (hl : l.length ≤ 8) : ∀ (m i fuel : Nat), i + m = l.length → m < fuel →
    (loopF (fun again3 v => changeO_b3 l again3 v) fuel (i : Int) = some (l, 0) ∧ ∀ j x, i ≤ j → l[j]? = some x → ¬ (x.text.length : Int) > 3000) ∨
    (loopF (fun again3 v => changeO_b3 l again3 v) fuel (i : Int) = some ([], 4) ∧ ∃ x ∈ l, (x.text.length : Int) > 3000)
  | m, i, 0, _, h => by omega
  | 0, i, fuel + 1, h, _ => by
    refine .inl ⟨?_, fun j x hj hx => ?_⟩
    · show changeO_b3 l _ _ = _
      rw [changeO_b3, lt_dec, decide_eq_false (by omega), cond_false]
    · rw [List.getElem?_eq_none (by omega)] at hx
      cases hx
  | m + 1, i, fuel + 1, h, hf => by
    have hi : i < l.length := by omega
    have ih := small_loop hl m (i + 1) fuel (by omega) (by omega)
    have e : loopF (fun again3 v => changeO_b3 l again3 v) (fuel + 1) (i : Int) = cond (decide ((l[i].text.length : Int) > 3000)) (some ([], 4)) (loopF (fun again3 v => changeO_b3 l again3 v) fuel (((i + 1 : Nat) : Int))) := by
      show changeO_b3 l _ _ = _
      rw [changeO_b3, lt_dec, decide_eq_true hi, cond_true, rd_nat hi]
      simp only [ob]
      rw [wrap_up (by omega)]
    rw [e]
    by_cases ht : (l[i].text.length : Int) > 3000
    · rw [decide_eq_true ht, cond_true]
      exact .inr ⟨rfl, _, List.getElem_mem hi, ht⟩
    · rw [decide_eq_false ht, cond_false]
      rcases ih with ⟨h1, h2⟩ | ⟨h1, h2⟩
      · refine .inl ⟨h1, fun j x hj hx => ?_⟩
        rcases Nat.lt_or_ge i j with h3 | h3
        · exact h2 j x h3 hx
        · obtain rfl : i = j := by omega
          rw [List.getElem?_eq_getElem hi] at hx
          cases hx
          exact ht
      · exact .inr ⟨h1, h2⟩

theorem sort_one (e : Edt) : sortStable 2097152 [e] = some [e] := by kernel_rfl

/-! one edit -/
def Fits (l : List Src) (e : Edt) (x : Src) : Prop := 0 ≤ e.file ∧ l[e.file.toNat]? = some x ∧ 0 ≤ e.fro ∧ e.fro ≤ e.to_ ∧ e.to_ ≤ (x.text.length : Int) ∧ ¬ (e.text.length : Int) > 3000
def put1 (e : Edt) (x : Src) : Src := { x with text := x.text.take e.fro.toNat ++ e.text ++ x.text.drop e.to_.toNat }
def putL (l : List Src) (e : Edt) (x : Src) : List Src := l.set e.file.toNat (put1 e x)

theorem edit_loop {l : List Src} {e : Edt} {F n : Nat} (r : List Src) : loopF (fun again1 v => changeO_b1 [e] l F r again1 v) (n + 2) 0 =
    cond ((decide (e.file < 0)) || (decide (e.file ≥ (l.length : Int)))) (some ([], 6)) (ob (cond (decide (e.fro < 0)) (some true) (cond (decide (e.fro > e.to_)) (some true) (ob (rd l e.file) fun x2 => (some (decide (e.to_ > (x2.text.length : Int))))))) fun y1 => (cond y1 (some ([], 3))
      (loopF (fun again2 v => changeO_b2 [e] F again2 v.1 v.2) F (0, r)))) := by
  have h1 : loopF (fun again1 v => changeO_b1 [e] l F r again1 v) (n + 1) 1 = loopF (fun again2 v => changeO_b2 [e] F again2 v.1 v.2) F (0, r) := by
    show changeO_b1 [e] l F r _ 1 = _
    rw [changeO_b1]
    rfl
  show changeO_b1 [e] l F r _ 0 = _
  rw [changeO_b1]
  rw [← h1]
  rfl

theorem apply_loop {e : Edt} {x : Src} {F n : Nat} (r : List Src) (h0 : 0 ≤ e.file) (hx : r[e.file.toNat]? = some x) (h1 : 0 ≤ e.fro) (h2 : e.fro ≤ e.to_) (h3 : e.to_ ≤ (x.text.length : Int)) (h4 : ¬ (x.text.length : Int) > 3000) :
    loopF (fun again2 v => changeO_b2 [e] F again2 v.1 v.2) (n + 2) (0, r) =
      cond (decide ((e.text.length : Int) > 3000)) (some ([], 4)) (loopF (fun again3 v => changeO_b3 (putL r e x) again3 v) F 0) := by
  have hr : rd r e.file = some x := by
    have : e.file = ((e.file.toNat : Nat) : Int) := by omega
    rw [this]
    exact rd_of hx
  show changeO_b2 [e] F _ 0 r = _
  rw [changeO_b2]
  show ob (rd r e.file) _ = _
  rw [hr]
  simp only [ob]
  by_cases h : (e.text.length : Int) > 3000
  · rw [decide_eq_true h, cond_true, cond_true]
  · rw [decide_eq_false h, cond_false, cond_false]
    rw [show upB e.fro x.text.length = true by simp [upB]; omega, show upB e.to_ x.text.length = true by simp [upB]; omega]
    rw [roomy_of (by simp only [List.length_take]; omega), roomy_of (by simp only [List.length_take, List.length_drop]; omega)]
    simp only [ck, cond_true]
    show changeO_b2 [e] F _ (-1) _ = _
    rw [changeO_b2]
    rfl

theorem rd_int {α : Type} {l : List α} {i : Int} {x : α} (h : 0 ≤ i) (hx : l[i.toNat]? = some x) : rd l i = some x := by
  have : i = ((i.toNat : Nat) : Int) := by omega
  rw [this]
  exact rd_of hx

theorem change_ok {l : List Src} (hg : GoodL l) {e : Edt} {x : Src} (hf : Fits l e x) (hs : ∀ (j : Nat) (y : Src), (putL l e x)[j]? = some y → ¬ (y.text.length : Int) > 3000) : changeO 2097152 l [e] = some (putL l e x, 0) := by
  obtain ⟨w, hw, hw2⟩ := wrong_spec l
  have hw0 := hw2.2 hg
  have hl := hg.1
  obtain ⟨f0, f1, f2, f3, f4, f5⟩ := hf
  have hi : e.file.toNat < l.length := (List.getElem?_eq_some_iff.1 f1).1
  have e1 : changeO 2097152 l [e] = loopF (fun again1 v => changeO_b1 [e] l 2097152 l again1 v) 2097152 0 := by
    unfold changeO
    simp only [ob, hw, hw0, bne_self_eq_false, cond_false, cloneF, cloneEO, ck]
    rw [roomy_of (by omega), roomy_of (by simp)]
    simp only [cond_true, sort_one]
  rw [e1, edit_loop (n := 2097150)]
  rw [show (decide (e.file < 0) || decide (e.file ≥ (l.length : Int))) = false by simp; omega, cond_false]
  rw [decide_eq_false (by omega : ¬ e.fro < 0), cond_false, decide_eq_false (by omega : ¬ e.fro > e.to_), cond_false, rd_int f0 f1]
  simp only [ob]
  rw [decide_eq_false (by omega : ¬ e.to_ > (x.text.length : Int)), cond_false]
  rw [apply_loop (n := 2097150) l f0 f1 f2 f3 f4 (hg.2 _ _ f1).2.1]
  rw [decide_eq_false f5, cond_false]
  rcases small_loop (l := putL l e x) (by simp [putL]; omega) (putL l e x).length 0 2097152 (by omega) (by simp [putL]; omega) with ⟨k1, k2⟩ | ⟨k1, y, k2, k3⟩
  · exact k1
  · obtain ⟨j, hj, rfl⟩ := List.getElem_of_mem k2
    exact absurd k3 (hs j _ (List.getElem?_eq_getElem hj))

theorem change_one {l : List Src} (hg : GoodL l) (e : Edt) :
    (∃ c : Int, c ≠ 0 ∧ changeO 2097152 l [e] = some ([], c)) ∨
    ∃ x, Fits l e x ∧ changeO 2097152 l [e] = some (putL l e x, 0) ∧ ∀ (j : Nat) (y : Src), (putL l e x)[j]? = some y → ¬ (y.text.length : Int) > 3000 := by
  obtain ⟨w, hw, hw2⟩ := wrong_spec l
  have hw0 := hw2.2 hg
  have hl := hg.1
  have e1 : changeO 2097152 l [e] = loopF (fun again1 v => changeO_b1 [e] l 2097152 l again1 v) 2097152 0 := by
    unfold changeO
    simp only [ob, hw, hw0, bne_self_eq_false, cond_false, cloneF, cloneEO, ck]
    rw [roomy_of (by omega), roomy_of (by simp)]
    simp only [cond_true, sort_one]
  rw [e1, edit_loop (n := 2097150)]
  by_cases h0 : e.file < 0 ∨ e.file ≥ (l.length : Int)
  · refine .inl ⟨6, by decide, ?_⟩
    rw [show (decide (e.file < 0) || decide (e.file ≥ (l.length : Int))) = true by simpa using h0, cond_true]
  rw [show (decide (e.file < 0) || decide (e.file ≥ (l.length : Int))) = false by simpa using h0, cond_false]
  have hi : e.file.toNat < l.length := by omega
  have hx : l[e.file.toNat]? = some l[e.file.toNat] := List.getElem?_eq_getElem hi
  have hr : rd l e.file = some l[e.file.toNat] := rd_int (by omega) hx
  by_cases h1 : e.fro < 0
  · refine .inl ⟨3, by decide, ?_⟩
    rw [decide_eq_true h1, cond_true]; rfl
  rw [decide_eq_false h1, cond_false]
  by_cases h2 : e.fro > e.to_
  · refine .inl ⟨3, by decide, ?_⟩
    rw [decide_eq_true h2, cond_true]; rfl
  rw [decide_eq_false h2, cond_false, hr]
  by_cases h3 : e.to_ > (l[e.file.toNat].text.length : Int)
  · refine .inl ⟨3, by decide, ?_⟩
    simp only [ob]
    rw [decide_eq_true h3, cond_true]
  simp only [ob]
  rw [decide_eq_false h3, cond_false]
  rw [apply_loop (n := 2097150) l (by omega) hx (by omega) (by omega) (by omega) (hg.2 _ _ hx).2.1]
  by_cases h4 : (e.text.length : Int) > 3000
  · refine .inl ⟨4, by decide, ?_⟩
    rw [decide_eq_true h4, cond_true]
  rw [decide_eq_false h4, cond_false]
  rcases small_loop (l := putL l e l[e.file.toNat]) (by simp [putL]; omega) (putL l e l[e.file.toNat]).length 0 2097152 (by omega) (by simp [putL]; omega) with ⟨k1, k2⟩ | ⟨k1, k2⟩
  · exact .inr ⟨_, ⟨by omega, hx, by omega, by omega, by omega, h4⟩, k1, fun j y hy => k2 j y (Nat.zero_le _) hy⟩
  · exact .inl ⟨4, by decide, k1⟩

theorem change_bad {l : List Src} (hg : ¬ GoodL l) (e : Edt) : ∃ c : Int, c ≠ 0 ∧ changeO 2097152 l [e] = some ([], c) := by
  obtain ⟨w, hw, hw2⟩ := wrong_spec l
  have hw0 : w.err ≠ 0 := fun h => hg (hw2.1 h)
  refine ⟨w.err, hw0, ?_⟩
  unfold changeO
  simp only [ob, hw]
  rw [show (w.err != 0) = true by simpa using hw0, cond_true]

theorem same_loop {l : List Src} (hl : l.length ≤ 8) : ∀ (m i fuel : Nat), i + m = l.length → m < fuel → loopF (fun again1 v => sameFiles_b1 l l again1 v) fuel (i : Int) = some true
  | m, i, 0, _, h => by omega
  | 0, i, fuel + 1, h, _ => by
    show sameFiles_b1 l l _ _ = _
    rw [sameFiles_b1, lt_dec, decide_eq_false (by omega), cond_false]
  | m + 1, i, fuel + 1, h, hf => by
    have hi : i < l.length := by omega
    show sameFiles_b1 l l _ _ = _
    rw [sameFiles_b1, lt_dec, decide_eq_true hi, cond_true, rd_nat hi]
    simp only [ob, BEq.rfl, Bool.and_self, Bool.not_true, cond_false]
    rw [wrap_up (by omega)]
    exact same_loop hl m (i + 1) fuel (by omega) (by omega)
theorem same_refl {l : List Src} (hl : l.length ≤ 8) : sameFiles 2097152 l l = some true := by
  unfold sameFiles
  rw [bne_self_eq_false, cond_false]
  exact same_loop hl l.length 0 2097152 (by omega) (by omega)

theorem back_true (l : List Src) (e : Edt) : filesBack 2097152 l e = some true := by
  unfold filesBack
  rw [alive_true]
  simp only [ob, Bool.not_true, cond_false]
  by_cases hg : GoodL l
  · rcases change_one hg e with ⟨c, hc, h⟩ | ⟨x, hf, h, hs⟩
    · rw [h]
      simp only []
      rw [show (c != 0) = true by simpa using hc, cond_true]
      rfl
    · obtain ⟨f0, f1, f2, f3, f4, f5⟩ := hf
      have hi : e.file.toNat < l.length := (List.getElem?_eq_some_iff.1 f1).1
      have hl := hg.1
      have hxt := (hg.2 _ _ f1).2.1
      rw [h]
      simp only [bne_self_eq_false, cond_false]
      have hr : rd l e.file = some x := by
        have : e.file = ((e.file.toNat : Nat) : Int) := by omega
        rw [this]
        exact rd_of f1
      rw [hr]
      simp only []
      rw [show upB e.to_ x.text.length = true by simp [upB]; omega, show upB e.fro e.to_.toNat = true by simp [upB]; omega]
      simp only [ck, cond_true]
      rw [wrap_of (x := e.fro + (e.text.length : Int)) (by omega) (by omega)]
      -- the edited files are as good
      have hpath : ∀ (j : Nat) (y : Src), (putL l e x)[j]? = some y → ∃ z, l[j]? = some z ∧ z.path = y.path := by
        intro j y hy
        unfold putL at hy
        rw [List.getElem?_set] at hy
        by_cases hj : e.file.toNat = j
        · subst hj
          rw [if_pos rfl, if_pos hi] at hy
          cases hy
          exact ⟨x, f1, rfl⟩
        · rw [if_neg hj] at hy
          exact ⟨y, hy, rfl⟩
      have hg2 : GoodL (putL l e x) := by
        refine ⟨by simp [putL]; omega, fun j y hy => ?_⟩
        obtain ⟨z, hz, hp⟩ := hpath j y hy
        obtain ⟨k1, _, k3⟩ := hg.2 j z hz
        refine ⟨by rw [← hp]; exact k1, hs j y hy, fun h0 y' hy' => ?_⟩
        obtain ⟨z', hz', hp'⟩ := hpath _ y' hy'
        rw [← hp, ← hp']
        exact k3 h0 z' hz'
      have hnew : (putL l e x)[e.file.toNat]? = some (put1 e x) := by
        unfold putL
        rw [List.getElem?_set, if_pos rfl, if_pos hi]
      have hlen : (x.text.take e.fro.toNat).length = e.fro.toNat := by rw [List.length_take]; omega
      have hback : putL (putL l e x) { e with to_ := e.fro + (e.text.length : Int), text := (x.text.take e.to_.toNat).drop e.fro.toNat } (put1 e x) = l := by
        have ht : (put1 { e with to_ := e.fro + (e.text.length : Int), text := (x.text.take e.to_.toNat).drop e.fro.toNat } (put1 e x)) = x := by
          obtain ⟨xp, xt⟩ := x
          simp only [put1, Src.mk.injEq, true_and] at hlen ⊢
          have a1 : (xt.take e.fro.toNat ++ e.text ++ xt.drop e.to_.toNat).take e.fro.toNat = xt.take e.fro.toNat := by
            rw [List.append_assoc, List.take_append_of_le_length (by omega), List.take_of_length_le (by omega)]
          have a2 : (xt.take e.fro.toNat ++ e.text ++ xt.drop e.to_.toNat).drop (e.fro + (e.text.length : Int)).toNat = xt.drop e.to_.toNat := by
            rw [List.drop_append_of_le_length (by rw [List.length_append, hlen]; omega), List.drop_of_length_le (by rw [List.length_append, hlen]; omega), List.nil_append]
          rw [a1, a2]
          have a3 : xt.take e.fro.toNat ++ (xt.take e.to_.toNat).drop e.fro.toNat = xt.take e.to_.toNat := by
            have := List.take_append_drop e.fro.toNat (xt.take e.to_.toNat)
            rw [List.take_take, Nat.min_eq_left (by omega)] at this
            exact this
          rw [a3, List.take_append_drop]
        simp only [putL] at ht ⊢
        rw [ht, List.set_set]
        refine List.ext_getElem? fun j => ?_
        rw [List.getElem?_set]
        by_cases hj : e.file.toNat = j
        · subst hj; rw [if_pos rfl, if_pos hi, f1]
        · rw [if_neg hj]
      have hplen : (put1 e x).text.length = e.fro.toNat + e.text.length + (x.text.length - e.to_.toNat) := by
        simp only [put1, List.length_append, List.length_drop]
        rw [hlen]
      have hfit : Fits (putL l e x) { e with to_ := e.fro + (e.text.length : Int), text := (x.text.take e.to_.toNat).drop e.fro.toNat } (put1 e x) := by
        refine ⟨f0, hnew, f2, ?_, ?_, ?_⟩
        · show e.fro ≤ e.fro + (e.text.length : Int)
          omega
        · show e.fro + (e.text.length : Int) ≤ ((put1 e x).text.length : Int)
          rw [hplen]
          omega
        · show ¬ (((x.text.take e.to_.toNat).drop e.fro.toNat).length : Int) > 3000
          rw [List.length_drop, List.length_take]
          omega
      rw [change_ok hg2 hfit (by rw [hback]; exact fun j y hy => (hg.2 j y hy).2.1), hback]
      simp only [BEq.rfl, cond_true, same_refl hl]
  · obtain ⟨c, hc, h⟩ := change_bad hg e
    rw [h]
    simp only []
    rw [show (c != 0) = true by simpa using hc, cond_true]
    rfl
end Go.Proofs
