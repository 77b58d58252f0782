/-
  The plain law of what is meant: a path beside a file is one, or there is none; a file that is included is there.
-/
import Derived.Test.YtbldikkinholnaaDoorG12
namespace Go.Proofs
open Go Go.Ab
set_option linter.unusedSimpArgs false
set_option linter.unusedVariables false

theorem wrap_of {x : Int} (h1 : 0 ≤ x) (h2 : x < 4611686018427387904) : IntKind.i64.wrap x = x := by rw [IntKind.wrap_i64]; omega
theorem wrap_up {i : Nat} (h : i < 4611686018427387903) : IntKind.i64.wrap ((i : Int) + 1) = ((i + 1 : Nat) : Int) := by rw [wrap_of (by omega) (by omega)]; omega
theorem wrap_down {i : Nat} (h : 0 < i) (h2 : i < 4611686018427387903) : IntKind.i64.wrap ((i : Int) - 1) = ((i - 1 : Nat) : Int) := by rw [wrap_of (by omega) (by omega)]; omega
theorem upB_nat {i n : Nat} (h : i ≤ n) : upB (i : Int) n = true := by simp [upB]; omega
theorem roomy_of {n : Nat} (h : n ≤ 68719476736) : roomy n = true := by simp [roomy, h]
theorem rd_nat {α : Type} {l : List α} {i : Nat} (h : i < l.length) : rd l (i : Int) = some l[i] := rd_of (List.getElem?_eq_getElem h)
theorem lt_dec {i n : Nat} : decide ((i : Int) < (n : Int)) = decide (i < n) := by congr 1; simp

/-! the file of a path -/
def fndGo : List Src → List UInt8 → Nat → Int
  | [], _, _ => -1
  | x :: xs, p, i => cond (x.path == p) (i : Int) (fndGo xs p (i + 1))

theorem fndGo_lt : ∀ (l : List Src) (p : List UInt8) (i : Nat), fndGo l p i < (i + l.length : Int) ∧ (fndGo l p i = -1 ∨ (i : Int) ≤ fndGo l p i)
  | [], p, i => by simp [fndGo]; omega
  | x :: xs, p, i => by
    have ih := fndGo_lt xs p (i + 1)
    simp only [fndGo, List.length_cons]
    cases x.path == p
    · simp only [cond_false]; omega
    · simp only [cond_true]; omega
theorem fndGo_le : ∀ (l : List Src) (p : List UInt8) (i j : Nat) (x : Src), l[j]? = some x → x.path = p → fndGo l p i ≤ (i + j : Int)
  | [], p, i, j, x, h, _ => by simp at h
  | y :: ys, p, i, 0, x, h, hp => by
    simp at h; subst h; subst hp
    simp [fndGo]
  | y :: ys, p, i, j + 1, x, h, hp => by
    have ih := fndGo_le ys p (i + 1) j x (by simpa using h) hp
    simp only [fndGo]
    cases y.path == p
    · simp only [cond_false]; omega
    · simp only [cond_true]; omega

theorem find_loop {l : List Src} {p : List UInt8} (hl : l.length ≤ 1048576) : ∀ (m i fuel : Nat), i + m = l.length → m < fuel → loopF (fun again1 v => indexF_b1 l p again1 v) fuel (i : Int) = some (fndGo (l.drop i) p i)
  | m, i, 0, _, h => by omega
  | 0, i, fuel + 1, h, _ => by
    show indexF_b1 l p _ _ = _
    rw [indexF_b1]
    rw [lt_dec, decide_eq_false (by omega), cond_false, List.drop_of_length_le (by omega)]
    rfl
  | m + 1, i, fuel + 1, h, hf => by
    show indexF_b1 l p _ _ = _
    rw [indexF_b1]
    have hi : i < l.length := by omega
    rw [lt_dec, decide_eq_true hi, cond_true, rd_nat hi]
    simp only [ob, find1]
    rw [List.drop_eq_getElem_cons hi]
    simp only [fndGo]
    cases l[i].path == p
    · simp only [cond_false]
      rw [wrap_up (by omega), find_loop hl m (i + 1) fuel (by omega) (by omega)]
    · rfl
theorem find_eq {l : List Src} {p : List UInt8} (hl : l.length ≤ 1048576) : find 2097152 l p = some (fndGo l p 0) := by
  unfold find indexF
  have := find_loop (p := p) hl l.length 0 2097152 (by omega) (by omega)
  rw [show ((0 : Nat) : Int) = 0 from rfl, List.drop_zero] at this
  rw [this]
  rfl

/-! what is a path -/
theorem body_some {x : List UInt8} (hx : x.length ≤ 1048576) : ∀ (m i fuel : Nat), i + m = x.length → m < fuel → ∃ b, loopF (fun again1 v => cleanBody_b1 x again1 v) fuel (i : Int) = some b
  | m, i, 0, _, h => by omega
  | 0, i, fuel + 1, h, _ => by
    refine ⟨true, ?_⟩
    show cleanBody_b1 x _ _ = _
    rw [cleanBody_b1]
    rw [lt_dec, decide_eq_false (by omega), cond_false]
  | m + 1, i, fuel + 1, h, hf => by
    have hi : i < x.length := by omega
    obtain ⟨b, hb⟩ := body_some hx m (i + 1) fuel (by omega) (by omega)
    have e : ∀ c : Bool, ∃ b, cond c (some false) (loopF (fun again1 v => cleanBody_b1 x again1 v) fuel (IntKind.i64.wrap ((i : Int) + 1))) = some b := by
      intro c
      cases c
      · rw [cond_false, wrap_up (by omega)]; exact ⟨b, hb⟩
      · exact ⟨false, rfl⟩
    show ∃ b, cleanBody_b1 x _ _ = some b
    rw [cleanBody_b1]
    rw [lt_dec, decide_eq_true hi, cond_true, rd_nat hi]
    exact e _
theorem cleanBody_some {x : List UInt8} (hx : x.length ≤ 1048576) : ∃ b, cleanBody 2097152 x = some b := by
  unfold cleanBody
  cases (((x == ([] : List UInt8)) || (x == ([46] : List UInt8))) || (x == ([46, 46] : List UInt8)))
  · exact body_some hx x.length 0 2097152 (by omega) (by omega)
  · exact ⟨false, rfl⟩
theorem rounds_some : ∀ (l : List (List UInt8)), (∀ x ∈ l, x.length ≤ 1048576) → ∃ b, cleanRounds 2097152 l = some b
  | [], _ => ⟨true, rfl⟩
  | x :: xs, h => by
    obtain ⟨b, hb⟩ := cleanBody_some (h x (by simp))
    obtain ⟨c, hc⟩ := rounds_some xs (fun y hy => h y (by simp [hy]))
    simp only [cleanRounds, hb, ob, hc]
    cases b
    · exact ⟨false, rfl⟩
    · exact ⟨c, rfl⟩

def sumL (l : List (List UInt8)) : Nat := (l.map List.length).sum
theorem sumL_cons (x : List UInt8) (l : List (List UInt8)) : sumL (x :: l) = x.length + sumL l := by simp [sumL]
theorem sumL_mem {l : List (List UInt8)} {x : List UInt8} (h : x ∈ l) : x.length ≤ sumL l := by
  induction l with
  | nil => cases h
  | cons y ys ih =>
    rw [sumL_cons]
    cases h with
    | head => omega
    | tail _ h => have := ih h; omega
theorem pieces_len (c : UInt8) : ∀ (s : List UInt8), (pieces c s).length ≤ s.length + 1 ∧ sumL (pieces c s) ≤ s.length
  | [] => by simp [pieces, sumL]
  | x :: xs => by
    have ih := pieces_len c xs
    simp only [pieces]
    split
    · simp only [List.length_cons, sumL_cons, List.length_nil]; omega
    · split
      · rename_i p ps h
        rw [h] at ih
        simp only [List.length_cons, sumL_cons] at ih ⊢; omega
      · simp [sumL]
theorem clean_some (s : List UInt8) : ∃ b, clean 2097152 s = some b := by
  unfold clean
  by_cases h : (s.length : Int) > 40
  · rw [decide_eq_true h]; exact ⟨false, rfl⟩
  · rw [decide_eq_false h, cond_false]
    refine rounds_some _ fun x hx => ?_
    have h1 := (pieces_len 47 s).2
    have h2 := sumL_mem hx
    omega

/-! a path beside a file -/
theorem sumL_set (l : List (List UInt8)) (i : Nat) (x : List UInt8) : sumL (l.set i x) ≤ sumL l + x.length := by
  induction l generalizing i with
  | nil => simp [sumL]
  | cons y ys ih =>
    cases i with
    | zero => simp only [List.set_cons_zero, sumL_cons]; omega
    | succ i => have := ih i; simp only [List.set_cons_succ, sumL_cons]; omega
theorem sumL_take (l : List (List UInt8)) (i : Nat) : sumL (l.take i) ≤ sumL l := by
  induction l generalizing i with
  | nil => simp [sumL]
  | cons y ys ih =>
    cases i with
    | zero => simp [sumL]
    | succ i => have := ih i; simp only [List.take_succ_cons, sumL_cons]; omega
theorem sumL_append (l m : List (List UInt8)) : sumL (l ++ m) = sumL l + sumL m := by simp [sumL]

theorem split_j {s : List UInt8} {i n : Nat} {v : List (List UInt8)} (hv : v.length = n) (hi : i < n) (hn : n ≤ 2097152) : ∃ u, genSplit_j1 s (i : Int) v = some u ∧ 0 < u.length ∧ u.length ≤ n ∧ sumL u ≤ sumL v + s.length := by
  unfold genSplit_j1
  rw [rd_nat (by omega), wrap_up (by omega)]
  simp only [ob]
  rw [upB_nat (by omega)]
  refine ⟨_, rfl, ?_, ?_, ?_⟩
  · simp; omega
  · simp; omega
  · exact Nat.le_trans (sumL_take _ _) (sumL_set _ _ _)

theorem idx_pos {s : List UInt8} : Lib.indexByte s 47 = -1 ∨ ∃ j : Nat, Lib.indexByte s 47 = j ∧ j < s.length := by
  rcases idx_cases 47 s with ⟨h, _⟩ | ⟨j, h, h2, _⟩
  · exact .inl h
  · exact .inr ⟨j, h, h2⟩

theorem split_loop {a : List UInt8} {n : Nat} (hn : 0 < n) (hn2 : n ≤ 2097152) (he : IntKind.i64.wrap ((mmF false (IntKind.i64.wrap (((Lib.countByte a 47 : Int)) + 1)) (IntKind.i64.wrap ((a.length : Int) + 1))) - 1) = ((n - 1 : Nat) : Int)) :
    ∀ (m i fuel : Nat) (s : List UInt8) (v : List (List UInt8)), i + m + 1 = n → m < fuel → v.length = n → s.length ≤ 1048576 →
      ∃ u, loopF (fun again1 v => genSplit_b1 a again1 v.1 v.2.1 v.2.2) fuel (s, (i : Int), v) = some u ∧ 0 < u.length ∧ u.length ≤ n ∧ sumL u ≤ sumL v + s.length
  | m, i, 0, s, v, _, h, _, _ => by omega
  | 0, i, fuel + 1, s, v, h, _, hv, hs => by
    show ∃ u, genSplit_b1 a _ s (i : Int) v = some u ∧ _
    rw [genSplit_b1]
    rw [he, lt_dec, decide_eq_false (by omega), cond_false]
    exact split_j hv (by omega) hn2
  | m + 1, i, fuel + 1, s, v, h, hf, hv, hs => by
    show ∃ u, genSplit_b1 a _ s (i : Int) v = some u ∧ _
    rw [genSplit_b1]
    rw [he, lt_dec, decide_eq_true (by omega), cond_true]
    rcases idx_pos (s := s) with e | ⟨j, e, hj⟩
    · rw [e]
      exact split_j hv (by omega) hn2
    · rw [e, decide_eq_false (by omega), cond_false, Int.add_zero, wrap_of (by omega) (by omega), upB_nat (by omega)]
      rw [rd_nat (by omega)]
      simp only [ck, cond_true, ob]
      rw [wrap_up (by omega), upB_nat (by omega), cond_true, wrap_up (by omega)]
      simp only [Int.toNat_natCast]
      obtain ⟨u, h1, h2, h3, h4⟩ := split_loop hn hn2 he m (i + 1) fuel (s.drop (j + 1)) (v.set i (s.take j)) (by omega) (by omega) (by simpa using hv) (by simp; omega)
      refine ⟨u, h1, h2, h3, Nat.le_trans h4 ?_⟩
      have := sumL_set v i (s.take j)
      simp only [List.length_take, List.length_drop] at this ⊢
      omega

theorem count_le (c : UInt8) (s : List UInt8) : Lib.countByte s c ≤ s.length := List.count_le_length

theorem split_some {a : List UInt8} (ha : a.length ≤ 1048576) : ∃ u, split 2097152 a = some u ∧ 0 < u.length ∧ u.length ≤ a.length + 1 ∧ sumL u ≤ a.length := by
  have hc := count_le 47 a
  have e0 : mmF false (IntKind.i64.wrap (((Lib.countByte a 47 : Int)) + 1)) (IntKind.i64.wrap ((a.length : Int) + 1)) = ((Lib.countByte a 47 + 1 : Nat) : Int) := by
    rw [wrap_up (by omega), wrap_up (by omega)]
    simp only [mmF, Bool.false_eq_true, if_false]
    split <;> omega
  unfold split genSplit
  rw [e0]
  simp only [Int.toNat_natCast]
  rw [upB_nat (Nat.le_refl _), roomy_of (by omega), decide_eq_true (by omega)]
  simp only [Bool.and_self, ck, cond_true]
  obtain ⟨u, h1, h2, h3, h4⟩ := split_loop (a := a) (n := Lib.countByte a 47 + 1) (by omega) (by omega) (by rw [e0, wrap_down (by omega) (by omega)]) (Lib.countByte a 47) 0 2097152 a (List.replicate (Lib.countByte a 47 + 1) []) (by omega) (by omega) (by simp) ha
  rw [show ((0 : Nat) : Int) = 0 from rfl] at h1
  rw [h1]
  refine ⟨u, rfl, h2, by omega, ?_⟩
  have : sumL (List.replicate (Lib.countByte a 47 + 1) []) = 0 := by simp [sumL]
  omega

theorem upGo_some : ∀ (ps up : List (List UInt8)), up.length + ps.length ≤ 1073741824 → ∃ q, upGo up ps = some q ∧ ∀ w, q = some w → sumL w ≤ sumL up + sumL ps ∧ w.length ≤ up.length + ps.length
  | [], up, _ => ⟨some up, rfl, fun w h => by cases h; simp [sumL]⟩
  | p :: ps, up, h => by
    simp only [List.length_cons] at h
    unfold upGo
    cases p == ([46] : List UInt8)
    · rw [cond_false]
      cases p == ([46, 46] : List UInt8)
      · rw [cond_false, roomy_of (by omega)]
        obtain ⟨q, h1, h2⟩ := upGo_some ps (up ++ [p]) (by simp; omega)
        refine ⟨q, h1, fun w hw => ?_⟩
        obtain ⟨g1, g2⟩ := h2 w hw
        rw [sumL_append, sumL_cons] at g1
        simp only [sumL_cons, List.length_append, List.length_cons, List.length_nil] at g1 g2 ⊢
        simp [sumL] at g1 ⊢
        omega
      · rw [cond_true]
        by_cases h0 : up.length = 0
        · rw [show ((up.length : Int) == 0) = true by simp [h0], cond_true]
          exact ⟨none, rfl, fun w hw => by cases hw⟩
        · rw [show ((up.length : Int) == 0) = false by simp [h0], cond_false, wrap_down (by omega) (by omega), upB_nat (by omega)]
          simp only [Int.toNat_natCast]
          obtain ⟨q, h1, h2⟩ := upGo_some ps (up.take (up.length - 1)) (by simp; omega)
          refine ⟨q, h1, fun w hw => ?_⟩
          obtain ⟨g1, g2⟩ := h2 w hw
          have := sumL_take up (up.length - 1)
          simp only [sumL_cons, List.length_take, List.length_cons] at g1 g2 ⊢
          omega
    · rw [cond_true]
      obtain ⟨q, h1, h2⟩ := upGo_some ps up (by omega)
      refine ⟨q, h1, fun w hw => ?_⟩
      obtain ⟨g1, g2⟩ := h2 w hw
      simp only [sumL_cons, List.length_cons]
      omega

theorem joinTail_len (sep : List UInt8) : ∀ (l : List (List UInt8)), (Lib.joinTail sep l).length = sumL l + l.length * sep.length
  | [] => by simp [Lib.joinTail, sumL]
  | x :: xs => by
    have ih := joinTail_len sep xs
    simp only [Lib.joinTail, List.map_cons, List.flatten_cons, List.length_append, sumL_cons, List.length_cons, Nat.succ_mul] at ih ⊢
    rw [ih]; omega
theorem join_len (sep : List UInt8) : ∀ (l : List (List UInt8)), (Lib.join l sep).length ≤ sumL l + l.length * sep.length
  | [] => by simp [Lib.join_nil]
  | x :: xs => by
    rw [Lib.join_cons, List.length_append, joinTail_len, sumL_cons, List.length_cons, Nat.succ_mul]; omega

theorem beside_some {a p : List UInt8} (ha : a.length ≤ 1048576) (hp : p.length ≤ 1048576) : ∃ r, beside 2097152 a p = some r ∧ (r = [] ∨ clean 2097152 r = some true) := by
  obtain ⟨u, h1, h2, h3, h4⟩ := split_some ha
  have hq := pieces_len 47 p
  obtain ⟨q, g1, g2⟩ := upGo_some (pieces 47 p) (u.take (u.length - 1)) (by simp; omega)
  unfold beside
  rw [decide_eq_true hp]
  simp only [ck, cond_true, h1, ob]
  rw [wrap_down (by omega) (by omega), upB_nat (by omega)]
  simp only [Int.toNat_natCast, cond_true, g1]
  cases q with
  | none => exact ⟨[], rfl, .inl rfl⟩
  | some up =>
    obtain ⟨k1, k2⟩ := g2 up rfl
    have k3 := sumL_take u (u.length - 1)
    have k4 := join_len [47] up
    simp only [List.length_take, List.length_cons, List.length_nil] at k2 k4
    simp only [besideEnd, joinF]
    rw [decide_eq_true (show (Lib.join up [47]).length ≤ 140737488355328 by omega), decide_eq_true (show up.length ≤ 140737488355328 by omega)]
    simp only [Bool.and_self, ck, cond_true, ob]
    obtain ⟨b, hb⟩ := clean_some (Lib.join up [47])
    rw [hb]
    cases b
    · exact ⟨[], rfl, .inl rfl⟩
    · exact ⟨_, rfl, .inr hb⟩

end Go.Proofs
