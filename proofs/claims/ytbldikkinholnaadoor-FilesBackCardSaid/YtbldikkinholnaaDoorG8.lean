/-
  Pure functions, and that the code does what they do: by program.
-/
import Derived.Test.YtbldikkinholnaaDoorG5
import Derived.Test.YtbldikkinholnaaDoorAb30
import Derived.Test.YtbldikkinholnaaDoorShelf
import Derived.Test.YtbldikkinholnaaDoorF2
import Derived.Test.YtbldikkinholnaaDoorG2
namespace Go.Proofs
open Go Go.Ab
set_option linter.unusedSimpArgs false
set_option linter.unusedVariables false
set_option maxHeartbeats 8000000

def joinF (xs : List (List UInt8)) : Option (List UInt8) := ck (decide ((Lib.join xs [47]).length ≤ 140737488355328) && decide (xs.length ≤ 140737488355328)) (some (Lib.join xs [47]))
theorem ok_joinF {xs : List (List UInt8)} {r : List UInt8} (h : joinF xs = some r) : FnOk Tryd.prog 20 [.os 0 0 xs.length, .str [47]] [(0, .arr 1 (List.map AV.str xs))] 1 (fun q s k => q = .ret (.str r) ∧ s = [(0, .arr 1 (List.map AV.str xs))] ∧ k = 1) := by
  obtain ⟨c, h⟩ := ck_some h
  cases h
  simp only [Bool.and_eq_true, decide_eq_true_eq] at c
  refine FnOk_kit fun φ F vs w hvs H => ?_
  cases hvs with | cons h1 h2 =>
  cases h2 with | cons h2 h3 =>
  cases h3
  obtain ⟨y, rfl, hy⟩ := h2.str_inv
  have : y = ⟨#[47]⟩ := by
    obtain ⟨⟨l⟩⟩ := y
    simp at hy
    subst hy; rfl
  subst this
  rcases os_texts H rfl h1 with ⟨rfl, a, c', rfl⟩ | ⟨b, o, c', rfl, hc, hb, hcell⟩
  · refine (Tryd.strings_Join_none a c' _ w).mono ?_
    rintro e w' ⟨rfl, rfl⟩
    exact ⟨_, rfl, .str rfl, .refl _ _⟩
  · have e : List.map (fun x : ByteArray => x.data.toList) (List.map (fun x : List UInt8 => (⟨x.toArray⟩ : ByteArray)) xs) = xs := by
      rw [List.map_map]
      conv => rhs; rw [← List.map_id xs]
      rfl
    have key := Tryd.strings_Join b o c' (List.map (fun x : List UInt8 => (⟨x.toArray⟩ : ByteArray)) xs) ⟨#[47]⟩ w (fun j x hx => by
      rw [List.getElem?_map] at hx
      obtain ⟨y, hy, rfl⟩ := Option.map_eq_some_iff.1 hx
      exact hcell j y hy) hb (by simpa using c.2) (by simpa using hc) (by rw [e]; exact c.1)
    rw [e, List.length_map] at key
    refine key.mono ?_
    rintro e w' ⟨rfl, hB⟩
    exact ⟨_, rfl, .str rfl, hB⟩
def besideEnd (fuel : Nat) (up : List (List UInt8)) : Option ((List UInt8)) :=
  (ob (joinF up) fun r1 => (ob (clean fuel r1) fun r2 => (cond (!r2) (some []) (some r1))))

def Tryd.ac_besideEnd : ACode :=
  (.seq (.reg [
     ⟨some 35, .op (.load 1 false (.tmp 5)), none⟩,
     ⟨some 36, .call 20 [.tmp 35, .val (.str [47])], none⟩,
     ⟨some 7, .op (.mov (.tmp 36)), none⟩])
    (.seq (.seq (.reg [
      ⟨some 37, .op (.mov (.tmp 7)), none⟩,
      ⟨some 38, .call 11 [.tmp 37], none⟩,
      ⟨some 39, .op (.un .not (.tmp 38)), none⟩])
     (.cond (.tmp 39)
     (.seq (.reg [
       ⟨none, .op (.store 1 (.tmp 4) (.val (.str []))), none⟩])
      .ret)
     .skip))
    (.seq (.reg [
     ⟨some 40, .op (.mov (.tmp 7)), none⟩,
     ⟨none, .op (.store 1 (.tmp 4) (.tmp 40)), none⟩])
    .ret)))

theorem ok_besideEnd {fuel : Nat} {up : List (List UInt8)} {r : (List UInt8)} (h : besideEnd fuel up = some r) {R0 : APost} (hR0 : ∀ e s, (∃ t, St.ent ⟨41, 0⟩ s t ∧ EndPost [.cell 4 1 false] 0 (.str r) [] 0 e t) → R0 e s) : XA Tryd.prog ⟨41, 0⟩ Tryd.ac_besideEnd R0 ⟨[(4, .ptr 0 0), (5, .ptr 1 0)], [(0, .var [.str []]), (1, .var [.os 2 0 up.length]), (2, .arr 1 (List.map AV.str up))], 3⟩ := by
  unfold besideEnd at h
  unfold Tryd.ac_besideEnd
  refine XA_seq_st fun R1 hR1 => ?_
  refine XA_reg_g ?_
  obtain ⟨r1, hr1, h⟩ := ob_some h
  refine RG_end ⟨[(4, .ptr 0 0), (7, .str r1)], [(0, .var [.str []])], 1⟩ (fun K hK => ?_) (fun s hs => ?_)
  · refine runs_cut 1 fun K1 hK1 => ?_
    simp only [go_sem, Nat.reduceBEq, Nat.reduceLT, Nat.reduceLeDiff, Nat.reduceEqDiff, Nat.reduceAdd, Nat.reduceSub, Nat.reduceMul, Int.reduceBEq, Int.reduceBNe, Int.reduceLT, Int.reduceLE, Int.reduceEq, Int.reduceGT, Int.reduceAdd, Int.reduceSub, Int.reduceNeg, Int.reduceToNat, reduceCtorEq, reduceIte]
    refine hK1 _ ?_
    simp only [List.take_succ_cons, List.take_zero, List.drop_succ_cons, List.drop_zero]
    refine runs_call rfl rfl (CallP.wk (CallP_of [2] _ _ (.of Tryd.func20 (by kernel_rfl)) (ok_joinF hr1) (by simp only [go_sem, Nat.reduceBEq, Nat.reduceLT, Nat.reduceLeDiff, Nat.reduceEqDiff, Nat.reduceAdd, Nat.reduceSub, Nat.reduceMul, Int.reduceBEq, Int.reduceBNe, Int.reduceLT, Int.reduceLE, Int.reduceEq, Int.reduceGT, Int.reduceAdd, Int.reduceSub, Int.reduceNeg, Int.reduceToNat, reduceCtorEq, reduceIte]) (by simp only [push_cast, Nat.reduceEqDiff, Nat.reduceAdd, reduceCtorEq, reduceIte, entStore]) rfl (by decide) ?_ (by rintro _ _ _ ⟨hv, _⟩; cases hv)))
    rintro _ _ _ ⟨hv, rfl, rfl⟩
    cases hv
    simp only [go_sem, Nat.reduceBEq, Nat.reduceLT, Nat.reduceLeDiff, Nat.reduceEqDiff, Nat.reduceAdd, Nat.reduceSub, Nat.reduceMul, Int.reduceBEq, Int.reduceBNe, Int.reduceLT, Int.reduceLE, Int.reduceEq, Int.reduceGT, Int.reduceAdd, Int.reduceSub, Int.reduceNeg, Int.reduceToNat, reduceCtorEq, reduceIte]
    exact hK _ (St.ent_by [0] rfl (Nat.le_of_ble_eq_true rfl) rfl (by decide) (by simp only [push_cast, Nat.reduceEqDiff, Nat.reduceAdd, reduceCtorEq, reduceIte]) (by simp only [push_cast, Nat.reduceEqDiff, Nat.reduceAdd, reduceCtorEq, reduceIte]))
  refine dN_seq hR1 (XA_ent hs ?_)
  refine XA_seq_st fun R2 hR2 => ?_
  refine XA_seq_st fun R3 hR3 => ?_
  refine XA_reg_g ?_
  obtain ⟨r2, hr2, h⟩ := ob_some h
  refine RG_end ⟨[(4, .ptr 0 0), (7, .str r1), (39, .bool (!r2))], [(0, .var [.str []])], 1⟩ (fun K hK => ?_) (fun s hs => ?_)
  · refine runs_cut 1 fun K2 hK2 => ?_
    simp only [go_sem, Nat.reduceBEq, Nat.reduceLT, Nat.reduceLeDiff, Nat.reduceEqDiff, Nat.reduceAdd, Nat.reduceSub, Nat.reduceMul, Int.reduceBEq, Int.reduceBNe, Int.reduceLT, Int.reduceLE, Int.reduceEq, Int.reduceGT, Int.reduceAdd, Int.reduceSub, Int.reduceNeg, Int.reduceToNat, reduceCtorEq, reduceIte]
    refine hK2 _ ?_
    simp only [List.take_succ_cons, List.take_zero, List.drop_succ_cons, List.drop_zero]
    refine runs_call rfl rfl (CallP.wk (CallP_of [] _ _ (.of Tryd.func11 (by kernel_rfl)) (ok_clean hr2) (by simp only [go_sem, Nat.reduceBEq, Nat.reduceLT, Nat.reduceLeDiff, Nat.reduceEqDiff, Nat.reduceAdd, Nat.reduceSub, Nat.reduceMul, Int.reduceBEq, Int.reduceBNe, Int.reduceLT, Int.reduceLE, Int.reduceEq, Int.reduceGT, Int.reduceAdd, Int.reduceSub, Int.reduceNeg, Int.reduceToNat, reduceCtorEq, reduceIte]) (by simp only [push_cast, Nat.reduceEqDiff, Nat.reduceAdd, reduceCtorEq, reduceIte, entStore]) rfl (by decide) ?_ (by rintro _ _ _ ⟨hv, _⟩; cases hv)))
    rintro _ _ _ ⟨hv, rfl, rfl⟩
    cases hv
    simp only [go_sem, Nat.reduceBEq, Nat.reduceLT, Nat.reduceLeDiff, Nat.reduceEqDiff, Nat.reduceAdd, Nat.reduceSub, Nat.reduceMul, Int.reduceBEq, Int.reduceBNe, Int.reduceLT, Int.reduceLE, Int.reduceEq, Int.reduceGT, Int.reduceAdd, Int.reduceSub, Int.reduceNeg, Int.reduceToNat, reduceCtorEq, reduceIte]
    exact hK _ (St.ent_by [0] rfl (Nat.le_of_ble_eq_true rfl) rfl (by decide) (by simp only [push_cast, Nat.reduceEqDiff, Nat.reduceAdd, reduceCtorEq, reduceIte]) (by simp only [push_cast, Nat.reduceEqDiff, Nat.reduceAdd, reduceCtorEq, reduceIte]))
  refine dN_seq hR3 (XA_ent hs ?_)
  refine XA_cond (t := (!r2)) rfl (fun g1 => ?_) (fun g1 => ?_)
  · rw [g1, cond_true] at h
    refine XA_seq_st fun R4 hR4 => ?_
    refine XA_reg_g ?_
    refine RG_end ⟨[(4, .ptr 0 0)], [(0, .var [.str []])], 1⟩ (fun K hK => ?_) (fun s hs => ?_)
    · simp only [go_sem, Nat.reduceBEq, Nat.reduceLT, Nat.reduceLeDiff, Nat.reduceEqDiff, Nat.reduceAdd, Nat.reduceSub, Nat.reduceMul, Int.reduceBEq, Int.reduceBNe, Int.reduceLT, Int.reduceLE, Int.reduceEq, Int.reduceGT, Int.reduceAdd, Int.reduceSub, Int.reduceNeg, Int.reduceToNat, reduceCtorEq, reduceIte]
      exact hK _ (St.ent_by [0] rfl (Nat.le_of_ble_eq_true rfl) rfl (by decide) (by simp only [push_cast, Nat.reduceEqDiff, Nat.reduceAdd, reduceCtorEq, reduceIte]) (by simp only [push_cast, Nat.reduceEqDiff, Nat.reduceAdd, reduceCtorEq, reduceIte]))
    refine dN_seq hR4 (XA_ent hs ?_)
    refine XA_ret ?_
    refine dR_seq hR2 ?_
    refine hR0 _ _ ⟨_, St.ent_self, EndPost_ret (v := .str []) (by simp only [go_sem, Nat.reduceBEq, Nat.reduceLT, Nat.reduceLeDiff, Nat.reduceEqDiff, Nat.reduceAdd, Nat.reduceSub, Nat.reduceMul, Int.reduceBEq, Int.reduceBNe, Int.reduceLT, Int.reduceLE, Int.reduceEq, Int.reduceGT, Int.reduceAdd, Int.reduceSub, Int.reduceNeg, Int.reduceToNat, reduceCtorEq, reduceIte]) ?_⟩
    have h := Option.some.inj h; subst h
    exact (St.ent_by [] rfl (Nat.le_of_ble_eq_true rfl) rfl (by decide) (by simp only [push_cast, Nat.reduceEqDiff, Nat.reduceAdd, reduceCtorEq, reduceIte]) (by simp only [push_cast, Nat.reduceEqDiff, Nat.reduceAdd, reduceCtorEq, reduceIte]))
  · rw [g1, cond_false] at h
    refine XA_skip ?_
    refine dN_seq hR2 ?_
    refine XA_seq_st fun R5 hR5 => ?_
    refine XA_reg_g ?_
    refine RG_end ⟨[(4, .ptr 0 0)], [(0, .var [.str r1])], 1⟩ (fun K hK => ?_) (fun s hs => ?_)
    · simp only [go_sem, Nat.reduceBEq, Nat.reduceLT, Nat.reduceLeDiff, Nat.reduceEqDiff, Nat.reduceAdd, Nat.reduceSub, Nat.reduceMul, Int.reduceBEq, Int.reduceBNe, Int.reduceLT, Int.reduceLE, Int.reduceEq, Int.reduceGT, Int.reduceAdd, Int.reduceSub, Int.reduceNeg, Int.reduceToNat, reduceCtorEq, reduceIte]
      exact hK _ (St.ent_by [0] rfl (Nat.le_of_ble_eq_true rfl) rfl (by decide) (by simp only [push_cast, Nat.reduceEqDiff, Nat.reduceAdd, reduceCtorEq, reduceIte]) (by simp only [push_cast, Nat.reduceEqDiff, Nat.reduceAdd, reduceCtorEq, reduceIte]))
    refine dN_seq hR5 (XA_ent hs ?_)
    refine XA_ret ?_
    refine hR0 _ _ ⟨_, St.ent_self, EndPost_ret (v := .str r1) (by simp only [go_sem, Nat.reduceBEq, Nat.reduceLT, Nat.reduceLeDiff, Nat.reduceEqDiff, Nat.reduceAdd, Nat.reduceSub, Nat.reduceMul, Int.reduceBEq, Int.reduceBNe, Int.reduceLT, Int.reduceLE, Int.reduceEq, Int.reduceGT, Int.reduceAdd, Int.reduceSub, Int.reduceNeg, Int.reduceToNat, reduceCtorEq, reduceIte]) ?_⟩
    have h := Option.some.inj h; subst h
    exact (St.ent_by [] rfl (Nat.le_of_ble_eq_true rfl) rfl (by decide) (by simp only [push_cast, Nat.reduceEqDiff, Nat.reduceAdd, reduceCtorEq, reduceIte]) (by simp only [push_cast, Nat.reduceEqDiff, Nat.reduceAdd, reduceCtorEq, reduceIte]))def upGo : List (List UInt8) → List (List UInt8) → Option (Option (List (List UInt8)))
  | up, [] => some (some up)
  | up, p :: ps => cond (p == ([46] : List UInt8)) (upGo up ps) (cond (p == ([46, 46] : List UInt8))
      (cond ((up.length : Int) == 0) (some none) (ck (upB (IntKind.i64.wrap ((up.length : Int) - 1)) up.length) (upGo (up.take (IntKind.i64.wrap ((up.length : Int) - 1)).toNat) ps)))
      (ck (roomy (up.length + 1)) (upGo (up ++ [p]) ps)))
def beside (fuel : Nat) (a p : List UInt8) : Option (List UInt8) :=
  ck (decide (p.length ≤ 1048576)) (ob (split fuel a) fun u => ck (upB (IntKind.i64.wrap ((u.length : Int) - 1)) u.length)
    (ob (upGo (u.take (IntKind.i64.wrap ((u.length : Int) - 1)).toNat) (pieces 47 p)) fun q => match q with
      | none => some []
      | some up => besideEnd fuel up))

theorem upGo_at {l : List (List UInt8)} {k : Nat} {x : List UInt8} {up : List (List UInt8)} {q : Option (List (List UInt8))} (hx : l[k]? = some x) (h : upGo up (l.drop k) = some q) : upGo up (x :: l.drop (k + 1)) = some q := by
  have hk : k < l.length := by
    rcases Nat.lt_or_ge k l.length with h' | h'
    · exact h'
    · simp [List.getElem?_eq_none h'] at hx
  rw [List.drop_eq_getElem_cons hk] at h
  have : l[k] = x := by rw [List.getElem?_eq_getElem hk] at hx; simpa using hx
  rwa [this] at h

set_option maxRecDepth 4000 in
theorem ok_beside {fuel : Nat} {a p r : List UInt8} (h : beside fuel a p = some r) : FnOk Tryd.prog 10 [.str a, .str p] [] 0 (fun q s k => q = .ret (.str r) ∧ s = [] ∧ k = 0) := by
  refine FnOk.to (Fn_of_XMA Tryd.func10 Tryd.ntmps10 Tryd.cc10 (by simp) (rs := [.cell 4 1 false]) (by kernel_rfl) ?_)
  unfold beside at h
  obtain ⟨hp, h⟩ := ck_some h
  replace hp := of_decide_eq_true hp
  obtain ⟨u, hu, h⟩ := ob_some h
  obtain ⟨hc, h⟩ := ck_some h
  obtain ⟨q, hq, h⟩ := ob_some h
  unfold Tryd.ac10
  refine (show XMA _ _ _ _ ⟨[(0, .str a), (1, .str p)], [], 0⟩ [] from ?_)
  refine XMA_seq_reg ⟨[(0, .str a), (1, .str p), (4, .ptr 0 0)], [(0, .var [.str []])], 1⟩ (fun R K hK => ?_) ?_
  · simp only [go_sem, Nat.reduceBEq, Nat.reduceLT, Nat.reduceLeDiff, Nat.reduceEqDiff, Nat.reduceAdd, Nat.reduceSub, Nat.reduceMul, Int.reduceBEq, Int.reduceBNe, Int.reduceLT, Int.reduceLE, Int.reduceEq, Int.reduceGT, Int.reduceAdd, Int.reduceSub, Int.reduceNeg, Int.reduceToNat, reduceCtorEq, reduceIte]
    exact hK _ (St.ent_by [0] rfl (Nat.le_of_ble_eq_true rfl) rfl (by decide) (by simp only [push_cast, Nat.reduceEqDiff, Nat.reduceAdd, reduceCtorEq, reduceIte]) (by simp only [push_cast, Nat.reduceEqDiff, Nat.reduceAdd, reduceCtorEq, reduceIte]))
  refine XMA_seq_reg ⟨[(1, .str p), (4, .ptr 0 0), (5, .ptr 1 0)], [(0, .var [.str []]), (1, .var [.os 2 0 u.length]), (2, .arr 1 (List.map AV.str u))], 3⟩ (fun R K hK => ?_) ?_
  · refine runs_cut 1 fun K1 hK1 => ?_
    simp only [go_sem, Nat.reduceBEq, Nat.reduceLT, Nat.reduceLeDiff, Nat.reduceEqDiff, Nat.reduceAdd, Nat.reduceSub, Nat.reduceMul, Int.reduceBEq, Int.reduceBNe, Int.reduceLT, Int.reduceLE, Int.reduceEq, Int.reduceGT, Int.reduceAdd, Int.reduceSub, Int.reduceNeg, Int.reduceToNat, reduceCtorEq, reduceIte]
    refine hK1 _ ?_
    simp only [List.take_succ_cons, List.take_zero, List.drop_succ_cons, List.drop_zero]
    refine runs_call rfl rfl (CallP.wk (CallP_of [] _ _ (.of Tryd.func18 (by kernel_rfl)) (ok_split hu) (by simp only [go_sem, Nat.reduceBEq, Nat.reduceLT, Nat.reduceLeDiff, Nat.reduceEqDiff, Nat.reduceAdd, Nat.reduceSub, Nat.reduceMul, Int.reduceBEq, Int.reduceBNe, Int.reduceLT, Int.reduceLE, Int.reduceEq, Int.reduceGT, Int.reduceAdd, Int.reduceSub, Int.reduceNeg, Int.reduceToNat, reduceCtorEq, reduceIte]) (by simp only [push_cast, Nat.reduceEqDiff, Nat.reduceAdd, reduceCtorEq, reduceIte, entStore]) rfl (by decide) ?_ (by rintro _ _ _ ⟨hv, _⟩; cases hv)))
    rintro _ _ _ ⟨hv, rfl, rfl⟩
    cases hv
    simp only [go_sem, Nat.reduceBEq, Nat.reduceLT, Nat.reduceLeDiff, Nat.reduceEqDiff, Nat.reduceAdd, Nat.reduceSub, Nat.reduceMul, Int.reduceBEq, Int.reduceBNe, Int.reduceLT, Int.reduceLE, Int.reduceEq, Int.reduceGT, Int.reduceAdd, Int.reduceSub, Int.reduceNeg, Int.reduceToNat, reduceCtorEq, reduceIte]
    exact hK _ (St.ent_by [0, 2, 1] rfl (Nat.le_of_ble_eq_true rfl) rfl (by decide) (by simp only [push_cast, Nat.reduceEqDiff, Nat.reduceAdd, reduceCtorEq, reduceIte]) (by simp only [push_cast, Nat.reduceEqDiff, Nat.reduceAdd, reduceCtorEq, reduceIte]))
  refine XMA_seq_reg ⟨[(1, .str p), (4, .ptr 0 0), (5, .ptr 1 0)], [(0, .var [.str []]), (1, .var [.os 2 0 (IntKind.i64.wrap ((u.length : Int) - 1)).toNat]), (2, .arr 1 (List.map AV.str u))], 3⟩ (fun R K hK => ?_) ?_
  · simp only [go_sem, Nat.reduceBEq, Nat.reduceLT, Nat.reduceLeDiff, Nat.reduceEqDiff, Nat.reduceAdd, Nat.reduceSub, Nat.reduceMul, Int.reduceBEq, Int.reduceBNe, Int.reduceLT, Int.reduceLE, Int.reduceEq, Int.reduceGT, Int.reduceAdd, Int.reduceSub, Int.reduceNeg, Int.reduceToNat, reduceCtorEq, reduceIte, hc]
    exact hK _ (St.ent_by [0, 1, 2] rfl (Nat.le_of_ble_eq_true rfl) rfl (by decide) (by simp only [push_cast, Nat.reduceEqDiff, Nat.reduceAdd, reduceCtorEq, reduceIte]) (by simp only [push_cast, Nat.reduceEqDiff, Nat.reduceAdd, reduceCtorEq, reduceIte]))
  refine XMA_ent (t := ⟨[(1, .str p), (4, .ptr 0 0), (5, .ptr 1 0)], [(0, .var [.str []]), (1, .var [.os 2 0 (u.take (IntKind.i64.wrap ((u.length : Int) - 1)).toNat).length]), (2, .arr 1 (List.map AV.str (u.take (IntKind.i64.wrap ((u.length : Int) - 1)).toNat)))], 3⟩) ((St.ent_trim (l := 2) (IntKind.i64.wrap ((u.length : Int) - 1)).toNat rfl).trans (St.ent_by [0, 1, 2] rfl (Nat.le_of_ble_eq_true rfl) rfl (by decide) (by simp only [push_cast, Nat.reduceEqDiff, Nat.reduceAdd, reduceCtorEq, reduceIte, upB_take hc]) (by simp only [push_cast, Nat.reduceEqDiff, Nat.reduceAdd, reduceCtorEq, reduceIte, upB_take hc]))) ?_
  generalize u.take (IntKind.i64.wrap ((u.length : Int) - 1)).toNat = v at hq ⊢
  refine XMA_seq_st fun R1 hR1 => ?_
  refine XMA_seq_reg ⟨[(4, .ptr 0 0), (5, .ptr 1 0), (16, .fn 37 [.ptr 4 0, .ptr 3 0, .ptr 5 0])], [(0, .var [.str []]), (1, .var [.os 2 0 v.length]), (2, .arr 1 (List.map AV.str v)), (3, .var [.str p]), (4, .var [.str [47]]), (5, .var [.int .i64 0])], 6⟩ (fun R K hK => ?_) ?_
  · refine runs_cut 1 fun K1 hK1 => ?_
    simp only [go_sem, Nat.reduceBEq, Nat.reduceLT, Nat.reduceLeDiff, Nat.reduceEqDiff, Nat.reduceAdd, Nat.reduceSub, Nat.reduceMul, Int.reduceBEq, Int.reduceBNe, Int.reduceLT, Int.reduceLE, Int.reduceEq, Int.reduceGT, Int.reduceAdd, Int.reduceSub, Int.reduceNeg, Int.reduceToNat, reduceCtorEq, reduceIte]
    refine hK1 _ ?_
    simp only [List.take_succ_cons, List.take_zero, List.drop_succ_cons, List.drop_zero]
    refine runs_call rfl rfl (CallP.wk (CallP_of [] _ _ (.of Tryd.func19 (by kernel_rfl)) (ok_SplitSeq p [47]) (by simp only [go_sem, Nat.reduceBEq, Nat.reduceLT, Nat.reduceLeDiff, Nat.reduceEqDiff, Nat.reduceAdd, Nat.reduceSub, Nat.reduceMul, Int.reduceBEq, Int.reduceBNe, Int.reduceLT, Int.reduceLE, Int.reduceEq, Int.reduceGT, Int.reduceAdd, Int.reduceSub, Int.reduceNeg, Int.reduceToNat, reduceCtorEq, reduceIte]) (by simp only [push_cast, Nat.reduceEqDiff, Nat.reduceAdd, reduceCtorEq, reduceIte, entStore]) rfl (by decide) ?_ (by rintro _ _ _ ⟨hv, _⟩; cases hv)))
    rintro _ _ _ ⟨hv, rfl, rfl⟩
    cases hv
    simp only [go_sem, Nat.reduceBEq, Nat.reduceLT, Nat.reduceLeDiff, Nat.reduceEqDiff, Nat.reduceAdd, Nat.reduceSub, Nat.reduceMul, Int.reduceBEq, Int.reduceBNe, Int.reduceLT, Int.reduceLE, Int.reduceEq, Int.reduceGT, Int.reduceAdd, Int.reduceSub, Int.reduceNeg, Int.reduceToNat, reduceCtorEq, reduceIte]
    exact hK _ (St.ent_by [0, 1, 2, 3, 4, 5] rfl (Nat.le_of_ble_eq_true rfl) rfl (by decide) (by simp only [push_cast, Nat.reduceEqDiff, Nat.reduceAdd, reduceCtorEq, reduceIte]) (by simp only [push_cast, Nat.reduceEqDiff, Nat.reduceAdd, reduceCtorEq, reduceIte]))
  refine XMA_block ?_
  refine XMA_range [3, 4, 5] (fun k σ nx => ∃ l up, l < nx ∧ l ≠ 0 ∧ l ≠ 1 ∧ 2 ≤ nx ∧ σ = [(0, .var [.str []]), (1, .var [.os l 0 up.length]), (l, .arr 1 (List.map AV.str up))] ∧ upGo up ((pieces 47 p).drop k) = some q) (fun ex σ nx => ex = .ret ∧ q = none ∧ ∃ l o1 o2, l ≠ 0 ∧ σ = [(0, .var [.str []]), (1, o1), (l, o2)]) rfl (.of Tryd.func37 (by kernel_rfl)) (it_split p hp) rfl ?_ (by decide) (by decide) ?_ ?_ ?_ ?_
  · simp [entStore, rho, Store.get, Obj.rn, AV.rn, AV.rns]
  · exact ⟨2, v, Nat.lt_of_sub_pos (n := 6) (by decide), by decide, by decide, Nat.le_of_ble_eq_true rfl, rfl, hq⟩
  · rintro k σ nx x ⟨l, up, hl, h0, h1, h2, rfl, hg⟩ hx
    replace hg := upGo_at hx hg
    unfold upGo at hg
    have e0 : ¬ 0 = l := fun e => h0 e.symm
    have e1 : ¬ 1 = l := fun e => h1 e.symm
    refine xs_sound mix _ _ _ ?_
    simp only [go_sem, Nat.reduceBEq, Nat.reduceLT, Nat.reduceLeDiff, Nat.reduceEqDiff, Nat.reduceAdd, Nat.reduceSub, Nat.reduceMul, Int.reduceBEq, Int.reduceBNe, Int.reduceLT, Int.reduceLE, Int.reduceEq, Int.reduceGT, Int.reduceAdd, Int.reduceSub, Int.reduceNeg, Int.reduceToNat, reduceCtorEq, reduceIte, xs, AExit.andThen]
    refine XA_post_ent ?_
    refine xs_sound mix _ _ _ ?_
    refine xs_post fun R hR => ?_
    have fin : ∀ s t l' up', St.ent ⟨41, nx⟩ s t → l' < t.nx → l' ≠ 0 → l' ≠ 1 → 2 ≤ t.nx → t.σ = [(0, .var [.str []]), (1, .var [.os l' 0 up'.length]), (l', .arr 1 (List.map AV.str up'))] → upGo up' ((pieces 47 p).drop (k + 1)) = some q → R .normal s :=
      fun s t l' up' ht q1 q2 q3 q4 q5 q6 => hR _ _ (.inr ⟨fun _ e => (by cases e), t, ht, l', up', q1, q2, q3, q4, q5, q6⟩)
    refine xs_block_step fun R1 hR1 => ?_
    refine xs_seq_step fun K1 hK1 => ?_
    simp only [go_sem, Nat.reduceBEq, Nat.reduceLT, Nat.reduceLeDiff, Nat.reduceEqDiff, Nat.reduceAdd, Nat.reduceSub, Nat.reduceMul, Int.reduceBEq, Int.reduceBNe, Int.reduceLT, Int.reduceLE, Int.reduceEq, Int.reduceGT, Int.reduceAdd, Int.reduceSub, Int.reduceNeg, Int.reduceToNat, reduceCtorEq, reduceIte, xs]
    refine hK1 _ ?_
    refine xs_block_step fun R2 hR2 => ?_
    refine xs_seq_step fun K2 hK2 => ?_
    simp only [go_sem, Nat.reduceBEq, Nat.reduceLT, Nat.reduceLeDiff, Nat.reduceEqDiff, Nat.reduceAdd, Nat.reduceSub, Nat.reduceMul, Int.reduceBEq, Int.reduceBNe, Int.reduceLT, Int.reduceLE, Int.reduceEq, Int.reduceGT, Int.reduceAdd, Int.reduceSub, Int.reduceNeg, Int.reduceToNat, reduceCtorEq, reduceIte, xs]
    refine hK2 _ ?_
    refine xs_cond_st (t := x == [46]) rfl (fun g => ?_) (fun g => ?_)
    · rw [g, cond_true] at hg
      exact hR2 _ _ (hR1 _ _ (fin _ _ l up St.ent_self hl h0 h1 h2 rfl hg))
    rw [g, cond_false] at hg
    refine xs_seq_step fun K3 hK3 => ?_
    simp only [go_sem, Nat.reduceBEq, Nat.reduceLT, Nat.reduceLeDiff, Nat.reduceEqDiff, Nat.reduceAdd, Nat.reduceSub, Nat.reduceMul, Int.reduceBEq, Int.reduceBNe, Int.reduceLT, Int.reduceLE, Int.reduceEq, Int.reduceGT, Int.reduceAdd, Int.reduceSub, Int.reduceNeg, Int.reduceToNat, reduceCtorEq, reduceIte, xs]
    refine hK3 _ ?_
    refine xs_cond_st (t := x == [46, 46]) rfl (fun g2 => ?_) (fun g2 => ?_)
    · rw [g2, cond_true] at hg
      refine xs_seq_step fun K4 hK4 => ?_
      refine xs_seq_step fun K5 hK5 => ?_
      simp only [go_sem, Nat.reduceBEq, Nat.reduceLT, Nat.reduceLeDiff, Nat.reduceEqDiff, Nat.reduceAdd, Nat.reduceSub, Nat.reduceMul, Int.reduceBEq, Int.reduceBNe, Int.reduceLT, Int.reduceLE, Int.reduceEq, Int.reduceGT, Int.reduceAdd, Int.reduceSub, Int.reduceNeg, Int.reduceToNat, reduceCtorEq, reduceIte, xs]
      refine hK5 _ ?_
      refine xs_cond_st (t := (up.length : Int) == 0) rfl (fun g3 => ?_) (fun g3 => ?_)
      · rw [g3, cond_true] at hg
        have hg := Option.some.inj hg
        refine xs_seq_step fun K6 hK6 => ?_
        simp only [go_sem, Nat.reduceBEq, Nat.reduceLT, Nat.reduceLeDiff, Nat.reduceEqDiff, Nat.reduceAdd, Nat.reduceSub, Nat.reduceMul, Int.reduceBEq, Int.reduceBNe, Int.reduceLT, Int.reduceLE, Int.reduceEq, Int.reduceGT, Int.reduceAdd, Int.reduceSub, Int.reduceNeg, Int.reduceToNat, reduceCtorEq, reduceIte, xs]
        refine hK6 _ ?_
        refine hR2 _ _ (hR1 _ _ (hR _ _ (.inr ⟨fun _ e => (by cases e), _, St.ent_self, ?_⟩)))
        simp only []
        exact ⟨hg.symm, l, _, _, h0, rfl⟩
      · rw [g3, cond_false] at hg
        obtain ⟨hb, hg⟩ := ck_some hg
        refine hK4 _ ?_
        refine xs_reg_step fun K6 hK6 => ?_
        simp only [go_sem, Nat.reduceBEq, Nat.reduceLT, Nat.reduceLeDiff, Nat.reduceEqDiff, Nat.reduceAdd, Nat.reduceSub, Nat.reduceMul, Int.reduceBEq, Int.reduceBNe, Int.reduceLT, Int.reduceLE, Int.reduceEq, Int.reduceGT, Int.reduceAdd, Int.reduceSub, Int.reduceNeg, Int.reduceToNat, reduceCtorEq, reduceIte, hb, e0, e1, h0, h1]
        refine hK6 _ (hR2 _ _ (hR1 _ _ (fin _ ⟨[], [(0, .var [.str []]), (1, .var [.os l 0 (up.take (IntKind.i64.wrap ((up.length : Int) - 1)).toNat).length]), (l, .arr 1 (List.map AV.str (up.take (IntKind.i64.wrap ((up.length : Int) - 1)).toNat)))], nx⟩ l (up.take (IntKind.i64.wrap ((up.length : Int) - 1)).toNat) ?_ hl h0 h1 h2 rfl hg)))
        refine (St.ent_trim (l := l) (sz := 1) (es := List.map AV.str up) (IntKind.i64.wrap ((up.length : Int) - 1)).toNat ?_).trans (St.ent_sub (fun _ => .inl rfl) ?_ (Nat.le_refl _))
        · simp only [Store.get, if_neg e0, if_neg e1, if_true]
        · intro j o ho
          rw [upB_take hb, List.map_take] at ho
          simpa only [Store.set, if_neg e0, if_neg e1, if_true] using ho
    · rw [g2, cond_false] at hg
      obtain ⟨hb, hg⟩ := ck_some hg
      have n0 : ¬ 0 = nx := by omega
      have n1 : ¬ 1 = nx := by omega
      have nl : ¬ l = nx := by omega
      have nl' : ¬ nx = l := by omega
      have m0 : ¬ nx = 0 := by omega
      have m1 : ¬ nx = 1 := by omega
      refine xs_reg_step fun K6 hK6 => ?_
      simp only [go_sem, Nat.reduceBEq, Nat.reduceLT, Nat.reduceLeDiff, Nat.reduceEqDiff, Nat.reduceAdd, Nat.reduceSub, Nat.reduceMul, Int.reduceBEq, Int.reduceBNe, Int.reduceLT, Int.reduceLE, Int.reduceEq, Int.reduceGT, Int.reduceAdd, Int.reduceSub, Int.reduceNeg, Int.reduceToNat, reduceCtorEq, reduceIte, hb, e0, e1, h0, h1, n0, n1, nl, nl', m0, m1]
      refine hK6 _ (hR2 _ _ (hR1 _ _ (fin _ ⟨[], [(0, .var [.str []]), (1, .var [.os (nx + 1) 0 (up ++ [x]).length]), (nx + 1, .arr 1 (List.map AV.str (up ++ [x])))], nx + 2⟩ (nx + 1) (up ++ [x]) ?_ (by simp) (by simp) (by simp; omega) (by simp) rfl hg)))
      refine St.ent_sub (fun _ => .inl rfl) ?_ (Nat.le_refl _)
      intro j o ho
      rw [List.map_append, List.length_append] at ho
      by_cases c0 : 0 = j
      · subst c0; simpa [Store.get, m0] using ho
      · by_cases c1 : 1 = j
        · subst c1; simpa [Store.get, m0, m1] using ho
        · by_cases c2 : nx + 1 = j
          · subst c2; simpa [Store.get, m0] using ho
          · simp [Store.get, c0, c1, c2] at ho
  · rintro Dm σ nx ⟨l, up, hl, h0, h1, h2, rfl, hg⟩
    rw [List.drop_length] at hg
    unfold upGo at hg
    have hg := Option.some.inj hg
    subst hg
    have e0 : ¬ 0 = l := fun e => h0 e.symm
    have e1 : ¬ 1 = l := fun e => h1 e.symm
    show R1 .normal _ _
    refine hR1 _ _ _ ?_
    show XMA _ _ _ _ _ _
    refine XMA_ent (t := ⟨[(4, .ptr 0 0), (5, .ptr 1 0)], [(0, .var [.str []]), (1, .var [.os 2 0 up.length]), (2, .arr 1 (List.map AV.str up))], 3⟩) (St.ent_by [0, 1, l] rfl (Nat.le_of_ble_eq_true rfl) rfl (by simp [e0, e1]) (by simp only [push_cast, Nat.reduceEqDiff, Nat.reduceAdd, reduceCtorEq, reduceIte]) (by simp only [push_cast, Nat.reduceEqDiff, Nat.reduceAdd, reduceCtorEq, reduceIte, e0, e1])) ?_
    refine XMA_of_XA (XA_post_ent (ok_besideEnd h fun e s hs => ?_))
    obtain ⟨t, ht, hE⟩ := hs
    cases e with
    | normal =>
      obtain ⟨v, h1, h2⟩ := hE
      refine .inr ⟨fun _ e => (by cases e), t, ht, ?_⟩
      simp only [FnPostM, FnPost, h1]
      exact ⟨v, _, _, _, rfl, h2, rfl, rfl, rfl⟩
    | ret =>
      obtain ⟨v, h1, h2⟩ := hE
      refine .inr ⟨fun _ e => (by cases e), t, ht, ?_⟩
      simp only [FnPostM, FnPost, h1]
      exact ⟨v, _, _, _, rfl, h2, rfl, rfl, rfl⟩
    | exit => exact hE.elim
    | panic => exact hE.elim
  · rintro Dm ex σ nx ⟨rfl, rfl, l, o1, o2, h0, rfl⟩ _
    have h := Option.some.inj h
    subst h
    show R1 .ret _ _
    refine hR1 _ _ _ ?_
    show FnPostM _ _ _ _ [Dm]
    simp only [FnPostM, FnPost, go_sem, Nat.reduceBEq, Nat.reduceLT, Nat.reduceLeDiff, Nat.reduceEqDiff, Nat.reduceAdd, Nat.reduceSub, Nat.reduceMul, Int.reduceBEq, Int.reduceBNe, Int.reduceLT, Int.reduceLE, Int.reduceEq, Int.reduceGT, Int.reduceAdd, Int.reduceSub, Int.reduceNeg, Int.reduceToNat, reduceCtorEq, reduceIte]
    exact ⟨_, _, _, _, rfl, (St.ent_by (t := ⟨[(0, .str [])], [], 0⟩) [] rfl (Nat.le_of_ble_eq_true rfl) rfl (by decide) (by simp only [push_cast, Nat.reduceEqDiff, Nat.reduceAdd, reduceCtorEq, reduceIte]) (by simp only [push_cast, Nat.reduceEqDiff, Nat.reduceAdd, reduceCtorEq, reduceIte])), rfl, rfl, rfl⟩

end Go.Proofs
