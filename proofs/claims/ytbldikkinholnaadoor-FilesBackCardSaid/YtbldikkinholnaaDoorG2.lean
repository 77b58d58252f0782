/-
  Pure functions, and that the code does what they do: by program.
-/
import Derived.Test.YtbldikkinholnaaDoorG1
import Derived.Test.YtbldikkinholnaaDoorF0
import Derived.Test.YtbldikkinholnaaDoorShelf
namespace Go.Proofs
open Go Go.Ab
set_option linter.unusedSimpArgs false
set_option linter.unusedVariables false
set_option maxHeartbeats 8000000

theorem call_Index {s : List UInt8} {c : UInt8} {σ : Store} {nx : Nat} {K : Res → Prop} {Kp : AV → Store → Nat → Prop} (hk : K (.int .i64 (Lib.indexByte s c), σ, nx)) : CallP Tryd.prog 36 [.str s, .str [c]] σ nx K Kp := by
  refine CallP_kit (.of Tryd.func36 (by kernel_rfl)) ?_ hk
  intro φ F vs w hvs H
  cases hvs with | cons h1 h2 =>
  cases h2 with | cons h2 h3 =>
  cases h3
  obtain ⟨x, rfl, hx⟩ := h1.str_inv
  obtain ⟨y, rfl, hy⟩ := h2.str_inv
  have : y = ⟨#[c]⟩ := by
    obtain ⟨⟨l⟩⟩ := y
    simp at hy
    subst hy; rfl
  subst this hx
  refine (Tryd.strings_Index_one x c w).mono ?_
  rintro e w' ⟨rfl, rfl⟩
  exact ⟨_, rfl, .int, .refl _ _⟩
theorem call_Count {s : List UInt8} {c : UInt8} {σ : Store} {nx : Nat} {K : Res → Prop} {Kp : AV → Store → Nat → Prop} (hk : K (.int .i64 (Lib.countByte s c), σ, nx)) : CallP Tryd.prog 35 [.str s, .str [c]] σ nx K Kp := by
  refine CallP_kit (.of Tryd.func35 (by kernel_rfl)) ?_ hk
  intro φ F vs w hvs H
  cases hvs with | cons h1 h2 =>
  cases h2 with | cons h2 h3 =>
  cases h3
  obtain ⟨x, rfl, hx⟩ := h1.str_inv
  obtain ⟨y, rfl, hy⟩ := h2.str_inv
  have : y = ⟨#[c]⟩ := by
    obtain ⟨⟨l⟩⟩ := y
    simp at hy
    subst hy; rfl
  subst this hx
  refine (Tryd.strings_Count_one x c w).mono ?_
  rintro e w' ⟨rfl, rfl⟩
  exact ⟨_, rfl, .int, .refl _ _⟩

def genSplit_j1 (j1 : List UInt8) (j2 : Int) (j3 : List (List UInt8)) : Option ((List (List UInt8))) :=
  (ob (rd j3 j2) fun x1 => (ck (upB (IntKind.i64.wrap (j2 + 1)) j3.length) (some ((j3.set j2.toNat j1).take ((IntKind.i64.wrap (j2 + 1)).toNat)))))

def genSplit_b1 (a1 : List UInt8) (again1 : ((List UInt8) × Int × (List (List UInt8))) → Option ((List (List UInt8)))) (v1 : List UInt8) (v2 : Int) (v3 : List (List UInt8)) : Option ((List (List UInt8))) :=
  (cond (decide (v2 < (IntKind.i64.wrap ((mmF false (IntKind.i64.wrap (((Lib.countByte a1 47 : Int)) + 1)) (IntKind.i64.wrap ((a1.length : Int) + 1))) - 1)))) (cond (decide ((Lib.indexByte v1 47) < 0)) (genSplit_j1 v1 v2 v3) (ck (upB (IntKind.i64.wrap ((Lib.indexByte v1 47) + 0)) v1.length) (ob (rd v3 v2) fun x2 => (ck (upB (IntKind.i64.wrap ((Lib.indexByte v1 47) + 1)) v1.length) (again1 ((v1.drop (IntKind.i64.wrap ((Lib.indexByte v1 47) + 1)).toNat), (IntKind.i64.wrap (v2 + 1)), (v3.set v2.toNat (v1.take (IntKind.i64.wrap ((Lib.indexByte v1 47) + 0)).toNat)))))))) (genSplit_j1 v1 v2 v3))

def genSplit (fuel : Nat) (a1 : List UInt8) : Option ((List (List UInt8))) :=
  (ck (upB (mmF false (IntKind.i64.wrap (((Lib.countByte a1 47 : Int)) + 1)) (IntKind.i64.wrap ((a1.length : Int) + 1))) (mmF false (IntKind.i64.wrap (((Lib.countByte a1 47 : Int)) + 1)) (IntKind.i64.wrap ((a1.length : Int) + 1))).toNat && decide (0 ≤ (mmF false (IntKind.i64.wrap (((Lib.countByte a1 47 : Int)) + 1)) (IntKind.i64.wrap ((a1.length : Int) + 1)))) && roomy (mmF false (IntKind.i64.wrap (((Lib.countByte a1 47 : Int)) + 1)) (IntKind.i64.wrap ((a1.length : Int) + 1))).toNat) (loopF (fun again1 v => genSplit_b1 a1 again1 v.1 v.2.1 v.2.2) fuel (a1, 0, (List.replicate (mmF false (IntKind.i64.wrap (((Lib.countByte a1 47 : Int)) + 1)) (IntKind.i64.wrap ((a1.length : Int) + 1))).toNat ([] : List UInt8)))))

theorem ok_genSplit {fuel : Nat} {a1 : List UInt8} {r : (List (List UInt8))} (h : genSplit fuel a1 = some r) : FnOk Tryd.prog 26 [.str a1, .str [47], .int .i64 0, .int .i64 (-1)] [] 0 (fun q s k => q = .ret (.os 0 0 r.length) ∧ s = [(0, .arr 1 (List.map AV.str r))] ∧ k = 1) := by
  refine Fn_by Tryd.func26 Tryd.ntmps26 Tryd.cc26 (Nat.le_of_ble_eq_true rfl) (rs := [.tmp 8]) (by kernel_rfl) (fun R0 hR0 => ?_)
  unfold genSplit at h
  unfold Tryd.ac26
  refine (show XA _ _ _ _ ⟨[(0, .str a1), (1, .str [47]), (2, .int .i64 0), (3, .int .i64 (-1))], [], 0⟩ from ?_)
  refine XA_seq_st fun R1 hR1 => ?_
  refine XA_reg_g ?_
  refine RG_end ⟨[(0, .str a1), (1, .str [47]), (2, .int .i64 0), (3, .int .i64 (-1))], [], 0⟩ (fun K hK => ?_) (fun s hs => ?_)
  · simp only [go_sem, Nat.reduceBEq, Nat.reduceLT, Nat.reduceLeDiff, Nat.reduceEqDiff, Nat.reduceAdd, Nat.reduceSub, Nat.reduceMul, Int.reduceBEq, Int.reduceBNe, Int.reduceLT, Int.reduceLE, Int.reduceEq, Int.reduceGT, Int.reduceAdd, Int.reduceSub, Int.reduceNeg, Int.reduceToNat, reduceCtorEq, reduceIte]
    exact hK _ (St.ent_by [] rfl (Nat.le_of_ble_eq_true rfl) rfl (by decide) (by simp only [push_cast, Nat.reduceEqDiff, Nat.reduceAdd, reduceCtorEq, reduceIte]) (by simp only [push_cast, Nat.reduceEqDiff, Nat.reduceAdd, reduceCtorEq, reduceIte]))
  refine dN_seq hR1 (XA_ent hs ?_)
  refine XA_seq_st fun R2 hR2 => ?_
  refine XA_seq_st fun R3 hR3 => ?_
  refine XA_reg_g ?_
  refine RG_end ⟨[(0, .str a1), (1, .str [47]), (2, .int .i64 0), (3, .int .i64 (-1)), (13, .bool false)], [], 0⟩ (fun K hK => ?_) (fun s hs => ?_)
  · simp only [go_sem, Nat.reduceBEq, Nat.reduceLT, Nat.reduceLeDiff, Nat.reduceEqDiff, Nat.reduceAdd, Nat.reduceSub, Nat.reduceMul, Int.reduceBEq, Int.reduceBNe, Int.reduceLT, Int.reduceLE, Int.reduceEq, Int.reduceGT, Int.reduceAdd, Int.reduceSub, Int.reduceNeg, Int.reduceToNat, reduceCtorEq, reduceIte]
    exact hK _ (St.ent_by [] rfl (Nat.le_of_ble_eq_true rfl) rfl (by decide) (by simp only [push_cast, Nat.reduceEqDiff, Nat.reduceAdd, reduceCtorEq, reduceIte]) (by simp only [push_cast, Nat.reduceEqDiff, Nat.reduceAdd, reduceCtorEq, reduceIte]))
  refine dN_seq hR3 (XA_ent hs ?_)
  refine XA_cond (t := false) rfl (fun hx => by cases hx) (fun _ => ?_)
  refine XA_skip ?_
  refine dN_seq hR2 ?_
  refine XA_seq_st fun R4 hR4 => ?_
  refine XA_seq_st fun R5 hR5 => ?_
  refine XA_reg_g ?_
  have k1 : (([47] : List UInt8) == []) = false := by decide
  refine RG_end ⟨[(0, .str a1), (1, .str [47]), (2, .int .i64 0), (3, .int .i64 (-1)), (15, .bool false)], [], 0⟩ (fun K hK => ?_) (fun s hs => ?_)
  · simp only [go_sem, Nat.reduceBEq, Nat.reduceLT, Nat.reduceLeDiff, Nat.reduceEqDiff, Nat.reduceAdd, Nat.reduceSub, Nat.reduceMul, Int.reduceBEq, Int.reduceBNe, Int.reduceLT, Int.reduceLE, Int.reduceEq, Int.reduceGT, Int.reduceAdd, Int.reduceSub, Int.reduceNeg, Int.reduceToNat, reduceCtorEq, reduceIte, k1]
    exact hK _ (St.ent_by [] rfl (Nat.le_of_ble_eq_true rfl) rfl (by decide) (by simp only [push_cast, Nat.reduceEqDiff, Nat.reduceAdd, reduceCtorEq, reduceIte]) (by simp only [push_cast, Nat.reduceEqDiff, Nat.reduceAdd, reduceCtorEq, reduceIte]))
  refine dN_seq hR5 (XA_ent hs ?_)
  refine XA_cond (t := false) rfl (fun hx => by cases hx) (fun _ => ?_)
  refine XA_skip ?_
  refine dN_seq hR4 ?_
  refine XA_seq_st fun R6 hR6 => ?_
  refine XA_seq_st fun R7 hR7 => ?_
  refine XA_reg_g ?_
  refine RG_end ⟨[(0, .str a1), (1, .str [47]), (2, .int .i64 0), (3, .int .i64 (-1)), (20, .bool true)], [], 0⟩ (fun K hK => ?_) (fun s hs => ?_)
  · simp only [go_sem, Nat.reduceBEq, Nat.reduceLT, Nat.reduceLeDiff, Nat.reduceEqDiff, Nat.reduceAdd, Nat.reduceSub, Nat.reduceMul, Int.reduceBEq, Int.reduceBNe, Int.reduceLT, Int.reduceLE, Int.reduceEq, Int.reduceGT, Int.reduceAdd, Int.reduceSub, Int.reduceNeg, Int.reduceToNat, reduceCtorEq, reduceIte]
    exact hK _ (St.ent_by [] rfl (Nat.le_of_ble_eq_true rfl) rfl (by decide) (by simp only [push_cast, Nat.reduceEqDiff, Nat.reduceAdd, reduceCtorEq, reduceIte]) (by simp only [push_cast, Nat.reduceEqDiff, Nat.reduceAdd, reduceCtorEq, reduceIte]))
  refine dN_seq hR7 (XA_ent hs ?_)
  refine XA_cond (t := true) rfl (fun _ => ?_) (fun hx => by cases hx)
  refine XA_reg_g ?_
  refine RG_end ⟨[(0, .str a1), (1, .str [47]), (2, .int .i64 0), (3, .int .i64 (IntKind.i64.wrap (((Lib.countByte a1 47 : Int)) + 1)))], [], 0⟩ (fun K hK => ?_) (fun s hs => ?_)
  · refine runs_cut 2 fun K1 hK1 => ?_
    simp only [go_sem, Nat.reduceBEq, Nat.reduceLT, Nat.reduceLeDiff, Nat.reduceEqDiff, Nat.reduceAdd, Nat.reduceSub, Nat.reduceMul, Int.reduceBEq, Int.reduceBNe, Int.reduceLT, Int.reduceLE, Int.reduceEq, Int.reduceGT, Int.reduceAdd, Int.reduceSub, Int.reduceNeg, Int.reduceToNat, reduceCtorEq, reduceIte]
    refine hK1 _ ?_
    simp only [List.take_succ_cons, List.take_zero, List.drop_succ_cons, List.drop_zero]
    refine runs_call rfl rfl (call_Count ?_)
    simp only [go_sem, Nat.reduceBEq, Nat.reduceLT, Nat.reduceLeDiff, Nat.reduceEqDiff, Nat.reduceAdd, Nat.reduceSub, Nat.reduceMul, Int.reduceBEq, Int.reduceBNe, Int.reduceLT, Int.reduceLE, Int.reduceEq, Int.reduceGT, Int.reduceAdd, Int.reduceSub, Int.reduceNeg, Int.reduceToNat, reduceCtorEq, reduceIte]
    exact hK _ (St.ent_by [] rfl (Nat.le_of_ble_eq_true rfl) rfl (by decide) (by simp only [push_cast, Nat.reduceEqDiff, Nat.reduceAdd, reduceCtorEq, reduceIte]) (by simp only [push_cast, Nat.reduceEqDiff, Nat.reduceAdd, reduceCtorEq, reduceIte]))
  refine dN_seq hR6 (XA_ent hs ?_)
  refine XA_seq_st fun R8 hR8 => ?_
  refine XA_reg_g ?_
  refine RG_end ⟨[(0, .str a1), (1, .str [47]), (2, .int .i64 0), (3, .int .i64 (mmF false (IntKind.i64.wrap (((Lib.countByte a1 47 : Int)) + 1)) (IntKind.i64.wrap ((a1.length : Int) + 1))))], [], 0⟩ (fun K hK => ?_) (fun s hs => ?_)
  · simp only [go_sem, Nat.reduceBEq, Nat.reduceLT, Nat.reduceLeDiff, Nat.reduceEqDiff, Nat.reduceAdd, Nat.reduceSub, Nat.reduceMul, Int.reduceBEq, Int.reduceBNe, Int.reduceLT, Int.reduceLE, Int.reduceEq, Int.reduceGT, Int.reduceAdd, Int.reduceSub, Int.reduceNeg, Int.reduceToNat, reduceCtorEq, reduceIte]
    exact hK _ (St.ent_by [] rfl (Nat.le_of_ble_eq_true rfl) rfl (by decide) (by simp only [push_cast, Nat.reduceEqDiff, Nat.reduceAdd, reduceCtorEq, reduceIte]) (by simp only [push_cast, Nat.reduceEqDiff, Nat.reduceAdd, reduceCtorEq, reduceIte]))
  refine dN_seq hR8 (XA_ent hs ?_)
  refine XA_seq_st fun R9 hR9 => ?_
  refine XA_reg_g ?_
  obtain ⟨c1, h⟩ := ck_some h
  refine RG_end ⟨[(0, .str a1), (1, .str [47]), (2, .int .i64 0), (3, .int .i64 (mmF false (IntKind.i64.wrap (((Lib.countByte a1 47 : Int)) + 1)) (IntKind.i64.wrap ((a1.length : Int) + 1)))), (9, .os 0 0 ((List.replicate (mmF false (IntKind.i64.wrap (((Lib.countByte a1 47 : Int)) + 1)) (IntKind.i64.wrap ((a1.length : Int) + 1))).toNat ([] : List UInt8)).length))], [(0, .arr 1 (List.map AV.str (List.replicate (mmF false (IntKind.i64.wrap (((Lib.countByte a1 47 : Int)) + 1)) (IntKind.i64.wrap ((a1.length : Int) + 1))).toNat ([] : List UInt8))))], 1⟩ (fun K hK => ?_) (fun s hs => ?_)
  · simp only [go_sem, Nat.reduceBEq, Nat.reduceLT, Nat.reduceLeDiff, Nat.reduceEqDiff, Nat.reduceAdd, Nat.reduceSub, Nat.reduceMul, Int.reduceBEq, Int.reduceBNe, Int.reduceLT, Int.reduceLE, Int.reduceEq, Int.reduceGT, Int.reduceAdd, Int.reduceSub, Int.reduceNeg, Int.reduceToNat, reduceCtorEq, reduceIte, c1]
    exact hK _ (St.ent_by [0] rfl (Nat.le_of_ble_eq_true rfl) rfl (by decide) (by simp only [push_cast, Nat.reduceEqDiff, Nat.reduceAdd, reduceCtorEq, reduceIte]) (by simp only [push_cast, Nat.reduceEqDiff, Nat.reduceAdd, reduceCtorEq, reduceIte]))
  refine dN_seq hR9 (XA_ent hs ?_)
  refine XA_seq_st fun R10 hR10 => ?_
  refine XA_reg_g ?_
  refine RG_end ⟨[(0, .str a1), (1, .str [47]), (2, .int .i64 0), (3, .int .i64 (IntKind.i64.wrap ((mmF false (IntKind.i64.wrap (((Lib.countByte a1 47 : Int)) + 1)) (IntKind.i64.wrap ((a1.length : Int) + 1))) - 1))), (9, .os 0 0 ((List.replicate (mmF false (IntKind.i64.wrap (((Lib.countByte a1 47 : Int)) + 1)) (IntKind.i64.wrap ((a1.length : Int) + 1))).toNat ([] : List UInt8)).length))], [(0, .arr 1 (List.map AV.str (List.replicate (mmF false (IntKind.i64.wrap (((Lib.countByte a1 47 : Int)) + 1)) (IntKind.i64.wrap ((a1.length : Int) + 1))).toNat ([] : List UInt8))))], 1⟩ (fun K hK => ?_) (fun s hs => ?_)
  · simp only [go_sem, Nat.reduceBEq, Nat.reduceLT, Nat.reduceLeDiff, Nat.reduceEqDiff, Nat.reduceAdd, Nat.reduceSub, Nat.reduceMul, Int.reduceBEq, Int.reduceBNe, Int.reduceLT, Int.reduceLE, Int.reduceEq, Int.reduceGT, Int.reduceAdd, Int.reduceSub, Int.reduceNeg, Int.reduceToNat, reduceCtorEq, reduceIte]
    exact hK _ (St.ent_by [0] rfl (Nat.le_of_ble_eq_true rfl) rfl (by decide) (by simp only [push_cast, Nat.reduceEqDiff, Nat.reduceAdd, reduceCtorEq, reduceIte]) (by simp only [push_cast, Nat.reduceEqDiff, Nat.reduceAdd, reduceCtorEq, reduceIte]))
  refine dN_seq hR10 (XA_ent hs ?_)
  refine XA_seq_st fun R11 hR11 => ?_
  refine XA_reg_g ?_
  refine RG_end ⟨[(0, .str a1), (1, .str [47]), (2, .int .i64 0), (3, .int .i64 (IntKind.i64.wrap ((mmF false (IntKind.i64.wrap (((Lib.countByte a1 47 : Int)) + 1)) (IntKind.i64.wrap ((a1.length : Int) + 1))) - 1))), (9, .os 0 0 ((List.replicate (mmF false (IntKind.i64.wrap (((Lib.countByte a1 47 : Int)) + 1)) (IntKind.i64.wrap ((a1.length : Int) + 1))).toNat ([] : List UInt8)).length)), (10, .int .i64 0)], [(0, .arr 1 (List.map AV.str (List.replicate (mmF false (IntKind.i64.wrap (((Lib.countByte a1 47 : Int)) + 1)) (IntKind.i64.wrap ((a1.length : Int) + 1))).toNat ([] : List UInt8))))], 1⟩ (fun K hK => ?_) (fun s hs => ?_)
  · simp only [go_sem, Nat.reduceBEq, Nat.reduceLT, Nat.reduceLeDiff, Nat.reduceEqDiff, Nat.reduceAdd, Nat.reduceSub, Nat.reduceMul, Int.reduceBEq, Int.reduceBNe, Int.reduceLT, Int.reduceLE, Int.reduceEq, Int.reduceGT, Int.reduceAdd, Int.reduceSub, Int.reduceNeg, Int.reduceToNat, reduceCtorEq, reduceIte]
    exact hK _ (St.ent_by [0] rfl (Nat.le_of_ble_eq_true rfl) rfl (by decide) (by simp only [push_cast, Nat.reduceEqDiff, Nat.reduceAdd, reduceCtorEq, reduceIte]) (by simp only [push_cast, Nat.reduceEqDiff, Nat.reduceAdd, reduceCtorEq, reduceIte]))
  refine dN_seq hR11 (XA_ent hs ?_)
  refine XA_seq_st fun R12 hR12 => ?_
  have hj1 : ∀ (j1 : List UInt8) (j2 : Int) (j3 : List (List UInt8)) (_ : genSplit_j1 j1 j2 j3 = some r) (s : St), St.ent ⟨66, 0⟩ s ⟨[(0, .str j1), (9, .os 0 0 j3.length), (10, .int .i64 j2)], [(0, .arr 1 (List.map AV.str j3))], 1⟩ → R12 .normal s := by
    intro j1 j2 j3 h s hs
    unfold genSplit_j1 at h
    refine dN_seq hR12 (XA_ent hs ?_)
    refine XA_seq_st fun R13 hR13 => ?_
    refine XA_reg_g ?_
    obtain ⟨x1, hx1, h⟩ := ob_some h
    have ix1 := rd_in hx1
    have gx1 := rd_get hx1
    try simp only [Int.reduceToNat, Int.toNat_natCast] at gx1
    refine RG_end ⟨[(9, .os 0 0 ((j3.set j2.toNat j1).length)), (10, .int .i64 j2)], [(0, .arr 1 (List.map AV.str (j3.set j2.toNat j1)))], 1⟩ (fun K hK => ?_) (fun s hs => ?_)
    · simp only [go_sem, Nat.reduceBEq, Nat.reduceLT, Nat.reduceLeDiff, Nat.reduceEqDiff, Nat.reduceAdd, Nat.reduceSub, Nat.reduceMul, Int.reduceBEq, Int.reduceBNe, Int.reduceLT, Int.reduceLE, Int.reduceEq, Int.reduceGT, Int.reduceAdd, Int.reduceSub, Int.reduceNeg, Int.reduceToNat, reduceCtorEq, reduceIte, ix1, gx1]
      exact hK _ (St.ent_by [0] rfl (Nat.le_of_ble_eq_true rfl) rfl (by decide) (by simp only [push_cast, Nat.reduceEqDiff, Nat.reduceAdd, reduceCtorEq, reduceIte]) (by simp only [push_cast, Nat.reduceEqDiff, Nat.reduceAdd, reduceCtorEq, reduceIte]))
    refine dN_seq hR13 (XA_ent hs ?_)
    refine XA_seq_st fun R14 hR14 => ?_
    refine XA_reg_g ?_
    obtain ⟨c2, h⟩ := ck_some h
    refine RG_end ⟨[(8, .os 0 0 ((IntKind.i64.wrap (j2 + 1)).toNat))], [(0, .arr 1 (List.map AV.str (j3.set j2.toNat j1)))], 1⟩ (fun K hK => ?_) (fun s hs => ?_)
    · simp only [go_sem, Nat.reduceBEq, Nat.reduceLT, Nat.reduceLeDiff, Nat.reduceEqDiff, Nat.reduceAdd, Nat.reduceSub, Nat.reduceMul, Int.reduceBEq, Int.reduceBNe, Int.reduceLT, Int.reduceLE, Int.reduceEq, Int.reduceGT, Int.reduceAdd, Int.reduceSub, Int.reduceNeg, Int.reduceToNat, reduceCtorEq, reduceIte, c2]
      exact hK _ (St.ent_by [0] rfl (Nat.le_of_ble_eq_true rfl) rfl (by decide) (by simp only [push_cast, Nat.reduceEqDiff, Nat.reduceAdd, reduceCtorEq, reduceIte]) (by simp only [push_cast, Nat.reduceEqDiff, Nat.reduceAdd, reduceCtorEq, reduceIte]))
    refine dN_seq hR14 (XA_ent (hs.trans ((St.ent_trim (l := 0) ((IntKind.i64.wrap (j2 + 1)).toNat) rfl).trans (St.ent_by (t := ⟨[(8, .os 0 0 (((j3.set j2.toNat j1).take ((IntKind.i64.wrap (j2 + 1)).toNat)).length))], [(0, .arr 1 (List.map AV.str ((j3.set j2.toNat j1).take ((IntKind.i64.wrap (j2 + 1)).toNat))))], 1⟩) [0] rfl (Nat.le_of_ble_eq_true rfl) rfl (by decide) (by simp only [push_cast, Nat.reduceEqDiff, Nat.reduceAdd, reduceCtorEq, reduceIte, upB_take (l := (j3.set j2.toNat j1)) (by simpa only [List.length_set] using c2)]) (by simp only [push_cast, Nat.reduceEqDiff, Nat.reduceAdd, reduceCtorEq, reduceIte, upB_take (l := (j3.set j2.toNat j1)) (by simpa only [List.length_set] using c2)])))) ?_)
    refine XA_ret ?_
    refine hR0 _ _ ⟨_, St.ent_self, EndPost_ret (v := .os 0 0 (((j3.set j2.toNat j1).take ((IntKind.i64.wrap (j2 + 1)).toNat)).length)) (by simp only [go_sem, Nat.reduceBEq, Nat.reduceLT, Nat.reduceLeDiff, Nat.reduceEqDiff, Nat.reduceAdd, Nat.reduceSub, Nat.reduceMul, Int.reduceBEq, Int.reduceBNe, Int.reduceLT, Int.reduceLE, Int.reduceEq, Int.reduceGT, Int.reduceAdd, Int.reduceSub, Int.reduceNeg, Int.reduceToNat, reduceCtorEq, reduceIte]) ?_⟩
    have h := Option.some.inj h; subst h
    exact (St.ent_by [0] rfl (Nat.le_of_ble_eq_true rfl) rfl (by decide) (by simp only [push_cast, Nat.reduceEqDiff, Nat.reduceAdd, reduceCtorEq, reduceIte]) (by simp only [push_cast, Nat.reduceEqDiff, Nat.reduceAdd, reduceCtorEq, reduceIte]))
  refine XA_block_st fun R15 hR15 => ?_
  refine XA_loop_by (T := fun v : (List UInt8) × Int × (List (List UInt8)) => ⟨[(0, .str v.1), (1, .str [47]), (2, .int .i64 0), (3, .int .i64 (IntKind.i64.wrap ((mmF false (IntKind.i64.wrap (((Lib.countByte a1 47 : Int)) + 1)) (IntKind.i64.wrap ((a1.length : Int) + 1))) - 1))), (9, .os 0 0 v.2.2.length), (10, .int .i64 v.2.1)], [(0, .arr 1 (List.map AV.str v.2.2))], 1⟩) (fuel := fuel) h (St.ent_by [0] rfl (Nat.le_of_ble_eq_true rfl) rfl (by decide) (by simp only [push_cast, Nat.reduceEqDiff, Nat.reduceAdd, reduceCtorEq, reduceIte]) (by simp only [push_cast, Nat.reduceEqDiff, Nat.reduceAdd, reduceCtorEq, reduceIte])) (fun again1 v h R16 hR16 => ?_)
  rcases v with ⟨v1, v2, v3⟩
  replace h : genSplit_b1 a1 again1 v1 v2 v3 = some r := h
  unfold genSplit_b1 at h
  refine (show XA _ _ _ _ ⟨[(0, .str v1), (1, .str [47]), (2, .int .i64 0), (3, .int .i64 (IntKind.i64.wrap ((mmF false (IntKind.i64.wrap (((Lib.countByte a1 47 : Int)) + 1)) (IntKind.i64.wrap ((a1.length : Int) + 1))) - 1))), (9, .os 0 0 v3.length), (10, .int .i64 v2)], [(0, .arr 1 (List.map AV.str v3))], 1⟩ from ?_)
  refine XA_seq_st fun R17 hR17 => ?_
  refine XA_seq_st fun R18 hR18 => ?_
  refine XA_reg_g ?_
  refine RG_end ⟨[(0, .str v1), (1, .str [47]), (2, .int .i64 0), (3, .int .i64 (IntKind.i64.wrap ((mmF false (IntKind.i64.wrap (((Lib.countByte a1 47 : Int)) + 1)) (IntKind.i64.wrap ((a1.length : Int) + 1))) - 1))), (9, .os 0 0 v3.length), (10, .int .i64 v2), (36, .bool (decide (v2 < (IntKind.i64.wrap ((mmF false (IntKind.i64.wrap (((Lib.countByte a1 47 : Int)) + 1)) (IntKind.i64.wrap ((a1.length : Int) + 1))) - 1)))))], [(0, .arr 1 (List.map AV.str v3))], 1⟩ (fun K hK => ?_) (fun s hs => ?_)
  · simp only [go_sem, Nat.reduceBEq, Nat.reduceLT, Nat.reduceLeDiff, Nat.reduceEqDiff, Nat.reduceAdd, Nat.reduceSub, Nat.reduceMul, Int.reduceBEq, Int.reduceBNe, Int.reduceLT, Int.reduceLE, Int.reduceEq, Int.reduceGT, Int.reduceAdd, Int.reduceSub, Int.reduceNeg, Int.reduceToNat, reduceCtorEq, reduceIte]
    exact hK _ (St.ent_by [0] rfl (Nat.le_of_ble_eq_true rfl) rfl (by decide) (by simp only [push_cast, Nat.reduceEqDiff, Nat.reduceAdd, reduceCtorEq, reduceIte]) (by simp only [push_cast, Nat.reduceEqDiff, Nat.reduceAdd, reduceCtorEq, reduceIte]))
  refine dN_seq hR18 (XA_ent hs ?_)
  refine XA_cond (t := (decide (v2 < (IntKind.i64.wrap ((mmF false (IntKind.i64.wrap (((Lib.countByte a1 47 : Int)) + 1)) (IntKind.i64.wrap ((a1.length : Int) + 1))) - 1))))) rfl (fun g1 => ?_) (fun g1 => ?_)
  · rw [g1, cond_true] at h
    refine XA_skip ?_
    refine dN_seq hR17 ?_
    refine XA_block_st fun R19 hR19 => ?_
    refine XA_seq_st fun R20 hR20 => ?_
    refine XA_reg_g ?_
    refine RG_end ⟨[(0, .str v1), (1, .str [47]), (2, .int .i64 0), (3, .int .i64 (IntKind.i64.wrap ((mmF false (IntKind.i64.wrap (((Lib.countByte a1 47 : Int)) + 1)) (IntKind.i64.wrap ((a1.length : Int) + 1))) - 1))), (9, .os 0 0 v3.length), (10, .int .i64 v2), (11, .int .i64 (Lib.indexByte v1 47))], [(0, .arr 1 (List.map AV.str v3))], 1⟩ (fun K hK => ?_) (fun s hs => ?_)
    · refine runs_cut 2 fun K2 hK2 => ?_
      simp only [go_sem, Nat.reduceBEq, Nat.reduceLT, Nat.reduceLeDiff, Nat.reduceEqDiff, Nat.reduceAdd, Nat.reduceSub, Nat.reduceMul, Int.reduceBEq, Int.reduceBNe, Int.reduceLT, Int.reduceLE, Int.reduceEq, Int.reduceGT, Int.reduceAdd, Int.reduceSub, Int.reduceNeg, Int.reduceToNat, reduceCtorEq, reduceIte]
      refine hK2 _ ?_
      simp only [List.take_succ_cons, List.take_zero, List.drop_succ_cons, List.drop_zero]
      refine runs_call rfl rfl (call_Index ?_)
      simp only [go_sem, Nat.reduceBEq, Nat.reduceLT, Nat.reduceLeDiff, Nat.reduceEqDiff, Nat.reduceAdd, Nat.reduceSub, Nat.reduceMul, Int.reduceBEq, Int.reduceBNe, Int.reduceLT, Int.reduceLE, Int.reduceEq, Int.reduceGT, Int.reduceAdd, Int.reduceSub, Int.reduceNeg, Int.reduceToNat, reduceCtorEq, reduceIte]
      exact hK _ (St.ent_by [0] rfl (Nat.le_of_ble_eq_true rfl) rfl (by decide) (by simp only [push_cast, Nat.reduceEqDiff, Nat.reduceAdd, reduceCtorEq, reduceIte]) (by simp only [push_cast, Nat.reduceEqDiff, Nat.reduceAdd, reduceCtorEq, reduceIte]))
    refine dN_seq hR20 (XA_ent hs ?_)
    refine XA_seq_st fun R21 hR21 => ?_
    refine XA_seq_st fun R22 hR22 => ?_
    refine XA_reg_g ?_
    refine RG_end ⟨[(0, .str v1), (1, .str [47]), (2, .int .i64 0), (3, .int .i64 (IntKind.i64.wrap ((mmF false (IntKind.i64.wrap (((Lib.countByte a1 47 : Int)) + 1)) (IntKind.i64.wrap ((a1.length : Int) + 1))) - 1))), (9, .os 0 0 v3.length), (10, .int .i64 v2), (11, .int .i64 (Lib.indexByte v1 47)), (41, .bool (decide ((Lib.indexByte v1 47) < 0)))], [(0, .arr 1 (List.map AV.str v3))], 1⟩ (fun K hK => ?_) (fun s hs => ?_)
    · simp only [go_sem, Nat.reduceBEq, Nat.reduceLT, Nat.reduceLeDiff, Nat.reduceEqDiff, Nat.reduceAdd, Nat.reduceSub, Nat.reduceMul, Int.reduceBEq, Int.reduceBNe, Int.reduceLT, Int.reduceLE, Int.reduceEq, Int.reduceGT, Int.reduceAdd, Int.reduceSub, Int.reduceNeg, Int.reduceToNat, reduceCtorEq, reduceIte]
      exact hK _ (St.ent_by [0] rfl (Nat.le_of_ble_eq_true rfl) rfl (by decide) (by simp only [push_cast, Nat.reduceEqDiff, Nat.reduceAdd, reduceCtorEq, reduceIte]) (by simp only [push_cast, Nat.reduceEqDiff, Nat.reduceAdd, reduceCtorEq, reduceIte]))
    refine dN_seq hR22 (XA_ent hs ?_)
    refine XA_cond (t := (decide ((Lib.indexByte v1 47) < 0))) rfl (fun g2 => ?_) (fun g2 => ?_)
    · rw [g2, cond_true] at h
      refine XA_exit ?_
      refine dX_seq hR21 ?_
      refine dX_block (by decide) hR19 ?_
      refine dX_seq hR16 ?_
      refine dE_block hR15 ?_
      exact hj1 v1 v2 v3 h _ (St.ent_by [0] rfl (Nat.le_of_ble_eq_true rfl) rfl (by decide) (by simp only [push_cast, Nat.reduceEqDiff, Nat.reduceAdd, reduceCtorEq, reduceIte]) (by simp only [push_cast, Nat.reduceEqDiff, Nat.reduceAdd, reduceCtorEq, reduceIte]))
    · rw [g2, cond_false] at h
      refine XA_skip ?_
      refine dN_seq hR21 ?_
      refine XA_seq_st fun R23 hR23 => ?_
      refine XA_reg_g ?_
      obtain ⟨c3, h⟩ := ck_some h
      obtain ⟨x2, hx2, h⟩ := ob_some h
      have ix2 := rd_in hx2
      have gx2 := rd_get hx2
      try simp only [Int.reduceToNat, Int.toNat_natCast] at gx2
      refine RG_end ⟨[(0, .str v1), (1, .str [47]), (2, .int .i64 0), (3, .int .i64 (IntKind.i64.wrap ((mmF false (IntKind.i64.wrap (((Lib.countByte a1 47 : Int)) + 1)) (IntKind.i64.wrap ((a1.length : Int) + 1))) - 1))), (9, .os 0 0 ((v3.set v2.toNat (v1.take (IntKind.i64.wrap ((Lib.indexByte v1 47) + 0)).toNat)).length)), (10, .int .i64 v2), (11, .int .i64 (Lib.indexByte v1 47))], [(0, .arr 1 (List.map AV.str (v3.set v2.toNat (v1.take (IntKind.i64.wrap ((Lib.indexByte v1 47) + 0)).toNat))))], 1⟩ (fun K hK => ?_) (fun s hs => ?_)
      · simp only [go_sem, Nat.reduceBEq, Nat.reduceLT, Nat.reduceLeDiff, Nat.reduceEqDiff, Nat.reduceAdd, Nat.reduceSub, Nat.reduceMul, Int.reduceBEq, Int.reduceBNe, Int.reduceLT, Int.reduceLE, Int.reduceEq, Int.reduceGT, Int.reduceAdd, Int.reduceSub, Int.reduceNeg, Int.reduceToNat, reduceCtorEq, reduceIte, c3, ix2, gx2]
        exact hK _ (St.ent_by [0] rfl (Nat.le_of_ble_eq_true rfl) rfl (by decide) (by simp only [push_cast, Nat.reduceEqDiff, Nat.reduceAdd, reduceCtorEq, reduceIte]) (by simp only [push_cast, Nat.reduceEqDiff, Nat.reduceAdd, reduceCtorEq, reduceIte]))
      refine dN_seq hR23 (XA_ent hs ?_)
      refine XA_seq_st fun R24 hR24 => ?_
      refine XA_reg_g ?_
      obtain ⟨c4, h⟩ := ck_some h
      refine RG_end ⟨[(0, .str (v1.drop (IntKind.i64.wrap ((Lib.indexByte v1 47) + 1)).toNat)), (1, .str [47]), (2, .int .i64 0), (3, .int .i64 (IntKind.i64.wrap ((mmF false (IntKind.i64.wrap (((Lib.countByte a1 47 : Int)) + 1)) (IntKind.i64.wrap ((a1.length : Int) + 1))) - 1))), (9, .os 0 0 ((v3.set v2.toNat (v1.take (IntKind.i64.wrap ((Lib.indexByte v1 47) + 0)).toNat)).length)), (10, .int .i64 v2)], [(0, .arr 1 (List.map AV.str (v3.set v2.toNat (v1.take (IntKind.i64.wrap ((Lib.indexByte v1 47) + 0)).toNat))))], 1⟩ (fun K hK => ?_) (fun s hs => ?_)
      · simp only [go_sem, Nat.reduceBEq, Nat.reduceLT, Nat.reduceLeDiff, Nat.reduceEqDiff, Nat.reduceAdd, Nat.reduceSub, Nat.reduceMul, Int.reduceBEq, Int.reduceBNe, Int.reduceLT, Int.reduceLE, Int.reduceEq, Int.reduceGT, Int.reduceAdd, Int.reduceSub, Int.reduceNeg, Int.reduceToNat, reduceCtorEq, reduceIte, c4]
        exact hK _ (St.ent_by [0] rfl (Nat.le_of_ble_eq_true rfl) rfl (by decide) (by simp only [push_cast, Nat.reduceEqDiff, Nat.reduceAdd, reduceCtorEq, reduceIte]) (by simp only [push_cast, Nat.reduceEqDiff, Nat.reduceAdd, reduceCtorEq, reduceIte]))
      refine dN_seq hR24 (XA_ent hs ?_)
      refine XA_reg_g ?_
      refine RG_end ⟨[(0, .str (v1.drop (IntKind.i64.wrap ((Lib.indexByte v1 47) + 1)).toNat)), (1, .str [47]), (2, .int .i64 0), (3, .int .i64 (IntKind.i64.wrap ((mmF false (IntKind.i64.wrap (((Lib.countByte a1 47 : Int)) + 1)) (IntKind.i64.wrap ((a1.length : Int) + 1))) - 1))), (9, .os 0 0 ((v3.set v2.toNat (v1.take (IntKind.i64.wrap ((Lib.indexByte v1 47) + 0)).toNat)).length)), (10, .int .i64 (IntKind.i64.wrap (v2 + 1)))], [(0, .arr 1 (List.map AV.str (v3.set v2.toNat (v1.take (IntKind.i64.wrap ((Lib.indexByte v1 47) + 0)).toNat))))], 1⟩ (fun K hK => ?_) (fun s hs => ?_)
      · simp only [go_sem, Nat.reduceBEq, Nat.reduceLT, Nat.reduceLeDiff, Nat.reduceEqDiff, Nat.reduceAdd, Nat.reduceSub, Nat.reduceMul, Int.reduceBEq, Int.reduceBNe, Int.reduceLT, Int.reduceLE, Int.reduceEq, Int.reduceGT, Int.reduceAdd, Int.reduceSub, Int.reduceNeg, Int.reduceToNat, reduceCtorEq, reduceIte]
        exact hK _ (St.ent_by [0] rfl (Nat.le_of_ble_eq_true rfl) rfl (by decide) (by simp only [push_cast, Nat.reduceEqDiff, Nat.reduceAdd, reduceCtorEq, reduceIte]) (by simp only [push_cast, Nat.reduceEqDiff, Nat.reduceAdd, reduceCtorEq, reduceIte]))
      refine dN_block hR19 ?_
      exact dN_seq hR16 ⟨((v1.drop (IntKind.i64.wrap ((Lib.indexByte v1 47) + 1)).toNat), (IntKind.i64.wrap (v2 + 1)), (v3.set v2.toNat (v1.take (IntKind.i64.wrap ((Lib.indexByte v1 47) + 0)).toNat))), (hs.trans (St.ent_by [0] rfl (Nat.le_of_ble_eq_true rfl) rfl (by decide) (by simp only [push_cast, Nat.reduceEqDiff, Nat.reduceAdd, reduceCtorEq, reduceIte]) (by simp only [push_cast, Nat.reduceEqDiff, Nat.reduceAdd, reduceCtorEq, reduceIte]))), h⟩
  · rw [g1, cond_false] at h
    refine XA_exit ?_
    refine dX_seq hR17 ?_
    refine dX_seq hR16 ?_
    refine dE_block hR15 ?_
    exact hj1 v1 v2 v3 h _ (St.ent_by [0] rfl (Nat.le_of_ble_eq_true rfl) rfl (by decide) (by simp only [push_cast, Nat.reduceEqDiff, Nat.reduceAdd, reduceCtorEq, reduceIte]) (by simp only [push_cast, Nat.reduceEqDiff, Nat.reduceAdd, reduceCtorEq, reduceIte]))
def split (fuel : Nat) (a1 : List UInt8) : Option ((List (List UInt8))) :=
  (ob (genSplit fuel a1) fun r1 => (some r1))

theorem ok_split {fuel : Nat} {a1 : List UInt8} {r : (List (List UInt8))} (h : split fuel a1 = some r) : FnOk Tryd.prog 18 [.str a1, .str [47]] [] 0 (fun q s k => q = .ret (.os 0 0 r.length) ∧ s = [(0, .arr 1 (List.map AV.str r))] ∧ k = 1) := by
  refine Fn_by Tryd.func18 Tryd.ntmps18 Tryd.cc18 (Nat.le_of_ble_eq_true rfl) (rs := [.tmp 4]) (by kernel_rfl) (fun R0 hR0 => ?_)
  unfold split at h
  unfold Tryd.ac18
  refine (show XA _ _ _ _ ⟨[(0, .str a1), (1, .str [47])], [], 0⟩ from ?_)
  refine XA_seq_st fun R1 hR1 => ?_
  refine XA_reg_g ?_
  refine RG_end ⟨[(0, .str a1), (1, .str [47])], [], 0⟩ (fun K hK => ?_) (fun s hs => ?_)
  · simp only [go_sem, Nat.reduceBEq, Nat.reduceLT, Nat.reduceLeDiff, Nat.reduceEqDiff, Nat.reduceAdd, Nat.reduceSub, Nat.reduceMul, Int.reduceBEq, Int.reduceBNe, Int.reduceLT, Int.reduceLE, Int.reduceEq, Int.reduceGT, Int.reduceAdd, Int.reduceSub, Int.reduceNeg, Int.reduceToNat, reduceCtorEq, reduceIte]
    exact hK _ (St.ent_by [] rfl (Nat.le_of_ble_eq_true rfl) rfl (by decide) (by simp only [push_cast, Nat.reduceEqDiff, Nat.reduceAdd, reduceCtorEq, reduceIte]) (by simp only [push_cast, Nat.reduceEqDiff, Nat.reduceAdd, reduceCtorEq, reduceIte]))
  refine dN_seq hR1 (XA_ent hs ?_)
  refine XA_seq_st fun R2 hR2 => ?_
  refine XA_reg_g ?_
  obtain ⟨r1, hr1, h⟩ := ob_some h
  refine RG_end ⟨[(4, .os 0 0 r1.length)], [(0, .arr 1 (List.map AV.str r1))], 1⟩ (fun K hK => ?_) (fun s hs => ?_)
  · refine runs_cut 2 fun K1 hK1 => ?_
    simp only [go_sem, Nat.reduceBEq, Nat.reduceLT, Nat.reduceLeDiff, Nat.reduceEqDiff, Nat.reduceAdd, Nat.reduceSub, Nat.reduceMul, Int.reduceBEq, Int.reduceBNe, Int.reduceLT, Int.reduceLE, Int.reduceEq, Int.reduceGT, Int.reduceAdd, Int.reduceSub, Int.reduceNeg, Int.reduceToNat, reduceCtorEq, reduceIte]
    refine hK1 _ ?_
    simp only [List.take_succ_cons, List.take_zero, List.drop_succ_cons, List.drop_zero]
    refine runs_call rfl rfl (CallP.wk (CallP_of [] _ _ (.of Tryd.func26 (by kernel_rfl)) (ok_genSplit hr1) (by simp only [go_sem, Nat.reduceBEq, Nat.reduceLT, Nat.reduceLeDiff, Nat.reduceEqDiff, Nat.reduceAdd, Nat.reduceSub, Nat.reduceMul, Int.reduceBEq, Int.reduceBNe, Int.reduceLT, Int.reduceLE, Int.reduceEq, Int.reduceGT, Int.reduceAdd, Int.reduceSub, Int.reduceNeg, Int.reduceToNat, reduceCtorEq, reduceIte]) (by simp only [push_cast, Nat.reduceEqDiff, Nat.reduceAdd, reduceCtorEq, reduceIte, entStore]) rfl (by decide) ?_ (by rintro _ _ _ ⟨hv, _⟩; cases hv)))
    rintro _ _ _ ⟨hv, rfl, rfl⟩
    cases hv
    simp only [go_sem, Nat.reduceBEq, Nat.reduceLT, Nat.reduceLeDiff, Nat.reduceEqDiff, Nat.reduceAdd, Nat.reduceSub, Nat.reduceMul, Int.reduceBEq, Int.reduceBNe, Int.reduceLT, Int.reduceLE, Int.reduceEq, Int.reduceGT, Int.reduceAdd, Int.reduceSub, Int.reduceNeg, Int.reduceToNat, reduceCtorEq, reduceIte]
    exact hK _ (St.ent_by [0] rfl (Nat.le_of_ble_eq_true rfl) rfl (by decide) (by simp only [push_cast, Nat.reduceEqDiff, Nat.reduceAdd, reduceCtorEq, reduceIte]) (by simp only [push_cast, Nat.reduceEqDiff, Nat.reduceAdd, reduceCtorEq, reduceIte]))
  refine dN_seq hR2 (XA_ent hs ?_)
  refine XA_ret ?_
  refine hR0 _ _ ⟨_, St.ent_self, EndPost_ret (v := .os 0 0 r1.length) (by simp only [go_sem, Nat.reduceBEq, Nat.reduceLT, Nat.reduceLeDiff, Nat.reduceEqDiff, Nat.reduceAdd, Nat.reduceSub, Nat.reduceMul, Int.reduceBEq, Int.reduceBNe, Int.reduceLT, Int.reduceLE, Int.reduceEq, Int.reduceGT, Int.reduceAdd, Int.reduceSub, Int.reduceNeg, Int.reduceToNat, reduceCtorEq, reduceIte]) ?_⟩
  have h := Option.some.inj h; subst h
  exact (St.ent_by [0] rfl (Nat.le_of_ble_eq_true rfl) rfl (by decide) (by simp only [push_cast, Nat.reduceEqDiff, Nat.reduceAdd, reduceCtorEq, reduceIte]) (by simp only [push_cast, Nat.reduceEqDiff, Nat.reduceAdd, reduceCtorEq, reduceIte]))
end Go.Proofs
