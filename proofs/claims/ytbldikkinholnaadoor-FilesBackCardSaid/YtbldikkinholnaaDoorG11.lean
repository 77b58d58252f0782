/-
  Pure functions, and that the code does what they do: by program.
-/
import Derived.Test.YtbldikkinholnaaDoorG10
namespace Go.Proofs
open Go Go.Ab
set_option linter.unusedSimpArgs false
set_option linter.unusedVariables false
set_option maxHeartbeats 8000000
def filesMeant_b1 (a1 : List Src) (fuel : Nat) (a3 : List UInt8) (a2 : Int) (a4 : Bool) (again1 : Int → Option (Bool)) (v1 : Int) : Option (Bool) :=
  (cond (decide (v1 < (a1.length : Int))) (ob (rd a1 v1) fun x1 => (ob (beside fuel x1.path a3) fun r2 => (ob (cond (!(r2 == ([] : List UInt8))) (ob (clean fuel r2) fun r3 => (some (!r3))) (some false)) fun y1 => (cond y1 (some false) (again1 (IntKind.i64.wrap (v1 + 1))))))) (ob (inclF fuel a1 a2 a3 a4) fun r4 => (ob (cond (decide (r4 < (a1.length : Int))) (cond (decide (r4 < 0)) (some true) (ob (rd a1 r4) fun x2 => (ob (find fuel a1 x2.path) fun r5 => (some (decide (r5 ≤ r4)))))) (some false)) fun y2 => (some y2))))

def filesMeant (fuel : Nat) (a1 : List Src) (a2 : Int) (a3 : List UInt8) (a4 : Bool) : Option (Bool) :=
  (ob (alive fuel) fun r1 => (cond (!r1) (some false) (loopF (fun again1 v => filesMeant_b1 a1 fuel a3 a2 a4 again1 v) fuel 0)))

theorem ok_filesMeant {fuel : Nat} {a1 : List Src} {a2 : Int} {a3 : List UInt8} {a4 : Bool} {r : Bool} (h : filesMeant fuel a1 a2 a3 a4 = some r) : FnOk Tryd.prog 5 [.ls (List.map Src.av a1) false, .int .i64 a2, .str a3, .bool a4] [] 0 (fun q s k => q = .ret (.bool r) ∧ s = [] ∧ k = 0) := by
  refine Fn_by Tryd.func5 Tryd.ntmps5 Tryd.cc5 (Nat.le_of_ble_eq_true rfl) (rs := [.tmp 8]) (by kernel_rfl) (fun R0 hR0 => ?_)
  unfold filesMeant at h
  unfold Tryd.ac5
  refine (show XA _ _ _ _ ⟨[(0, .ls (List.map Src.av a1) false), (1, .int .i64 a2), (2, .str a3), (3, .bool a4)], [], 0⟩ from ?_)
  refine XA_seq_st fun R1 hR1 => ?_
  refine XA_reg_g ?_
  refine RG_end ⟨[(0, .ls (List.map Src.av a1) false), (1, .int .i64 a2), (2, .str a3), (3, .bool a4)], [], 0⟩ (fun K hK => ?_) (fun s hs => ?_)
  · simp only [go_sem, Nat.reduceBEq, Nat.reduceLT, Nat.reduceLeDiff, Nat.reduceEqDiff, Nat.reduceAdd, Nat.reduceSub, Nat.reduceMul, Int.reduceBEq, Int.reduceBNe, Int.reduceLT, Int.reduceLE, Int.reduceEq, Int.reduceGT, Int.reduceAdd, Int.reduceSub, Int.reduceNeg, Int.reduceToNat, reduceCtorEq, reduceIte]
    exact hK _ (St.ent_by [] rfl (Nat.le_of_ble_eq_true rfl) rfl (by decide) (by simp only [push_cast, Nat.reduceEqDiff, Nat.reduceAdd, reduceCtorEq, reduceIte]) (by simp only [push_cast, Nat.reduceEqDiff, Nat.reduceAdd, reduceCtorEq, reduceIte]))
  refine dN_seq hR1 (XA_ent hs ?_)
  refine XA_seq_st fun R2 hR2 => ?_
  refine XA_seq_st fun R3 hR3 => ?_
  refine XA_reg_g ?_
  obtain ⟨r1, hr1, h⟩ := ob_some h
  refine RG_end ⟨[(0, .ls (List.map Src.av a1) false), (1, .int .i64 a2), (2, .str a3), (3, .bool a4), (14, .bool (!r1))], [], 0⟩ (fun K hK => ?_) (fun s hs => ?_)
  · refine runs_call rfl rfl (CallP.wk (CallP_of [] _ _ (.of Tryd.func6 (by kernel_rfl)) (ok_alive hr1) (by simp only [go_sem, Nat.reduceBEq, Nat.reduceLT, Nat.reduceLeDiff, Nat.reduceEqDiff, Nat.reduceAdd, Nat.reduceSub, Nat.reduceMul, Int.reduceBEq, Int.reduceBNe, Int.reduceLT, Int.reduceLE, Int.reduceEq, Int.reduceGT, Int.reduceAdd, Int.reduceSub, Int.reduceNeg, Int.reduceToNat, reduceCtorEq, reduceIte]) (by simp only [push_cast, Nat.reduceEqDiff, Nat.reduceAdd, reduceCtorEq, reduceIte, entStore]) rfl (by decide) ?_ (by rintro _ _ _ ⟨hv, _⟩; cases hv)))
    rintro _ _ _ ⟨hv, rfl, rfl⟩
    cases hv
    simp only [go_sem, Nat.reduceBEq, Nat.reduceLT, Nat.reduceLeDiff, Nat.reduceEqDiff, Nat.reduceAdd, Nat.reduceSub, Nat.reduceMul, Int.reduceBEq, Int.reduceBNe, Int.reduceLT, Int.reduceLE, Int.reduceEq, Int.reduceGT, Int.reduceAdd, Int.reduceSub, Int.reduceNeg, Int.reduceToNat, reduceCtorEq, reduceIte]
    exact hK _ (St.ent_by [] rfl (Nat.le_of_ble_eq_true rfl) rfl (by decide) (by simp only [push_cast, Nat.reduceEqDiff, Nat.reduceAdd, reduceCtorEq, reduceIte]) (by simp only [push_cast, Nat.reduceEqDiff, Nat.reduceAdd, reduceCtorEq, reduceIte]))
  refine dN_seq hR3 (XA_ent hs ?_)
  refine XA_cond (t := (!r1)) rfl (fun g1 => ?_) (fun g1 => ?_)
  · rw [g1, cond_true] at h
    refine XA_seq_st fun R4 hR4 => ?_
    refine XA_reg_g ?_
    refine RG_end ⟨[(8, .bool false)], [], 0⟩ (fun K hK => ?_) (fun s hs => ?_)
    · simp only [go_sem, Nat.reduceBEq, Nat.reduceLT, Nat.reduceLeDiff, Nat.reduceEqDiff, Nat.reduceAdd, Nat.reduceSub, Nat.reduceMul, Int.reduceBEq, Int.reduceBNe, Int.reduceLT, Int.reduceLE, Int.reduceEq, Int.reduceGT, Int.reduceAdd, Int.reduceSub, Int.reduceNeg, Int.reduceToNat, reduceCtorEq, reduceIte]
      exact hK _ (St.ent_by [] rfl (Nat.le_of_ble_eq_true rfl) rfl (by decide) (by simp only [push_cast, Nat.reduceEqDiff, Nat.reduceAdd, reduceCtorEq, reduceIte]) (by simp only [push_cast, Nat.reduceEqDiff, Nat.reduceAdd, reduceCtorEq, reduceIte]))
    refine dN_seq hR4 (XA_ent hs ?_)
    refine XA_ret ?_
    refine dR_seq hR2 ?_
    refine hR0 _ _ ⟨_, St.ent_self, EndPost_ret (v := .bool false) (by simp only [go_sem, Nat.reduceBEq, Nat.reduceLT, Nat.reduceLeDiff, Nat.reduceEqDiff, Nat.reduceAdd, Nat.reduceSub, Nat.reduceMul, Int.reduceBEq, Int.reduceBNe, Int.reduceLT, Int.reduceLE, Int.reduceEq, Int.reduceGT, Int.reduceAdd, Int.reduceSub, Int.reduceNeg, Int.reduceToNat, reduceCtorEq, reduceIte]) ?_⟩
    have h := Option.some.inj h; subst h
    exact (St.ent_by [] rfl (Nat.le_of_ble_eq_true rfl) rfl (by decide) (by simp only [push_cast, Nat.reduceEqDiff, Nat.reduceAdd, reduceCtorEq, reduceIte]) (by simp only [push_cast, Nat.reduceEqDiff, Nat.reduceAdd, reduceCtorEq, reduceIte]))
  · rw [g1, cond_false] at h
    refine XA_skip ?_
    refine dN_seq hR2 ?_
    refine XA_seq_st fun R5 hR5 => ?_
    refine XA_seq_st fun R6 hR6 => ?_
    refine XA_reg_g ?_
    refine RG_end ⟨[(0, .ls (List.map Src.av a1) false), (1, .int .i64 a2), (2, .str a3), (3, .bool a4), (15, .ls (List.map Src.av a1) false), (16, .int .i64 (a1.length : Int)), (17, .int .i64 0)], [], 0⟩ (fun K hK => ?_) (fun s hs => ?_)
    · simp only [go_sem, Nat.reduceBEq, Nat.reduceLT, Nat.reduceLeDiff, Nat.reduceEqDiff, Nat.reduceAdd, Nat.reduceSub, Nat.reduceMul, Int.reduceBEq, Int.reduceBNe, Int.reduceLT, Int.reduceLE, Int.reduceEq, Int.reduceGT, Int.reduceAdd, Int.reduceSub, Int.reduceNeg, Int.reduceToNat, reduceCtorEq, reduceIte]
      exact hK _ (St.ent_by [] rfl (Nat.le_of_ble_eq_true rfl) rfl (by decide) (by simp only [push_cast, Nat.reduceEqDiff, Nat.reduceAdd, reduceCtorEq, reduceIte]) (by simp only [push_cast, Nat.reduceEqDiff, Nat.reduceAdd, reduceCtorEq, reduceIte]))
    refine dN_seq hR6 (XA_ent hs ?_)
    refine XA_block_st fun R7 hR7 => ?_
    refine XA_loop_by (T := fun v : Int => ⟨[(0, .ls (List.map Src.av a1) false), (1, .int .i64 a2), (2, .str a3), (3, .bool a4), (15, .ls (List.map Src.av a1) false), (16, .int .i64 (a1.length : Int)), (17, .int .i64 v)], [], 0⟩) (fuel := fuel) h (St.ent_by [] rfl (Nat.le_of_ble_eq_true rfl) rfl (by decide) (by simp only [push_cast, Nat.reduceEqDiff, Nat.reduceAdd, reduceCtorEq, reduceIte]) (by simp only [push_cast, Nat.reduceEqDiff, Nat.reduceAdd, reduceCtorEq, reduceIte])) (fun again1 v h R8 hR8 => ?_)
    revert h; generalize v = v1; intro h
    replace h : filesMeant_b1 a1 fuel a3 a2 a4 again1 v1 = some r := h
    unfold filesMeant_b1 at h
    refine (show XA _ _ _ _ ⟨[(0, .ls (List.map Src.av a1) false), (1, .int .i64 a2), (2, .str a3), (3, .bool a4), (15, .ls (List.map Src.av a1) false), (16, .int .i64 (a1.length : Int)), (17, .int .i64 v1)], [], 0⟩ from ?_)
    refine XA_seq_st fun R9 hR9 => ?_
    refine XA_reg_g ?_
    refine RG_end ⟨[(0, .ls (List.map Src.av a1) false), (1, .int .i64 a2), (2, .str a3), (3, .bool a4), (15, .ls (List.map Src.av a1) false), (16, .int .i64 (a1.length : Int)), (17, .int .i64 v1), (18, .bool (decide (v1 < (a1.length : Int))))], [], 0⟩ (fun K hK => ?_) (fun s hs => ?_)
    · simp only [go_sem, Nat.reduceBEq, Nat.reduceLT, Nat.reduceLeDiff, Nat.reduceEqDiff, Nat.reduceAdd, Nat.reduceSub, Nat.reduceMul, Int.reduceBEq, Int.reduceBNe, Int.reduceLT, Int.reduceLE, Int.reduceEq, Int.reduceGT, Int.reduceAdd, Int.reduceSub, Int.reduceNeg, Int.reduceToNat, reduceCtorEq, reduceIte]
      exact hK _ (St.ent_by [] rfl (Nat.le_of_ble_eq_true rfl) rfl (by decide) (by simp only [push_cast, Nat.reduceEqDiff, Nat.reduceAdd, reduceCtorEq, reduceIte]) (by simp only [push_cast, Nat.reduceEqDiff, Nat.reduceAdd, reduceCtorEq, reduceIte]))
    refine dN_seq hR9 (XA_ent hs ?_)
    refine XA_seq_st fun R10 hR10 => ?_
    refine XA_cond (t := (decide (v1 < (a1.length : Int)))) rfl (fun g2 => ?_) (fun g2 => ?_)
    · rw [g2, cond_true] at h
      refine XA_skip ?_
      refine dN_seq hR10 ?_
      refine XA_seq_st fun R11 hR11 => ?_
      refine XA_block_st fun R12 hR12 => ?_
      refine XA_seq_st fun R13 hR13 => ?_
      refine XA_reg_g ?_
      obtain ⟨x1, hx1, h⟩ := ob_some h
      have ix1 := rd_in hx1
      have gx1 := rd_get hx1
      try simp only [Int.reduceToNat, Int.toNat_natCast] at gx1
      refine RG_end ⟨[(0, .ls (List.map Src.av a1) false), (1, .int .i64 a2), (2, .str a3), (3, .bool a4), (10, .ptr 0 0), (15, .ls (List.map Src.av a1) false), (16, .int .i64 (a1.length : Int)), (17, .int .i64 v1)], [(0, .var [.str x1.path, .str x1.text])], 1⟩ (fun K hK => ?_) (fun s hs => ?_)
      · simp only [go_sem, Nat.reduceBEq, Nat.reduceLT, Nat.reduceLeDiff, Nat.reduceEqDiff, Nat.reduceAdd, Nat.reduceSub, Nat.reduceMul, Int.reduceBEq, Int.reduceBNe, Int.reduceLT, Int.reduceLE, Int.reduceEq, Int.reduceGT, Int.reduceAdd, Int.reduceSub, Int.reduceNeg, Int.reduceToNat, reduceCtorEq, reduceIte, ix1, gx1]
        exact hK _ (St.ent_by [0] rfl (Nat.le_of_ble_eq_true rfl) rfl (by decide) (by simp only [push_cast, Nat.reduceEqDiff, Nat.reduceAdd, reduceCtorEq, reduceIte]) (by simp only [push_cast, Nat.reduceEqDiff, Nat.reduceAdd, reduceCtorEq, reduceIte]))
      refine dN_seq hR13 (XA_ent hs ?_)
      refine XA_seq_st fun R14 hR14 => ?_
      refine XA_reg_g ?_
      obtain ⟨r2, hr2, h⟩ := ob_some h
      refine RG_end ⟨[(0, .ls (List.map Src.av a1) false), (1, .int .i64 a2), (2, .str a3), (3, .bool a4), (11, .str r2), (15, .ls (List.map Src.av a1) false), (16, .int .i64 (a1.length : Int)), (17, .int .i64 v1)], [], 0⟩ (fun K hK => ?_) (fun s hs => ?_)
      · refine runs_cut 3 fun K1 hK1 => ?_
        simp only [go_sem, Nat.reduceBEq, Nat.reduceLT, Nat.reduceLeDiff, Nat.reduceEqDiff, Nat.reduceAdd, Nat.reduceSub, Nat.reduceMul, Int.reduceBEq, Int.reduceBNe, Int.reduceLT, Int.reduceLE, Int.reduceEq, Int.reduceGT, Int.reduceAdd, Int.reduceSub, Int.reduceNeg, Int.reduceToNat, reduceCtorEq, reduceIte]
        refine hK1 _ ?_
        simp only [List.take_succ_cons, List.take_zero, List.drop_succ_cons, List.drop_zero]
        refine runs_call rfl rfl (CallP.wk (CallP_of [] _ _ (.of Tryd.func10 (by kernel_rfl)) (ok_beside hr2) (by simp only [go_sem, Nat.reduceBEq, Nat.reduceLT, Nat.reduceLeDiff, Nat.reduceEqDiff, Nat.reduceAdd, Nat.reduceSub, Nat.reduceMul, Int.reduceBEq, Int.reduceBNe, Int.reduceLT, Int.reduceLE, Int.reduceEq, Int.reduceGT, Int.reduceAdd, Int.reduceSub, Int.reduceNeg, Int.reduceToNat, reduceCtorEq, reduceIte]) (by simp only [push_cast, Nat.reduceEqDiff, Nat.reduceAdd, reduceCtorEq, reduceIte, entStore]) rfl (by decide) ?_ (by rintro _ _ _ ⟨hv, _⟩; cases hv)))
        rintro _ _ _ ⟨hv, rfl, rfl⟩
        cases hv
        simp only [go_sem, Nat.reduceBEq, Nat.reduceLT, Nat.reduceLeDiff, Nat.reduceEqDiff, Nat.reduceAdd, Nat.reduceSub, Nat.reduceMul, Int.reduceBEq, Int.reduceBNe, Int.reduceLT, Int.reduceLE, Int.reduceEq, Int.reduceGT, Int.reduceAdd, Int.reduceSub, Int.reduceNeg, Int.reduceToNat, reduceCtorEq, reduceIte]
        exact hK _ (St.ent_by [] rfl (Nat.le_of_ble_eq_true rfl) rfl (by decide) (by simp only [push_cast, Nat.reduceEqDiff, Nat.reduceAdd, reduceCtorEq, reduceIte]) (by simp only [push_cast, Nat.reduceEqDiff, Nat.reduceAdd, reduceCtorEq, reduceIte]))
      refine dN_seq hR14 (XA_ent hs ?_)
      refine XA_seq_st fun R15 hR15 => ?_
      refine XA_reg_g ?_
      obtain ⟨y1, hy1, h⟩ := ob_some h
      refine RG_end ⟨[(0, .ls (List.map Src.av a1) false), (1, .int .i64 a2), (2, .str a3), (3, .bool a4), (15, .ls (List.map Src.av a1) false), (16, .int .i64 (a1.length : Int)), (17, .int .i64 v1), (31, .bool y1)], [], 0⟩ (fun K hK => ?_) (fun s hs => ?_)
      · refine runs_cut 3 fun K2 hK2 => ?_
        simp only [go_sem, Nat.reduceBEq, Nat.reduceLT, Nat.reduceLeDiff, Nat.reduceEqDiff, Nat.reduceAdd, Nat.reduceSub, Nat.reduceMul, Int.reduceBEq, Int.reduceBNe, Int.reduceLT, Int.reduceLE, Int.reduceEq, Int.reduceGT, Int.reduceAdd, Int.reduceSub, Int.reduceNeg, Int.reduceToNat, reduceCtorEq, reduceIte]
        refine hK2 _ ?_
        simp only [List.take_succ_cons, List.take_zero, List.drop_succ_cons, List.drop_zero]
        rcases bool_or (!(r2 == ([] : List UInt8))) with g3 | g3
        · rw [g3, cond_true] at hy1
          obtain ⟨r3, hr3, hy1⟩ := ob_some hy1
          refine runs_cut 1 fun K3 hK3 => ?_
          simp only [go_sem, Nat.reduceBEq, Nat.reduceLT, Nat.reduceLeDiff, Nat.reduceEqDiff, Nat.reduceAdd, Nat.reduceSub, Nat.reduceMul, Int.reduceBEq, Int.reduceBNe, Int.reduceLT, Int.reduceLE, Int.reduceEq, Int.reduceGT, Int.reduceAdd, Int.reduceSub, Int.reduceNeg, Int.reduceToNat, reduceCtorEq, reduceIte, g3]
          refine hK3 _ ?_
          simp only [List.take_succ_cons, List.take_zero, List.drop_succ_cons, List.drop_zero]
          refine runs_call rfl (by simp only [go_sem, Nat.reduceBEq, Nat.reduceLT, Nat.reduceLeDiff, Nat.reduceEqDiff, Nat.reduceAdd, Nat.reduceSub, Nat.reduceMul, Int.reduceBEq, Int.reduceBNe, Int.reduceLT, Int.reduceLE, Int.reduceEq, Int.reduceGT, Int.reduceAdd, Int.reduceSub, Int.reduceNeg, Int.reduceToNat, reduceCtorEq, reduceIte, g3]) (CallP.wk (CallP_of [] _ _ (.of Tryd.func11 (by kernel_rfl)) (ok_clean hr3) (by simp only [go_sem, Nat.reduceBEq, Nat.reduceLT, Nat.reduceLeDiff, Nat.reduceEqDiff, Nat.reduceAdd, Nat.reduceSub, Nat.reduceMul, Int.reduceBEq, Int.reduceBNe, Int.reduceLT, Int.reduceLE, Int.reduceEq, Int.reduceGT, Int.reduceAdd, Int.reduceSub, Int.reduceNeg, Int.reduceToNat, reduceCtorEq, reduceIte, g3]) (by simp only [push_cast, Nat.reduceEqDiff, Nat.reduceAdd, reduceCtorEq, reduceIte, entStore, g3]) rfl (by decide) ?_ (by rintro _ _ _ ⟨hv, _⟩; cases hv)))
          rintro _ _ _ ⟨hv, rfl, rfl⟩
          cases hv
          have hy := Option.some.inj hy1
          subst hy
          simp only [go_sem, Nat.reduceBEq, Nat.reduceLT, Nat.reduceLeDiff, Nat.reduceEqDiff, Nat.reduceAdd, Nat.reduceSub, Nat.reduceMul, Int.reduceBEq, Int.reduceBNe, Int.reduceLT, Int.reduceLE, Int.reduceEq, Int.reduceGT, Int.reduceAdd, Int.reduceSub, Int.reduceNeg, Int.reduceToNat, reduceCtorEq, reduceIte, g3]
          exact hK _ (St.ent_by [] rfl (Nat.le_of_ble_eq_true rfl) rfl (by decide) (by simp only [push_cast, Nat.reduceEqDiff, Nat.reduceAdd, reduceCtorEq, reduceIte, g3]) (by simp only [push_cast, Nat.reduceEqDiff, Nat.reduceAdd, reduceCtorEq, reduceIte, g3]))
        · rw [g3, cond_false] at hy1
          have hy := Option.some.inj hy1
          subst hy
          simp only [go_sem, Nat.reduceBEq, Nat.reduceLT, Nat.reduceLeDiff, Nat.reduceEqDiff, Nat.reduceAdd, Nat.reduceSub, Nat.reduceMul, Int.reduceBEq, Int.reduceBNe, Int.reduceLT, Int.reduceLE, Int.reduceEq, Int.reduceGT, Int.reduceAdd, Int.reduceSub, Int.reduceNeg, Int.reduceToNat, reduceCtorEq, reduceIte, g3]
          exact hK _ (St.ent_by [] rfl (Nat.le_of_ble_eq_true rfl) rfl (by decide) (by simp only [push_cast, Nat.reduceEqDiff, Nat.reduceAdd, reduceCtorEq, reduceIte, g3]) (by simp only [push_cast, Nat.reduceEqDiff, Nat.reduceAdd, reduceCtorEq, reduceIte, g3]))
      refine dN_seq hR15 (XA_ent hs ?_)
      refine XA_cond (t := y1) rfl (fun g4 => ?_) (fun g4 => ?_)
      · rw [g4, cond_true] at h
        refine XA_seq_st fun R16 hR16 => ?_
        refine XA_reg_g ?_
        refine RG_end ⟨[(8, .bool false)], [], 0⟩ (fun K hK => ?_) (fun s hs => ?_)
        · simp only [go_sem, Nat.reduceBEq, Nat.reduceLT, Nat.reduceLeDiff, Nat.reduceEqDiff, Nat.reduceAdd, Nat.reduceSub, Nat.reduceMul, Int.reduceBEq, Int.reduceBNe, Int.reduceLT, Int.reduceLE, Int.reduceEq, Int.reduceGT, Int.reduceAdd, Int.reduceSub, Int.reduceNeg, Int.reduceToNat, reduceCtorEq, reduceIte]
          exact hK _ (St.ent_by [] rfl (Nat.le_of_ble_eq_true rfl) rfl (by decide) (by simp only [push_cast, Nat.reduceEqDiff, Nat.reduceAdd, reduceCtorEq, reduceIte]) (by simp only [push_cast, Nat.reduceEqDiff, Nat.reduceAdd, reduceCtorEq, reduceIte]))
        refine dN_seq hR16 (XA_ent hs ?_)
        refine XA_ret ?_
        refine dR_block hR12 ?_
        refine dR_seq hR11 ?_
        refine dR_seq hR8 ?_
        refine dR_block hR7 ?_
        refine dR_seq hR5 ?_
        refine hR0 _ _ ⟨_, St.ent_self, EndPost_ret (v := .bool false) (by simp only [go_sem, Nat.reduceBEq, Nat.reduceLT, Nat.reduceLeDiff, Nat.reduceEqDiff, Nat.reduceAdd, Nat.reduceSub, Nat.reduceMul, Int.reduceBEq, Int.reduceBNe, Int.reduceLT, Int.reduceLE, Int.reduceEq, Int.reduceGT, Int.reduceAdd, Int.reduceSub, Int.reduceNeg, Int.reduceToNat, reduceCtorEq, reduceIte]) ?_⟩
        have h := Option.some.inj h; subst h
        exact (St.ent_by [] rfl (Nat.le_of_ble_eq_true rfl) rfl (by decide) (by simp only [push_cast, Nat.reduceEqDiff, Nat.reduceAdd, reduceCtorEq, reduceIte]) (by simp only [push_cast, Nat.reduceEqDiff, Nat.reduceAdd, reduceCtorEq, reduceIte]))
      · rw [g4, cond_false] at h
        refine XA_skip ?_
        refine dN_block hR12 ?_
        refine dN_seq hR11 ?_
        refine XA_reg_g ?_
        refine RG_end ⟨[(0, .ls (List.map Src.av a1) false), (1, .int .i64 a2), (2, .str a3), (3, .bool a4), (15, .ls (List.map Src.av a1) false), (16, .int .i64 (a1.length : Int)), (17, .int .i64 (IntKind.i64.wrap (v1 + 1)))], [], 0⟩ (fun K hK => ?_) (fun s hs => ?_)
        · simp only [go_sem, Nat.reduceBEq, Nat.reduceLT, Nat.reduceLeDiff, Nat.reduceEqDiff, Nat.reduceAdd, Nat.reduceSub, Nat.reduceMul, Int.reduceBEq, Int.reduceBNe, Int.reduceLT, Int.reduceLE, Int.reduceEq, Int.reduceGT, Int.reduceAdd, Int.reduceSub, Int.reduceNeg, Int.reduceToNat, reduceCtorEq, reduceIte]
          exact hK _ (St.ent_by [] rfl (Nat.le_of_ble_eq_true rfl) rfl (by decide) (by simp only [push_cast, Nat.reduceEqDiff, Nat.reduceAdd, reduceCtorEq, reduceIte]) (by simp only [push_cast, Nat.reduceEqDiff, Nat.reduceAdd, reduceCtorEq, reduceIte]))
        exact dN_seq hR8 ⟨(IntKind.i64.wrap (v1 + 1)), (hs.trans (St.ent_by [] rfl (Nat.le_of_ble_eq_true rfl) rfl (by decide) (by simp only [push_cast, Nat.reduceEqDiff, Nat.reduceAdd, reduceCtorEq, reduceIte]) (by simp only [push_cast, Nat.reduceEqDiff, Nat.reduceAdd, reduceCtorEq, reduceIte]))), h⟩
    · rw [g2, cond_false] at h
      refine XA_exit ?_
      refine dX_seq hR10 ?_
      refine dX_seq hR8 ?_
      refine dE_block hR7 ?_
      refine dN_seq hR5 ?_
      refine XA_seq_st fun R17 hR17 => ?_
      refine XA_reg_g ?_
      obtain ⟨r4, hr4, h⟩ := ob_some h
      refine RG_end ⟨[(0, .ls (List.map Src.av a1) false), (12, .int .i64 r4)], [], 0⟩ (fun K hK => ?_) (fun s hs => ?_)
      · refine runs_cut 4 fun K4 hK4 => ?_
        simp only [go_sem, Nat.reduceBEq, Nat.reduceLT, Nat.reduceLeDiff, Nat.reduceEqDiff, Nat.reduceAdd, Nat.reduceSub, Nat.reduceMul, Int.reduceBEq, Int.reduceBNe, Int.reduceLT, Int.reduceLE, Int.reduceEq, Int.reduceGT, Int.reduceAdd, Int.reduceSub, Int.reduceNeg, Int.reduceToNat, reduceCtorEq, reduceIte]
        refine hK4 _ ?_
        simp only [List.take_succ_cons, List.take_zero, List.drop_succ_cons, List.drop_zero]
        refine runs_call rfl rfl (CallP.wk (CallP_of [] _ _ (.of Tryd.func12 (by kernel_rfl)) (ok_inclF hr4) (by simp only [go_sem, Nat.reduceBEq, Nat.reduceLT, Nat.reduceLeDiff, Nat.reduceEqDiff, Nat.reduceAdd, Nat.reduceSub, Nat.reduceMul, Int.reduceBEq, Int.reduceBNe, Int.reduceLT, Int.reduceLE, Int.reduceEq, Int.reduceGT, Int.reduceAdd, Int.reduceSub, Int.reduceNeg, Int.reduceToNat, reduceCtorEq, reduceIte]) (by simp only [push_cast, Nat.reduceEqDiff, Nat.reduceAdd, reduceCtorEq, reduceIte, entStore]) rfl (by decide) ?_ (by rintro _ _ _ ⟨hv, _⟩; cases hv)))
        rintro _ _ _ ⟨hv, rfl, rfl⟩
        cases hv
        simp only [go_sem, Nat.reduceBEq, Nat.reduceLT, Nat.reduceLeDiff, Nat.reduceEqDiff, Nat.reduceAdd, Nat.reduceSub, Nat.reduceMul, Int.reduceBEq, Int.reduceBNe, Int.reduceLT, Int.reduceLE, Int.reduceEq, Int.reduceGT, Int.reduceAdd, Int.reduceSub, Int.reduceNeg, Int.reduceToNat, reduceCtorEq, reduceIte]
        exact hK _ (St.ent_by [] rfl (Nat.le_of_ble_eq_true rfl) rfl (by decide) (by simp only [push_cast, Nat.reduceEqDiff, Nat.reduceAdd, reduceCtorEq, reduceIte]) (by simp only [push_cast, Nat.reduceEqDiff, Nat.reduceAdd, reduceCtorEq, reduceIte]))
      refine dN_seq hR17 (XA_ent hs ?_)
      refine XA_seq_st fun R18 hR18 => ?_
      refine XA_reg_g ?_
      obtain ⟨y2, hy2, h⟩ := ob_some h
      refine RG_cut 19 ⟨[(56, .bool y2)], [], 0⟩ (fun K hK => ?_) ?_
      · refine runs_cut 5 fun K5 hK5 => ?_
        simp only [go_sem, Nat.reduceBEq, Nat.reduceLT, Nat.reduceLeDiff, Nat.reduceEqDiff, Nat.reduceAdd, Nat.reduceSub, Nat.reduceMul, Int.reduceBEq, Int.reduceBNe, Int.reduceLT, Int.reduceLE, Int.reduceEq, Int.reduceGT, Int.reduceAdd, Int.reduceSub, Int.reduceNeg, Int.reduceToNat, reduceCtorEq, reduceIte]
        refine hK5 _ ?_
        simp only [List.take_succ_cons, List.take_zero, List.drop_succ_cons, List.drop_zero]
        rcases bool_or (decide (r4 < (a1.length : Int))) with g5 | g5
        · rw [g5, cond_true] at hy2
          refine runs_cut 3 fun K6 hK6 => ?_
          simp only [go_sem, Nat.reduceBEq, Nat.reduceLT, Nat.reduceLeDiff, Nat.reduceEqDiff, Nat.reduceAdd, Nat.reduceSub, Nat.reduceMul, Int.reduceBEq, Int.reduceBNe, Int.reduceLT, Int.reduceLE, Int.reduceEq, Int.reduceGT, Int.reduceAdd, Int.reduceSub, Int.reduceNeg, Int.reduceToNat, reduceCtorEq, reduceIte, g5]
          refine hK6 _ ?_
          simp only [List.take_succ_cons, List.take_zero, List.drop_succ_cons, List.drop_zero]
          rcases bool_or (decide (r4 < 0)) with g6 | g6
          · rw [g6, cond_true] at hy2
            have hy := Option.some.inj hy2
            subst hy
            simp only [go_sem, Nat.reduceBEq, Nat.reduceLT, Nat.reduceLeDiff, Nat.reduceEqDiff, Nat.reduceAdd, Nat.reduceSub, Nat.reduceMul, Int.reduceBEq, Int.reduceBNe, Int.reduceLT, Int.reduceLE, Int.reduceEq, Int.reduceGT, Int.reduceAdd, Int.reduceSub, Int.reduceNeg, Int.reduceToNat, reduceCtorEq, reduceIte, g5, g6]
            exact hK _ (St.ent_by [] rfl (Nat.le_of_ble_eq_true rfl) rfl (by decide) (by simp only [push_cast, Nat.reduceEqDiff, Nat.reduceAdd, reduceCtorEq, reduceIte, g5, g6]) (by simp only [push_cast, Nat.reduceEqDiff, Nat.reduceAdd, reduceCtorEq, reduceIte, g5, g6]))
          · rw [g6, cond_false] at hy2
            obtain ⟨x2, hx2, hy2⟩ := ob_some hy2
            have ix2 := rd_in hx2
            have gx2 := rd_get hx2
            try simp only [Int.reduceToNat, Int.toNat_natCast] at gx2
            obtain ⟨r5, hr5, hy2⟩ := ob_some hy2
            refine runs_cut 6 fun K7 hK7 => ?_
            simp only [go_sem, Nat.reduceBEq, Nat.reduceLT, Nat.reduceLeDiff, Nat.reduceEqDiff, Nat.reduceAdd, Nat.reduceSub, Nat.reduceMul, Int.reduceBEq, Int.reduceBNe, Int.reduceLT, Int.reduceLE, Int.reduceEq, Int.reduceGT, Int.reduceAdd, Int.reduceSub, Int.reduceNeg, Int.reduceToNat, reduceCtorEq, reduceIte, ix2, gx2, g5, g6]
            refine hK7 _ ?_
            simp only [List.take_succ_cons, List.take_zero, List.drop_succ_cons, List.drop_zero]
            refine runs_call rfl (by simp only [go_sem, Nat.reduceBEq, Nat.reduceLT, Nat.reduceLeDiff, Nat.reduceEqDiff, Nat.reduceAdd, Nat.reduceSub, Nat.reduceMul, Int.reduceBEq, Int.reduceBNe, Int.reduceLT, Int.reduceLE, Int.reduceEq, Int.reduceGT, Int.reduceAdd, Int.reduceSub, Int.reduceNeg, Int.reduceToNat, reduceCtorEq, reduceIte, ix2, gx2, g5, g6]) (CallP.wk (CallP_of [] _ _ (.of Tryd.func13 (by kernel_rfl)) (ok_find hr5) (by simp only [go_sem, Nat.reduceBEq, Nat.reduceLT, Nat.reduceLeDiff, Nat.reduceEqDiff, Nat.reduceAdd, Nat.reduceSub, Nat.reduceMul, Int.reduceBEq, Int.reduceBNe, Int.reduceLT, Int.reduceLE, Int.reduceEq, Int.reduceGT, Int.reduceAdd, Int.reduceSub, Int.reduceNeg, Int.reduceToNat, reduceCtorEq, reduceIte, ix2, gx2, g5, g6]) (by simp only [push_cast, Nat.reduceEqDiff, Nat.reduceAdd, reduceCtorEq, reduceIte, entStore, g5, g6]) rfl (by decide) ?_ (by rintro _ _ _ ⟨hv, _⟩; cases hv)))
            rintro _ _ _ ⟨hv, rfl, rfl⟩
            cases hv
            have hy := Option.some.inj hy2
            subst hy
            simp only [go_sem, Nat.reduceBEq, Nat.reduceLT, Nat.reduceLeDiff, Nat.reduceEqDiff, Nat.reduceAdd, Nat.reduceSub, Nat.reduceMul, Int.reduceBEq, Int.reduceBNe, Int.reduceLT, Int.reduceLE, Int.reduceEq, Int.reduceGT, Int.reduceAdd, Int.reduceSub, Int.reduceNeg, Int.reduceToNat, reduceCtorEq, reduceIte, ix2, gx2, g5, g6]
            exact hK _ (St.ent_by [] rfl (Nat.le_of_ble_eq_true rfl) rfl (by decide) (by simp only [push_cast, Nat.reduceEqDiff, Nat.reduceAdd, reduceCtorEq, reduceIte, g5, g6]) (by simp only [push_cast, Nat.reduceEqDiff, Nat.reduceAdd, reduceCtorEq, reduceIte, g5, g6]))
        · rw [g5, cond_false] at hy2
          have hy := Option.some.inj hy2
          subst hy
          simp only [go_sem, Nat.reduceBEq, Nat.reduceLT, Nat.reduceLeDiff, Nat.reduceEqDiff, Nat.reduceAdd, Nat.reduceSub, Nat.reduceMul, Int.reduceBEq, Int.reduceBNe, Int.reduceLT, Int.reduceLE, Int.reduceEq, Int.reduceGT, Int.reduceAdd, Int.reduceSub, Int.reduceNeg, Int.reduceToNat, reduceCtorEq, reduceIte, g5]
          exact hK _ (St.ent_by [] rfl (Nat.le_of_ble_eq_true rfl) rfl (by decide) (by simp only [push_cast, Nat.reduceEqDiff, Nat.reduceAdd, reduceCtorEq, reduceIte, g5]) (by simp only [push_cast, Nat.reduceEqDiff, Nat.reduceAdd, reduceCtorEq, reduceIte, g5]))
      simp only [List.take_succ_cons, List.take_zero, List.drop_succ_cons, List.drop_zero]
      refine RG_end ⟨[(8, .bool y2)], [], 0⟩ (fun K hK => ?_) (fun s hs => ?_)
      · simp only [go_sem, Nat.reduceBEq, Nat.reduceLT, Nat.reduceLeDiff, Nat.reduceEqDiff, Nat.reduceAdd, Nat.reduceSub, Nat.reduceMul, Int.reduceBEq, Int.reduceBNe, Int.reduceLT, Int.reduceLE, Int.reduceEq, Int.reduceGT, Int.reduceAdd, Int.reduceSub, Int.reduceNeg, Int.reduceToNat, reduceCtorEq, reduceIte]
        exact hK _ (St.ent_by [] rfl (Nat.le_of_ble_eq_true rfl) rfl (by decide) (by simp only [push_cast, Nat.reduceEqDiff, Nat.reduceAdd, reduceCtorEq, reduceIte]) (by simp only [push_cast, Nat.reduceEqDiff, Nat.reduceAdd, reduceCtorEq, reduceIte]))
      refine dN_seq hR18 (XA_ent hs ?_)
      refine XA_ret ?_
      refine hR0 _ _ ⟨_, St.ent_self, EndPost_ret (v := .bool y2) (by simp only [go_sem, Nat.reduceBEq, Nat.reduceLT, Nat.reduceLeDiff, Nat.reduceEqDiff, Nat.reduceAdd, Nat.reduceSub, Nat.reduceMul, Int.reduceBEq, Int.reduceBNe, Int.reduceLT, Int.reduceLE, Int.reduceEq, Int.reduceGT, Int.reduceAdd, Int.reduceSub, Int.reduceNeg, Int.reduceToNat, reduceCtorEq, reduceIte]) ?_⟩
      have h := Option.some.inj h; subst h
      exact (St.ent_by [] rfl (Nat.le_of_ble_eq_true rfl) rfl (by decide) (by simp only [push_cast, Nat.reduceEqDiff, Nat.reduceAdd, reduceCtorEq, reduceIte]) (by simp only [push_cast, Nat.reduceEqDiff, Nat.reduceAdd, reduceCtorEq, reduceIte]))
end Go.Proofs
