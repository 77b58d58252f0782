/-
  Pure functions, and that the code does what they do: by program.
-/
import Derived.Test.YtbldikkinholnaaDoorG5
namespace Go.Proofs
open Go Go.Ab
set_option linter.unusedSimpArgs false
set_option linter.unusedVariables false
set_option maxHeartbeats 8000000
def insSort_b2 (a2 : Int) (fuel : Nat) (again1 : (Int × (List Edt)) → Option ((List Edt))) (v1 : Int) (again2 : (Int × (List Edt)) → Option ((List Edt))) (v3 : Int) (v4 : List Edt) : Option ((List Edt)) :=
  (ob (cond (decide (v3 > a2)) (ob (rd v4 v3) fun x1 => (ob (rd v4 (IntKind.i64.wrap (v3 - 1))) fun x2 => (ob (order fuel x1 x2) fun r1 => (some (decide (r1 < 0)))))) (some false)) fun y1 => (cond y1 (ob (rd v4 (IntKind.i64.wrap (v3 - 1))) fun x3 => (ob (rd v4 v3) fun x4 => (ob (rd (v4.set v3.toNat x3) (IntKind.i64.wrap (v3 - 1))) fun x5 => (again2 ((IntKind.i64.wrap (v3 - 1)), ((v4.set v3.toNat x3).set ((IntKind.i64.wrap (v3 - 1)).toNat) x4)))))) (again1 ((IntKind.i64.wrap (v1 + 1)), v4))))

def insSort_b1 (a3 : Int) (a2 : Int) (fuel : Nat) (again1 : (Int × (List Edt)) → Option ((List Edt))) (v1 : Int) (v2 : List Edt) : Option ((List Edt)) :=
  (cond (decide (v1 < a3)) (loopF (fun again2 v => insSort_b2 a2 fuel again1 v1 again2 v.1 v.2) fuel (v1, v2)) (some v2))

def insSort (fuel : Nat) (a1 : List Edt) (a2 : Int) (a3 : Int) : Option ((List Edt)) :=
  (loopF (fun again1 v => insSort_b1 a3 a2 fuel again1 v.1 v.2) fuel ((IntKind.i64.wrap (a2 + 1)), a1))

theorem ok_insSort {fuel : Nat} {a1 : List Edt} {a2 : Int} {a3 : Int} {r : (List Edt)} (h : insSort fuel a1 a2 a3 = some r) : FnOk Tryd.prog 31 [.os 0 0 a1.length, .int .i64 a2, .int .i64 a3, .fn 17 []] [(0, .arr 4 (List.map Edt.av a1))] 1 (fun q s k => q = .ret (.tup []) ∧ s = [(0, .arr 4 (List.map Edt.av r))] ∧ k = 1) := by
  refine Fn_by Tryd.func31 Tryd.ntmps31 Tryd.cc31 (Nat.le_of_ble_eq_true rfl) (rs := []) (by kernel_rfl) (fun R0 hR0 => ?_)
  unfold insSort at h
  unfold Tryd.ac31
  refine (show XA _ _ _ _ ⟨[(0, .os 0 0 a1.length), (1, .int .i64 a2), (2, .int .i64 a3), (3, .fn 17 [])], [(0, .arr 4 (List.map Edt.av a1))], 1⟩ from ?_)
  refine XA_seq_st fun R1 hR1 => ?_
  refine XA_reg_g ?_
  refine RG_end ⟨[(0, .os 0 0 a1.length), (1, .int .i64 a2), (2, .int .i64 a3), (3, .fn 17 []), (8, .int .i64 (IntKind.i64.wrap (a2 + 1)))], [(0, .arr 4 (List.map Edt.av a1))], 1⟩ (fun K hK => ?_) (fun s hs => ?_)
  · simp only [go_sem, Nat.reduceBEq, Nat.reduceLT, Nat.reduceLeDiff, Nat.reduceEqDiff, Nat.reduceAdd, Nat.reduceSub, Nat.reduceMul, Int.reduceBEq, Int.reduceBNe, Int.reduceLT, Int.reduceLE, Int.reduceEq, Int.reduceGT, Int.reduceAdd, Int.reduceSub, Int.reduceNeg, Int.reduceToNat, reduceCtorEq, reduceIte]
    exact hK _ (St.ent_by [0] rfl (Nat.le_of_ble_eq_true rfl) rfl (by decide) (by simp only [push_cast, Nat.reduceEqDiff, Nat.reduceAdd, reduceCtorEq, reduceIte]) (by simp only [push_cast, Nat.reduceEqDiff, Nat.reduceAdd, reduceCtorEq, reduceIte]))
  refine dN_seq hR1 (XA_ent hs ?_)
  refine XA_block_st fun R2 hR2 => ?_
  refine XA_loop_by (T := fun v : Int × (List Edt) => ⟨[(0, .os 0 0 v.2.length), (1, .int .i64 a2), (2, .int .i64 a3), (3, .fn 17 []), (8, .int .i64 v.1)], [(0, .arr 4 (List.map Edt.av v.2))], 1⟩) (fuel := fuel) h (St.ent_by [0] rfl (Nat.le_of_ble_eq_true rfl) rfl (by decide) (by simp only [push_cast, Nat.reduceEqDiff, Nat.reduceAdd, reduceCtorEq, reduceIte]) (by simp only [push_cast, Nat.reduceEqDiff, Nat.reduceAdd, reduceCtorEq, reduceIte])) (fun again1 v h R3 hR3 => ?_)
  rcases v with ⟨v1, v2⟩
  replace h : insSort_b1 a3 a2 fuel again1 v1 v2 = some r := h
  unfold insSort_b1 at h
  refine (show XA _ _ _ _ ⟨[(0, .os 0 0 v2.length), (1, .int .i64 a2), (2, .int .i64 a3), (3, .fn 17 []), (8, .int .i64 v1)], [(0, .arr 4 (List.map Edt.av v2))], 1⟩ from ?_)
  refine XA_seq_st fun R4 hR4 => ?_
  refine XA_seq_st fun R5 hR5 => ?_
  refine XA_reg_g ?_
  refine RG_end ⟨[(0, .os 0 0 v2.length), (1, .int .i64 a2), (2, .int .i64 a3), (3, .fn 17 []), (8, .int .i64 v1), (14, .bool (decide (v1 < a3)))], [(0, .arr 4 (List.map Edt.av v2))], 1⟩ (fun K hK => ?_) (fun s hs => ?_)
  · simp only [go_sem, Nat.reduceBEq, Nat.reduceLT, Nat.reduceLeDiff, Nat.reduceEqDiff, Nat.reduceAdd, Nat.reduceSub, Nat.reduceMul, Int.reduceBEq, Int.reduceBNe, Int.reduceLT, Int.reduceLE, Int.reduceEq, Int.reduceGT, Int.reduceAdd, Int.reduceSub, Int.reduceNeg, Int.reduceToNat, reduceCtorEq, reduceIte]
    exact hK _ (St.ent_by [0] rfl (Nat.le_of_ble_eq_true rfl) rfl (by decide) (by simp only [push_cast, Nat.reduceEqDiff, Nat.reduceAdd, reduceCtorEq, reduceIte]) (by simp only [push_cast, Nat.reduceEqDiff, Nat.reduceAdd, reduceCtorEq, reduceIte]))
  refine dN_seq hR5 (XA_ent hs ?_)
  refine XA_cond (t := (decide (v1 < a3))) rfl (fun g1 => ?_) (fun g1 => ?_)
  · rw [g1, cond_true] at h
    refine XA_skip ?_
    refine dN_seq hR4 ?_
    refine XA_seq_st fun R6 hR6 => ?_
    refine XA_block_st fun R7 hR7 => ?_
    refine XA_seq_st fun R8 hR8 => ?_
    refine XA_reg_g ?_
    refine RG_end ⟨[(0, .os 0 0 v2.length), (1, .int .i64 a2), (2, .int .i64 a3), (3, .fn 17 []), (8, .int .i64 v1), (9, .int .i64 v1)], [(0, .arr 4 (List.map Edt.av v2))], 1⟩ (fun K hK => ?_) (fun s hs => ?_)
    · simp only [go_sem, Nat.reduceBEq, Nat.reduceLT, Nat.reduceLeDiff, Nat.reduceEqDiff, Nat.reduceAdd, Nat.reduceSub, Nat.reduceMul, Int.reduceBEq, Int.reduceBNe, Int.reduceLT, Int.reduceLE, Int.reduceEq, Int.reduceGT, Int.reduceAdd, Int.reduceSub, Int.reduceNeg, Int.reduceToNat, reduceCtorEq, reduceIte]
      exact hK _ (St.ent_by [0] rfl (Nat.le_of_ble_eq_true rfl) rfl (by decide) (by simp only [push_cast, Nat.reduceEqDiff, Nat.reduceAdd, reduceCtorEq, reduceIte]) (by simp only [push_cast, Nat.reduceEqDiff, Nat.reduceAdd, reduceCtorEq, reduceIte]))
    refine dN_seq hR8 (XA_ent hs ?_)
    refine XA_block_st fun R9 hR9 => ?_
    refine XA_loop_by (T := fun v : Int × (List Edt) => ⟨[(0, .os 0 0 v.2.length), (1, .int .i64 a2), (2, .int .i64 a3), (3, .fn 17 []), (8, .int .i64 v1), (9, .int .i64 v.1)], [(0, .arr 4 (List.map Edt.av v.2))], 1⟩) (fuel := fuel) h (St.ent_by [0] rfl (Nat.le_of_ble_eq_true rfl) rfl (by decide) (by simp only [push_cast, Nat.reduceEqDiff, Nat.reduceAdd, reduceCtorEq, reduceIte]) (by simp only [push_cast, Nat.reduceEqDiff, Nat.reduceAdd, reduceCtorEq, reduceIte])) (fun again2 v h R10 hR10 => ?_)
    rcases v with ⟨v3, v4⟩
    replace h : insSort_b2 a2 fuel again1 v1 again2 v3 v4 = some r := h
    unfold insSort_b2 at h
    refine (show XA _ _ _ _ ⟨[(0, .os 0 0 v4.length), (1, .int .i64 a2), (2, .int .i64 a3), (3, .fn 17 []), (8, .int .i64 v1), (9, .int .i64 v3)], [(0, .arr 4 (List.map Edt.av v4))], 1⟩ from ?_)
    refine XA_seq_st fun R11 hR11 => ?_
    refine XA_seq_st fun R12 hR12 => ?_
    obtain ⟨y1, hy1, h⟩ := ob_some h
    refine XA_regd_to mix ⟨[(0, .os 0 0 v4.length), (1, .int .i64 a2), (2, .int .i64 a3), (3, .fn 17 []), (8, .int .i64 v1), (9, .int .i64 v3), (34, .bool y1)], [(0, .arr 4 (List.map Edt.av v4))], 1⟩ (fun K hK => ?_) (fun s hs => ?_)
    · refine runsD_cut 4 fun K1 hK1 => ?_
      simp only [go_sem, Nat.reduceBEq, Nat.reduceLT, Nat.reduceLeDiff, Nat.reduceEqDiff, Nat.reduceAdd, Nat.reduceSub, Nat.reduceMul, Int.reduceBEq, Int.reduceBNe, Int.reduceLT, Int.reduceLE, Int.reduceEq, Int.reduceGT, Int.reduceAdd, Int.reduceSub, Int.reduceNeg, Int.reduceToNat, reduceCtorEq, reduceIte]
      refine hK1 _ ?_
      simp only [List.take_succ_cons, List.take_zero, List.drop_succ_cons, List.drop_zero]
      rcases bool_or (decide (v3 > a2)) with g2 | g2
      · rw [g2, cond_true] at hy1
        obtain ⟨x1, hx1, hy1⟩ := ob_some hy1
        have ix1 := rd_in hx1
        have gx1 := rd_get hx1
        try simp only [Int.reduceToNat, Int.toNat_natCast] at gx1
        obtain ⟨x2, hx2, hy1⟩ := ob_some hy1
        have ix2 := rd_in hx2
        have gx2 := rd_get hx2
        try simp only [Int.reduceToNat, Int.toNat_natCast] at gx2
        obtain ⟨r1, hr1, hy1⟩ := ob_some hy1
        refine runsD_cut 10 fun K2 hK2 => ?_
        simp only [go_sem, Nat.reduceBEq, Nat.reduceLT, Nat.reduceLeDiff, Nat.reduceEqDiff, Nat.reduceAdd, Nat.reduceSub, Nat.reduceMul, Int.reduceBEq, Int.reduceBNe, Int.reduceLT, Int.reduceLE, Int.reduceEq, Int.reduceGT, Int.reduceAdd, Int.reduceSub, Int.reduceNeg, Int.reduceToNat, reduceCtorEq, reduceIte, ix1, gx1, ix2, gx2, g2]
        refine hK2 _ ?_
        simp only [List.take_succ_cons, List.take_zero, List.drop_succ_cons, List.drop_zero]
        refine runsD_callv rfl rfl (by simp only [go_sem, Nat.reduceBEq, Nat.reduceLT, Nat.reduceLeDiff, Nat.reduceEqDiff, Nat.reduceAdd, Nat.reduceSub, Nat.reduceMul, Int.reduceBEq, Int.reduceBNe, Int.reduceLT, Int.reduceLE, Int.reduceEq, Int.reduceGT, Int.reduceAdd, Int.reduceSub, Int.reduceNeg, Int.reduceToNat, reduceCtorEq, reduceIte, ix1, gx1, ix2, gx2, g2]) rfl (CallP.wk (CallP_of [] _ _ (.of Tryd.func17 (by kernel_rfl)) (ok_order hr1) (by simp only [go_sem, Nat.reduceBEq, Nat.reduceLT, Nat.reduceLeDiff, Nat.reduceEqDiff, Nat.reduceAdd, Nat.reduceSub, Nat.reduceMul, Int.reduceBEq, Int.reduceBNe, Int.reduceLT, Int.reduceLE, Int.reduceEq, Int.reduceGT, Int.reduceAdd, Int.reduceSub, Int.reduceNeg, Int.reduceToNat, reduceCtorEq, reduceIte, ix1, gx1, ix2, gx2, g2]) (by simp only [push_cast, Nat.reduceEqDiff, Nat.reduceAdd, reduceCtorEq, reduceIte, entStore, g2]) rfl (by decide) ?_ (by rintro _ _ _ ⟨hv, _⟩; cases hv)))
        rintro _ _ _ ⟨hv, rfl, rfl⟩
        cases hv
        refine ⟨by simp only [go_sem, Nat.reduceBEq, Nat.reduceLT, Nat.reduceLeDiff, Nat.reduceEqDiff, Nat.reduceAdd, Nat.reduceSub, Nat.reduceMul, Int.reduceBEq, Int.reduceBNe, Int.reduceLT, Int.reduceLE, Int.reduceEq, Int.reduceGT, Int.reduceAdd, Int.reduceSub, Int.reduceNeg, Int.reduceToNat, reduceCtorEq, reduceIte, ix1, gx1, ix2, gx2, g2], ?_⟩
        have hy := Option.some.inj hy1
        subst hy
        simp only [go_sem, Nat.reduceBEq, Nat.reduceLT, Nat.reduceLeDiff, Nat.reduceEqDiff, Nat.reduceAdd, Nat.reduceSub, Nat.reduceMul, Int.reduceBEq, Int.reduceBNe, Int.reduceLT, Int.reduceLE, Int.reduceEq, Int.reduceGT, Int.reduceAdd, Int.reduceSub, Int.reduceNeg, Int.reduceToNat, reduceCtorEq, reduceIte, ix1, gx1, ix2, gx2, g2]
        exact hK _ (St.ent_by [0] rfl (Nat.le_of_ble_eq_true rfl) rfl (by decide) (by simp only [push_cast, Nat.reduceEqDiff, Nat.reduceAdd, reduceCtorEq, reduceIte, g2]) (by simp only [push_cast, Nat.reduceEqDiff, Nat.reduceAdd, reduceCtorEq, reduceIte, g2]))
      · rw [g2, cond_false] at hy1
        have hy := Option.some.inj hy1
        subst hy
        simp only [go_sem, Nat.reduceBEq, Nat.reduceLT, Nat.reduceLeDiff, Nat.reduceEqDiff, Nat.reduceAdd, Nat.reduceSub, Nat.reduceMul, Int.reduceBEq, Int.reduceBNe, Int.reduceLT, Int.reduceLE, Int.reduceEq, Int.reduceGT, Int.reduceAdd, Int.reduceSub, Int.reduceNeg, Int.reduceToNat, reduceCtorEq, reduceIte, g2]
        exact hK _ (St.ent_by [0] rfl (Nat.le_of_ble_eq_true rfl) rfl (by decide) (by simp only [push_cast, Nat.reduceEqDiff, Nat.reduceAdd, reduceCtorEq, reduceIte, g2]) (by simp only [push_cast, Nat.reduceEqDiff, Nat.reduceAdd, reduceCtorEq, reduceIte, g2]))
    refine dN_seq hR12 (XA_ent hs ?_)
    refine XA_cond (t := y1) rfl (fun g3 => ?_) (fun g3 => ?_)
    · rw [g3, cond_true] at h
      refine XA_skip ?_
      refine dN_seq hR11 ?_
      refine XA_seq_st fun R13 hR13 => ?_
      refine XA_block_st fun R14 hR14 => ?_
      obtain ⟨x3, hx3, h⟩ := ob_some h
      have ix3 := rd_in hx3
      have gx3 := rd_get hx3
      try simp only [Int.reduceToNat, Int.toNat_natCast] at gx3
      obtain ⟨x4, hx4, h⟩ := ob_some h
      have ix4 := rd_in hx4
      have gx4 := rd_get hx4
      try simp only [Int.reduceToNat, Int.toNat_natCast] at gx4
      obtain ⟨x5, hx5, h⟩ := ob_some h
      have ix5 := rd_in hx5
      have gx5 := rd_get hx5
      try simp only [Int.reduceToNat, Int.toNat_natCast] at gx5
      have ex5 : (List.map Edt.av (v4.set v3.toNat x3))[(IntKind.i64.wrap (v3 - 1)).toNat]? = some (Edt.av x5) := by rw [List.getElem?_map, gx5]; rfl
      try simp only [push_cast] at ex5
      refine XA_regd_to mix ⟨[(0, .os 0 0 (((v4.set v3.toNat x3).set ((IntKind.i64.wrap (v3 - 1)).toNat) x4).length)), (1, .int .i64 a2), (2, .int .i64 a3), (3, .fn 17 []), (8, .int .i64 v1), (9, .int .i64 v3)], [(0, .arr 4 (List.map Edt.av ((v4.set v3.toNat x3).set ((IntKind.i64.wrap (v3 - 1)).toNat) x4)))], 1⟩ (fun K hK => ?_) (fun s hs => ?_)
      · simp only [go_sem, Nat.reduceBEq, Nat.reduceLT, Nat.reduceLeDiff, Nat.reduceEqDiff, Nat.reduceAdd, Nat.reduceSub, Nat.reduceMul, Int.reduceBEq, Int.reduceBNe, Int.reduceLT, Int.reduceLE, Int.reduceEq, Int.reduceGT, Int.reduceAdd, Int.reduceSub, Int.reduceNeg, Int.reduceToNat, reduceCtorEq, reduceIte, ix3, gx3, ix4, gx4, ix5, gx5, ex5]
        exact hK _ (St.ent_by [0] rfl (Nat.le_of_ble_eq_true rfl) rfl (by decide) (by simp only [push_cast, Nat.reduceEqDiff, Nat.reduceAdd, reduceCtorEq, reduceIte]) (by simp only [push_cast, Nat.reduceEqDiff, Nat.reduceAdd, reduceCtorEq, reduceIte]))
      refine dN_block hR14 ?_
      refine dN_seq hR13 (XA_ent hs ?_)
      refine XA_reg_g ?_
      refine RG_end ⟨[(0, .os 0 0 (((v4.set v3.toNat x3).set ((IntKind.i64.wrap (v3 - 1)).toNat) x4).length)), (1, .int .i64 a2), (2, .int .i64 a3), (3, .fn 17 []), (8, .int .i64 v1), (9, .int .i64 (IntKind.i64.wrap (v3 - 1)))], [(0, .arr 4 (List.map Edt.av ((v4.set v3.toNat x3).set ((IntKind.i64.wrap (v3 - 1)).toNat) x4)))], 1⟩ (fun K hK => ?_) (fun s hs => ?_)
      · simp only [go_sem, Nat.reduceBEq, Nat.reduceLT, Nat.reduceLeDiff, Nat.reduceEqDiff, Nat.reduceAdd, Nat.reduceSub, Nat.reduceMul, Int.reduceBEq, Int.reduceBNe, Int.reduceLT, Int.reduceLE, Int.reduceEq, Int.reduceGT, Int.reduceAdd, Int.reduceSub, Int.reduceNeg, Int.reduceToNat, reduceCtorEq, reduceIte]
        exact hK _ (St.ent_by [0] rfl (Nat.le_of_ble_eq_true rfl) rfl (by decide) (by simp only [push_cast, Nat.reduceEqDiff, Nat.reduceAdd, reduceCtorEq, reduceIte]) (by simp only [push_cast, Nat.reduceEqDiff, Nat.reduceAdd, reduceCtorEq, reduceIte]))
      exact dN_seq hR10 ⟨((IntKind.i64.wrap (v3 - 1)), ((v4.set v3.toNat x3).set ((IntKind.i64.wrap (v3 - 1)).toNat) x4)), (hs.trans (St.ent_by [0] rfl (Nat.le_of_ble_eq_true rfl) rfl (by decide) (by simp only [push_cast, Nat.reduceEqDiff, Nat.reduceAdd, reduceCtorEq, reduceIte]) (by simp only [push_cast, Nat.reduceEqDiff, Nat.reduceAdd, reduceCtorEq, reduceIte]))), h⟩
    · rw [g3, cond_false] at h
      refine XA_exit ?_
      refine dX_seq hR11 ?_
      refine dX_seq hR10 ?_
      refine dE_block hR9 ?_
      refine dN_block hR7 ?_
      refine dN_seq hR6 ?_
      refine XA_reg_g ?_
      refine RG_end ⟨[(0, .os 0 0 v4.length), (1, .int .i64 a2), (2, .int .i64 a3), (3, .fn 17 []), (8, .int .i64 (IntKind.i64.wrap (v1 + 1)))], [(0, .arr 4 (List.map Edt.av v4))], 1⟩ (fun K hK => ?_) (fun s hs => ?_)
      · simp only [go_sem, Nat.reduceBEq, Nat.reduceLT, Nat.reduceLeDiff, Nat.reduceEqDiff, Nat.reduceAdd, Nat.reduceSub, Nat.reduceMul, Int.reduceBEq, Int.reduceBNe, Int.reduceLT, Int.reduceLE, Int.reduceEq, Int.reduceGT, Int.reduceAdd, Int.reduceSub, Int.reduceNeg, Int.reduceToNat, reduceCtorEq, reduceIte]
        exact hK _ (St.ent_by [0] rfl (Nat.le_of_ble_eq_true rfl) rfl (by decide) (by simp only [push_cast, Nat.reduceEqDiff, Nat.reduceAdd, reduceCtorEq, reduceIte]) (by simp only [push_cast, Nat.reduceEqDiff, Nat.reduceAdd, reduceCtorEq, reduceIte]))
      exact dN_seq hR3 ⟨((IntKind.i64.wrap (v1 + 1)), v4), (hs.trans (St.ent_by [0] rfl (Nat.le_of_ble_eq_true rfl) rfl (by decide) (by simp only [push_cast, Nat.reduceEqDiff, Nat.reduceAdd, reduceCtorEq, reduceIte]) (by simp only [push_cast, Nat.reduceEqDiff, Nat.reduceAdd, reduceCtorEq, reduceIte]))), h⟩
  · rw [g1, cond_false] at h
    refine XA_exit ?_
    refine dX_seq hR4 ?_
    refine dX_seq hR3 ?_
    refine dE_block hR2 ?_
    refine hR0 _ _ ⟨_, St.ent_self, EndPost_normal (v := .tup []) (by simp only [go_sem, Nat.reduceBEq, Nat.reduceLT, Nat.reduceLeDiff, Nat.reduceEqDiff, Nat.reduceAdd, Nat.reduceSub, Nat.reduceMul, Int.reduceBEq, Int.reduceBNe, Int.reduceLT, Int.reduceLE, Int.reduceEq, Int.reduceGT, Int.reduceAdd, Int.reduceSub, Int.reduceNeg, Int.reduceToNat, reduceCtorEq, reduceIte]) ?_⟩
    have h := Option.some.inj h; subst h
    exact (St.ent_by [0] rfl (Nat.le_of_ble_eq_true rfl) rfl (by decide) (by simp only [push_cast, Nat.reduceEqDiff, Nat.reduceAdd, reduceCtorEq, reduceIte]) (by simp only [push_cast, Nat.reduceEqDiff, Nat.reduceAdd, reduceCtorEq, reduceIte]))

theorem insSort_len {fuel : Nat} {a1 : List Edt} {a2 a3 : Int} {r : List Edt} (h : insSort fuel a1 a2 a3 = some r) : r.length = a1.length := by
  unfold insSort at h
  exact loopF_ind (Q := fun v (r : List Edt) => r.length = v.2.length) (fun again v r ih h => by
    unfold insSort_b1 at h
    rcases bool_or (decide (v.1 < a3)) with g | g
    · rw [g, cond_true] at h
      exact loopF_ind (Q := fun w (r : List Edt) => r.length = w.2.length) (fun again2 w r ih2 h => by
        unfold insSort_b2 at h
        obtain ⟨y, hy, h⟩ := ob_some h
        cases y with
        | false => rw [cond_false] at h; have := ih _ _ h; exact this
        | true =>
          rw [cond_true] at h
          obtain ⟨x3, _, h⟩ := ob_some h
          obtain ⟨x4, _, h⟩ := ob_some h
          obtain ⟨x5, _, h⟩ := ob_some h
          have := ih2 _ _ h
          simpa using this) _ _ _ h
    · rw [g, cond_false] at h; cases h; rfl) _ _ _ h


def stable_j1 (again2 : Int → Option ((List Edt))) (v4 : Int) : Option ((List Edt)) :=
  (again2 (IntKind.i64.wrap (v4 * 2)))

def stable_b3 (v4 : Int) (a2 : Int) (again2 : Int → Option ((List Edt))) (again3 : Unit → Option ((List Edt))) : Option ((List Edt)) :=
  (cond (decide ((IntKind.i64.wrap (2 * v4)) ≤ a2)) none (cond (decide ((IntKind.i64.wrap (0 + v4)) < a2)) none (stable_j1 again2 v4)))

def stable_b2 (a2 : Int) (fuel : Nat) (r2 : (List Edt)) (again2 : Int → Option ((List Edt))) (v4 : Int) : Option ((List Edt)) :=
  (cond (decide (v4 < a2)) (loopF (fun again3 v => stable_b3 v4 a2 again2 again3) fuel ()) (some r2))

def stable_b1 (a2 : Int) (fuel : Nat) (again1 : (Int × Int × (List Edt)) → Option ((List Edt))) (v1 : Int) (v2 : Int) (v3 : List Edt) : Option ((List Edt)) :=
  (cond (decide (v2 ≤ a2)) (ob (insSort fuel v3 v1 v2) fun r1 => (again1 (v2, (IntKind.i64.wrap (v2 + 20)), r1))) (ob (insSort fuel v3 v1 a2) fun r2 => (loopF (fun again2 v => stable_b2 a2 fuel r2 again2 v) fuel 20)))

def stable (fuel : Nat) (a1 : List Edt) (a2 : Int) : Option ((List Edt)) :=
  (loopF (fun again1 v => stable_b1 a2 fuel again1 v.1 v.2.1 v.2.2) fuel (0, 20, a1))

theorem ok_stable {fuel : Nat} {a1 : List Edt} {a2 : Int} {r : (List Edt)} (h : stable fuel a1 a2 = some r) : FnOk Tryd.prog 23 [.os 0 0 a1.length, .int .i64 a2, .fn 17 []] [(0, .arr 4 (List.map Edt.av a1))] 1 (fun q s k => q = .ret (.tup []) ∧ s = [(0, .arr 4 (List.map Edt.av r))] ∧ k = 1) := by
  refine Fn_by Tryd.func23 Tryd.ntmps23 Tryd.cc23 (Nat.le_of_ble_eq_true rfl) (rs := []) (by kernel_rfl) (fun R0 hR0 => ?_)
  unfold stable at h
  unfold Tryd.ac23
  refine (show XA _ _ _ _ ⟨[(0, .os 0 0 a1.length), (1, .int .i64 a2), (2, .fn 17 [])], [(0, .arr 4 (List.map Edt.av a1))], 1⟩ from ?_)
  refine XA_seq_st fun R1 hR1 => ?_
  refine XA_reg_g ?_
  refine RG_end ⟨[(0, .os 0 0 a1.length), (1, .int .i64 a2), (2, .fn 17 []), (6, .int .i64 20)], [(0, .arr 4 (List.map Edt.av a1))], 1⟩ (fun K hK => ?_) (fun s hs => ?_)
  · simp only [go_sem, Nat.reduceBEq, Nat.reduceLT, Nat.reduceLeDiff, Nat.reduceEqDiff, Nat.reduceAdd, Nat.reduceSub, Nat.reduceMul, Int.reduceBEq, Int.reduceBNe, Int.reduceLT, Int.reduceLE, Int.reduceEq, Int.reduceGT, Int.reduceAdd, Int.reduceSub, Int.reduceNeg, Int.reduceToNat, reduceCtorEq, reduceIte]
    exact hK _ (St.ent_by [0] rfl (Nat.le_of_ble_eq_true rfl) rfl (by decide) (by simp only [push_cast, Nat.reduceEqDiff, Nat.reduceAdd, reduceCtorEq, reduceIte]) (by simp only [push_cast, Nat.reduceEqDiff, Nat.reduceAdd, reduceCtorEq, reduceIte]))
  refine dN_seq hR1 (XA_ent hs ?_)
  refine XA_seq_st fun R2 hR2 => ?_
  refine XA_reg_g ?_
  refine RG_end ⟨[(0, .os 0 0 a1.length), (1, .int .i64 a2), (2, .fn 17 []), (6, .int .i64 20), (7, .int .i64 0), (8, .int .i64 20)], [(0, .arr 4 (List.map Edt.av a1))], 1⟩ (fun K hK => ?_) (fun s hs => ?_)
  · simp only [go_sem, Nat.reduceBEq, Nat.reduceLT, Nat.reduceLeDiff, Nat.reduceEqDiff, Nat.reduceAdd, Nat.reduceSub, Nat.reduceMul, Int.reduceBEq, Int.reduceBNe, Int.reduceLT, Int.reduceLE, Int.reduceEq, Int.reduceGT, Int.reduceAdd, Int.reduceSub, Int.reduceNeg, Int.reduceToNat, reduceCtorEq, reduceIte]
    exact hK _ (St.ent_by [0] rfl (Nat.le_of_ble_eq_true rfl) rfl (by decide) (by simp only [push_cast, Nat.reduceEqDiff, Nat.reduceAdd, reduceCtorEq, reduceIte]) (by simp only [push_cast, Nat.reduceEqDiff, Nat.reduceAdd, reduceCtorEq, reduceIte]))
  refine dN_seq hR2 (XA_ent hs ?_)
  refine XA_seq_st fun R3 hR3 => ?_
  refine XA_block_st fun R4 hR4 => ?_
  refine XA_loop_by (T := fun v : Int × Int × (List Edt) => ⟨[(0, .os 0 0 v.2.2.length), (1, .int .i64 a2), (2, .fn 17 []), (6, .int .i64 20), (7, .int .i64 v.1), (8, .int .i64 v.2.1)], [(0, .arr 4 (List.map Edt.av v.2.2))], 1⟩) (fuel := fuel) h (St.ent_by [0] rfl (Nat.le_of_ble_eq_true rfl) rfl (by decide) (by simp only [push_cast, Nat.reduceEqDiff, Nat.reduceAdd, reduceCtorEq, reduceIte]) (by simp only [push_cast, Nat.reduceEqDiff, Nat.reduceAdd, reduceCtorEq, reduceIte])) (fun again1 v h R5 hR5 => ?_)
  rcases v with ⟨v1, v2, v3⟩
  replace h : stable_b1 a2 fuel again1 v1 v2 v3 = some r := h
  unfold stable_b1 at h
  refine (show XA _ _ _ _ ⟨[(0, .os 0 0 v3.length), (1, .int .i64 a2), (2, .fn 17 []), (6, .int .i64 20), (7, .int .i64 v1), (8, .int .i64 v2)], [(0, .arr 4 (List.map Edt.av v3))], 1⟩ from ?_)
  refine XA_seq_st fun R6 hR6 => ?_
  refine XA_seq_st fun R7 hR7 => ?_
  refine XA_reg_g ?_
  refine RG_end ⟨[(0, .os 0 0 v3.length), (1, .int .i64 a2), (2, .fn 17 []), (6, .int .i64 20), (7, .int .i64 v1), (8, .int .i64 v2), (13, .bool (decide (v2 ≤ a2)))], [(0, .arr 4 (List.map Edt.av v3))], 1⟩ (fun K hK => ?_) (fun s hs => ?_)
  · simp only [go_sem, Nat.reduceBEq, Nat.reduceLT, Nat.reduceLeDiff, Nat.reduceEqDiff, Nat.reduceAdd, Nat.reduceSub, Nat.reduceMul, Int.reduceBEq, Int.reduceBNe, Int.reduceLT, Int.reduceLE, Int.reduceEq, Int.reduceGT, Int.reduceAdd, Int.reduceSub, Int.reduceNeg, Int.reduceToNat, reduceCtorEq, reduceIte]
    exact hK _ (St.ent_by [0] rfl (Nat.le_of_ble_eq_true rfl) rfl (by decide) (by simp only [push_cast, Nat.reduceEqDiff, Nat.reduceAdd, reduceCtorEq, reduceIte]) (by simp only [push_cast, Nat.reduceEqDiff, Nat.reduceAdd, reduceCtorEq, reduceIte]))
  refine dN_seq hR7 (XA_ent hs ?_)
  refine XA_cond (t := (decide (v2 ≤ a2))) rfl (fun g1 => ?_) (fun g1 => ?_)
  · rw [g1, cond_true] at h
    refine XA_skip ?_
    refine dN_seq hR6 ?_
    refine XA_block_st fun R8 hR8 => ?_
    refine XA_seq_st fun R9 hR9 => ?_
    refine XA_reg_g ?_
    obtain ⟨r1, hr1, h⟩ := ob_some h
    have lr1 := insSort_len hr1
    refine RG_end ⟨[(0, .os 0 0 r1.length), (1, .int .i64 a2), (2, .fn 17 []), (6, .int .i64 20), (8, .int .i64 v2)], [(0, .arr 4 (List.map Edt.av r1))], 1⟩ (fun K hK => ?_) (fun s hs => ?_)
    · refine runs_cut 4 fun K1 hK1 => ?_
      simp only [go_sem, Nat.reduceBEq, Nat.reduceLT, Nat.reduceLeDiff, Nat.reduceEqDiff, Nat.reduceAdd, Nat.reduceSub, Nat.reduceMul, Int.reduceBEq, Int.reduceBNe, Int.reduceLT, Int.reduceLE, Int.reduceEq, Int.reduceGT, Int.reduceAdd, Int.reduceSub, Int.reduceNeg, Int.reduceToNat, reduceCtorEq, reduceIte]
      refine hK1 _ ?_
      simp only [List.take_succ_cons, List.take_zero, List.drop_succ_cons, List.drop_zero]
      refine runs_call rfl rfl (CallP.wk (CallP_of [0] _ _ (.of Tryd.func31 (by kernel_rfl)) (ok_insSort hr1) (by simp only [go_sem, Nat.reduceBEq, Nat.reduceLT, Nat.reduceLeDiff, Nat.reduceEqDiff, Nat.reduceAdd, Nat.reduceSub, Nat.reduceMul, Int.reduceBEq, Int.reduceBNe, Int.reduceLT, Int.reduceLE, Int.reduceEq, Int.reduceGT, Int.reduceAdd, Int.reduceSub, Int.reduceNeg, Int.reduceToNat, reduceCtorEq, reduceIte]) (by simp only [push_cast, Nat.reduceEqDiff, Nat.reduceAdd, reduceCtorEq, reduceIte, entStore]) rfl (by decide) ?_ (by rintro _ _ _ ⟨hv, _⟩; cases hv)))
      rintro _ _ _ ⟨hv, rfl, rfl⟩
      cases hv
      simp only [go_sem, Nat.reduceBEq, Nat.reduceLT, Nat.reduceLeDiff, Nat.reduceEqDiff, Nat.reduceAdd, Nat.reduceSub, Nat.reduceMul, Int.reduceBEq, Int.reduceBNe, Int.reduceLT, Int.reduceLE, Int.reduceEq, Int.reduceGT, Int.reduceAdd, Int.reduceSub, Int.reduceNeg, Int.reduceToNat, reduceCtorEq, reduceIte, lr1]
      exact hK _ (St.ent_by [0] rfl (Nat.le_of_ble_eq_true rfl) rfl (by decide) (by simp only [push_cast, Nat.reduceEqDiff, Nat.reduceAdd, reduceCtorEq, reduceIte, lr1]) (by simp only [push_cast, Nat.reduceEqDiff, Nat.reduceAdd, reduceCtorEq, reduceIte, lr1]))
    refine dN_seq hR9 (XA_ent hs ?_)
    refine XA_seq_st fun R10 hR10 => ?_
    refine XA_reg_g ?_
    refine RG_end ⟨[(0, .os 0 0 r1.length), (1, .int .i64 a2), (2, .fn 17 []), (6, .int .i64 20), (7, .int .i64 v2), (8, .int .i64 v2)], [(0, .arr 4 (List.map Edt.av r1))], 1⟩ (fun K hK => ?_) (fun s hs => ?_)
    · simp only [go_sem, Nat.reduceBEq, Nat.reduceLT, Nat.reduceLeDiff, Nat.reduceEqDiff, Nat.reduceAdd, Nat.reduceSub, Nat.reduceMul, Int.reduceBEq, Int.reduceBNe, Int.reduceLT, Int.reduceLE, Int.reduceEq, Int.reduceGT, Int.reduceAdd, Int.reduceSub, Int.reduceNeg, Int.reduceToNat, reduceCtorEq, reduceIte, lr1]
      exact hK _ (St.ent_by [0] rfl (Nat.le_of_ble_eq_true rfl) rfl (by decide) (by simp only [push_cast, Nat.reduceEqDiff, Nat.reduceAdd, reduceCtorEq, reduceIte, lr1]) (by simp only [push_cast, Nat.reduceEqDiff, Nat.reduceAdd, reduceCtorEq, reduceIte, lr1]))
    refine dN_seq hR10 (XA_ent hs ?_)
    refine XA_reg_g ?_
    refine RG_end ⟨[(0, .os 0 0 r1.length), (1, .int .i64 a2), (2, .fn 17 []), (6, .int .i64 20), (7, .int .i64 v2), (8, .int .i64 (IntKind.i64.wrap (v2 + 20)))], [(0, .arr 4 (List.map Edt.av r1))], 1⟩ (fun K hK => ?_) (fun s hs => ?_)
    · simp only [go_sem, Nat.reduceBEq, Nat.reduceLT, Nat.reduceLeDiff, Nat.reduceEqDiff, Nat.reduceAdd, Nat.reduceSub, Nat.reduceMul, Int.reduceBEq, Int.reduceBNe, Int.reduceLT, Int.reduceLE, Int.reduceEq, Int.reduceGT, Int.reduceAdd, Int.reduceSub, Int.reduceNeg, Int.reduceToNat, reduceCtorEq, reduceIte, lr1]
      exact hK _ (St.ent_by [0] rfl (Nat.le_of_ble_eq_true rfl) rfl (by decide) (by simp only [push_cast, Nat.reduceEqDiff, Nat.reduceAdd, reduceCtorEq, reduceIte, lr1]) (by simp only [push_cast, Nat.reduceEqDiff, Nat.reduceAdd, reduceCtorEq, reduceIte, lr1]))
    refine dN_block hR8 ?_
    exact dN_seq hR5 ⟨(v2, (IntKind.i64.wrap (v2 + 20)), r1), (hs.trans (St.ent_by [0] rfl (Nat.le_of_ble_eq_true rfl) rfl (by decide) (by simp only [push_cast, Nat.reduceEqDiff, Nat.reduceAdd, reduceCtorEq, reduceIte, lr1]) (by simp only [push_cast, Nat.reduceEqDiff, Nat.reduceAdd, reduceCtorEq, reduceIte, lr1]))), h⟩
  · rw [g1, cond_false] at h
    refine XA_exit ?_
    refine dX_seq hR6 ?_
    refine dX_seq hR5 ?_
    refine dE_block hR4 ?_
    refine dN_seq hR3 ?_
    refine XA_seq_st fun R11 hR11 => ?_
    refine XA_reg_g ?_
    obtain ⟨r2, hr2, h⟩ := ob_some h
    have lr2 := insSort_len hr2
    refine RG_end ⟨[(0, .os 0 0 r2.length), (1, .int .i64 a2), (2, .fn 17 []), (6, .int .i64 20)], [(0, .arr 4 (List.map Edt.av r2))], 1⟩ (fun K hK => ?_) (fun s hs => ?_)
    · refine runs_cut 4 fun K2 hK2 => ?_
      simp only [go_sem, Nat.reduceBEq, Nat.reduceLT, Nat.reduceLeDiff, Nat.reduceEqDiff, Nat.reduceAdd, Nat.reduceSub, Nat.reduceMul, Int.reduceBEq, Int.reduceBNe, Int.reduceLT, Int.reduceLE, Int.reduceEq, Int.reduceGT, Int.reduceAdd, Int.reduceSub, Int.reduceNeg, Int.reduceToNat, reduceCtorEq, reduceIte]
      refine hK2 _ ?_
      simp only [List.take_succ_cons, List.take_zero, List.drop_succ_cons, List.drop_zero]
      refine runs_call rfl rfl (CallP.wk (CallP_of [0] _ _ (.of Tryd.func31 (by kernel_rfl)) (ok_insSort hr2) (by simp only [go_sem, Nat.reduceBEq, Nat.reduceLT, Nat.reduceLeDiff, Nat.reduceEqDiff, Nat.reduceAdd, Nat.reduceSub, Nat.reduceMul, Int.reduceBEq, Int.reduceBNe, Int.reduceLT, Int.reduceLE, Int.reduceEq, Int.reduceGT, Int.reduceAdd, Int.reduceSub, Int.reduceNeg, Int.reduceToNat, reduceCtorEq, reduceIte]) (by simp only [push_cast, Nat.reduceEqDiff, Nat.reduceAdd, reduceCtorEq, reduceIte, entStore]) rfl (by decide) ?_ (by rintro _ _ _ ⟨hv, _⟩; cases hv)))
      rintro _ _ _ ⟨hv, rfl, rfl⟩
      cases hv
      simp only [go_sem, Nat.reduceBEq, Nat.reduceLT, Nat.reduceLeDiff, Nat.reduceEqDiff, Nat.reduceAdd, Nat.reduceSub, Nat.reduceMul, Int.reduceBEq, Int.reduceBNe, Int.reduceLT, Int.reduceLE, Int.reduceEq, Int.reduceGT, Int.reduceAdd, Int.reduceSub, Int.reduceNeg, Int.reduceToNat, reduceCtorEq, reduceIte, lr2]
      exact hK _ (St.ent_by [0] rfl (Nat.le_of_ble_eq_true rfl) rfl (by decide) (by simp only [push_cast, Nat.reduceEqDiff, Nat.reduceAdd, reduceCtorEq, reduceIte, lr2]) (by simp only [push_cast, Nat.reduceEqDiff, Nat.reduceAdd, reduceCtorEq, reduceIte, lr2]))
    refine dN_seq hR11 (XA_ent hs ?_)
    refine XA_block_st fun R12 hR12 => ?_
    refine XA_loop_by (T := fun v : Int => ⟨[(0, .os 0 0 r2.length), (1, .int .i64 a2), (2, .fn 17 []), (6, .int .i64 v)], [(0, .arr 4 (List.map Edt.av r2))], 1⟩) (fuel := fuel) h (St.ent_by [0] rfl (Nat.le_of_ble_eq_true rfl) rfl (by decide) (by simp only [push_cast, Nat.reduceEqDiff, Nat.reduceAdd, reduceCtorEq, reduceIte, lr2]) (by simp only [push_cast, Nat.reduceEqDiff, Nat.reduceAdd, reduceCtorEq, reduceIte, lr2])) (fun again2 v h R13 hR13 => ?_)
    revert h; generalize v = v4; intro h
    replace h : stable_b2 a2 fuel r2 again2 v4 = some r := h
    unfold stable_b2 at h
    refine (show XA _ _ _ _ ⟨[(0, .os 0 0 r2.length), (1, .int .i64 a2), (2, .fn 17 []), (6, .int .i64 v4)], [(0, .arr 4 (List.map Edt.av r2))], 1⟩ from ?_)
    refine XA_seq_st fun R14 hR14 => ?_
    refine XA_seq_st fun R15 hR15 => ?_
    refine XA_reg_g ?_
    refine RG_end ⟨[(0, .os 0 0 r2.length), (1, .int .i64 a2), (2, .fn 17 []), (6, .int .i64 v4), (30, .bool (decide (v4 < a2)))], [(0, .arr 4 (List.map Edt.av r2))], 1⟩ (fun K hK => ?_) (fun s hs => ?_)
    · simp only [go_sem, Nat.reduceBEq, Nat.reduceLT, Nat.reduceLeDiff, Nat.reduceEqDiff, Nat.reduceAdd, Nat.reduceSub, Nat.reduceMul, Int.reduceBEq, Int.reduceBNe, Int.reduceLT, Int.reduceLE, Int.reduceEq, Int.reduceGT, Int.reduceAdd, Int.reduceSub, Int.reduceNeg, Int.reduceToNat, reduceCtorEq, reduceIte, lr2]
      exact hK _ (St.ent_by [0] rfl (Nat.le_of_ble_eq_true rfl) rfl (by decide) (by simp only [push_cast, Nat.reduceEqDiff, Nat.reduceAdd, reduceCtorEq, reduceIte, lr2]) (by simp only [push_cast, Nat.reduceEqDiff, Nat.reduceAdd, reduceCtorEq, reduceIte, lr2]))
    refine dN_seq hR15 (XA_ent hs ?_)
    refine XA_cond (t := (decide (v4 < a2))) rfl (fun g2 => ?_) (fun g2 => ?_)
    · rw [g2, cond_true] at h
      refine XA_skip ?_
      refine dN_seq hR14 ?_
      refine XA_block_st fun R16 hR16 => ?_
      refine XA_seq_st fun R17 hR17 => ?_
      refine XA_reg_g ?_
      refine RG_end ⟨[(0, .os 0 0 r2.length), (1, .int .i64 a2), (2, .fn 17 []), (6, .int .i64 v4), (7, .int .i64 0), (8, .int .i64 (IntKind.i64.wrap (2 * v4)))], [(0, .arr 4 (List.map Edt.av r2))], 1⟩ (fun K hK => ?_) (fun s hs => ?_)
      · simp only [go_sem, Nat.reduceBEq, Nat.reduceLT, Nat.reduceLeDiff, Nat.reduceEqDiff, Nat.reduceAdd, Nat.reduceSub, Nat.reduceMul, Int.reduceBEq, Int.reduceBNe, Int.reduceLT, Int.reduceLE, Int.reduceEq, Int.reduceGT, Int.reduceAdd, Int.reduceSub, Int.reduceNeg, Int.reduceToNat, reduceCtorEq, reduceIte, lr2]
        exact hK _ (St.ent_by [0] rfl (Nat.le_of_ble_eq_true rfl) rfl (by decide) (by simp only [push_cast, Nat.reduceEqDiff, Nat.reduceAdd, reduceCtorEq, reduceIte, lr2]) (by simp only [push_cast, Nat.reduceEqDiff, Nat.reduceAdd, reduceCtorEq, reduceIte, lr2]))
      refine dN_seq hR17 (XA_ent hs ?_)
      refine XA_seq_st fun R18 hR18 => ?_
      refine XA_block_st fun R19 hR19 => ?_
      refine XA_loop_by (T := fun v : Unit => ⟨[(0, .os 0 0 r2.length), (1, .int .i64 a2), (2, .fn 17 []), (6, .int .i64 v4), (7, .int .i64 0), (8, .int .i64 (IntKind.i64.wrap (2 * v4)))], [(0, .arr 4 (List.map Edt.av r2))], 1⟩) (fuel := fuel) h (St.ent_by [0] rfl (Nat.le_of_ble_eq_true rfl) rfl (by decide) (by simp only [push_cast, Nat.reduceEqDiff, Nat.reduceAdd, reduceCtorEq, reduceIte, lr2]) (by simp only [push_cast, Nat.reduceEqDiff, Nat.reduceAdd, reduceCtorEq, reduceIte, lr2])) (fun again3 v h R20 hR20 => ?_)
      replace h : stable_b3 v4 a2 again2 again3 = some r := h
      unfold stable_b3 at h
      refine (show XA _ _ _ _ ⟨[(0, .os 0 0 r2.length), (1, .int .i64 a2), (2, .fn 17 []), (6, .int .i64 v4), (7, .int .i64 0), (8, .int .i64 (IntKind.i64.wrap (2 * v4)))], [(0, .arr 4 (List.map Edt.av r2))], 1⟩ from ?_)
      refine XA_seq_st fun R21 hR21 => ?_
      refine XA_seq_st fun R22 hR22 => ?_
      refine XA_reg_g ?_
      refine RG_end ⟨[(0, .os 0 0 r2.length), (1, .int .i64 a2), (2, .fn 17 []), (6, .int .i64 v4), (7, .int .i64 0), (8, .int .i64 (IntKind.i64.wrap (2 * v4))), (35, .bool (decide ((IntKind.i64.wrap (2 * v4)) ≤ a2)))], [(0, .arr 4 (List.map Edt.av r2))], 1⟩ (fun K hK => ?_) (fun s hs => ?_)
      · simp only [go_sem, Nat.reduceBEq, Nat.reduceLT, Nat.reduceLeDiff, Nat.reduceEqDiff, Nat.reduceAdd, Nat.reduceSub, Nat.reduceMul, Int.reduceBEq, Int.reduceBNe, Int.reduceLT, Int.reduceLE, Int.reduceEq, Int.reduceGT, Int.reduceAdd, Int.reduceSub, Int.reduceNeg, Int.reduceToNat, reduceCtorEq, reduceIte, lr2]
        exact hK _ (St.ent_by [0] rfl (Nat.le_of_ble_eq_true rfl) rfl (by decide) (by simp only [push_cast, Nat.reduceEqDiff, Nat.reduceAdd, reduceCtorEq, reduceIte, lr2]) (by simp only [push_cast, Nat.reduceEqDiff, Nat.reduceAdd, reduceCtorEq, reduceIte, lr2]))
      refine dN_seq hR22 (XA_ent hs ?_)
      refine XA_cond (t := (decide ((IntKind.i64.wrap (2 * v4)) ≤ a2))) rfl (fun g3 => ?_) (fun g3 => ?_)
      · rw [g3, cond_true] at h
        refine XA_skip ?_
        refine dN_seq hR21 ?_
        refine XA_block_st fun R23 hR23 => ?_
        refine XA_seq_st fun R24 hR24 => ?_
        refine XA_reg_g ?_
        cases h
      · rw [g3, cond_false] at h
        refine XA_exit ?_
        refine dX_seq hR21 ?_
        refine dX_seq hR20 ?_
        refine dE_block hR19 ?_
        refine dN_seq hR18 ?_
        refine XA_seq_st fun R25 hR25 => ?_
        refine XA_seq_st fun R26 hR26 => ?_
        refine XA_reg_g ?_
        refine RG_end ⟨[(0, .os 0 0 r2.length), (1, .int .i64 a2), (2, .fn 17 []), (6, .int .i64 v4), (7, .int .i64 0), (9, .int .i64 (IntKind.i64.wrap (0 + v4)))], [(0, .arr 4 (List.map Edt.av r2))], 1⟩ (fun K hK => ?_) (fun s hs => ?_)
        · simp only [go_sem, Nat.reduceBEq, Nat.reduceLT, Nat.reduceLeDiff, Nat.reduceEqDiff, Nat.reduceAdd, Nat.reduceSub, Nat.reduceMul, Int.reduceBEq, Int.reduceBNe, Int.reduceLT, Int.reduceLE, Int.reduceEq, Int.reduceGT, Int.reduceAdd, Int.reduceSub, Int.reduceNeg, Int.reduceToNat, reduceCtorEq, reduceIte, lr2]
          exact hK _ (St.ent_by [0] rfl (Nat.le_of_ble_eq_true rfl) rfl (by decide) (by simp only [push_cast, Nat.reduceEqDiff, Nat.reduceAdd, reduceCtorEq, reduceIte, lr2]) (by simp only [push_cast, Nat.reduceEqDiff, Nat.reduceAdd, reduceCtorEq, reduceIte, lr2]))
        refine dN_seq hR26 (XA_ent hs ?_)
        refine XA_seq_st fun R27 hR27 => ?_
        refine XA_reg_g ?_
        refine RG_end ⟨[(0, .os 0 0 r2.length), (1, .int .i64 a2), (2, .fn 17 []), (6, .int .i64 v4), (7, .int .i64 0), (9, .int .i64 (IntKind.i64.wrap (0 + v4))), (54, .bool (decide ((IntKind.i64.wrap (0 + v4)) < a2)))], [(0, .arr 4 (List.map Edt.av r2))], 1⟩ (fun K hK => ?_) (fun s hs => ?_)
        · simp only [go_sem, Nat.reduceBEq, Nat.reduceLT, Nat.reduceLeDiff, Nat.reduceEqDiff, Nat.reduceAdd, Nat.reduceSub, Nat.reduceMul, Int.reduceBEq, Int.reduceBNe, Int.reduceLT, Int.reduceLE, Int.reduceEq, Int.reduceGT, Int.reduceAdd, Int.reduceSub, Int.reduceNeg, Int.reduceToNat, reduceCtorEq, reduceIte, lr2]
          exact hK _ (St.ent_by [0] rfl (Nat.le_of_ble_eq_true rfl) rfl (by decide) (by simp only [push_cast, Nat.reduceEqDiff, Nat.reduceAdd, reduceCtorEq, reduceIte, lr2]) (by simp only [push_cast, Nat.reduceEqDiff, Nat.reduceAdd, reduceCtorEq, reduceIte, lr2]))
        refine dN_seq hR27 (XA_ent hs ?_)
        have hj1 : ∀ (_ : stable_j1 again2 v4 = some r) (s : St), St.ent ⟨63, 1⟩ s ⟨[(0, .os 0 0 r2.length), (1, .int .i64 a2), (2, .fn 17 []), (6, .int .i64 v4)], [(0, .arr 4 (List.map Edt.av r2))], 1⟩ → R25 .normal s := by
          intro h s hs
          unfold stable_j1 at h
          refine dN_seq hR25 (XA_ent hs ?_)
          refine XA_reg_g ?_
          refine RG_end ⟨[(0, .os 0 0 r2.length), (1, .int .i64 a2), (2, .fn 17 []), (6, .int .i64 (IntKind.i64.wrap (v4 * 2)))], [(0, .arr 4 (List.map Edt.av r2))], 1⟩ (fun K hK => ?_) (fun s hs => ?_)
          · simp only [go_sem, Nat.reduceBEq, Nat.reduceLT, Nat.reduceLeDiff, Nat.reduceEqDiff, Nat.reduceAdd, Nat.reduceSub, Nat.reduceMul, Int.reduceBEq, Int.reduceBNe, Int.reduceLT, Int.reduceLE, Int.reduceEq, Int.reduceGT, Int.reduceAdd, Int.reduceSub, Int.reduceNeg, Int.reduceToNat, reduceCtorEq, reduceIte, lr2]
            exact hK _ (St.ent_by [0] rfl (Nat.le_of_ble_eq_true rfl) rfl (by decide) (by simp only [push_cast, Nat.reduceEqDiff, Nat.reduceAdd, reduceCtorEq, reduceIte, lr2]) (by simp only [push_cast, Nat.reduceEqDiff, Nat.reduceAdd, reduceCtorEq, reduceIte, lr2]))
          refine dN_block hR16 ?_
          exact dN_seq hR13 ⟨(IntKind.i64.wrap (v4 * 2)), (hs.trans (St.ent_by [0] rfl (Nat.le_of_ble_eq_true rfl) rfl (by decide) (by simp only [push_cast, Nat.reduceEqDiff, Nat.reduceAdd, reduceCtorEq, reduceIte, lr2]) (by simp only [push_cast, Nat.reduceEqDiff, Nat.reduceAdd, reduceCtorEq, reduceIte, lr2]))), h⟩
        refine XA_cond (t := (decide ((IntKind.i64.wrap (0 + v4)) < a2))) rfl (fun g4 => ?_) (fun g4 => ?_)
        · rw [g4, cond_true] at h
          refine XA_reg_g ?_
          cases h
        · rw [g4, cond_false] at h
          refine XA_skip ?_
          exact hj1 h _ (St.ent_by [0] rfl (Nat.le_of_ble_eq_true rfl) rfl (by decide) (by simp only [push_cast, Nat.reduceEqDiff, Nat.reduceAdd, reduceCtorEq, reduceIte, lr2]) (by simp only [push_cast, Nat.reduceEqDiff, Nat.reduceAdd, reduceCtorEq, reduceIte, lr2]))
    · rw [g2, cond_false] at h
      refine XA_exit ?_
      refine dX_seq hR14 ?_
      refine dX_seq hR13 ?_
      refine dE_block hR12 ?_
      refine hR0 _ _ ⟨_, St.ent_self, EndPost_normal (v := .tup []) (by simp only [go_sem, Nat.reduceBEq, Nat.reduceLT, Nat.reduceLeDiff, Nat.reduceEqDiff, Nat.reduceAdd, Nat.reduceSub, Nat.reduceMul, Int.reduceBEq, Int.reduceBNe, Int.reduceLT, Int.reduceLE, Int.reduceEq, Int.reduceGT, Int.reduceAdd, Int.reduceSub, Int.reduceNeg, Int.reduceToNat, reduceCtorEq, reduceIte]) ?_⟩
      have h := Option.some.inj h; subst h
      exact (St.ent_by [0] rfl (Nat.le_of_ble_eq_true rfl) rfl (by decide) (by simp only [push_cast, Nat.reduceEqDiff, Nat.reduceAdd, reduceCtorEq, reduceIte, lr2]) (by simp only [push_cast, Nat.reduceEqDiff, Nat.reduceAdd, reduceCtorEq, reduceIte, lr2]))

theorem stable_len {fuel : Nat} {a1 : List Edt} {a2 : Int} {r : List Edt} (h : stable fuel a1 a2 = some r) : r.length = a1.length := by
  unfold stable at h
  exact loopF_ind (Q := fun v (r : List Edt) => r.length = v.2.2.length) (fun again v r ih h => by
    unfold stable_b1 at h
    rcases bool_or (decide (v.2.1 ≤ a2)) with g | g
    · rw [g, cond_true] at h
      obtain ⟨r1, h1, h⟩ := ob_some h
      have := ih _ _ h
      exact this.trans (insSort_len h1)
    · rw [g, cond_false] at h
      obtain ⟨r2, h2, h⟩ := ob_some h
      refine Eq.trans ?_ (insSort_len h2)
      refine loopF_ind (Q := fun _ (r : List Edt) => r.length = r2.length) (fun again2 w r ih2 h => ?_) _ _ _ h
      unfold stable_b2 at h
      rcases bool_or (decide (w < a2)) with g | g
      · rw [g, cond_true] at h
        exact loopF_ind (Q := fun _ (r : List Edt) => r.length = r2.length) (fun again3 _ r ih3 h => by
          unfold stable_b3 at h
          rcases bool_or (decide ((IntKind.i64.wrap (2 * w)) ≤ a2)) with g | g
          · rw [g, cond_true] at h; cases h
          · rw [g, cond_false] at h
            rcases bool_or (decide ((IntKind.i64.wrap (0 + w)) < a2)) with g | g
            · rw [g, cond_true] at h; cases h
            · rw [g, cond_false] at h; exact ih2 _ _ h) _ _ _ h
      · rw [g, cond_false] at h; cases h; rfl) _ _ _ h


def sortStable (fuel : Nat) (a1 : List Edt) : Option ((List Edt)) :=
  (ob (stable fuel a1 (a1.length : Int)) fun r1 => (some r1))

theorem ok_sortStable {fuel : Nat} {a1 : List Edt} {r : (List Edt)} (h : sortStable fuel a1 = some r) : FnOk Tryd.prog 16 [.os 0 0 a1.length, .fn 17 []] [(0, .arr 4 (List.map Edt.av a1))] 1 (fun q s k => q = .ret (.tup []) ∧ s = [(0, .arr 4 (List.map Edt.av r))] ∧ k = 1) := by
  refine Fn_by Tryd.func16 Tryd.ntmps16 Tryd.cc16 (Nat.le_of_ble_eq_true rfl) (rs := []) (by kernel_rfl) (fun R0 hR0 => ?_)
  unfold sortStable at h
  unfold Tryd.ac16
  refine (show XA _ _ _ _ ⟨[(0, .os 0 0 a1.length), (1, .fn 17 [])], [(0, .arr 4 (List.map Edt.av a1))], 1⟩ from ?_)
  refine XA_reg_g ?_
  obtain ⟨r1, hr1, h⟩ := ob_some h
  have lr1 := stable_len hr1
  refine RG_end ⟨[], [(0, .arr 4 (List.map Edt.av r1))], 1⟩ (fun K hK => ?_) (fun s hs => ?_)
  · refine runs_cut 4 fun K1 hK1 => ?_
    simp only [go_sem, Nat.reduceBEq, Nat.reduceLT, Nat.reduceLeDiff, Nat.reduceEqDiff, Nat.reduceAdd, Nat.reduceSub, Nat.reduceMul, Int.reduceBEq, Int.reduceBNe, Int.reduceLT, Int.reduceLE, Int.reduceEq, Int.reduceGT, Int.reduceAdd, Int.reduceSub, Int.reduceNeg, Int.reduceToNat, reduceCtorEq, reduceIte]
    refine hK1 _ ?_
    simp only [List.take_succ_cons, List.take_zero, List.drop_succ_cons, List.drop_zero]
    refine runs_call rfl rfl (CallP.wk (CallP_of [0] _ _ (.of Tryd.func23 (by kernel_rfl)) (ok_stable hr1) (by simp only [go_sem, Nat.reduceBEq, Nat.reduceLT, Nat.reduceLeDiff, Nat.reduceEqDiff, Nat.reduceAdd, Nat.reduceSub, Nat.reduceMul, Int.reduceBEq, Int.reduceBNe, Int.reduceLT, Int.reduceLE, Int.reduceEq, Int.reduceGT, Int.reduceAdd, Int.reduceSub, Int.reduceNeg, Int.reduceToNat, reduceCtorEq, reduceIte]) (by simp only [push_cast, Nat.reduceEqDiff, Nat.reduceAdd, reduceCtorEq, reduceIte, entStore]) rfl (by decide) ?_ (by rintro _ _ _ ⟨hv, _⟩; cases hv)))
    rintro _ _ _ ⟨hv, rfl, rfl⟩
    cases hv
    simp only [go_sem, Nat.reduceBEq, Nat.reduceLT, Nat.reduceLeDiff, Nat.reduceEqDiff, Nat.reduceAdd, Nat.reduceSub, Nat.reduceMul, Int.reduceBEq, Int.reduceBNe, Int.reduceLT, Int.reduceLE, Int.reduceEq, Int.reduceGT, Int.reduceAdd, Int.reduceSub, Int.reduceNeg, Int.reduceToNat, reduceCtorEq, reduceIte, lr1]
    exact hK _ (St.ent_by [0] rfl (Nat.le_of_ble_eq_true rfl) rfl (by decide) (by simp only [push_cast, Nat.reduceEqDiff, Nat.reduceAdd, reduceCtorEq, reduceIte, lr1]) (by simp only [push_cast, Nat.reduceEqDiff, Nat.reduceAdd, reduceCtorEq, reduceIte, lr1]))
  refine hR0 _ _ ⟨_, hs, EndPost_normal (v := .tup []) (by simp only [go_sem, Nat.reduceBEq, Nat.reduceLT, Nat.reduceLeDiff, Nat.reduceEqDiff, Nat.reduceAdd, Nat.reduceSub, Nat.reduceMul, Int.reduceBEq, Int.reduceBNe, Int.reduceLT, Int.reduceLE, Int.reduceEq, Int.reduceGT, Int.reduceAdd, Int.reduceSub, Int.reduceNeg, Int.reduceToNat, reduceCtorEq, reduceIte]) ?_⟩
  have h := Option.some.inj h; subst h
  exact (St.ent_by [0] rfl (Nat.le_of_ble_eq_true rfl) rfl (by decide) (by simp only [push_cast, Nat.reduceEqDiff, Nat.reduceAdd, reduceCtorEq, reduceIte, lr1]) (by simp only [push_cast, Nat.reduceEqDiff, Nat.reduceAdd, reduceCtorEq, reduceIte, lr1]))

theorem sortStable_len {fuel : Nat} {a1 r : List Edt} (h : sortStable fuel a1 = some r) : r.length = a1.length := by
  unfold sortStable at h
  obtain ⟨r1, h1, h⟩ := ob_some h
  cases h
  exact stable_len h1

end Go.Proofs
