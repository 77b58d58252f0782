/-
  Pure functions, and that the code does what they do: by program.
-/
import Derived.Test.YtbldikkinholnaaDoorG1
namespace Go.Proofs
open Go Go.Ab
set_option linter.unusedSimpArgs false
set_option linter.unusedVariables false
set_option maxHeartbeats 8000000
def cleanBody_b1 (x : List UInt8) (again1 : Int → Option (Bool)) (v1 : Int) : Option (Bool) :=
  (cond (decide (v1 < (x.length : Int))) (ob (rd x v1) fun x1 => (cond (((!((((decide ((x1.toNat : Int) ≥ 97)) && (decide ((x1.toNat : Int) ≤ 122))) || ((decide ((x1.toNat : Int) ≥ 65)) && (decide ((x1.toNat : Int) ≤ 90)))) || ((decide ((x1.toNat : Int) ≥ 48)) && (decide ((x1.toNat : Int) ≤ 57))))) && ((x1.toNat : Int) != 46)) && ((x1.toNat : Int) != 95)) (some false) (again1 (IntKind.i64.wrap (v1 + 1))))) (some true))

def cleanBody (fuel : Nat) (x : List UInt8) : Option Bool :=
  (cond (((x == ([] : List UInt8)) || (x == ([46] : List UInt8))) || (x == ([46, 46] : List UInt8))) (some false) (loopF (fun again1 v => cleanBody_b1 x again1 v) fuel 0))

def Tryd.ac_cleanBody : ACode :=
  (.block 1 (.seq (.seq (.reg [
       ⟨some 13, .op (.mov (.tmp 3)), none⟩,
       ⟨some 14, .op (.bin .eql (.tmp 13) (.val (.str []))), none⟩,
       ⟨some 15, .op (.mov (.tmp 14)), none⟩,
       ⟨some 16, .op (.mov (.tmp 3)), some (15, false)⟩,
       ⟨some 17, .op (.bin .eql (.tmp 16) (.val (.str [46]))), some (15, false)⟩,
       ⟨some 18, .op (.pick (.tmp 15) (.val (.bool true)) (.tmp 17)), none⟩,
       ⟨some 19, .op (.mov (.tmp 18)), none⟩,
       ⟨some 20, .op (.mov (.tmp 3)), some (19, false)⟩,
       ⟨some 21, .op (.bin .eql (.tmp 20) (.val (.str [46, 46]))), some (19, false)⟩,
       ⟨some 22, .op (.pick (.tmp 19) (.val (.bool true)) (.tmp 21)), none⟩])
      (.cond (.tmp 22)
      (.seq (.reg [
        ⟨none, .op (.store 1 (.tmp 2) (.val (.bool false))), none⟩])
       .ret)
      .skip))
     (.seq (.reg [
      ⟨some 23, .op (.mov (.tmp 3)), none⟩,
      ⟨some 24, .op (.s2b (.tmp 23)), none⟩,
      ⟨some 25, .op (.len (.tmp 24)), none⟩,
      ⟨some 26, .op (.mov (.val (.int .i64 0))), none⟩])
     (.block 2 (.loop (.seq (.reg [
        ⟨some 27, .op (.bin .lss (.tmp 26) (.tmp 25)), none⟩])
       (.seq (.cond (.tmp 27)
        .skip
        (.exit 2))
       (.seq (.block 3 (.seq (.reg [
          ⟨some 28, .op (.ia 1 (.tmp 24) (.tmp 26)), none⟩,
          ⟨some 29, .op (.load 1 false (.tmp 28)), none⟩,
          ⟨some 5, .op (.mov (.tmp 29)), none⟩])
         (.seq (.reg [
          ⟨some 30, .op (.mov (.tmp 5)), none⟩,
          ⟨some 31, .op (.bin .geq (.tmp 30) (.val (.int .u8 97))), none⟩,
          ⟨some 32, .op (.mov (.tmp 31)), none⟩,
          ⟨some 33, .op (.mov (.tmp 5)), some (32, true)⟩,
          ⟨some 34, .op (.bin .leq (.tmp 33) (.val (.int .u8 122))), some (32, true)⟩,
          ⟨some 35, .op (.pick (.tmp 32) (.tmp 34) (.val (.bool false))), none⟩,
          ⟨some 36, .op (.mov (.tmp 35)), none⟩,
          ⟨some 37, .op (.mov (.tmp 5)), some (36, false)⟩,
          ⟨some 38, .op (.bin .geq (.tmp 37) (.val (.int .u8 65))), some (36, false)⟩,
          ⟨some 39, .op (.mov (.tmp 38)), some (36, false)⟩,
          ⟨some 40, .op (.mov (.tmp 5)), some (39, true)⟩,
          ⟨some 41, .op (.bin .leq (.tmp 40) (.val (.int .u8 90))), some (39, true)⟩,
          ⟨some 42, .op (.pick (.tmp 39) (.tmp 41) (.val (.bool false))), some (36, false)⟩,
          ⟨some 43, .op (.pick (.tmp 36) (.val (.bool true)) (.tmp 42)), none⟩,
          ⟨some 44, .op (.mov (.tmp 43)), none⟩,
          ⟨some 45, .op (.mov (.tmp 5)), some (44, false)⟩,
          ⟨some 46, .op (.bin .geq (.tmp 45) (.val (.int .u8 48))), some (44, false)⟩,
          ⟨some 47, .op (.mov (.tmp 46)), some (44, false)⟩,
          ⟨some 48, .op (.mov (.tmp 5)), some (47, true)⟩,
          ⟨some 49, .op (.bin .leq (.tmp 48) (.val (.int .u8 57))), some (47, true)⟩,
          ⟨some 50, .op (.pick (.tmp 47) (.tmp 49) (.val (.bool false))), some (44, false)⟩,
          ⟨some 51, .op (.pick (.tmp 44) (.val (.bool true)) (.tmp 50)), none⟩,
          ⟨some 6, .op (.mov (.tmp 51)), none⟩])
         (.seq (.reg [
          ⟨some 52, .op (.mov (.tmp 6)), none⟩,
          ⟨some 53, .op (.un .not (.tmp 52)), none⟩,
          ⟨some 54, .op (.mov (.tmp 53)), none⟩,
          ⟨some 55, .op (.mov (.tmp 5)), some (54, true)⟩,
          ⟨some 56, .op (.bin .neq (.tmp 55) (.val (.int .u8 46))), some (54, true)⟩,
          ⟨some 57, .op (.pick (.tmp 54) (.tmp 56) (.val (.bool false))), none⟩,
          ⟨some 58, .op (.mov (.tmp 57)), none⟩,
          ⟨some 59, .op (.mov (.tmp 5)), some (58, true)⟩,
          ⟨some 60, .op (.bin .neq (.tmp 59) (.val (.int .u8 95))), some (58, true)⟩,
          ⟨some 61, .op (.pick (.tmp 58) (.tmp 60) (.val (.bool false))), none⟩])
         (.cond (.tmp 61)
         (.seq (.reg [
           ⟨none, .op (.store 1 (.tmp 2) (.val (.bool false))), none⟩])
          .ret)
         .skip)))))
       (.reg [
       ⟨some 62, .op (.bin .add (.tmp 26) (.val (.int .i64 1))), none⟩,
       ⟨some 26, .op (.mov (.tmp 62)), none⟩])))))))))

theorem ok_cleanBody {fuel : Nat} {x : List UInt8} {r : Bool} (h : cleanBody fuel x = some r) {R : APost} (hN : r = true → ∀ s, St.ent ⟨63, 4⟩ s ⟨[], [(0, .var [.bool false])], 4⟩ → R .normal s) (hR : r = false → ∀ s, St.ent ⟨63, 4⟩ s ⟨[], [(0, .var [.bool false])], 4⟩ → R .ret s) : XA Tryd.prog ⟨63, 4⟩ Tryd.ac_cleanBody R ⟨[(2, .ptr 0 0), (3, .str x)], [(0, .var [.bool false])], 4⟩ := by
  unfold cleanBody at h
  unfold Tryd.ac_cleanBody
  refine XA_block_st fun R1 hR1 => ?_
  refine XA_seq_st fun R2 hR2 => ?_
  refine XA_seq_st fun R3 hR3 => ?_
  refine XA_reg_g ?_
  refine RG_cut 6 ⟨[(2, .ptr 0 0), (3, .str x), (18, .bool ((x == ([] : List UInt8)) || (x == ([46] : List UInt8))))], [(0, .var [.bool false])], 4⟩ (fun K hK => ?_) ?_
  · refine runs_cut 3 fun K1 hK1 => ?_
    simp only [go_sem, Nat.reduceBEq, Nat.reduceLT, Nat.reduceLeDiff, Nat.reduceEqDiff, Nat.reduceAdd, Nat.reduceSub, Nat.reduceMul, Int.reduceBEq, Int.reduceBNe, Int.reduceLT, Int.reduceLE, Int.reduceEq, Int.reduceGT, Int.reduceAdd, Int.reduceSub, Int.reduceNeg, Int.reduceToNat, reduceCtorEq, reduceIte]
    refine hK1 _ ?_
    simp only [List.take_succ_cons, List.take_zero, List.drop_succ_cons, List.drop_zero]
    rcases bool_or (x == ([] : List UInt8)) with g1 | g1
    · simp only [go_sem, Nat.reduceBEq, Nat.reduceLT, Nat.reduceLeDiff, Nat.reduceEqDiff, Nat.reduceAdd, Nat.reduceSub, Nat.reduceMul, Int.reduceBEq, Int.reduceBNe, Int.reduceLT, Int.reduceLE, Int.reduceEq, Int.reduceGT, Int.reduceAdd, Int.reduceSub, Int.reduceNeg, Int.reduceToNat, reduceCtorEq, reduceIte, g1]
      exact hK _ (St.ent_by [0, 1, 2, 3] rfl (Nat.le_of_ble_eq_true rfl) rfl (by decide) (by simp only [push_cast, Nat.reduceEqDiff, Nat.reduceAdd, reduceCtorEq, reduceIte, g1]) (by simp only [push_cast, Nat.reduceEqDiff, Nat.reduceAdd, reduceCtorEq, reduceIte, g1]))
    · simp only [go_sem, Nat.reduceBEq, Nat.reduceLT, Nat.reduceLeDiff, Nat.reduceEqDiff, Nat.reduceAdd, Nat.reduceSub, Nat.reduceMul, Int.reduceBEq, Int.reduceBNe, Int.reduceLT, Int.reduceLE, Int.reduceEq, Int.reduceGT, Int.reduceAdd, Int.reduceSub, Int.reduceNeg, Int.reduceToNat, reduceCtorEq, reduceIte, g1]
      exact hK _ (St.ent_by [0, 1, 2, 3] rfl (Nat.le_of_ble_eq_true rfl) rfl (by decide) (by simp only [push_cast, Nat.reduceEqDiff, Nat.reduceAdd, reduceCtorEq, reduceIte, g1]) (by simp only [push_cast, Nat.reduceEqDiff, Nat.reduceAdd, reduceCtorEq, reduceIte, g1]))
  simp only [List.take_succ_cons, List.take_zero, List.drop_succ_cons, List.drop_zero]
  refine RG_end ⟨[(2, .ptr 0 0), (3, .str x), (22, .bool (((x == ([] : List UInt8)) || (x == ([46] : List UInt8))) || (x == ([46, 46] : List UInt8))))], [(0, .var [.bool false])], 4⟩ (fun K hK => ?_) (fun s hs => ?_)
  · refine runs_cut 1 fun K2 hK2 => ?_
    simp only [go_sem, Nat.reduceBEq, Nat.reduceLT, Nat.reduceLeDiff, Nat.reduceEqDiff, Nat.reduceAdd, Nat.reduceSub, Nat.reduceMul, Int.reduceBEq, Int.reduceBNe, Int.reduceLT, Int.reduceLE, Int.reduceEq, Int.reduceGT, Int.reduceAdd, Int.reduceSub, Int.reduceNeg, Int.reduceToNat, reduceCtorEq, reduceIte]
    refine hK2 _ ?_
    simp only [List.take_succ_cons, List.take_zero, List.drop_succ_cons, List.drop_zero]
    rcases bool_or ((x == ([] : List UInt8)) || (x == ([46] : List UInt8))) with g2 | g2
    · simp only [go_sem, Nat.reduceBEq, Nat.reduceLT, Nat.reduceLeDiff, Nat.reduceEqDiff, Nat.reduceAdd, Nat.reduceSub, Nat.reduceMul, Int.reduceBEq, Int.reduceBNe, Int.reduceLT, Int.reduceLE, Int.reduceEq, Int.reduceGT, Int.reduceAdd, Int.reduceSub, Int.reduceNeg, Int.reduceToNat, reduceCtorEq, reduceIte, g2]
      exact hK _ (St.ent_by [0, 1, 2, 3] rfl (Nat.le_of_ble_eq_true rfl) rfl (by decide) (by simp only [push_cast, Nat.reduceEqDiff, Nat.reduceAdd, reduceCtorEq, reduceIte, g2]) (by simp only [push_cast, Nat.reduceEqDiff, Nat.reduceAdd, reduceCtorEq, reduceIte, g2]))
    · simp only [go_sem, Nat.reduceBEq, Nat.reduceLT, Nat.reduceLeDiff, Nat.reduceEqDiff, Nat.reduceAdd, Nat.reduceSub, Nat.reduceMul, Int.reduceBEq, Int.reduceBNe, Int.reduceLT, Int.reduceLE, Int.reduceEq, Int.reduceGT, Int.reduceAdd, Int.reduceSub, Int.reduceNeg, Int.reduceToNat, reduceCtorEq, reduceIte, g2]
      exact hK _ (St.ent_by [0, 1, 2, 3] rfl (Nat.le_of_ble_eq_true rfl) rfl (by decide) (by simp only [push_cast, Nat.reduceEqDiff, Nat.reduceAdd, reduceCtorEq, reduceIte, g2]) (by simp only [push_cast, Nat.reduceEqDiff, Nat.reduceAdd, reduceCtorEq, reduceIte, g2]))
  refine dN_seq hR3 (XA_ent hs ?_)
  refine XA_cond (t := (((x == ([] : List UInt8)) || (x == ([46] : List UInt8))) || (x == ([46, 46] : List UInt8)))) rfl (fun g3 => ?_) (fun g3 => ?_)
  · rw [g3, cond_true] at h
    refine XA_seq_st fun R4 hR4 => ?_
    refine XA_reg_g ?_
    refine RG_end ⟨[], [(0, .var [.bool false])], 4⟩ (fun K hK => ?_) (fun s hs => ?_)
    · simp only [go_sem, Nat.reduceBEq, Nat.reduceLT, Nat.reduceLeDiff, Nat.reduceEqDiff, Nat.reduceAdd, Nat.reduceSub, Nat.reduceMul, Int.reduceBEq, Int.reduceBNe, Int.reduceLT, Int.reduceLE, Int.reduceEq, Int.reduceGT, Int.reduceAdd, Int.reduceSub, Int.reduceNeg, Int.reduceToNat, reduceCtorEq, reduceIte]
      exact hK _ (St.ent_by [0, 1, 2, 3] rfl (Nat.le_of_ble_eq_true rfl) rfl (by decide) (by simp only [push_cast, Nat.reduceEqDiff, Nat.reduceAdd, reduceCtorEq, reduceIte]) (by simp only [push_cast, Nat.reduceEqDiff, Nat.reduceAdd, reduceCtorEq, reduceIte]))
    refine dN_seq hR4 (XA_ent hs ?_)
    refine XA_ret ?_
    refine dR_seq hR2 ?_
    refine dR_block hR1 ?_
    have h := Option.some.inj h; subst h
    exact hR rfl _ (St.ent_by [0, 1, 2, 3] rfl (Nat.le_of_ble_eq_true rfl) rfl (by decide) (by simp only [push_cast, Nat.reduceEqDiff, Nat.reduceAdd, reduceCtorEq, reduceIte]) (by simp only [push_cast, Nat.reduceEqDiff, Nat.reduceAdd, reduceCtorEq, reduceIte]))
  · rw [g3, cond_false] at h
    refine XA_skip ?_
    refine dN_seq hR2 ?_
    refine XA_seq_st fun R5 hR5 => ?_
    refine XA_reg_g ?_
    refine RG_end ⟨[(2, .ptr 0 0), (24, .os 4 0 x.length), (25, .int .i64 (x.length : Int)), (26, .int .i64 0)], [(0, .var [.bool false]), (4, .arr 1 (List.map byteAV x))], 5⟩ (fun K hK => ?_) (fun s hs => ?_)
    · simp only [go_sem, Nat.reduceBEq, Nat.reduceLT, Nat.reduceLeDiff, Nat.reduceEqDiff, Nat.reduceAdd, Nat.reduceSub, Nat.reduceMul, Int.reduceBEq, Int.reduceBNe, Int.reduceLT, Int.reduceLE, Int.reduceEq, Int.reduceGT, Int.reduceAdd, Int.reduceSub, Int.reduceNeg, Int.reduceToNat, reduceCtorEq, reduceIte]
      exact hK _ (St.ent_by [0, 1, 2, 3, 4] rfl (Nat.le_of_ble_eq_true rfl) rfl (by decide) (by simp only [push_cast, Nat.reduceEqDiff, Nat.reduceAdd, reduceCtorEq, reduceIte]) (by simp only [push_cast, Nat.reduceEqDiff, Nat.reduceAdd, reduceCtorEq, reduceIte]))
    refine dN_seq hR5 (XA_ent hs ?_)
    refine XA_block_st fun R6 hR6 => ?_
    refine XA_loop_by (T := fun v : Int => ⟨[(2, .ptr 0 0), (24, .os 4 0 x.length), (25, .int .i64 (x.length : Int)), (26, .int .i64 v)], [(0, .var [.bool false]), (4, .arr 1 (List.map byteAV x))], 5⟩) (fuel := fuel) h (St.ent_by [0, 1, 2, 3, 4] rfl (Nat.le_of_ble_eq_true rfl) rfl (by decide) (by simp only [push_cast, Nat.reduceEqDiff, Nat.reduceAdd, reduceCtorEq, reduceIte]) (by simp only [push_cast, Nat.reduceEqDiff, Nat.reduceAdd, reduceCtorEq, reduceIte])) (fun again1 v h R7 hR7 => ?_)
    revert h; generalize v = v1; intro h
    replace h : cleanBody_b1 x again1 v1 = some r := h
    unfold cleanBody_b1 at h
    refine (show XA _ _ _ _ ⟨[(2, .ptr 0 0), (24, .os 4 0 x.length), (25, .int .i64 (x.length : Int)), (26, .int .i64 v1)], [(0, .var [.bool false]), (4, .arr 1 (List.map byteAV x))], 5⟩ from ?_)
    refine XA_seq_st fun R8 hR8 => ?_
    refine XA_reg_g ?_
    refine RG_end ⟨[(2, .ptr 0 0), (24, .os 4 0 x.length), (25, .int .i64 (x.length : Int)), (26, .int .i64 v1), (27, .bool (decide (v1 < (x.length : Int))))], [(0, .var [.bool false]), (4, .arr 1 (List.map byteAV x))], 5⟩ (fun K hK => ?_) (fun s hs => ?_)
    · simp only [go_sem, Nat.reduceBEq, Nat.reduceLT, Nat.reduceLeDiff, Nat.reduceEqDiff, Nat.reduceAdd, Nat.reduceSub, Nat.reduceMul, Int.reduceBEq, Int.reduceBNe, Int.reduceLT, Int.reduceLE, Int.reduceEq, Int.reduceGT, Int.reduceAdd, Int.reduceSub, Int.reduceNeg, Int.reduceToNat, reduceCtorEq, reduceIte]
      exact hK _ (St.ent_by [0, 1, 2, 3, 4] rfl (Nat.le_of_ble_eq_true rfl) rfl (by decide) (by simp only [push_cast, Nat.reduceEqDiff, Nat.reduceAdd, reduceCtorEq, reduceIte]) (by simp only [push_cast, Nat.reduceEqDiff, Nat.reduceAdd, reduceCtorEq, reduceIte]))
    refine dN_seq hR8 (XA_ent hs ?_)
    refine XA_seq_st fun R9 hR9 => ?_
    refine XA_cond (t := (decide (v1 < (x.length : Int)))) rfl (fun g4 => ?_) (fun g4 => ?_)
    · rw [g4, cond_true] at h
      refine XA_skip ?_
      refine dN_seq hR9 ?_
      refine XA_seq_st fun R10 hR10 => ?_
      refine XA_block_st fun R11 hR11 => ?_
      refine XA_seq_st fun R12 hR12 => ?_
      refine XA_reg_g ?_
      obtain ⟨x1, hx1, h⟩ := ob_some h
      have ix1 := rd_in hx1
      have gx1 := rd_get hx1
      try simp only [Int.reduceToNat, Int.toNat_natCast] at gx1
      refine RG_end ⟨[(2, .ptr 0 0), (5, .int .u8 (x1.toNat : Int)), (24, .os 4 0 x.length), (25, .int .i64 (x.length : Int)), (26, .int .i64 v1)], [(0, .var [.bool false]), (4, .arr 1 (List.map byteAV x))], 5⟩ (fun K hK => ?_) (fun s hs => ?_)
      · simp only [go_sem, Nat.reduceBEq, Nat.reduceLT, Nat.reduceLeDiff, Nat.reduceEqDiff, Nat.reduceAdd, Nat.reduceSub, Nat.reduceMul, Int.reduceBEq, Int.reduceBNe, Int.reduceLT, Int.reduceLE, Int.reduceEq, Int.reduceGT, Int.reduceAdd, Int.reduceSub, Int.reduceNeg, Int.reduceToNat, reduceCtorEq, reduceIte, ix1, gx1]
        exact hK _ (St.ent_by [0, 1, 2, 3, 4] rfl (Nat.le_of_ble_eq_true rfl) rfl (by decide) (by simp only [push_cast, Nat.reduceEqDiff, Nat.reduceAdd, reduceCtorEq, reduceIte]) (by simp only [push_cast, Nat.reduceEqDiff, Nat.reduceAdd, reduceCtorEq, reduceIte]))
      refine dN_seq hR12 (XA_ent hs ?_)
      refine XA_seq_st fun R13 hR13 => ?_
      refine XA_reg_g ?_
      refine RG_cut 6 ⟨[(2, .ptr 0 0), (5, .int .u8 (x1.toNat : Int)), (24, .os 4 0 x.length), (25, .int .i64 (x.length : Int)), (26, .int .i64 v1), (35, .bool ((decide ((x1.toNat : Int) ≥ 97)) && (decide ((x1.toNat : Int) ≤ 122))))], [(0, .var [.bool false]), (4, .arr 1 (List.map byteAV x))], 5⟩ (fun K hK => ?_) ?_
      · refine runs_cut 3 fun K3 hK3 => ?_
        simp only [go_sem, Nat.reduceBEq, Nat.reduceLT, Nat.reduceLeDiff, Nat.reduceEqDiff, Nat.reduceAdd, Nat.reduceSub, Nat.reduceMul, Int.reduceBEq, Int.reduceBNe, Int.reduceLT, Int.reduceLE, Int.reduceEq, Int.reduceGT, Int.reduceAdd, Int.reduceSub, Int.reduceNeg, Int.reduceToNat, reduceCtorEq, reduceIte]
        refine hK3 _ ?_
        simp only [List.take_succ_cons, List.take_zero, List.drop_succ_cons, List.drop_zero]
        rcases bool_or (decide ((x1.toNat : Int) ≥ 97)) with g5 | g5
        · simp only [go_sem, Nat.reduceBEq, Nat.reduceLT, Nat.reduceLeDiff, Nat.reduceEqDiff, Nat.reduceAdd, Nat.reduceSub, Nat.reduceMul, Int.reduceBEq, Int.reduceBNe, Int.reduceLT, Int.reduceLE, Int.reduceEq, Int.reduceGT, Int.reduceAdd, Int.reduceSub, Int.reduceNeg, Int.reduceToNat, reduceCtorEq, reduceIte, g5]
          exact hK _ (St.ent_by [0, 1, 2, 3, 4] rfl (Nat.le_of_ble_eq_true rfl) rfl (by decide) (by simp only [push_cast, Nat.reduceEqDiff, Nat.reduceAdd, reduceCtorEq, reduceIte, g5]) (by simp only [push_cast, Nat.reduceEqDiff, Nat.reduceAdd, reduceCtorEq, reduceIte, g5]))
        · simp only [go_sem, Nat.reduceBEq, Nat.reduceLT, Nat.reduceLeDiff, Nat.reduceEqDiff, Nat.reduceAdd, Nat.reduceSub, Nat.reduceMul, Int.reduceBEq, Int.reduceBNe, Int.reduceLT, Int.reduceLE, Int.reduceEq, Int.reduceGT, Int.reduceAdd, Int.reduceSub, Int.reduceNeg, Int.reduceToNat, reduceCtorEq, reduceIte, g5]
          exact hK _ (St.ent_by [0, 1, 2, 3, 4] rfl (Nat.le_of_ble_eq_true rfl) rfl (by decide) (by simp only [push_cast, Nat.reduceEqDiff, Nat.reduceAdd, reduceCtorEq, reduceIte, g5]) (by simp only [push_cast, Nat.reduceEqDiff, Nat.reduceAdd, reduceCtorEq, reduceIte, g5]))
      simp only [List.take_succ_cons, List.take_zero, List.drop_succ_cons, List.drop_zero]
      refine RG_cut 8 ⟨[(2, .ptr 0 0), (5, .int .u8 (x1.toNat : Int)), (24, .os 4 0 x.length), (25, .int .i64 (x.length : Int)), (26, .int .i64 v1), (43, .bool (((decide ((x1.toNat : Int) ≥ 97)) && (decide ((x1.toNat : Int) ≤ 122))) || ((decide ((x1.toNat : Int) ≥ 65)) && (decide ((x1.toNat : Int) ≤ 90)))))], [(0, .var [.bool false]), (4, .arr 1 (List.map byteAV x))], 5⟩ (fun K hK => ?_) ?_
      · refine runs_cut 1 fun K4 hK4 => ?_
        simp only [go_sem, Nat.reduceBEq, Nat.reduceLT, Nat.reduceLeDiff, Nat.reduceEqDiff, Nat.reduceAdd, Nat.reduceSub, Nat.reduceMul, Int.reduceBEq, Int.reduceBNe, Int.reduceLT, Int.reduceLE, Int.reduceEq, Int.reduceGT, Int.reduceAdd, Int.reduceSub, Int.reduceNeg, Int.reduceToNat, reduceCtorEq, reduceIte]
        refine hK4 _ ?_
        simp only [List.take_succ_cons, List.take_zero, List.drop_succ_cons, List.drop_zero]
        rcases bool_or ((decide ((x1.toNat : Int) ≥ 97)) && (decide ((x1.toNat : Int) ≤ 122))) with g6 | g6
        · simp only [go_sem, Nat.reduceBEq, Nat.reduceLT, Nat.reduceLeDiff, Nat.reduceEqDiff, Nat.reduceAdd, Nat.reduceSub, Nat.reduceMul, Int.reduceBEq, Int.reduceBNe, Int.reduceLT, Int.reduceLE, Int.reduceEq, Int.reduceGT, Int.reduceAdd, Int.reduceSub, Int.reduceNeg, Int.reduceToNat, reduceCtorEq, reduceIte, g6]
          exact hK _ (St.ent_by [0, 1, 2, 3, 4] rfl (Nat.le_of_ble_eq_true rfl) rfl (by decide) (by simp only [push_cast, Nat.reduceEqDiff, Nat.reduceAdd, reduceCtorEq, reduceIte, g6]) (by simp only [push_cast, Nat.reduceEqDiff, Nat.reduceAdd, reduceCtorEq, reduceIte, g6]))
        · refine runs_cut 3 fun K5 hK5 => ?_
          simp only [go_sem, Nat.reduceBEq, Nat.reduceLT, Nat.reduceLeDiff, Nat.reduceEqDiff, Nat.reduceAdd, Nat.reduceSub, Nat.reduceMul, Int.reduceBEq, Int.reduceBNe, Int.reduceLT, Int.reduceLE, Int.reduceEq, Int.reduceGT, Int.reduceAdd, Int.reduceSub, Int.reduceNeg, Int.reduceToNat, reduceCtorEq, reduceIte, g6]
          refine hK5 _ ?_
          simp only [List.take_succ_cons, List.take_zero, List.drop_succ_cons, List.drop_zero]
          rcases bool_or (decide ((x1.toNat : Int) ≥ 65)) with g7 | g7
          · simp only [go_sem, Nat.reduceBEq, Nat.reduceLT, Nat.reduceLeDiff, Nat.reduceEqDiff, Nat.reduceAdd, Nat.reduceSub, Nat.reduceMul, Int.reduceBEq, Int.reduceBNe, Int.reduceLT, Int.reduceLE, Int.reduceEq, Int.reduceGT, Int.reduceAdd, Int.reduceSub, Int.reduceNeg, Int.reduceToNat, reduceCtorEq, reduceIte, g6, g7]
            exact hK _ (St.ent_by [0, 1, 2, 3, 4] rfl (Nat.le_of_ble_eq_true rfl) rfl (by decide) (by simp only [push_cast, Nat.reduceEqDiff, Nat.reduceAdd, reduceCtorEq, reduceIte, g6, g7]) (by simp only [push_cast, Nat.reduceEqDiff, Nat.reduceAdd, reduceCtorEq, reduceIte, g6, g7]))
          · simp only [go_sem, Nat.reduceBEq, Nat.reduceLT, Nat.reduceLeDiff, Nat.reduceEqDiff, Nat.reduceAdd, Nat.reduceSub, Nat.reduceMul, Int.reduceBEq, Int.reduceBNe, Int.reduceLT, Int.reduceLE, Int.reduceEq, Int.reduceGT, Int.reduceAdd, Int.reduceSub, Int.reduceNeg, Int.reduceToNat, reduceCtorEq, reduceIte, g6, g7]
            exact hK _ (St.ent_by [0, 1, 2, 3, 4] rfl (Nat.le_of_ble_eq_true rfl) rfl (by decide) (by simp only [push_cast, Nat.reduceEqDiff, Nat.reduceAdd, reduceCtorEq, reduceIte, g6, g7]) (by simp only [push_cast, Nat.reduceEqDiff, Nat.reduceAdd, reduceCtorEq, reduceIte, g6, g7]))
      simp only [List.take_succ_cons, List.take_zero, List.drop_succ_cons, List.drop_zero]
      refine RG_cut 8 ⟨[(2, .ptr 0 0), (5, .int .u8 (x1.toNat : Int)), (24, .os 4 0 x.length), (25, .int .i64 (x.length : Int)), (26, .int .i64 v1), (51, .bool ((((decide ((x1.toNat : Int) ≥ 97)) && (decide ((x1.toNat : Int) ≤ 122))) || ((decide ((x1.toNat : Int) ≥ 65)) && (decide ((x1.toNat : Int) ≤ 90)))) || ((decide ((x1.toNat : Int) ≥ 48)) && (decide ((x1.toNat : Int) ≤ 57)))))], [(0, .var [.bool false]), (4, .arr 1 (List.map byteAV x))], 5⟩ (fun K hK => ?_) ?_
      · refine runs_cut 1 fun K6 hK6 => ?_
        simp only [go_sem, Nat.reduceBEq, Nat.reduceLT, Nat.reduceLeDiff, Nat.reduceEqDiff, Nat.reduceAdd, Nat.reduceSub, Nat.reduceMul, Int.reduceBEq, Int.reduceBNe, Int.reduceLT, Int.reduceLE, Int.reduceEq, Int.reduceGT, Int.reduceAdd, Int.reduceSub, Int.reduceNeg, Int.reduceToNat, reduceCtorEq, reduceIte]
        refine hK6 _ ?_
        simp only [List.take_succ_cons, List.take_zero, List.drop_succ_cons, List.drop_zero]
        rcases bool_or (((decide ((x1.toNat : Int) ≥ 97)) && (decide ((x1.toNat : Int) ≤ 122))) || ((decide ((x1.toNat : Int) ≥ 65)) && (decide ((x1.toNat : Int) ≤ 90)))) with g8 | g8
        · simp only [go_sem, Nat.reduceBEq, Nat.reduceLT, Nat.reduceLeDiff, Nat.reduceEqDiff, Nat.reduceAdd, Nat.reduceSub, Nat.reduceMul, Int.reduceBEq, Int.reduceBNe, Int.reduceLT, Int.reduceLE, Int.reduceEq, Int.reduceGT, Int.reduceAdd, Int.reduceSub, Int.reduceNeg, Int.reduceToNat, reduceCtorEq, reduceIte, g8]
          exact hK _ (St.ent_by [0, 1, 2, 3, 4] rfl (Nat.le_of_ble_eq_true rfl) rfl (by decide) (by simp only [push_cast, Nat.reduceEqDiff, Nat.reduceAdd, reduceCtorEq, reduceIte, g8]) (by simp only [push_cast, Nat.reduceEqDiff, Nat.reduceAdd, reduceCtorEq, reduceIte, g8]))
        · refine runs_cut 3 fun K7 hK7 => ?_
          simp only [go_sem, Nat.reduceBEq, Nat.reduceLT, Nat.reduceLeDiff, Nat.reduceEqDiff, Nat.reduceAdd, Nat.reduceSub, Nat.reduceMul, Int.reduceBEq, Int.reduceBNe, Int.reduceLT, Int.reduceLE, Int.reduceEq, Int.reduceGT, Int.reduceAdd, Int.reduceSub, Int.reduceNeg, Int.reduceToNat, reduceCtorEq, reduceIte, g8]
          refine hK7 _ ?_
          simp only [List.take_succ_cons, List.take_zero, List.drop_succ_cons, List.drop_zero]
          rcases bool_or (decide ((x1.toNat : Int) ≥ 48)) with g9 | g9
          · simp only [go_sem, Nat.reduceBEq, Nat.reduceLT, Nat.reduceLeDiff, Nat.reduceEqDiff, Nat.reduceAdd, Nat.reduceSub, Nat.reduceMul, Int.reduceBEq, Int.reduceBNe, Int.reduceLT, Int.reduceLE, Int.reduceEq, Int.reduceGT, Int.reduceAdd, Int.reduceSub, Int.reduceNeg, Int.reduceToNat, reduceCtorEq, reduceIte, g8, g9]
            exact hK _ (St.ent_by [0, 1, 2, 3, 4] rfl (Nat.le_of_ble_eq_true rfl) rfl (by decide) (by simp only [push_cast, Nat.reduceEqDiff, Nat.reduceAdd, reduceCtorEq, reduceIte, g8, g9]) (by simp only [push_cast, Nat.reduceEqDiff, Nat.reduceAdd, reduceCtorEq, reduceIte, g8, g9]))
          · simp only [go_sem, Nat.reduceBEq, Nat.reduceLT, Nat.reduceLeDiff, Nat.reduceEqDiff, Nat.reduceAdd, Nat.reduceSub, Nat.reduceMul, Int.reduceBEq, Int.reduceBNe, Int.reduceLT, Int.reduceLE, Int.reduceEq, Int.reduceGT, Int.reduceAdd, Int.reduceSub, Int.reduceNeg, Int.reduceToNat, reduceCtorEq, reduceIte, g8, g9]
            exact hK _ (St.ent_by [0, 1, 2, 3, 4] rfl (Nat.le_of_ble_eq_true rfl) rfl (by decide) (by simp only [push_cast, Nat.reduceEqDiff, Nat.reduceAdd, reduceCtorEq, reduceIte, g8, g9]) (by simp only [push_cast, Nat.reduceEqDiff, Nat.reduceAdd, reduceCtorEq, reduceIte, g8, g9]))
      simp only [List.take_succ_cons, List.take_zero, List.drop_succ_cons, List.drop_zero]
      refine RG_end ⟨[(2, .ptr 0 0), (5, .int .u8 (x1.toNat : Int)), (6, .bool ((((decide ((x1.toNat : Int) ≥ 97)) && (decide ((x1.toNat : Int) ≤ 122))) || ((decide ((x1.toNat : Int) ≥ 65)) && (decide ((x1.toNat : Int) ≤ 90)))) || ((decide ((x1.toNat : Int) ≥ 48)) && (decide ((x1.toNat : Int) ≤ 57))))), (24, .os 4 0 x.length), (25, .int .i64 (x.length : Int)), (26, .int .i64 v1)], [(0, .var [.bool false]), (4, .arr 1 (List.map byteAV x))], 5⟩ (fun K hK => ?_) (fun s hs => ?_)
      · simp only [go_sem, Nat.reduceBEq, Nat.reduceLT, Nat.reduceLeDiff, Nat.reduceEqDiff, Nat.reduceAdd, Nat.reduceSub, Nat.reduceMul, Int.reduceBEq, Int.reduceBNe, Int.reduceLT, Int.reduceLE, Int.reduceEq, Int.reduceGT, Int.reduceAdd, Int.reduceSub, Int.reduceNeg, Int.reduceToNat, reduceCtorEq, reduceIte]
        exact hK _ (St.ent_by [0, 1, 2, 3, 4] rfl (Nat.le_of_ble_eq_true rfl) rfl (by decide) (by simp only [push_cast, Nat.reduceEqDiff, Nat.reduceAdd, reduceCtorEq, reduceIte]) (by simp only [push_cast, Nat.reduceEqDiff, Nat.reduceAdd, reduceCtorEq, reduceIte]))
      refine dN_seq hR13 (XA_ent hs ?_)
      refine XA_seq_st fun R14 hR14 => ?_
      refine XA_reg_g ?_
      refine RG_cut 6 ⟨[(2, .ptr 0 0), (5, .int .u8 (x1.toNat : Int)), (24, .os 4 0 x.length), (25, .int .i64 (x.length : Int)), (26, .int .i64 v1), (57, .bool ((!((((decide ((x1.toNat : Int) ≥ 97)) && (decide ((x1.toNat : Int) ≤ 122))) || ((decide ((x1.toNat : Int) ≥ 65)) && (decide ((x1.toNat : Int) ≤ 90)))) || ((decide ((x1.toNat : Int) ≥ 48)) && (decide ((x1.toNat : Int) ≤ 57))))) && ((x1.toNat : Int) != 46)))], [(0, .var [.bool false]), (4, .arr 1 (List.map byteAV x))], 5⟩ (fun K hK => ?_) ?_
      · refine runs_cut 3 fun K8 hK8 => ?_
        simp only [go_sem, Nat.reduceBEq, Nat.reduceLT, Nat.reduceLeDiff, Nat.reduceEqDiff, Nat.reduceAdd, Nat.reduceSub, Nat.reduceMul, Int.reduceBEq, Int.reduceBNe, Int.reduceLT, Int.reduceLE, Int.reduceEq, Int.reduceGT, Int.reduceAdd, Int.reduceSub, Int.reduceNeg, Int.reduceToNat, reduceCtorEq, reduceIte]
        refine hK8 _ ?_
        simp only [List.take_succ_cons, List.take_zero, List.drop_succ_cons, List.drop_zero]
        rcases bool_or (!((((decide ((x1.toNat : Int) ≥ 97)) && (decide ((x1.toNat : Int) ≤ 122))) || ((decide ((x1.toNat : Int) ≥ 65)) && (decide ((x1.toNat : Int) ≤ 90)))) || ((decide ((x1.toNat : Int) ≥ 48)) && (decide ((x1.toNat : Int) ≤ 57))))) with g10 | g10
        · simp only [go_sem, Nat.reduceBEq, Nat.reduceLT, Nat.reduceLeDiff, Nat.reduceEqDiff, Nat.reduceAdd, Nat.reduceSub, Nat.reduceMul, Int.reduceBEq, Int.reduceBNe, Int.reduceLT, Int.reduceLE, Int.reduceEq, Int.reduceGT, Int.reduceAdd, Int.reduceSub, Int.reduceNeg, Int.reduceToNat, reduceCtorEq, reduceIte, g10]
          exact hK _ (St.ent_by [0, 1, 2, 3, 4] rfl (Nat.le_of_ble_eq_true rfl) rfl (by decide) (by simp only [push_cast, Nat.reduceEqDiff, Nat.reduceAdd, reduceCtorEq, reduceIte, g10]) (by simp only [push_cast, Nat.reduceEqDiff, Nat.reduceAdd, reduceCtorEq, reduceIte, g10]))
        · simp only [go_sem, Nat.reduceBEq, Nat.reduceLT, Nat.reduceLeDiff, Nat.reduceEqDiff, Nat.reduceAdd, Nat.reduceSub, Nat.reduceMul, Int.reduceBEq, Int.reduceBNe, Int.reduceLT, Int.reduceLE, Int.reduceEq, Int.reduceGT, Int.reduceAdd, Int.reduceSub, Int.reduceNeg, Int.reduceToNat, reduceCtorEq, reduceIte, g10]
          exact hK _ (St.ent_by [0, 1, 2, 3, 4] rfl (Nat.le_of_ble_eq_true rfl) rfl (by decide) (by simp only [push_cast, Nat.reduceEqDiff, Nat.reduceAdd, reduceCtorEq, reduceIte, g10]) (by simp only [push_cast, Nat.reduceEqDiff, Nat.reduceAdd, reduceCtorEq, reduceIte, g10]))
      simp only [List.take_succ_cons, List.take_zero, List.drop_succ_cons, List.drop_zero]
      refine RG_end ⟨[(2, .ptr 0 0), (24, .os 4 0 x.length), (25, .int .i64 (x.length : Int)), (26, .int .i64 v1), (61, .bool (((!((((decide ((x1.toNat : Int) ≥ 97)) && (decide ((x1.toNat : Int) ≤ 122))) || ((decide ((x1.toNat : Int) ≥ 65)) && (decide ((x1.toNat : Int) ≤ 90)))) || ((decide ((x1.toNat : Int) ≥ 48)) && (decide ((x1.toNat : Int) ≤ 57))))) && ((x1.toNat : Int) != 46)) && ((x1.toNat : Int) != 95)))], [(0, .var [.bool false]), (4, .arr 1 (List.map byteAV x))], 5⟩ (fun K hK => ?_) (fun s hs => ?_)
      · refine runs_cut 1 fun K9 hK9 => ?_
        simp only [go_sem, Nat.reduceBEq, Nat.reduceLT, Nat.reduceLeDiff, Nat.reduceEqDiff, Nat.reduceAdd, Nat.reduceSub, Nat.reduceMul, Int.reduceBEq, Int.reduceBNe, Int.reduceLT, Int.reduceLE, Int.reduceEq, Int.reduceGT, Int.reduceAdd, Int.reduceSub, Int.reduceNeg, Int.reduceToNat, reduceCtorEq, reduceIte]
        refine hK9 _ ?_
        simp only [List.take_succ_cons, List.take_zero, List.drop_succ_cons, List.drop_zero]
        rcases bool_or ((!((((decide ((x1.toNat : Int) ≥ 97)) && (decide ((x1.toNat : Int) ≤ 122))) || ((decide ((x1.toNat : Int) ≥ 65)) && (decide ((x1.toNat : Int) ≤ 90)))) || ((decide ((x1.toNat : Int) ≥ 48)) && (decide ((x1.toNat : Int) ≤ 57))))) && ((x1.toNat : Int) != 46)) with g11 | g11
        · simp only [go_sem, Nat.reduceBEq, Nat.reduceLT, Nat.reduceLeDiff, Nat.reduceEqDiff, Nat.reduceAdd, Nat.reduceSub, Nat.reduceMul, Int.reduceBEq, Int.reduceBNe, Int.reduceLT, Int.reduceLE, Int.reduceEq, Int.reduceGT, Int.reduceAdd, Int.reduceSub, Int.reduceNeg, Int.reduceToNat, reduceCtorEq, reduceIte, g11]
          exact hK _ (St.ent_by [0, 1, 2, 3, 4] rfl (Nat.le_of_ble_eq_true rfl) rfl (by decide) (by simp only [push_cast, Nat.reduceEqDiff, Nat.reduceAdd, reduceCtorEq, reduceIte, g11]) (by simp only [push_cast, Nat.reduceEqDiff, Nat.reduceAdd, reduceCtorEq, reduceIte, g11]))
        · simp only [go_sem, Nat.reduceBEq, Nat.reduceLT, Nat.reduceLeDiff, Nat.reduceEqDiff, Nat.reduceAdd, Nat.reduceSub, Nat.reduceMul, Int.reduceBEq, Int.reduceBNe, Int.reduceLT, Int.reduceLE, Int.reduceEq, Int.reduceGT, Int.reduceAdd, Int.reduceSub, Int.reduceNeg, Int.reduceToNat, reduceCtorEq, reduceIte, g11]
          exact hK _ (St.ent_by [0, 1, 2, 3, 4] rfl (Nat.le_of_ble_eq_true rfl) rfl (by decide) (by simp only [push_cast, Nat.reduceEqDiff, Nat.reduceAdd, reduceCtorEq, reduceIte, g11]) (by simp only [push_cast, Nat.reduceEqDiff, Nat.reduceAdd, reduceCtorEq, reduceIte, g11]))
      refine dN_seq hR14 (XA_ent hs ?_)
      refine XA_cond (t := (((!((((decide ((x1.toNat : Int) ≥ 97)) && (decide ((x1.toNat : Int) ≤ 122))) || ((decide ((x1.toNat : Int) ≥ 65)) && (decide ((x1.toNat : Int) ≤ 90)))) || ((decide ((x1.toNat : Int) ≥ 48)) && (decide ((x1.toNat : Int) ≤ 57))))) && ((x1.toNat : Int) != 46)) && ((x1.toNat : Int) != 95))) rfl (fun g12 => ?_) (fun g12 => ?_)
      · rw [g12, cond_true] at h
        refine XA_seq_st fun R15 hR15 => ?_
        refine XA_reg_g ?_
        refine RG_end ⟨[], [(0, .var [.bool false])], 4⟩ (fun K hK => ?_) (fun s hs => ?_)
        · simp only [go_sem, Nat.reduceBEq, Nat.reduceLT, Nat.reduceLeDiff, Nat.reduceEqDiff, Nat.reduceAdd, Nat.reduceSub, Nat.reduceMul, Int.reduceBEq, Int.reduceBNe, Int.reduceLT, Int.reduceLE, Int.reduceEq, Int.reduceGT, Int.reduceAdd, Int.reduceSub, Int.reduceNeg, Int.reduceToNat, reduceCtorEq, reduceIte]
          exact hK _ (St.ent_by [0, 1, 2, 3] rfl (Nat.le_of_ble_eq_true rfl) rfl (by decide) (by simp only [push_cast, Nat.reduceEqDiff, Nat.reduceAdd, reduceCtorEq, reduceIte]) (by simp only [push_cast, Nat.reduceEqDiff, Nat.reduceAdd, reduceCtorEq, reduceIte]))
        refine dN_seq hR15 (XA_ent hs ?_)
        refine XA_ret ?_
        refine dR_block hR11 ?_
        refine dR_seq hR10 ?_
        refine dR_seq hR7 ?_
        refine dR_block hR6 ?_
        refine dR_block hR1 ?_
        have h := Option.some.inj h; subst h
        exact hR rfl _ (St.ent_by [0, 1, 2, 3] rfl (Nat.le_of_ble_eq_true rfl) rfl (by decide) (by simp only [push_cast, Nat.reduceEqDiff, Nat.reduceAdd, reduceCtorEq, reduceIte]) (by simp only [push_cast, Nat.reduceEqDiff, Nat.reduceAdd, reduceCtorEq, reduceIte]))
      · rw [g12, cond_false] at h
        refine XA_skip ?_
        refine dN_block hR11 ?_
        refine dN_seq hR10 ?_
        refine XA_reg_g ?_
        refine RG_end ⟨[(2, .ptr 0 0), (24, .os 4 0 x.length), (25, .int .i64 (x.length : Int)), (26, .int .i64 (IntKind.i64.wrap (v1 + 1)))], [(0, .var [.bool false]), (4, .arr 1 (List.map byteAV x))], 5⟩ (fun K hK => ?_) (fun s hs => ?_)
        · simp only [go_sem, Nat.reduceBEq, Nat.reduceLT, Nat.reduceLeDiff, Nat.reduceEqDiff, Nat.reduceAdd, Nat.reduceSub, Nat.reduceMul, Int.reduceBEq, Int.reduceBNe, Int.reduceLT, Int.reduceLE, Int.reduceEq, Int.reduceGT, Int.reduceAdd, Int.reduceSub, Int.reduceNeg, Int.reduceToNat, reduceCtorEq, reduceIte]
          exact hK _ (St.ent_by [0, 1, 2, 3, 4] rfl (Nat.le_of_ble_eq_true rfl) rfl (by decide) (by simp only [push_cast, Nat.reduceEqDiff, Nat.reduceAdd, reduceCtorEq, reduceIte]) (by simp only [push_cast, Nat.reduceEqDiff, Nat.reduceAdd, reduceCtorEq, reduceIte]))
        exact dN_seq hR7 ⟨(IntKind.i64.wrap (v1 + 1)), (hs.trans (St.ent_by [0, 1, 2, 3, 4] rfl (Nat.le_of_ble_eq_true rfl) rfl (by decide) (by simp only [push_cast, Nat.reduceEqDiff, Nat.reduceAdd, reduceCtorEq, reduceIte]) (by simp only [push_cast, Nat.reduceEqDiff, Nat.reduceAdd, reduceCtorEq, reduceIte]))), h⟩
    · rw [g4, cond_false] at h
      refine XA_exit ?_
      refine dX_seq hR9 ?_
      refine dX_seq hR7 ?_
      refine dE_block hR6 ?_
      refine dN_block hR1 ?_
      have h := Option.some.inj h; subst h
      exact hN rfl _ (St.ent_by [0, 1, 2, 3] rfl (Nat.le_of_ble_eq_true rfl) rfl (by decide) (by simp only [push_cast, Nat.reduceEqDiff, Nat.reduceAdd, reduceCtorEq, reduceIte]) (by simp only [push_cast, Nat.reduceEqDiff, Nat.reduceAdd, reduceCtorEq, reduceIte]))
end Go.Proofs
