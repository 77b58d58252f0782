/-
  Pure functions, and that the code does what they do: by program.
-/
import Derived.Test.YtbldikkinholnaaDoorG4
namespace Go.Proofs
open Go Go.Ab
set_option linter.unusedSimpArgs false
set_option linter.unusedVariables false
set_option maxHeartbeats 8000000


def wrong_b1 (a1 : List Src) (fuel : Nat) (again1 : Int → Option (Flt)) (v1 : Int) : Option (Flt) :=
  (cond (decide (v1 < (a1.length : Int))) (ob (rd a1 v1) fun x1 => (ob (clean fuel x1.path) fun r1 => (cond (!r1) (some (⟨7, v1, 0⟩ : Flt)) (cond (decide ((x1.text.length : Int) > 3000)) (some (⟨4, v1, 0⟩ : Flt)) (ob (cond (decide (v1 > 0)) (ob (rd a1 (IntKind.i64.wrap (v1 - 1))) fun x2 => (some (!(Op.bytesLess x2.path x1.path)))) (some false)) fun y1 => (cond y1 (some (⟨2, v1, 0⟩ : Flt)) (again1 (IntKind.i64.wrap (v1 + 1))))))))) (some (⟨0, (-1), 0⟩ : Flt)))

def wrong (fuel : Nat) (a1 : List Src) : Option (Flt) :=
  (cond (decide ((a1.length : Int) > 8)) (some (⟨5, (-1), 0⟩ : Flt)) (loopF (fun again1 v => wrong_b1 a1 fuel again1 v) fuel 0))

theorem ok_wrong {fuel : Nat} {a1 : List Src} {r : Flt} (h : wrong fuel a1 = some r) : FnOk Tryd.prog 9 [.ls (List.map Src.av a1) false] [] 0 (fun q s k => q = .ret (.agg [.int .i64 r.err, .int .i64 r.file, .int .i64 r.at_]) ∧ s = [] ∧ k = 0) := by
  refine Fn_by Tryd.func9 Tryd.ntmps9 Tryd.cc9 (Nat.le_of_ble_eq_true rfl) (rs := [.cell 2 3 true]) (by kernel_rfl) (fun R0 hR0 => ?_)
  unfold wrong at h
  unfold Tryd.ac9
  refine (show XA _ _ _ _ ⟨[(0, .ls (List.map Src.av a1) false)], [], 0⟩ from ?_)
  refine XA_seq_st fun R1 hR1 => ?_
  refine XA_reg_g ?_
  refine RG_end ⟨[(0, .ls (List.map Src.av a1) false), (2, .ptr 0 0)], [(0, .var [.int .i64 0, .int .i64 0, .int .i64 0])], 1⟩ (fun K hK => ?_) (fun s hs => ?_)
  · simp only [go_sem, Nat.reduceBEq, Nat.reduceLT, Nat.reduceLeDiff, Nat.reduceEqDiff, Nat.reduceAdd, Nat.reduceSub, Nat.reduceMul, Int.reduceBEq, Int.reduceBNe, Int.reduceLT, Int.reduceLE, Int.reduceEq, Int.reduceGT, Int.reduceAdd, Int.reduceSub, Int.reduceNeg, Int.reduceToNat, reduceCtorEq, reduceIte]
    exact hK _ (St.ent_by [0] rfl (Nat.le_of_ble_eq_true rfl) rfl (by decide) (by simp only [push_cast, Nat.reduceEqDiff, Nat.reduceAdd, reduceCtorEq, reduceIte]) (by simp only [push_cast, Nat.reduceEqDiff, Nat.reduceAdd, reduceCtorEq, reduceIte]))
  refine dN_seq hR1 (XA_ent hs ?_)
  refine XA_seq_st fun R2 hR2 => ?_
  refine XA_seq_st fun R3 hR3 => ?_
  refine XA_reg_g ?_
  refine RG_end ⟨[(0, .ls (List.map Src.av a1) false), (2, .ptr 0 0), (7, .bool (decide ((a1.length : Int) > 8)))], [(0, .var [.int .i64 0, .int .i64 0, .int .i64 0])], 1⟩ (fun K hK => ?_) (fun s hs => ?_)
  · simp only [go_sem, Nat.reduceBEq, Nat.reduceLT, Nat.reduceLeDiff, Nat.reduceEqDiff, Nat.reduceAdd, Nat.reduceSub, Nat.reduceMul, Int.reduceBEq, Int.reduceBNe, Int.reduceLT, Int.reduceLE, Int.reduceEq, Int.reduceGT, Int.reduceAdd, Int.reduceSub, Int.reduceNeg, Int.reduceToNat, reduceCtorEq, reduceIte]
    exact hK _ (St.ent_by [0] rfl (Nat.le_of_ble_eq_true rfl) rfl (by decide) (by simp only [push_cast, Nat.reduceEqDiff, Nat.reduceAdd, reduceCtorEq, reduceIte]) (by simp only [push_cast, Nat.reduceEqDiff, Nat.reduceAdd, reduceCtorEq, reduceIte]))
  refine dN_seq hR3 (XA_ent hs ?_)
  refine XA_cond (t := (decide ((a1.length : Int) > 8))) rfl (fun g1 => ?_) (fun g1 => ?_)
  · rw [g1, cond_true] at h
    refine XA_seq_st fun R4 hR4 => ?_
    refine XA_reg_g ?_
    refine RG_end ⟨[(2, .ptr 0 0)], [(0, .var [.int .i64 5, .int .i64 (-1), .int .i64 0])], 1⟩ (fun K hK => ?_) (fun s hs => ?_)
    · simp only [go_sem, Nat.reduceBEq, Nat.reduceLT, Nat.reduceLeDiff, Nat.reduceEqDiff, Nat.reduceAdd, Nat.reduceSub, Nat.reduceMul, Int.reduceBEq, Int.reduceBNe, Int.reduceLT, Int.reduceLE, Int.reduceEq, Int.reduceGT, Int.reduceAdd, Int.reduceSub, Int.reduceNeg, Int.reduceToNat, reduceCtorEq, reduceIte]
      exact hK _ (St.ent_by [0] rfl (Nat.le_of_ble_eq_true rfl) rfl (by decide) (by simp only [push_cast, Nat.reduceEqDiff, Nat.reduceAdd, reduceCtorEq, reduceIte]) (by simp only [push_cast, Nat.reduceEqDiff, Nat.reduceAdd, reduceCtorEq, reduceIte]))
    refine dN_seq hR4 (XA_ent hs ?_)
    refine XA_ret ?_
    refine dR_seq hR2 ?_
    refine hR0 _ _ ⟨_, St.ent_self, EndPost_ret (v := .agg [.int .i64 5, .int .i64 (-1), .int .i64 0]) (by simp only [go_sem, Nat.reduceBEq, Nat.reduceLT, Nat.reduceLeDiff, Nat.reduceEqDiff, Nat.reduceAdd, Nat.reduceSub, Nat.reduceMul, Int.reduceBEq, Int.reduceBNe, Int.reduceLT, Int.reduceLE, Int.reduceEq, Int.reduceGT, Int.reduceAdd, Int.reduceSub, Int.reduceNeg, Int.reduceToNat, reduceCtorEq, reduceIte]) ?_⟩
    have h := Option.some.inj h; subst h
    exact (St.ent_by [] rfl (Nat.le_of_ble_eq_true rfl) rfl (by decide) (by simp only [push_cast, Nat.reduceEqDiff, Nat.reduceAdd, reduceCtorEq, reduceIte]) (by simp only [push_cast, Nat.reduceEqDiff, Nat.reduceAdd, reduceCtorEq, reduceIte]))
  · rw [g1, cond_false] at h
    refine XA_skip ?_
    refine dN_seq hR2 ?_
    refine XA_seq_st fun R5 hR5 => ?_
    refine XA_seq_st fun R6 hR6 => ?_
    refine XA_reg_g ?_
    refine RG_end ⟨[(0, .ls (List.map Src.av a1) false), (2, .ptr 0 0), (9, .ls (List.map Src.av a1) false), (10, .int .i64 (a1.length : Int)), (11, .int .i64 0)], [(0, .var [.int .i64 0, .int .i64 0, .int .i64 0])], 1⟩ (fun K hK => ?_) (fun s hs => ?_)
    · simp only [go_sem, Nat.reduceBEq, Nat.reduceLT, Nat.reduceLeDiff, Nat.reduceEqDiff, Nat.reduceAdd, Nat.reduceSub, Nat.reduceMul, Int.reduceBEq, Int.reduceBNe, Int.reduceLT, Int.reduceLE, Int.reduceEq, Int.reduceGT, Int.reduceAdd, Int.reduceSub, Int.reduceNeg, Int.reduceToNat, reduceCtorEq, reduceIte]
      exact hK _ (St.ent_by [0] rfl (Nat.le_of_ble_eq_true rfl) rfl (by decide) (by simp only [push_cast, Nat.reduceEqDiff, Nat.reduceAdd, reduceCtorEq, reduceIte]) (by simp only [push_cast, Nat.reduceEqDiff, Nat.reduceAdd, reduceCtorEq, reduceIte]))
    refine dN_seq hR6 (XA_ent hs ?_)
    refine XA_block_st fun R7 hR7 => ?_
    refine XA_loop_by (T := fun v : Int => ⟨[(0, .ls (List.map Src.av a1) false), (2, .ptr 0 0), (9, .ls (List.map Src.av a1) false), (10, .int .i64 (a1.length : Int)), (11, .int .i64 v)], [(0, .var [.int .i64 0, .int .i64 0, .int .i64 0])], 1⟩) (fuel := fuel) h (St.ent_by [0] rfl (Nat.le_of_ble_eq_true rfl) rfl (by decide) (by simp only [push_cast, Nat.reduceEqDiff, Nat.reduceAdd, reduceCtorEq, reduceIte]) (by simp only [push_cast, Nat.reduceEqDiff, Nat.reduceAdd, reduceCtorEq, reduceIte])) (fun again1 v h R8 hR8 => ?_)
    revert h; generalize v = v1; intro h
    replace h : wrong_b1 a1 fuel again1 v1 = some r := h
    unfold wrong_b1 at h
    refine (show XA _ _ _ _ ⟨[(0, .ls (List.map Src.av a1) false), (2, .ptr 0 0), (9, .ls (List.map Src.av a1) false), (10, .int .i64 (a1.length : Int)), (11, .int .i64 v1)], [(0, .var [.int .i64 0, .int .i64 0, .int .i64 0])], 1⟩ from ?_)
    refine XA_seq_st fun R9 hR9 => ?_
    refine XA_reg_g ?_
    refine RG_end ⟨[(0, .ls (List.map Src.av a1) false), (2, .ptr 0 0), (9, .ls (List.map Src.av a1) false), (10, .int .i64 (a1.length : Int)), (11, .int .i64 v1), (12, .bool (decide (v1 < (a1.length : Int))))], [(0, .var [.int .i64 0, .int .i64 0, .int .i64 0])], 1⟩ (fun K hK => ?_) (fun s hs => ?_)
    · simp only [go_sem, Nat.reduceBEq, Nat.reduceLT, Nat.reduceLeDiff, Nat.reduceEqDiff, Nat.reduceAdd, Nat.reduceSub, Nat.reduceMul, Int.reduceBEq, Int.reduceBNe, Int.reduceLT, Int.reduceLE, Int.reduceEq, Int.reduceGT, Int.reduceAdd, Int.reduceSub, Int.reduceNeg, Int.reduceToNat, reduceCtorEq, reduceIte]
      exact hK _ (St.ent_by [0] rfl (Nat.le_of_ble_eq_true rfl) rfl (by decide) (by simp only [push_cast, Nat.reduceEqDiff, Nat.reduceAdd, reduceCtorEq, reduceIte]) (by simp only [push_cast, Nat.reduceEqDiff, Nat.reduceAdd, reduceCtorEq, reduceIte]))
    refine dN_seq hR9 (XA_ent hs ?_)
    refine XA_seq_st fun R10 hR10 => ?_
    refine XA_cond (t := (decide (v1 < (a1.length : Int)))) rfl (fun g2 => ?_) (fun g2 => ?_)
    · rw [g2, cond_true] at h
      refine XA_skip ?_
      refine dN_seq hR10 ?_
      refine XA_seq_st fun R11 hR11 => ?_
      refine XA_block_st fun R12 hR12 => ?_
      refine XA_seq_st fun R13 hR13 => ?_
      refine XA_reg_g ?_
      obtain ⟨x1, hx1, h⟩ := ob_some h
      have ix1 := rd_in hx1
      have gx1 := rd_get hx1
      try simp only [Int.reduceToNat, Int.toNat_natCast] at gx1
      refine RG_end ⟨[(0, .ls (List.map Src.av a1) false), (2, .ptr 0 0), (3, .int .i64 v1), (4, .ptr 1 0), (9, .ls (List.map Src.av a1) false), (10, .int .i64 (a1.length : Int)), (11, .int .i64 v1)], [(0, .var [.int .i64 0, .int .i64 0, .int .i64 0]), (1, .var [.str x1.path, .str x1.text])], 2⟩ (fun K hK => ?_) (fun s hs => ?_)
      · simp only [go_sem, Nat.reduceBEq, Nat.reduceLT, Nat.reduceLeDiff, Nat.reduceEqDiff, Nat.reduceAdd, Nat.reduceSub, Nat.reduceMul, Int.reduceBEq, Int.reduceBNe, Int.reduceLT, Int.reduceLE, Int.reduceEq, Int.reduceGT, Int.reduceAdd, Int.reduceSub, Int.reduceNeg, Int.reduceToNat, reduceCtorEq, reduceIte, ix1, gx1]
        exact hK _ (St.ent_by [0, 1] rfl (Nat.le_of_ble_eq_true rfl) rfl (by decide) (by simp only [push_cast, Nat.reduceEqDiff, Nat.reduceAdd, reduceCtorEq, reduceIte]) (by simp only [push_cast, Nat.reduceEqDiff, Nat.reduceAdd, reduceCtorEq, reduceIte]))
      refine dN_seq hR13 (XA_ent hs ?_)
      refine XA_block_st fun R14 hR14 => ?_
      refine XA_seq_st fun R15 hR15 => ?_
      refine XA_reg_g ?_
      obtain ⟨r1, hr1, h⟩ := ob_some h
      refine RG_end ⟨[(0, .ls (List.map Src.av a1) false), (2, .ptr 0 0), (3, .int .i64 v1), (4, .ptr 1 0), (9, .ls (List.map Src.av a1) false), (10, .int .i64 (a1.length : Int)), (11, .int .i64 v1), (16, .bool (!r1))], [(0, .var [.int .i64 0, .int .i64 0, .int .i64 0]), (1, .var [.str x1.path, .str x1.text])], 2⟩ (fun K hK => ?_) (fun s hs => ?_)
      · refine runs_cut 2 fun K1 hK1 => ?_
        simp only [go_sem, Nat.reduceBEq, Nat.reduceLT, Nat.reduceLeDiff, Nat.reduceEqDiff, Nat.reduceAdd, Nat.reduceSub, Nat.reduceMul, Int.reduceBEq, Int.reduceBNe, Int.reduceLT, Int.reduceLE, Int.reduceEq, Int.reduceGT, Int.reduceAdd, Int.reduceSub, Int.reduceNeg, Int.reduceToNat, reduceCtorEq, reduceIte]
        refine hK1 _ ?_
        simp only [List.take_succ_cons, List.take_zero, List.drop_succ_cons, List.drop_zero]
        refine runs_call rfl rfl (CallP.wk (CallP_of [] _ _ (.of Tryd.func11 (by kernel_rfl)) (ok_clean hr1) (by simp only [go_sem, Nat.reduceBEq, Nat.reduceLT, Nat.reduceLeDiff, Nat.reduceEqDiff, Nat.reduceAdd, Nat.reduceSub, Nat.reduceMul, Int.reduceBEq, Int.reduceBNe, Int.reduceLT, Int.reduceLE, Int.reduceEq, Int.reduceGT, Int.reduceAdd, Int.reduceSub, Int.reduceNeg, Int.reduceToNat, reduceCtorEq, reduceIte]) (by simp only [push_cast, Nat.reduceEqDiff, Nat.reduceAdd, reduceCtorEq, reduceIte, entStore]) rfl (by decide) ?_ (by rintro _ _ _ ⟨hv, _⟩; cases hv)))
        rintro _ _ _ ⟨hv, rfl, rfl⟩
        cases hv
        simp only [go_sem, Nat.reduceBEq, Nat.reduceLT, Nat.reduceLeDiff, Nat.reduceEqDiff, Nat.reduceAdd, Nat.reduceSub, Nat.reduceMul, Int.reduceBEq, Int.reduceBNe, Int.reduceLT, Int.reduceLE, Int.reduceEq, Int.reduceGT, Int.reduceAdd, Int.reduceSub, Int.reduceNeg, Int.reduceToNat, reduceCtorEq, reduceIte]
        exact hK _ (St.ent_by [0, 1] rfl (Nat.le_of_ble_eq_true rfl) rfl (by decide) (by simp only [push_cast, Nat.reduceEqDiff, Nat.reduceAdd, reduceCtorEq, reduceIte]) (by simp only [push_cast, Nat.reduceEqDiff, Nat.reduceAdd, reduceCtorEq, reduceIte]))
      refine dN_seq hR15 (XA_ent hs ?_)
      refine XA_cond (t := (!r1)) rfl (fun g3 => ?_) (fun g3 => ?_)
      · rw [g3, cond_true] at h
        refine XA_seq_st fun R16 hR16 => ?_
        refine XA_reg_g ?_
        refine RG_end ⟨[(2, .ptr 0 0)], [(0, .var [.int .i64 7, .int .i64 v1, .int .i64 0])], 1⟩ (fun K hK => ?_) (fun s hs => ?_)
        · simp only [go_sem, Nat.reduceBEq, Nat.reduceLT, Nat.reduceLeDiff, Nat.reduceEqDiff, Nat.reduceAdd, Nat.reduceSub, Nat.reduceMul, Int.reduceBEq, Int.reduceBNe, Int.reduceLT, Int.reduceLE, Int.reduceEq, Int.reduceGT, Int.reduceAdd, Int.reduceSub, Int.reduceNeg, Int.reduceToNat, reduceCtorEq, reduceIte]
          exact hK _ (St.ent_by [0] rfl (Nat.le_of_ble_eq_true rfl) rfl (by decide) (by simp only [push_cast, Nat.reduceEqDiff, Nat.reduceAdd, reduceCtorEq, reduceIte]) (by simp only [push_cast, Nat.reduceEqDiff, Nat.reduceAdd, reduceCtorEq, reduceIte]))
        refine dN_seq hR16 (XA_ent hs ?_)
        refine XA_ret ?_
        refine dR_block hR14 ?_
        refine dR_block hR12 ?_
        refine dR_seq hR11 ?_
        refine dR_seq hR8 ?_
        refine dR_block hR7 ?_
        refine dR_seq hR5 ?_
        refine hR0 _ _ ⟨_, St.ent_self, EndPost_ret (v := .agg [.int .i64 7, .int .i64 v1, .int .i64 0]) (by simp only [go_sem, Nat.reduceBEq, Nat.reduceLT, Nat.reduceLeDiff, Nat.reduceEqDiff, Nat.reduceAdd, Nat.reduceSub, Nat.reduceMul, Int.reduceBEq, Int.reduceBNe, Int.reduceLT, Int.reduceLE, Int.reduceEq, Int.reduceGT, Int.reduceAdd, Int.reduceSub, Int.reduceNeg, Int.reduceToNat, reduceCtorEq, reduceIte]) ?_⟩
        have h := Option.some.inj h; subst h
        exact (St.ent_by [] rfl (Nat.le_of_ble_eq_true rfl) rfl (by decide) (by simp only [push_cast, Nat.reduceEqDiff, Nat.reduceAdd, reduceCtorEq, reduceIte]) (by simp only [push_cast, Nat.reduceEqDiff, Nat.reduceAdd, reduceCtorEq, reduceIte]))
      · rw [g3, cond_false] at h
        refine XA_seq_st fun R17 hR17 => ?_
        refine XA_reg_g ?_
        refine RG_end ⟨[(0, .ls (List.map Src.av a1) false), (2, .ptr 0 0), (3, .int .i64 v1), (4, .ptr 1 0), (9, .ls (List.map Src.av a1) false), (10, .int .i64 (a1.length : Int)), (11, .int .i64 v1), (23, .bool (decide ((x1.text.length : Int) > 3000)))], [(0, .var [.int .i64 0, .int .i64 0, .int .i64 0]), (1, .var [.str x1.path, .str x1.text])], 2⟩ (fun K hK => ?_) (fun s hs => ?_)
        · simp only [go_sem, Nat.reduceBEq, Nat.reduceLT, Nat.reduceLeDiff, Nat.reduceEqDiff, Nat.reduceAdd, Nat.reduceSub, Nat.reduceMul, Int.reduceBEq, Int.reduceBNe, Int.reduceLT, Int.reduceLE, Int.reduceEq, Int.reduceGT, Int.reduceAdd, Int.reduceSub, Int.reduceNeg, Int.reduceToNat, reduceCtorEq, reduceIte]
          exact hK _ (St.ent_by [0, 1] rfl (Nat.le_of_ble_eq_true rfl) rfl (by decide) (by simp only [push_cast, Nat.reduceEqDiff, Nat.reduceAdd, reduceCtorEq, reduceIte]) (by simp only [push_cast, Nat.reduceEqDiff, Nat.reduceAdd, reduceCtorEq, reduceIte]))
        refine dN_seq hR17 (XA_ent hs ?_)
        refine XA_cond (t := (decide ((x1.text.length : Int) > 3000))) rfl (fun g4 => ?_) (fun g4 => ?_)
        · rw [g4, cond_true] at h
          refine XA_seq_st fun R18 hR18 => ?_
          refine XA_reg_g ?_
          refine RG_end ⟨[(2, .ptr 0 0)], [(0, .var [.int .i64 4, .int .i64 v1, .int .i64 0])], 1⟩ (fun K hK => ?_) (fun s hs => ?_)
          · simp only [go_sem, Nat.reduceBEq, Nat.reduceLT, Nat.reduceLeDiff, Nat.reduceEqDiff, Nat.reduceAdd, Nat.reduceSub, Nat.reduceMul, Int.reduceBEq, Int.reduceBNe, Int.reduceLT, Int.reduceLE, Int.reduceEq, Int.reduceGT, Int.reduceAdd, Int.reduceSub, Int.reduceNeg, Int.reduceToNat, reduceCtorEq, reduceIte]
            exact hK _ (St.ent_by [0] rfl (Nat.le_of_ble_eq_true rfl) rfl (by decide) (by simp only [push_cast, Nat.reduceEqDiff, Nat.reduceAdd, reduceCtorEq, reduceIte]) (by simp only [push_cast, Nat.reduceEqDiff, Nat.reduceAdd, reduceCtorEq, reduceIte]))
          refine dN_seq hR18 (XA_ent hs ?_)
          refine XA_ret ?_
          refine dR_block hR14 ?_
          refine dR_block hR12 ?_
          refine dR_seq hR11 ?_
          refine dR_seq hR8 ?_
          refine dR_block hR7 ?_
          refine dR_seq hR5 ?_
          refine hR0 _ _ ⟨_, St.ent_self, EndPost_ret (v := .agg [.int .i64 4, .int .i64 v1, .int .i64 0]) (by simp only [go_sem, Nat.reduceBEq, Nat.reduceLT, Nat.reduceLeDiff, Nat.reduceEqDiff, Nat.reduceAdd, Nat.reduceSub, Nat.reduceMul, Int.reduceBEq, Int.reduceBNe, Int.reduceLT, Int.reduceLE, Int.reduceEq, Int.reduceGT, Int.reduceAdd, Int.reduceSub, Int.reduceNeg, Int.reduceToNat, reduceCtorEq, reduceIte]) ?_⟩
          have h := Option.some.inj h; subst h
          exact (St.ent_by [] rfl (Nat.le_of_ble_eq_true rfl) rfl (by decide) (by simp only [push_cast, Nat.reduceEqDiff, Nat.reduceAdd, reduceCtorEq, reduceIte]) (by simp only [push_cast, Nat.reduceEqDiff, Nat.reduceAdd, reduceCtorEq, reduceIte]))
        · rw [g4, cond_false] at h
          refine XA_seq_st fun R19 hR19 => ?_
          obtain ⟨y1, hy1, h⟩ := ob_some h
          refine XA_regd_to mix ⟨[(0, .ls (List.map Src.av a1) false), (2, .ptr 0 0), (3, .int .i64 v1), (9, .ls (List.map Src.av a1) false), (10, .int .i64 (a1.length : Int)), (11, .int .i64 v1), (30, .bool y1)], [(0, .var [.int .i64 0, .int .i64 0, .int .i64 0])], 1⟩ (fun K hK => ?_) (fun s hs => ?_)
          · refine runsD_cut 3 fun K2 hK2 => ?_
            simp only [go_sem, Nat.reduceBEq, Nat.reduceLT, Nat.reduceLeDiff, Nat.reduceEqDiff, Nat.reduceAdd, Nat.reduceSub, Nat.reduceMul, Int.reduceBEq, Int.reduceBNe, Int.reduceLT, Int.reduceLE, Int.reduceEq, Int.reduceGT, Int.reduceAdd, Int.reduceSub, Int.reduceNeg, Int.reduceToNat, reduceCtorEq, reduceIte]
            refine hK2 _ ?_
            simp only [List.take_succ_cons, List.take_zero, List.drop_succ_cons, List.drop_zero]
            rcases bool_or (decide (v1 > 0)) with g5 | g5
            · rw [g5, cond_true] at hy1
              obtain ⟨x2, hx2, hy1⟩ := ob_some hy1
              have ix2 := rd_in hx2
              have gx2 := rd_get hx2
              try simp only [Int.reduceToNat, Int.toNat_natCast] at gx2
              have hy := Option.some.inj hy1
              subst hy
              simp only [go_sem, Nat.reduceBEq, Nat.reduceLT, Nat.reduceLeDiff, Nat.reduceEqDiff, Nat.reduceAdd, Nat.reduceSub, Nat.reduceMul, Int.reduceBEq, Int.reduceBNe, Int.reduceLT, Int.reduceLE, Int.reduceEq, Int.reduceGT, Int.reduceAdd, Int.reduceSub, Int.reduceNeg, Int.reduceToNat, reduceCtorEq, reduceIte, ix2, gx2, g5]
              exact hK _ (St.ent_by [0] rfl (Nat.le_of_ble_eq_true rfl) rfl (by decide) (by simp only [push_cast, Nat.reduceEqDiff, Nat.reduceAdd, reduceCtorEq, reduceIte, g5]) (by simp only [push_cast, Nat.reduceEqDiff, Nat.reduceAdd, reduceCtorEq, reduceIte, g5]))
            · rw [g5, cond_false] at hy1
              have hy := Option.some.inj hy1
              subst hy
              simp only [go_sem, Nat.reduceBEq, Nat.reduceLT, Nat.reduceLeDiff, Nat.reduceEqDiff, Nat.reduceAdd, Nat.reduceSub, Nat.reduceMul, Int.reduceBEq, Int.reduceBNe, Int.reduceLT, Int.reduceLE, Int.reduceEq, Int.reduceGT, Int.reduceAdd, Int.reduceSub, Int.reduceNeg, Int.reduceToNat, reduceCtorEq, reduceIte, g5]
              exact hK _ (St.ent_by [0] rfl (Nat.le_of_ble_eq_true rfl) rfl (by decide) (by simp only [push_cast, Nat.reduceEqDiff, Nat.reduceAdd, reduceCtorEq, reduceIte, g5]) (by simp only [push_cast, Nat.reduceEqDiff, Nat.reduceAdd, reduceCtorEq, reduceIte, g5]))
          refine dN_seq hR19 (XA_ent hs ?_)
          refine XA_cond (t := y1) rfl (fun g6 => ?_) (fun g6 => ?_)
          · rw [g6, cond_true] at h
            refine XA_seq_st fun R20 hR20 => ?_
            refine XA_reg_g ?_
            refine RG_end ⟨[(2, .ptr 0 0)], [(0, .var [.int .i64 2, .int .i64 v1, .int .i64 0])], 1⟩ (fun K hK => ?_) (fun s hs => ?_)
            · simp only [go_sem, Nat.reduceBEq, Nat.reduceLT, Nat.reduceLeDiff, Nat.reduceEqDiff, Nat.reduceAdd, Nat.reduceSub, Nat.reduceMul, Int.reduceBEq, Int.reduceBNe, Int.reduceLT, Int.reduceLE, Int.reduceEq, Int.reduceGT, Int.reduceAdd, Int.reduceSub, Int.reduceNeg, Int.reduceToNat, reduceCtorEq, reduceIte]
              exact hK _ (St.ent_by [0] rfl (Nat.le_of_ble_eq_true rfl) rfl (by decide) (by simp only [push_cast, Nat.reduceEqDiff, Nat.reduceAdd, reduceCtorEq, reduceIte]) (by simp only [push_cast, Nat.reduceEqDiff, Nat.reduceAdd, reduceCtorEq, reduceIte]))
            refine dN_seq hR20 (XA_ent hs ?_)
            refine XA_ret ?_
            refine dR_block hR14 ?_
            refine dR_block hR12 ?_
            refine dR_seq hR11 ?_
            refine dR_seq hR8 ?_
            refine dR_block hR7 ?_
            refine dR_seq hR5 ?_
            refine hR0 _ _ ⟨_, St.ent_self, EndPost_ret (v := .agg [.int .i64 2, .int .i64 v1, .int .i64 0]) (by simp only [go_sem, Nat.reduceBEq, Nat.reduceLT, Nat.reduceLeDiff, Nat.reduceEqDiff, Nat.reduceAdd, Nat.reduceSub, Nat.reduceMul, Int.reduceBEq, Int.reduceBNe, Int.reduceLT, Int.reduceLE, Int.reduceEq, Int.reduceGT, Int.reduceAdd, Int.reduceSub, Int.reduceNeg, Int.reduceToNat, reduceCtorEq, reduceIte]) ?_⟩
            have h := Option.some.inj h; subst h
            exact (St.ent_by [] rfl (Nat.le_of_ble_eq_true rfl) rfl (by decide) (by simp only [push_cast, Nat.reduceEqDiff, Nat.reduceAdd, reduceCtorEq, reduceIte]) (by simp only [push_cast, Nat.reduceEqDiff, Nat.reduceAdd, reduceCtorEq, reduceIte]))
          · rw [g6, cond_false] at h
            refine XA_skip ?_
            refine dN_block hR14 ?_
            refine dN_block hR12 ?_
            refine dN_seq hR11 ?_
            refine XA_reg_g ?_
            refine RG_end ⟨[(0, .ls (List.map Src.av a1) false), (2, .ptr 0 0), (9, .ls (List.map Src.av a1) false), (10, .int .i64 (a1.length : Int)), (11, .int .i64 (IntKind.i64.wrap (v1 + 1)))], [(0, .var [.int .i64 0, .int .i64 0, .int .i64 0])], 1⟩ (fun K hK => ?_) (fun s hs => ?_)
            · simp only [go_sem, Nat.reduceBEq, Nat.reduceLT, Nat.reduceLeDiff, Nat.reduceEqDiff, Nat.reduceAdd, Nat.reduceSub, Nat.reduceMul, Int.reduceBEq, Int.reduceBNe, Int.reduceLT, Int.reduceLE, Int.reduceEq, Int.reduceGT, Int.reduceAdd, Int.reduceSub, Int.reduceNeg, Int.reduceToNat, reduceCtorEq, reduceIte]
              exact hK _ (St.ent_by [0] rfl (Nat.le_of_ble_eq_true rfl) rfl (by decide) (by simp only [push_cast, Nat.reduceEqDiff, Nat.reduceAdd, reduceCtorEq, reduceIte]) (by simp only [push_cast, Nat.reduceEqDiff, Nat.reduceAdd, reduceCtorEq, reduceIte]))
            exact dN_seq hR8 ⟨(IntKind.i64.wrap (v1 + 1)), (hs.trans (St.ent_by [0] rfl (Nat.le_of_ble_eq_true rfl) rfl (by decide) (by simp only [push_cast, Nat.reduceEqDiff, Nat.reduceAdd, reduceCtorEq, reduceIte]) (by simp only [push_cast, Nat.reduceEqDiff, Nat.reduceAdd, reduceCtorEq, reduceIte]))), h⟩
    · rw [g2, cond_false] at h
      refine XA_exit ?_
      refine dX_seq hR10 ?_
      refine dX_seq hR8 ?_
      refine dE_block hR7 ?_
      refine dN_seq hR5 ?_
      refine XA_seq_st fun R21 hR21 => ?_
      refine XA_reg_g ?_
      refine RG_end ⟨[(2, .ptr 0 0)], [(0, .var [.int .i64 0, .int .i64 (-1), .int .i64 0])], 1⟩ (fun K hK => ?_) (fun s hs => ?_)
      · simp only [go_sem, Nat.reduceBEq, Nat.reduceLT, Nat.reduceLeDiff, Nat.reduceEqDiff, Nat.reduceAdd, Nat.reduceSub, Nat.reduceMul, Int.reduceBEq, Int.reduceBNe, Int.reduceLT, Int.reduceLE, Int.reduceEq, Int.reduceGT, Int.reduceAdd, Int.reduceSub, Int.reduceNeg, Int.reduceToNat, reduceCtorEq, reduceIte]
        exact hK _ (St.ent_by [0] rfl (Nat.le_of_ble_eq_true rfl) rfl (by decide) (by simp only [push_cast, Nat.reduceEqDiff, Nat.reduceAdd, reduceCtorEq, reduceIte]) (by simp only [push_cast, Nat.reduceEqDiff, Nat.reduceAdd, reduceCtorEq, reduceIte]))
      refine dN_seq hR21 (XA_ent hs ?_)
      refine XA_ret ?_
      refine hR0 _ _ ⟨_, St.ent_self, EndPost_ret (v := .agg [.int .i64 0, .int .i64 (-1), .int .i64 0]) (by simp only [go_sem, Nat.reduceBEq, Nat.reduceLT, Nat.reduceLeDiff, Nat.reduceEqDiff, Nat.reduceAdd, Nat.reduceSub, Nat.reduceMul, Int.reduceBEq, Int.reduceBNe, Int.reduceLT, Int.reduceLE, Int.reduceEq, Int.reduceGT, Int.reduceAdd, Int.reduceSub, Int.reduceNeg, Int.reduceToNat, reduceCtorEq, reduceIte]) ?_⟩
      have h := Option.some.inj h; subst h
      exact (St.ent_by [] rfl (Nat.le_of_ble_eq_true rfl) rfl (by decide) (by simp only [push_cast, Nat.reduceEqDiff, Nat.reduceAdd, reduceCtorEq, reduceIte]) (by simp only [push_cast, Nat.reduceEqDiff, Nat.reduceAdd, reduceCtorEq, reduceIte]))
end Go.Proofs
