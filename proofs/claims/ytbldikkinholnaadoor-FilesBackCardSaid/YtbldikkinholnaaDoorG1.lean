/-
  Pure functions, and that the code does what they do: by program.
-/
import Derived.Test.YtbldikkinholnaaDoorP1
namespace Go.Proofs
open Go Go.Ab
set_option linter.unusedSimpArgs false
set_option linter.unusedVariables false
set_option maxHeartbeats 8000000

structure Src where
  path : List UInt8
  text : List UInt8
  deriving DecidableEq, Inhabited
def Src.av (x : Src) : AV := .agg [.str x.path, .str x.text]
instance : Flat Src.av 2 := ⟨fun _ _ => rfl, fun x => by simp only [Src.av, AV.wk, AV.wks, wks_map], fun _ => rfl, fun _ => rfl, fun _ => rfl, fun _ _ _ => by simp only [Src.av, AV.fz, AV.fzs, fzs_map]⟩
structure Edt where
  file : Int
  fro : Int
  to_ : Int
  text : List UInt8
  deriving DecidableEq, Inhabited
def Edt.av (x : Edt) : AV := .agg [.int .i64 x.file, .int .i64 x.fro, .int .i64 x.to_, .str x.text]
instance : Flat Edt.av 4 := ⟨fun _ _ => rfl, fun x => by simp only [Edt.av, AV.wk, AV.wks, wks_map], fun _ => rfl, fun _ => rfl, fun _ => rfl, fun _ _ _ => by simp only [Edt.av, AV.fz, AV.fzs, fzs_map]⟩
structure Flt where
  err : Int
  file : Int
  at_ : Int
  deriving DecidableEq, Inhabited
def Flt.av (x : Flt) : AV := .agg [.int .i64 x.err, .int .i64 x.file, .int .i64 x.at_]
instance : Flat Flt.av 3 := ⟨fun _ _ => rfl, fun x => by simp only [Flt.av, AV.wk, AV.wks, wks_map], fun _ => rfl, fun _ => rfl, fun _ => rfl, fun _ _ _ => by simp only [Flt.av, AV.fz, AV.fzs, fzs_map]⟩
attribute [go_sem] Src.av Edt.av Flt.av
attribute [push_cast] Src.av Edt.av Flt.av

def sameFiles_b1 (a1 : List Src) (a2 : List Src) (again1 : Int → Option (Bool)) (v1 : Int) : Option (Bool) :=
  (cond (decide (v1 < (a1.length : Int))) (ob (rd a1 v1) fun x1 => (ob (rd a2 v1) fun x2 => (cond (!((x1.path == x2.path) && (x1.text == x2.text))) (some false) (again1 (IntKind.i64.wrap (v1 + 1)))))) (some true))

def sameFiles (fuel : Nat) (a1 : List Src) (a2 : List Src) : Option (Bool) :=
  (cond ((a1.length : Int) != (a2.length : Int)) (some false) (loopF (fun again1 v => sameFiles_b1 a1 a2 again1 v) fuel 0))

theorem ok_sameFiles {fuel : Nat} {a1 : List Src} {a2 : List Src} {r : Bool} (h : sameFiles fuel a1 a2 = some r) : FnOk Tryd.prog 8 [.ls (List.map Src.av a1) false, .ls (List.map Src.av a2) false] [] 0 (fun q s k => q = .ret (.bool r) ∧ s = [] ∧ k = 0) := by
  refine Fn_by Tryd.func8 Tryd.ntmps8 Tryd.cc8 (Nat.le_of_ble_eq_true rfl) (rs := [.tmp 4]) (by kernel_rfl) (fun R0 hR0 => ?_)
  unfold sameFiles at h
  unfold Tryd.ac8
  refine (show XA _ _ _ _ ⟨[(0, .ls (List.map Src.av a1) false), (1, .ls (List.map Src.av a2) false)], [], 0⟩ from ?_)
  refine XA_seq_st fun R1 hR1 => ?_
  refine XA_reg_g ?_
  refine RG_end ⟨[(0, .ls (List.map Src.av a1) false), (1, .ls (List.map Src.av a2) false)], [], 0⟩ (fun K hK => ?_) (fun s hs => ?_)
  · simp only [go_sem, Nat.reduceBEq, Nat.reduceLT, Nat.reduceLeDiff, Nat.reduceEqDiff, Nat.reduceAdd, Nat.reduceSub, Nat.reduceMul, Int.reduceBEq, Int.reduceBNe, Int.reduceLT, Int.reduceLE, Int.reduceEq, Int.reduceGT, Int.reduceAdd, Int.reduceSub, Int.reduceNeg, Int.reduceToNat, reduceCtorEq, reduceIte]
    exact hK _ (St.ent_by [] rfl (Nat.le_of_ble_eq_true rfl) rfl (by decide) (by simp only [push_cast, Nat.reduceEqDiff, Nat.reduceAdd, reduceCtorEq, reduceIte]) (by simp only [push_cast, Nat.reduceEqDiff, Nat.reduceAdd, reduceCtorEq, reduceIte]))
  refine dN_seq hR1 (XA_ent hs ?_)
  refine XA_seq_st fun R2 hR2 => ?_
  refine XA_seq_st fun R3 hR3 => ?_
  refine XA_reg_g ?_
  refine RG_end ⟨[(0, .ls (List.map Src.av a1) false), (1, .ls (List.map Src.av a2) false), (10, .bool ((a1.length : Int) != (a2.length : Int)))], [], 0⟩ (fun K hK => ?_) (fun s hs => ?_)
  · simp only [go_sem, Nat.reduceBEq, Nat.reduceLT, Nat.reduceLeDiff, Nat.reduceEqDiff, Nat.reduceAdd, Nat.reduceSub, Nat.reduceMul, Int.reduceBEq, Int.reduceBNe, Int.reduceLT, Int.reduceLE, Int.reduceEq, Int.reduceGT, Int.reduceAdd, Int.reduceSub, Int.reduceNeg, Int.reduceToNat, reduceCtorEq, reduceIte]
    exact hK _ (St.ent_by [] rfl (Nat.le_of_ble_eq_true rfl) rfl (by decide) (by simp only [push_cast, Nat.reduceEqDiff, Nat.reduceAdd, reduceCtorEq, reduceIte]) (by simp only [push_cast, Nat.reduceEqDiff, Nat.reduceAdd, reduceCtorEq, reduceIte]))
  refine dN_seq hR3 (XA_ent hs ?_)
  refine XA_cond (t := ((a1.length : Int) != (a2.length : Int))) rfl (fun g1 => ?_) (fun g1 => ?_)
  · rw [g1, cond_true] at h
    refine XA_seq_st fun R4 hR4 => ?_
    refine XA_reg_g ?_
    refine RG_end ⟨[(4, .bool false)], [], 0⟩ (fun K hK => ?_) (fun s hs => ?_)
    · simp only [go_sem, Nat.reduceBEq, Nat.reduceLT, Nat.reduceLeDiff, Nat.reduceEqDiff, Nat.reduceAdd, Nat.reduceSub, Nat.reduceMul, Int.reduceBEq, Int.reduceBNe, Int.reduceLT, Int.reduceLE, Int.reduceEq, Int.reduceGT, Int.reduceAdd, Int.reduceSub, Int.reduceNeg, Int.reduceToNat, reduceCtorEq, reduceIte]
      exact hK _ (St.ent_by [] rfl (Nat.le_of_ble_eq_true rfl) rfl (by decide) (by simp only [push_cast, Nat.reduceEqDiff, Nat.reduceAdd, reduceCtorEq, reduceIte]) (by simp only [push_cast, Nat.reduceEqDiff, Nat.reduceAdd, reduceCtorEq, reduceIte]))
    refine dN_seq hR4 (XA_ent hs ?_)
    refine XA_ret ?_
    refine dR_seq hR2 ?_
    refine hR0 _ _ ⟨_, St.ent_self, EndPost_ret (v := .bool false) (by simp only [go_sem, Nat.reduceBEq, Nat.reduceLT, Nat.reduceLeDiff, Nat.reduceEqDiff, Nat.reduceAdd, Nat.reduceSub, Nat.reduceMul, Int.reduceBEq, Int.reduceBNe, Int.reduceLT, Int.reduceLE, Int.reduceEq, Int.reduceGT, Int.reduceAdd, Int.reduceSub, Int.reduceNeg, Int.reduceToNat, reduceCtorEq, reduceIte]) ?_⟩
    have h := Option.some.inj h; subst h
    exact (St.ent_by [] rfl (Nat.le_of_ble_eq_true rfl) rfl (by decide) (by simp only [push_cast, Nat.reduceEqDiff, Nat.reduceAdd, reduceCtorEq, reduceIte]) (by simp only [push_cast, Nat.reduceEqDiff, Nat.reduceAdd, reduceCtorEq, reduceIte]))
  · rw [g1, cond_false] at h
    refine XA_skip ?_
    refine dN_seq hR2 ?_
    refine XA_seq_st fun R5 hR5 => ?_
    refine XA_seq_st fun R6 hR6 => ?_
    refine XA_reg_g ?_
    refine RG_end ⟨[(0, .ls (List.map Src.av a1) false), (1, .ls (List.map Src.av a2) false), (12, .int .i64 (a1.length : Int)), (13, .int .i64 0)], [], 0⟩ (fun K hK => ?_) (fun s hs => ?_)
    · simp only [go_sem, Nat.reduceBEq, Nat.reduceLT, Nat.reduceLeDiff, Nat.reduceEqDiff, Nat.reduceAdd, Nat.reduceSub, Nat.reduceMul, Int.reduceBEq, Int.reduceBNe, Int.reduceLT, Int.reduceLE, Int.reduceEq, Int.reduceGT, Int.reduceAdd, Int.reduceSub, Int.reduceNeg, Int.reduceToNat, reduceCtorEq, reduceIte]
      exact hK _ (St.ent_by [] rfl (Nat.le_of_ble_eq_true rfl) rfl (by decide) (by simp only [push_cast, Nat.reduceEqDiff, Nat.reduceAdd, reduceCtorEq, reduceIte]) (by simp only [push_cast, Nat.reduceEqDiff, Nat.reduceAdd, reduceCtorEq, reduceIte]))
    refine dN_seq hR6 (XA_ent hs ?_)
    refine XA_block_st fun R7 hR7 => ?_
    refine XA_loop_by (T := fun v : Int => ⟨[(0, .ls (List.map Src.av a1) false), (1, .ls (List.map Src.av a2) false), (12, .int .i64 (a1.length : Int)), (13, .int .i64 v)], [], 0⟩) (fuel := fuel) h (St.ent_by [] rfl (Nat.le_of_ble_eq_true rfl) rfl (by decide) (by simp only [push_cast, Nat.reduceEqDiff, Nat.reduceAdd, reduceCtorEq, reduceIte]) (by simp only [push_cast, Nat.reduceEqDiff, Nat.reduceAdd, reduceCtorEq, reduceIte])) (fun again1 v h R8 hR8 => ?_)
    revert h; generalize v = v1; intro h
    replace h : sameFiles_b1 a1 a2 again1 v1 = some r := h
    unfold sameFiles_b1 at h
    refine (show XA _ _ _ _ ⟨[(0, .ls (List.map Src.av a1) false), (1, .ls (List.map Src.av a2) false), (12, .int .i64 (a1.length : Int)), (13, .int .i64 v1)], [], 0⟩ from ?_)
    refine XA_seq_st fun R9 hR9 => ?_
    refine XA_reg_g ?_
    refine RG_end ⟨[(0, .ls (List.map Src.av a1) false), (1, .ls (List.map Src.av a2) false), (12, .int .i64 (a1.length : Int)), (13, .int .i64 v1), (14, .bool (decide (v1 < (a1.length : Int))))], [], 0⟩ (fun K hK => ?_) (fun s hs => ?_)
    · simp only [go_sem, Nat.reduceBEq, Nat.reduceLT, Nat.reduceLeDiff, Nat.reduceEqDiff, Nat.reduceAdd, Nat.reduceSub, Nat.reduceMul, Int.reduceBEq, Int.reduceBNe, Int.reduceLT, Int.reduceLE, Int.reduceEq, Int.reduceGT, Int.reduceAdd, Int.reduceSub, Int.reduceNeg, Int.reduceToNat, reduceCtorEq, reduceIte]
      exact hK _ (St.ent_by [] rfl (Nat.le_of_ble_eq_true rfl) rfl (by decide) (by simp only [push_cast, Nat.reduceEqDiff, Nat.reduceAdd, reduceCtorEq, reduceIte]) (by simp only [push_cast, Nat.reduceEqDiff, Nat.reduceAdd, reduceCtorEq, reduceIte]))
    refine dN_seq hR9 (XA_ent hs ?_)
    refine XA_seq_st fun R10 hR10 => ?_
    refine XA_cond (t := (decide (v1 < (a1.length : Int)))) rfl (fun g2 => ?_) (fun g2 => ?_)
    · rw [g2, cond_true] at h
      refine XA_skip ?_
      refine dN_seq hR10 ?_
      refine XA_seq_st fun R11 hR11 => ?_
      refine XA_block_st fun R12 hR12 => ?_
      refine XA_seq_st fun R13 hR13 => ?_
      refine XA_reg_g ?_
      refine RG_end ⟨[(0, .ls (List.map Src.av a1) false), (1, .ls (List.map Src.av a2) false), (5, .int .i64 v1), (12, .int .i64 (a1.length : Int)), (13, .int .i64 v1)], [], 0⟩ (fun K hK => ?_) (fun s hs => ?_)
      · simp only [go_sem, Nat.reduceBEq, Nat.reduceLT, Nat.reduceLeDiff, Nat.reduceEqDiff, Nat.reduceAdd, Nat.reduceSub, Nat.reduceMul, Int.reduceBEq, Int.reduceBNe, Int.reduceLT, Int.reduceLE, Int.reduceEq, Int.reduceGT, Int.reduceAdd, Int.reduceSub, Int.reduceNeg, Int.reduceToNat, reduceCtorEq, reduceIte]
        exact hK _ (St.ent_by [] rfl (Nat.le_of_ble_eq_true rfl) rfl (by decide) (by simp only [push_cast, Nat.reduceEqDiff, Nat.reduceAdd, reduceCtorEq, reduceIte]) (by simp only [push_cast, Nat.reduceEqDiff, Nat.reduceAdd, reduceCtorEq, reduceIte]))
      refine dN_seq hR13 (XA_ent hs ?_)
      refine XA_seq_st fun R14 hR14 => ?_
      obtain ⟨x1, hx1, h⟩ := ob_some h
      have ix1 := rd_in hx1
      have gx1 := rd_get hx1
      try simp only [Int.reduceToNat, Int.toNat_natCast] at gx1
      obtain ⟨x2, hx2, h⟩ := ob_some h
      have ix2 := rd_in hx2
      have gx2 := rd_get hx2
      try simp only [Int.reduceToNat, Int.toNat_natCast] at gx2
      refine XA_regd_to mix ⟨[(0, .ls (List.map Src.av a1) false), (1, .ls (List.map Src.av a2) false), (12, .int .i64 (a1.length : Int)), (13, .int .i64 v1), (24, .bool (!((x1.path == x2.path) && (x1.text == x2.text))))], [], 0⟩ (fun K hK => ?_) (fun s hs => ?_)
      · simp only [go_sem, Nat.reduceBEq, Nat.reduceLT, Nat.reduceLeDiff, Nat.reduceEqDiff, Nat.reduceAdd, Nat.reduceSub, Nat.reduceMul, Int.reduceBEq, Int.reduceBNe, Int.reduceLT, Int.reduceLE, Int.reduceEq, Int.reduceGT, Int.reduceAdd, Int.reduceSub, Int.reduceNeg, Int.reduceToNat, reduceCtorEq, reduceIte, ix1, gx1, ix2, gx2]
        exact hK _ (St.ent_by [] rfl (Nat.le_of_ble_eq_true rfl) rfl (by decide) (by simp only [push_cast, Nat.reduceEqDiff, Nat.reduceAdd, reduceCtorEq, reduceIte]) (by simp only [push_cast, Nat.reduceEqDiff, Nat.reduceAdd, reduceCtorEq, reduceIte]))
      refine dN_seq hR14 (XA_ent hs ?_)
      refine XA_cond (t := (!((x1.path == x2.path) && (x1.text == x2.text)))) rfl (fun g3 => ?_) (fun g3 => ?_)
      · rw [g3, cond_true] at h
        refine XA_seq_st fun R15 hR15 => ?_
        refine XA_reg_g ?_
        refine RG_end ⟨[(4, .bool false)], [], 0⟩ (fun K hK => ?_) (fun s hs => ?_)
        · simp only [go_sem, Nat.reduceBEq, Nat.reduceLT, Nat.reduceLeDiff, Nat.reduceEqDiff, Nat.reduceAdd, Nat.reduceSub, Nat.reduceMul, Int.reduceBEq, Int.reduceBNe, Int.reduceLT, Int.reduceLE, Int.reduceEq, Int.reduceGT, Int.reduceAdd, Int.reduceSub, Int.reduceNeg, Int.reduceToNat, reduceCtorEq, reduceIte]
          exact hK _ (St.ent_by [] rfl (Nat.le_of_ble_eq_true rfl) rfl (by decide) (by simp only [push_cast, Nat.reduceEqDiff, Nat.reduceAdd, reduceCtorEq, reduceIte]) (by simp only [push_cast, Nat.reduceEqDiff, Nat.reduceAdd, reduceCtorEq, reduceIte]))
        refine dN_seq hR15 (XA_ent hs ?_)
        refine XA_ret ?_
        refine dR_block hR12 ?_
        refine dR_seq hR11 ?_
        refine dR_seq hR8 ?_
        refine dR_block hR7 ?_
        refine dR_seq hR5 ?_
        refine hR0 _ _ ⟨_, St.ent_self, EndPost_ret (v := .bool false) (by simp only [go_sem, Nat.reduceBEq, Nat.reduceLT, Nat.reduceLeDiff, Nat.reduceEqDiff, Nat.reduceAdd, Nat.reduceSub, Nat.reduceMul, Int.reduceBEq, Int.reduceBNe, Int.reduceLT, Int.reduceLE, Int.reduceEq, Int.reduceGT, Int.reduceAdd, Int.reduceSub, Int.reduceNeg, Int.reduceToNat, reduceCtorEq, reduceIte]) ?_⟩
        have h := Option.some.inj h; subst h
        exact (St.ent_by [] rfl (Nat.le_of_ble_eq_true rfl) rfl (by decide) (by simp only [push_cast, Nat.reduceEqDiff, Nat.reduceAdd, reduceCtorEq, reduceIte]) (by simp only [push_cast, Nat.reduceEqDiff, Nat.reduceAdd, reduceCtorEq, reduceIte]))
      · rw [g3, cond_false] at h
        refine XA_skip ?_
        refine dN_block hR12 ?_
        refine dN_seq hR11 ?_
        refine XA_reg_g ?_
        refine RG_end ⟨[(0, .ls (List.map Src.av a1) false), (1, .ls (List.map Src.av a2) false), (12, .int .i64 (a1.length : Int)), (13, .int .i64 (IntKind.i64.wrap (v1 + 1)))], [], 0⟩ (fun K hK => ?_) (fun s hs => ?_)
        · simp only [go_sem, Nat.reduceBEq, Nat.reduceLT, Nat.reduceLeDiff, Nat.reduceEqDiff, Nat.reduceAdd, Nat.reduceSub, Nat.reduceMul, Int.reduceBEq, Int.reduceBNe, Int.reduceLT, Int.reduceLE, Int.reduceEq, Int.reduceGT, Int.reduceAdd, Int.reduceSub, Int.reduceNeg, Int.reduceToNat, reduceCtorEq, reduceIte]
          exact hK _ (St.ent_by [] rfl (Nat.le_of_ble_eq_true rfl) rfl (by decide) (by simp only [push_cast, Nat.reduceEqDiff, Nat.reduceAdd, reduceCtorEq, reduceIte]) (by simp only [push_cast, Nat.reduceEqDiff, Nat.reduceAdd, reduceCtorEq, reduceIte]))
        exact dN_seq hR8 ⟨(IntKind.i64.wrap (v1 + 1)), (hs.trans (St.ent_by [] rfl (Nat.le_of_ble_eq_true rfl) rfl (by decide) (by simp only [push_cast, Nat.reduceEqDiff, Nat.reduceAdd, reduceCtorEq, reduceIte]) (by simp only [push_cast, Nat.reduceEqDiff, Nat.reduceAdd, reduceCtorEq, reduceIte]))), h⟩
    · rw [g2, cond_false] at h
      refine XA_exit ?_
      refine dX_seq hR10 ?_
      refine dX_seq hR8 ?_
      refine dE_block hR7 ?_
      refine dN_seq hR5 ?_
      refine XA_seq_st fun R16 hR16 => ?_
      refine XA_reg_g ?_
      refine RG_end ⟨[(4, .bool true)], [], 0⟩ (fun K hK => ?_) (fun s hs => ?_)
      · simp only [go_sem, Nat.reduceBEq, Nat.reduceLT, Nat.reduceLeDiff, Nat.reduceEqDiff, Nat.reduceAdd, Nat.reduceSub, Nat.reduceMul, Int.reduceBEq, Int.reduceBNe, Int.reduceLT, Int.reduceLE, Int.reduceEq, Int.reduceGT, Int.reduceAdd, Int.reduceSub, Int.reduceNeg, Int.reduceToNat, reduceCtorEq, reduceIte]
        exact hK _ (St.ent_by [] rfl (Nat.le_of_ble_eq_true rfl) rfl (by decide) (by simp only [push_cast, Nat.reduceEqDiff, Nat.reduceAdd, reduceCtorEq, reduceIte]) (by simp only [push_cast, Nat.reduceEqDiff, Nat.reduceAdd, reduceCtorEq, reduceIte]))
      refine dN_seq hR16 (XA_ent hs ?_)
      refine XA_ret ?_
      refine hR0 _ _ ⟨_, St.ent_self, EndPost_ret (v := .bool true) (by simp only [go_sem, Nat.reduceBEq, Nat.reduceLT, Nat.reduceLeDiff, Nat.reduceEqDiff, Nat.reduceAdd, Nat.reduceSub, Nat.reduceMul, Int.reduceBEq, Int.reduceBNe, Int.reduceLT, Int.reduceLE, Int.reduceEq, Int.reduceGT, Int.reduceAdd, Int.reduceSub, Int.reduceNeg, Int.reduceToNat, reduceCtorEq, reduceIte]) ?_⟩
      have h := Option.some.inj h; subst h
      exact (St.ent_by [] rfl (Nat.le_of_ble_eq_true rfl) rfl (by decide) (by simp only [push_cast, Nat.reduceEqDiff, Nat.reduceAdd, reduceCtorEq, reduceIte]) (by simp only [push_cast, Nat.reduceEqDiff, Nat.reduceAdd, reduceCtorEq, reduceIte]))
def isNaN (a1 : Int) : Option (Bool) :=
  (some false)

theorem ok_isNaN {a1 : Int} {r : Bool} (h : isNaN a1 = some r) : FnOk Tryd.prog 33 [.int .i64 a1] [] 0 (fun q s k => q = .ret (.bool r) ∧ s = [] ∧ k = 0) := by
  refine Fn_by Tryd.func33 Tryd.ntmps33 Tryd.cc33 (Nat.le_of_ble_eq_true rfl) (rs := [.tmp 2]) (by kernel_rfl) (fun R0 hR0 => ?_)
  unfold isNaN at h
  unfold Tryd.ac33
  refine (show XA _ _ _ _ ⟨[(0, .int .i64 a1)], [], 0⟩ from ?_)
  refine XA_seq_st fun R1 hR1 => ?_
  refine XA_reg_g ?_
  refine RG_end ⟨[(0, .int .i64 a1)], [], 0⟩ (fun K hK => ?_) (fun s hs => ?_)
  · simp only [go_sem, Nat.reduceBEq, Nat.reduceLT, Nat.reduceLeDiff, Nat.reduceEqDiff, Nat.reduceAdd, Nat.reduceSub, Nat.reduceMul, Int.reduceBEq, Int.reduceBNe, Int.reduceLT, Int.reduceLE, Int.reduceEq, Int.reduceGT, Int.reduceAdd, Int.reduceSub, Int.reduceNeg, Int.reduceToNat, reduceCtorEq, reduceIte]
    exact hK _ (St.ent_by [] rfl (Nat.le_of_ble_eq_true rfl) rfl (by decide) (by simp only [push_cast, Nat.reduceEqDiff, Nat.reduceAdd, reduceCtorEq, reduceIte]) (by simp only [push_cast, Nat.reduceEqDiff, Nat.reduceAdd, reduceCtorEq, reduceIte]))
  refine dN_seq hR1 (XA_ent hs ?_)
  refine XA_seq_st fun R2 hR2 => ?_
  refine XA_reg_g ?_
  refine RG_end ⟨[(2, .bool false)], [], 0⟩ (fun K hK => ?_) (fun s hs => ?_)
  · simp only [go_sem, Nat.reduceBEq, Nat.reduceLT, Nat.reduceLeDiff, Nat.reduceEqDiff, Nat.reduceAdd, Nat.reduceSub, Nat.reduceMul, Int.reduceBEq, Int.reduceBNe, Int.reduceLT, Int.reduceLE, Int.reduceEq, Int.reduceGT, Int.reduceAdd, Int.reduceSub, Int.reduceNeg, Int.reduceToNat, reduceCtorEq, reduceIte]
    exact hK _ (St.ent_by [] rfl (Nat.le_of_ble_eq_true rfl) rfl (by decide) (by simp only [push_cast, Nat.reduceEqDiff, Nat.reduceAdd, reduceCtorEq, reduceIte]) (by simp only [push_cast, Nat.reduceEqDiff, Nat.reduceAdd, reduceCtorEq, reduceIte]))
  refine dN_seq hR2 (XA_ent hs ?_)
  refine XA_ret ?_
  refine hR0 _ _ ⟨_, St.ent_self, EndPost_ret (v := .bool false) (by simp only [go_sem, Nat.reduceBEq, Nat.reduceLT, Nat.reduceLeDiff, Nat.reduceEqDiff, Nat.reduceAdd, Nat.reduceSub, Nat.reduceMul, Int.reduceBEq, Int.reduceBNe, Int.reduceLT, Int.reduceLE, Int.reduceEq, Int.reduceGT, Int.reduceAdd, Int.reduceSub, Int.reduceNeg, Int.reduceToNat, reduceCtorEq, reduceIte]) ?_⟩
  have h := Option.some.inj h; subst h
  exact (St.ent_by [] rfl (Nat.le_of_ble_eq_true rfl) rfl (by decide) (by simp only [push_cast, Nat.reduceEqDiff, Nat.reduceAdd, reduceCtorEq, reduceIte]) (by simp only [push_cast, Nat.reduceEqDiff, Nat.reduceAdd, reduceCtorEq, reduceIte]))
def compare (a1 : Int) (a2 : Int) : Option (Int) :=
  (ob (isNaN a1) fun r1 => (ob (isNaN a2) fun r2 => (cond r1 (cond r2 (some 0) (some (-1))) (cond r2 (some 1) (cond (decide (a1 < a2)) (some (-1)) (cond (decide (a1 > a2)) (some 1) (some 0)))))))

theorem ok_compare {a1 : Int} {a2 : Int} {r : Int} (h : compare a1 a2 = some r) : FnOk Tryd.prog 25 [.int .i64 a1, .int .i64 a2] [] 0 (fun q s k => q = .ret (.int .i64 r) ∧ s = [] ∧ k = 0) := by
  refine Fn_by Tryd.func25 Tryd.ntmps25 Tryd.cc25 (Nat.le_of_ble_eq_true rfl) (rs := [.tmp 4]) (by kernel_rfl) (fun R0 hR0 => ?_)
  unfold compare at h
  unfold Tryd.ac25
  refine (show XA _ _ _ _ ⟨[(0, .int .i64 a1), (1, .int .i64 a2)], [], 0⟩ from ?_)
  refine XA_seq_st fun R1 hR1 => ?_
  refine XA_reg_g ?_
  refine RG_end ⟨[(0, .int .i64 a1), (1, .int .i64 a2)], [], 0⟩ (fun K hK => ?_) (fun s hs => ?_)
  · simp only [go_sem, Nat.reduceBEq, Nat.reduceLT, Nat.reduceLeDiff, Nat.reduceEqDiff, Nat.reduceAdd, Nat.reduceSub, Nat.reduceMul, Int.reduceBEq, Int.reduceBNe, Int.reduceLT, Int.reduceLE, Int.reduceEq, Int.reduceGT, Int.reduceAdd, Int.reduceSub, Int.reduceNeg, Int.reduceToNat, reduceCtorEq, reduceIte]
    exact hK _ (St.ent_by [] rfl (Nat.le_of_ble_eq_true rfl) rfl (by decide) (by simp only [push_cast, Nat.reduceEqDiff, Nat.reduceAdd, reduceCtorEq, reduceIte]) (by simp only [push_cast, Nat.reduceEqDiff, Nat.reduceAdd, reduceCtorEq, reduceIte]))
  refine dN_seq hR1 (XA_ent hs ?_)
  refine XA_seq_st fun R2 hR2 => ?_
  refine XA_reg_g ?_
  obtain ⟨r1, hr1, h⟩ := ob_some h
  refine RG_end ⟨[(0, .int .i64 a1), (1, .int .i64 a2), (5, .bool r1)], [], 0⟩ (fun K hK => ?_) (fun s hs => ?_)
  · refine runs_cut 1 fun K1 hK1 => ?_
    simp only [go_sem, Nat.reduceBEq, Nat.reduceLT, Nat.reduceLeDiff, Nat.reduceEqDiff, Nat.reduceAdd, Nat.reduceSub, Nat.reduceMul, Int.reduceBEq, Int.reduceBNe, Int.reduceLT, Int.reduceLE, Int.reduceEq, Int.reduceGT, Int.reduceAdd, Int.reduceSub, Int.reduceNeg, Int.reduceToNat, reduceCtorEq, reduceIte]
    refine hK1 _ ?_
    simp only [List.take_succ_cons, List.take_zero, List.drop_succ_cons, List.drop_zero]
    refine runs_call rfl rfl (CallP.wk (CallP_of [] _ _ (.of Tryd.func33 (by kernel_rfl)) (ok_isNaN hr1) (by simp only [go_sem, Nat.reduceBEq, Nat.reduceLT, Nat.reduceLeDiff, Nat.reduceEqDiff, Nat.reduceAdd, Nat.reduceSub, Nat.reduceMul, Int.reduceBEq, Int.reduceBNe, Int.reduceLT, Int.reduceLE, Int.reduceEq, Int.reduceGT, Int.reduceAdd, Int.reduceSub, Int.reduceNeg, Int.reduceToNat, reduceCtorEq, reduceIte]) (by simp only [push_cast, Nat.reduceEqDiff, Nat.reduceAdd, reduceCtorEq, reduceIte, entStore]) rfl (by decide) ?_ (by rintro _ _ _ ⟨hv, _⟩; cases hv)))
    rintro _ _ _ ⟨hv, rfl, rfl⟩
    cases hv
    simp only [go_sem, Nat.reduceBEq, Nat.reduceLT, Nat.reduceLeDiff, Nat.reduceEqDiff, Nat.reduceAdd, Nat.reduceSub, Nat.reduceMul, Int.reduceBEq, Int.reduceBNe, Int.reduceLT, Int.reduceLE, Int.reduceEq, Int.reduceGT, Int.reduceAdd, Int.reduceSub, Int.reduceNeg, Int.reduceToNat, reduceCtorEq, reduceIte]
    exact hK _ (St.ent_by [] rfl (Nat.le_of_ble_eq_true rfl) rfl (by decide) (by simp only [push_cast, Nat.reduceEqDiff, Nat.reduceAdd, reduceCtorEq, reduceIte]) (by simp only [push_cast, Nat.reduceEqDiff, Nat.reduceAdd, reduceCtorEq, reduceIte]))
  refine dN_seq hR2 (XA_ent hs ?_)
  refine XA_seq_st fun R3 hR3 => ?_
  refine XA_reg_g ?_
  obtain ⟨r2, hr2, h⟩ := ob_some h
  refine RG_end ⟨[(0, .int .i64 a1), (1, .int .i64 a2), (5, .bool r1), (6, .bool r2)], [], 0⟩ (fun K hK => ?_) (fun s hs => ?_)
  · refine runs_cut 1 fun K2 hK2 => ?_
    simp only [go_sem, Nat.reduceBEq, Nat.reduceLT, Nat.reduceLeDiff, Nat.reduceEqDiff, Nat.reduceAdd, Nat.reduceSub, Nat.reduceMul, Int.reduceBEq, Int.reduceBNe, Int.reduceLT, Int.reduceLE, Int.reduceEq, Int.reduceGT, Int.reduceAdd, Int.reduceSub, Int.reduceNeg, Int.reduceToNat, reduceCtorEq, reduceIte]
    refine hK2 _ ?_
    simp only [List.take_succ_cons, List.take_zero, List.drop_succ_cons, List.drop_zero]
    refine runs_call rfl rfl (CallP.wk (CallP_of [] _ _ (.of Tryd.func33 (by kernel_rfl)) (ok_isNaN hr2) (by simp only [go_sem, Nat.reduceBEq, Nat.reduceLT, Nat.reduceLeDiff, Nat.reduceEqDiff, Nat.reduceAdd, Nat.reduceSub, Nat.reduceMul, Int.reduceBEq, Int.reduceBNe, Int.reduceLT, Int.reduceLE, Int.reduceEq, Int.reduceGT, Int.reduceAdd, Int.reduceSub, Int.reduceNeg, Int.reduceToNat, reduceCtorEq, reduceIte]) (by simp only [push_cast, Nat.reduceEqDiff, Nat.reduceAdd, reduceCtorEq, reduceIte, entStore]) rfl (by decide) ?_ (by rintro _ _ _ ⟨hv, _⟩; cases hv)))
    rintro _ _ _ ⟨hv, rfl, rfl⟩
    cases hv
    simp only [go_sem, Nat.reduceBEq, Nat.reduceLT, Nat.reduceLeDiff, Nat.reduceEqDiff, Nat.reduceAdd, Nat.reduceSub, Nat.reduceMul, Int.reduceBEq, Int.reduceBNe, Int.reduceLT, Int.reduceLE, Int.reduceEq, Int.reduceGT, Int.reduceAdd, Int.reduceSub, Int.reduceNeg, Int.reduceToNat, reduceCtorEq, reduceIte]
    exact hK _ (St.ent_by [] rfl (Nat.le_of_ble_eq_true rfl) rfl (by decide) (by simp only [push_cast, Nat.reduceEqDiff, Nat.reduceAdd, reduceCtorEq, reduceIte]) (by simp only [push_cast, Nat.reduceEqDiff, Nat.reduceAdd, reduceCtorEq, reduceIte]))
  refine dN_seq hR3 (XA_ent hs ?_)
  refine XA_seq_st fun R4 hR4 => ?_
  refine XA_seq_st fun R5 hR5 => ?_
  refine XA_reg_g ?_
  refine RG_end ⟨[(0, .int .i64 a1), (1, .int .i64 a2), (6, .bool r2), (11, .bool r1)], [], 0⟩ (fun K hK => ?_) (fun s hs => ?_)
  · simp only [go_sem, Nat.reduceBEq, Nat.reduceLT, Nat.reduceLeDiff, Nat.reduceEqDiff, Nat.reduceAdd, Nat.reduceSub, Nat.reduceMul, Int.reduceBEq, Int.reduceBNe, Int.reduceLT, Int.reduceLE, Int.reduceEq, Int.reduceGT, Int.reduceAdd, Int.reduceSub, Int.reduceNeg, Int.reduceToNat, reduceCtorEq, reduceIte]
    exact hK _ (St.ent_by [] rfl (Nat.le_of_ble_eq_true rfl) rfl (by decide) (by simp only [push_cast, Nat.reduceEqDiff, Nat.reduceAdd, reduceCtorEq, reduceIte]) (by simp only [push_cast, Nat.reduceEqDiff, Nat.reduceAdd, reduceCtorEq, reduceIte]))
  refine dN_seq hR5 (XA_ent hs ?_)
  refine XA_cond (t := r1) rfl (fun g1 => ?_) (fun g1 => ?_)
  · rw [g1, cond_true] at h
    refine XA_seq_st fun R6 hR6 => ?_
    refine XA_seq_st fun R7 hR7 => ?_
    refine XA_reg_g ?_
    refine RG_end ⟨[(12, .bool r2)], [], 0⟩ (fun K hK => ?_) (fun s hs => ?_)
    · simp only [go_sem, Nat.reduceBEq, Nat.reduceLT, Nat.reduceLeDiff, Nat.reduceEqDiff, Nat.reduceAdd, Nat.reduceSub, Nat.reduceMul, Int.reduceBEq, Int.reduceBNe, Int.reduceLT, Int.reduceLE, Int.reduceEq, Int.reduceGT, Int.reduceAdd, Int.reduceSub, Int.reduceNeg, Int.reduceToNat, reduceCtorEq, reduceIte]
      exact hK _ (St.ent_by [] rfl (Nat.le_of_ble_eq_true rfl) rfl (by decide) (by simp only [push_cast, Nat.reduceEqDiff, Nat.reduceAdd, reduceCtorEq, reduceIte]) (by simp only [push_cast, Nat.reduceEqDiff, Nat.reduceAdd, reduceCtorEq, reduceIte]))
    refine dN_seq hR7 (XA_ent hs ?_)
    refine XA_cond (t := r2) rfl (fun g2 => ?_) (fun g2 => ?_)
    · rw [g2, cond_true] at h
      refine XA_seq_st fun R8 hR8 => ?_
      refine XA_reg_g ?_
      refine RG_end ⟨[(4, .int .i64 0)], [], 0⟩ (fun K hK => ?_) (fun s hs => ?_)
      · simp only [go_sem, Nat.reduceBEq, Nat.reduceLT, Nat.reduceLeDiff, Nat.reduceEqDiff, Nat.reduceAdd, Nat.reduceSub, Nat.reduceMul, Int.reduceBEq, Int.reduceBNe, Int.reduceLT, Int.reduceLE, Int.reduceEq, Int.reduceGT, Int.reduceAdd, Int.reduceSub, Int.reduceNeg, Int.reduceToNat, reduceCtorEq, reduceIte]
        exact hK _ (St.ent_by [] rfl (Nat.le_of_ble_eq_true rfl) rfl (by decide) (by simp only [push_cast, Nat.reduceEqDiff, Nat.reduceAdd, reduceCtorEq, reduceIte]) (by simp only [push_cast, Nat.reduceEqDiff, Nat.reduceAdd, reduceCtorEq, reduceIte]))
      refine dN_seq hR8 (XA_ent hs ?_)
      refine XA_ret ?_
      refine dR_seq hR6 ?_
      refine dR_seq hR4 ?_
      refine hR0 _ _ ⟨_, St.ent_self, EndPost_ret (v := .int .i64 0) (by simp only [go_sem, Nat.reduceBEq, Nat.reduceLT, Nat.reduceLeDiff, Nat.reduceEqDiff, Nat.reduceAdd, Nat.reduceSub, Nat.reduceMul, Int.reduceBEq, Int.reduceBNe, Int.reduceLT, Int.reduceLE, Int.reduceEq, Int.reduceGT, Int.reduceAdd, Int.reduceSub, Int.reduceNeg, Int.reduceToNat, reduceCtorEq, reduceIte]) ?_⟩
      have h := Option.some.inj h; subst h
      exact (St.ent_by [] rfl (Nat.le_of_ble_eq_true rfl) rfl (by decide) (by simp only [push_cast, Nat.reduceEqDiff, Nat.reduceAdd, reduceCtorEq, reduceIte]) (by simp only [push_cast, Nat.reduceEqDiff, Nat.reduceAdd, reduceCtorEq, reduceIte]))
    · rw [g2, cond_false] at h
      refine XA_skip ?_
      refine dN_seq hR6 ?_
      refine XA_seq_st fun R9 hR9 => ?_
      refine XA_reg_g ?_
      refine RG_end ⟨[(4, .int .i64 (-1))], [], 0⟩ (fun K hK => ?_) (fun s hs => ?_)
      · simp only [go_sem, Nat.reduceBEq, Nat.reduceLT, Nat.reduceLeDiff, Nat.reduceEqDiff, Nat.reduceAdd, Nat.reduceSub, Nat.reduceMul, Int.reduceBEq, Int.reduceBNe, Int.reduceLT, Int.reduceLE, Int.reduceEq, Int.reduceGT, Int.reduceAdd, Int.reduceSub, Int.reduceNeg, Int.reduceToNat, reduceCtorEq, reduceIte]
        exact hK _ (St.ent_by [] rfl (Nat.le_of_ble_eq_true rfl) rfl (by decide) (by simp only [push_cast, Nat.reduceEqDiff, Nat.reduceAdd, reduceCtorEq, reduceIte]) (by simp only [push_cast, Nat.reduceEqDiff, Nat.reduceAdd, reduceCtorEq, reduceIte]))
      refine dN_seq hR9 (XA_ent hs ?_)
      refine XA_ret ?_
      refine dR_seq hR4 ?_
      refine hR0 _ _ ⟨_, St.ent_self, EndPost_ret (v := .int .i64 (-1)) (by simp only [go_sem, Nat.reduceBEq, Nat.reduceLT, Nat.reduceLeDiff, Nat.reduceEqDiff, Nat.reduceAdd, Nat.reduceSub, Nat.reduceMul, Int.reduceBEq, Int.reduceBNe, Int.reduceLT, Int.reduceLE, Int.reduceEq, Int.reduceGT, Int.reduceAdd, Int.reduceSub, Int.reduceNeg, Int.reduceToNat, reduceCtorEq, reduceIte]) ?_⟩
      have h := Option.some.inj h; subst h
      exact (St.ent_by [] rfl (Nat.le_of_ble_eq_true rfl) rfl (by decide) (by simp only [push_cast, Nat.reduceEqDiff, Nat.reduceAdd, reduceCtorEq, reduceIte]) (by simp only [push_cast, Nat.reduceEqDiff, Nat.reduceAdd, reduceCtorEq, reduceIte]))
  · rw [g1, cond_false] at h
    refine XA_skip ?_
    refine dN_seq hR4 ?_
    refine XA_seq_st fun R10 hR10 => ?_
    refine XA_seq_st fun R11 hR11 => ?_
    refine XA_reg_g ?_
    refine RG_end ⟨[(0, .int .i64 a1), (1, .int .i64 a2), (13, .bool r2)], [], 0⟩ (fun K hK => ?_) (fun s hs => ?_)
    · simp only [go_sem, Nat.reduceBEq, Nat.reduceLT, Nat.reduceLeDiff, Nat.reduceEqDiff, Nat.reduceAdd, Nat.reduceSub, Nat.reduceMul, Int.reduceBEq, Int.reduceBNe, Int.reduceLT, Int.reduceLE, Int.reduceEq, Int.reduceGT, Int.reduceAdd, Int.reduceSub, Int.reduceNeg, Int.reduceToNat, reduceCtorEq, reduceIte]
      exact hK _ (St.ent_by [] rfl (Nat.le_of_ble_eq_true rfl) rfl (by decide) (by simp only [push_cast, Nat.reduceEqDiff, Nat.reduceAdd, reduceCtorEq, reduceIte]) (by simp only [push_cast, Nat.reduceEqDiff, Nat.reduceAdd, reduceCtorEq, reduceIte]))
    refine dN_seq hR11 (XA_ent hs ?_)
    refine XA_cond (t := r2) rfl (fun g3 => ?_) (fun g3 => ?_)
    · rw [g3, cond_true] at h
      refine XA_seq_st fun R12 hR12 => ?_
      refine XA_reg_g ?_
      refine RG_end ⟨[(4, .int .i64 1)], [], 0⟩ (fun K hK => ?_) (fun s hs => ?_)
      · simp only [go_sem, Nat.reduceBEq, Nat.reduceLT, Nat.reduceLeDiff, Nat.reduceEqDiff, Nat.reduceAdd, Nat.reduceSub, Nat.reduceMul, Int.reduceBEq, Int.reduceBNe, Int.reduceLT, Int.reduceLE, Int.reduceEq, Int.reduceGT, Int.reduceAdd, Int.reduceSub, Int.reduceNeg, Int.reduceToNat, reduceCtorEq, reduceIte]
        exact hK _ (St.ent_by [] rfl (Nat.le_of_ble_eq_true rfl) rfl (by decide) (by simp only [push_cast, Nat.reduceEqDiff, Nat.reduceAdd, reduceCtorEq, reduceIte]) (by simp only [push_cast, Nat.reduceEqDiff, Nat.reduceAdd, reduceCtorEq, reduceIte]))
      refine dN_seq hR12 (XA_ent hs ?_)
      refine XA_ret ?_
      refine dR_seq hR10 ?_
      refine hR0 _ _ ⟨_, St.ent_self, EndPost_ret (v := .int .i64 1) (by simp only [go_sem, Nat.reduceBEq, Nat.reduceLT, Nat.reduceLeDiff, Nat.reduceEqDiff, Nat.reduceAdd, Nat.reduceSub, Nat.reduceMul, Int.reduceBEq, Int.reduceBNe, Int.reduceLT, Int.reduceLE, Int.reduceEq, Int.reduceGT, Int.reduceAdd, Int.reduceSub, Int.reduceNeg, Int.reduceToNat, reduceCtorEq, reduceIte]) ?_⟩
      have h := Option.some.inj h; subst h
      exact (St.ent_by [] rfl (Nat.le_of_ble_eq_true rfl) rfl (by decide) (by simp only [push_cast, Nat.reduceEqDiff, Nat.reduceAdd, reduceCtorEq, reduceIte]) (by simp only [push_cast, Nat.reduceEqDiff, Nat.reduceAdd, reduceCtorEq, reduceIte]))
    · rw [g3, cond_false] at h
      refine XA_skip ?_
      refine dN_seq hR10 ?_
      refine XA_seq_st fun R13 hR13 => ?_
      refine XA_seq_st fun R14 hR14 => ?_
      refine XA_reg_g ?_
      refine RG_end ⟨[(0, .int .i64 a1), (1, .int .i64 a2), (16, .bool (decide (a1 < a2)))], [], 0⟩ (fun K hK => ?_) (fun s hs => ?_)
      · simp only [go_sem, Nat.reduceBEq, Nat.reduceLT, Nat.reduceLeDiff, Nat.reduceEqDiff, Nat.reduceAdd, Nat.reduceSub, Nat.reduceMul, Int.reduceBEq, Int.reduceBNe, Int.reduceLT, Int.reduceLE, Int.reduceEq, Int.reduceGT, Int.reduceAdd, Int.reduceSub, Int.reduceNeg, Int.reduceToNat, reduceCtorEq, reduceIte]
        exact hK _ (St.ent_by [] rfl (Nat.le_of_ble_eq_true rfl) rfl (by decide) (by simp only [push_cast, Nat.reduceEqDiff, Nat.reduceAdd, reduceCtorEq, reduceIte]) (by simp only [push_cast, Nat.reduceEqDiff, Nat.reduceAdd, reduceCtorEq, reduceIte]))
      refine dN_seq hR14 (XA_ent hs ?_)
      refine XA_cond (t := (decide (a1 < a2))) rfl (fun g4 => ?_) (fun g4 => ?_)
      · rw [g4, cond_true] at h
        refine XA_seq_st fun R15 hR15 => ?_
        refine XA_reg_g ?_
        refine RG_end ⟨[(4, .int .i64 (-1))], [], 0⟩ (fun K hK => ?_) (fun s hs => ?_)
        · simp only [go_sem, Nat.reduceBEq, Nat.reduceLT, Nat.reduceLeDiff, Nat.reduceEqDiff, Nat.reduceAdd, Nat.reduceSub, Nat.reduceMul, Int.reduceBEq, Int.reduceBNe, Int.reduceLT, Int.reduceLE, Int.reduceEq, Int.reduceGT, Int.reduceAdd, Int.reduceSub, Int.reduceNeg, Int.reduceToNat, reduceCtorEq, reduceIte]
          exact hK _ (St.ent_by [] rfl (Nat.le_of_ble_eq_true rfl) rfl (by decide) (by simp only [push_cast, Nat.reduceEqDiff, Nat.reduceAdd, reduceCtorEq, reduceIte]) (by simp only [push_cast, Nat.reduceEqDiff, Nat.reduceAdd, reduceCtorEq, reduceIte]))
        refine dN_seq hR15 (XA_ent hs ?_)
        refine XA_ret ?_
        refine dR_seq hR13 ?_
        refine hR0 _ _ ⟨_, St.ent_self, EndPost_ret (v := .int .i64 (-1)) (by simp only [go_sem, Nat.reduceBEq, Nat.reduceLT, Nat.reduceLeDiff, Nat.reduceEqDiff, Nat.reduceAdd, Nat.reduceSub, Nat.reduceMul, Int.reduceBEq, Int.reduceBNe, Int.reduceLT, Int.reduceLE, Int.reduceEq, Int.reduceGT, Int.reduceAdd, Int.reduceSub, Int.reduceNeg, Int.reduceToNat, reduceCtorEq, reduceIte]) ?_⟩
        have h := Option.some.inj h; subst h
        exact (St.ent_by [] rfl (Nat.le_of_ble_eq_true rfl) rfl (by decide) (by simp only [push_cast, Nat.reduceEqDiff, Nat.reduceAdd, reduceCtorEq, reduceIte]) (by simp only [push_cast, Nat.reduceEqDiff, Nat.reduceAdd, reduceCtorEq, reduceIte]))
      · rw [g4, cond_false] at h
        refine XA_skip ?_
        refine dN_seq hR13 ?_
        refine XA_seq_st fun R16 hR16 => ?_
        refine XA_seq_st fun R17 hR17 => ?_
        refine XA_reg_g ?_
        refine RG_end ⟨[(19, .bool (decide (a1 > a2)))], [], 0⟩ (fun K hK => ?_) (fun s hs => ?_)
        · simp only [go_sem, Nat.reduceBEq, Nat.reduceLT, Nat.reduceLeDiff, Nat.reduceEqDiff, Nat.reduceAdd, Nat.reduceSub, Nat.reduceMul, Int.reduceBEq, Int.reduceBNe, Int.reduceLT, Int.reduceLE, Int.reduceEq, Int.reduceGT, Int.reduceAdd, Int.reduceSub, Int.reduceNeg, Int.reduceToNat, reduceCtorEq, reduceIte]
          exact hK _ (St.ent_by [] rfl (Nat.le_of_ble_eq_true rfl) rfl (by decide) (by simp only [push_cast, Nat.reduceEqDiff, Nat.reduceAdd, reduceCtorEq, reduceIte]) (by simp only [push_cast, Nat.reduceEqDiff, Nat.reduceAdd, reduceCtorEq, reduceIte]))
        refine dN_seq hR17 (XA_ent hs ?_)
        refine XA_cond (t := (decide (a1 > a2))) rfl (fun g5 => ?_) (fun g5 => ?_)
        · rw [g5, cond_true] at h
          refine XA_seq_st fun R18 hR18 => ?_
          refine XA_reg_g ?_
          refine RG_end ⟨[(4, .int .i64 1)], [], 0⟩ (fun K hK => ?_) (fun s hs => ?_)
          · simp only [go_sem, Nat.reduceBEq, Nat.reduceLT, Nat.reduceLeDiff, Nat.reduceEqDiff, Nat.reduceAdd, Nat.reduceSub, Nat.reduceMul, Int.reduceBEq, Int.reduceBNe, Int.reduceLT, Int.reduceLE, Int.reduceEq, Int.reduceGT, Int.reduceAdd, Int.reduceSub, Int.reduceNeg, Int.reduceToNat, reduceCtorEq, reduceIte]
            exact hK _ (St.ent_by [] rfl (Nat.le_of_ble_eq_true rfl) rfl (by decide) (by simp only [push_cast, Nat.reduceEqDiff, Nat.reduceAdd, reduceCtorEq, reduceIte]) (by simp only [push_cast, Nat.reduceEqDiff, Nat.reduceAdd, reduceCtorEq, reduceIte]))
          refine dN_seq hR18 (XA_ent hs ?_)
          refine XA_ret ?_
          refine dR_seq hR16 ?_
          refine hR0 _ _ ⟨_, St.ent_self, EndPost_ret (v := .int .i64 1) (by simp only [go_sem, Nat.reduceBEq, Nat.reduceLT, Nat.reduceLeDiff, Nat.reduceEqDiff, Nat.reduceAdd, Nat.reduceSub, Nat.reduceMul, Int.reduceBEq, Int.reduceBNe, Int.reduceLT, Int.reduceLE, Int.reduceEq, Int.reduceGT, Int.reduceAdd, Int.reduceSub, Int.reduceNeg, Int.reduceToNat, reduceCtorEq, reduceIte]) ?_⟩
          have h := Option.some.inj h; subst h
          exact (St.ent_by [] rfl (Nat.le_of_ble_eq_true rfl) rfl (by decide) (by simp only [push_cast, Nat.reduceEqDiff, Nat.reduceAdd, reduceCtorEq, reduceIte]) (by simp only [push_cast, Nat.reduceEqDiff, Nat.reduceAdd, reduceCtorEq, reduceIte]))
        · rw [g5, cond_false] at h
          refine XA_skip ?_
          refine dN_seq hR16 ?_
          refine XA_seq_st fun R19 hR19 => ?_
          refine XA_reg_g ?_
          refine RG_end ⟨[(4, .int .i64 0)], [], 0⟩ (fun K hK => ?_) (fun s hs => ?_)
          · simp only [go_sem, Nat.reduceBEq, Nat.reduceLT, Nat.reduceLeDiff, Nat.reduceEqDiff, Nat.reduceAdd, Nat.reduceSub, Nat.reduceMul, Int.reduceBEq, Int.reduceBNe, Int.reduceLT, Int.reduceLE, Int.reduceEq, Int.reduceGT, Int.reduceAdd, Int.reduceSub, Int.reduceNeg, Int.reduceToNat, reduceCtorEq, reduceIte]
            exact hK _ (St.ent_by [] rfl (Nat.le_of_ble_eq_true rfl) rfl (by decide) (by simp only [push_cast, Nat.reduceEqDiff, Nat.reduceAdd, reduceCtorEq, reduceIte]) (by simp only [push_cast, Nat.reduceEqDiff, Nat.reduceAdd, reduceCtorEq, reduceIte]))
          refine dN_seq hR19 (XA_ent hs ?_)
          refine XA_ret ?_
          refine hR0 _ _ ⟨_, St.ent_self, EndPost_ret (v := .int .i64 0) (by simp only [go_sem, Nat.reduceBEq, Nat.reduceLT, Nat.reduceLeDiff, Nat.reduceEqDiff, Nat.reduceAdd, Nat.reduceSub, Nat.reduceMul, Int.reduceBEq, Int.reduceBNe, Int.reduceLT, Int.reduceLE, Int.reduceEq, Int.reduceGT, Int.reduceAdd, Int.reduceSub, Int.reduceNeg, Int.reduceToNat, reduceCtorEq, reduceIte]) ?_⟩
          have h := Option.some.inj h; subst h
          exact (St.ent_by [] rfl (Nat.le_of_ble_eq_true rfl) rfl (by decide) (by simp only [push_cast, Nat.reduceEqDiff, Nat.reduceAdd, reduceCtorEq, reduceIte]) (by simp only [push_cast, Nat.reduceEqDiff, Nat.reduceAdd, reduceCtorEq, reduceIte]))
def cmpOr_b1 (a1 : List Int) (again1 : Int → Option (Int)) (v1 : Int) : Option (Int) :=
  (cond (decide (v1 < (a1.length : Int))) (ob (rd a1 v1) fun x1 => (cond (x1 != 0) (some x1) (again1 (IntKind.i64.wrap (v1 + 1))))) (some 0))

def cmpOr (fuel : Nat) (a1 : List Int) : Option (Int) :=
  (loopF (fun again1 v => cmpOr_b1 a1 again1 v) fuel 0)

theorem ok_cmpOr {fuel : Nat} {a1 : List Int} {r : Int} (h : cmpOr fuel a1 = some r) : FnOk Tryd.prog 24 [.os 0 0 a1.length] [(0, .arr 1 (List.map (AV.int .i64) a1))] 1 (fun q s k => q = .ret (.int .i64 r) ∧ s = [(0, .arr 1 (List.map (AV.int .i64) a1))] ∧ k = 1) := by
  refine Fn_by Tryd.func24 Tryd.ntmps24 Tryd.cc24 (Nat.le_of_ble_eq_true rfl) (rs := [.tmp 2]) (by kernel_rfl) (fun R0 hR0 => ?_)
  unfold cmpOr at h
  unfold Tryd.ac24
  refine (show XA _ _ _ _ ⟨[(0, .os 0 0 a1.length)], [(0, .arr 1 (List.map (AV.int .i64) a1))], 1⟩ from ?_)
  refine XA_seq_st fun R1 hR1 => ?_
  refine XA_reg_g ?_
  refine RG_end ⟨[(0, .os 0 0 a1.length)], [(0, .arr 1 (List.map (AV.int .i64) a1))], 1⟩ (fun K hK => ?_) (fun s hs => ?_)
  · simp only [go_sem, Nat.reduceBEq, Nat.reduceLT, Nat.reduceLeDiff, Nat.reduceEqDiff, Nat.reduceAdd, Nat.reduceSub, Nat.reduceMul, Int.reduceBEq, Int.reduceBNe, Int.reduceLT, Int.reduceLE, Int.reduceEq, Int.reduceGT, Int.reduceAdd, Int.reduceSub, Int.reduceNeg, Int.reduceToNat, reduceCtorEq, reduceIte]
    exact hK _ (St.ent_by [0] rfl (Nat.le_of_ble_eq_true rfl) rfl (by decide) (by simp only [push_cast, Nat.reduceEqDiff, Nat.reduceAdd, reduceCtorEq, reduceIte]) (by simp only [push_cast, Nat.reduceEqDiff, Nat.reduceAdd, reduceCtorEq, reduceIte]))
  refine dN_seq hR1 (XA_ent hs ?_)
  refine XA_seq_st fun R2 hR2 => ?_
  refine XA_reg_g ?_
  refine RG_end ⟨[(0, .os 0 0 a1.length), (3, .int .i64 0)], [(0, .arr 1 (List.map (AV.int .i64) a1))], 1⟩ (fun K hK => ?_) (fun s hs => ?_)
  · simp only [go_sem, Nat.reduceBEq, Nat.reduceLT, Nat.reduceLeDiff, Nat.reduceEqDiff, Nat.reduceAdd, Nat.reduceSub, Nat.reduceMul, Int.reduceBEq, Int.reduceBNe, Int.reduceLT, Int.reduceLE, Int.reduceEq, Int.reduceGT, Int.reduceAdd, Int.reduceSub, Int.reduceNeg, Int.reduceToNat, reduceCtorEq, reduceIte]
    exact hK _ (St.ent_by [0] rfl (Nat.le_of_ble_eq_true rfl) rfl (by decide) (by simp only [push_cast, Nat.reduceEqDiff, Nat.reduceAdd, reduceCtorEq, reduceIte]) (by simp only [push_cast, Nat.reduceEqDiff, Nat.reduceAdd, reduceCtorEq, reduceIte]))
  refine dN_seq hR2 (XA_ent hs ?_)
  refine XA_seq_st fun R3 hR3 => ?_
  refine XA_seq_st fun R4 hR4 => ?_
  refine XA_reg_g ?_
  refine RG_end ⟨[(3, .int .i64 0), (6, .os 0 0 a1.length), (7, .int .i64 (a1.length : Int)), (8, .int .i64 0)], [(0, .arr 1 (List.map (AV.int .i64) a1))], 1⟩ (fun K hK => ?_) (fun s hs => ?_)
  · simp only [go_sem, Nat.reduceBEq, Nat.reduceLT, Nat.reduceLeDiff, Nat.reduceEqDiff, Nat.reduceAdd, Nat.reduceSub, Nat.reduceMul, Int.reduceBEq, Int.reduceBNe, Int.reduceLT, Int.reduceLE, Int.reduceEq, Int.reduceGT, Int.reduceAdd, Int.reduceSub, Int.reduceNeg, Int.reduceToNat, reduceCtorEq, reduceIte]
    exact hK _ (St.ent_by [0] rfl (Nat.le_of_ble_eq_true rfl) rfl (by decide) (by simp only [push_cast, Nat.reduceEqDiff, Nat.reduceAdd, reduceCtorEq, reduceIte]) (by simp only [push_cast, Nat.reduceEqDiff, Nat.reduceAdd, reduceCtorEq, reduceIte]))
  refine dN_seq hR4 (XA_ent hs ?_)
  refine XA_block_st fun R5 hR5 => ?_
  refine XA_loop_by (T := fun v : Int => ⟨[(3, .int .i64 0), (6, .os 0 0 a1.length), (7, .int .i64 (a1.length : Int)), (8, .int .i64 v)], [(0, .arr 1 (List.map (AV.int .i64) a1))], 1⟩) (fuel := fuel) h (St.ent_by [0] rfl (Nat.le_of_ble_eq_true rfl) rfl (by decide) (by simp only [push_cast, Nat.reduceEqDiff, Nat.reduceAdd, reduceCtorEq, reduceIte]) (by simp only [push_cast, Nat.reduceEqDiff, Nat.reduceAdd, reduceCtorEq, reduceIte])) (fun again1 v h R6 hR6 => ?_)
  revert h; generalize v = v1; intro h
  replace h : cmpOr_b1 a1 again1 v1 = some r := h
  unfold cmpOr_b1 at h
  refine (show XA _ _ _ _ ⟨[(3, .int .i64 0), (6, .os 0 0 a1.length), (7, .int .i64 (a1.length : Int)), (8, .int .i64 v1)], [(0, .arr 1 (List.map (AV.int .i64) a1))], 1⟩ from ?_)
  refine XA_seq_st fun R7 hR7 => ?_
  refine XA_reg_g ?_
  refine RG_end ⟨[(3, .int .i64 0), (6, .os 0 0 a1.length), (7, .int .i64 (a1.length : Int)), (8, .int .i64 v1), (9, .bool (decide (v1 < (a1.length : Int))))], [(0, .arr 1 (List.map (AV.int .i64) a1))], 1⟩ (fun K hK => ?_) (fun s hs => ?_)
  · simp only [go_sem, Nat.reduceBEq, Nat.reduceLT, Nat.reduceLeDiff, Nat.reduceEqDiff, Nat.reduceAdd, Nat.reduceSub, Nat.reduceMul, Int.reduceBEq, Int.reduceBNe, Int.reduceLT, Int.reduceLE, Int.reduceEq, Int.reduceGT, Int.reduceAdd, Int.reduceSub, Int.reduceNeg, Int.reduceToNat, reduceCtorEq, reduceIte]
    exact hK _ (St.ent_by [0] rfl (Nat.le_of_ble_eq_true rfl) rfl (by decide) (by simp only [push_cast, Nat.reduceEqDiff, Nat.reduceAdd, reduceCtorEq, reduceIte]) (by simp only [push_cast, Nat.reduceEqDiff, Nat.reduceAdd, reduceCtorEq, reduceIte]))
  refine dN_seq hR7 (XA_ent hs ?_)
  refine XA_seq_st fun R8 hR8 => ?_
  refine XA_cond (t := (decide (v1 < (a1.length : Int)))) rfl (fun g1 => ?_) (fun g1 => ?_)
  · rw [g1, cond_true] at h
    refine XA_skip ?_
    refine dN_seq hR8 ?_
    refine XA_seq_st fun R9 hR9 => ?_
    refine XA_block_st fun R10 hR10 => ?_
    refine XA_seq_st fun R11 hR11 => ?_
    refine XA_reg_g ?_
    obtain ⟨x1, hx1, h⟩ := ob_some h
    have ix1 := rd_in hx1
    have gx1 := rd_get hx1
    try simp only [Int.reduceToNat, Int.toNat_natCast] at gx1
    refine RG_end ⟨[(3, .int .i64 0), (5, .int .i64 x1), (6, .os 0 0 a1.length), (7, .int .i64 (a1.length : Int)), (8, .int .i64 v1)], [(0, .arr 1 (List.map (AV.int .i64) a1))], 1⟩ (fun K hK => ?_) (fun s hs => ?_)
    · simp only [go_sem, Nat.reduceBEq, Nat.reduceLT, Nat.reduceLeDiff, Nat.reduceEqDiff, Nat.reduceAdd, Nat.reduceSub, Nat.reduceMul, Int.reduceBEq, Int.reduceBNe, Int.reduceLT, Int.reduceLE, Int.reduceEq, Int.reduceGT, Int.reduceAdd, Int.reduceSub, Int.reduceNeg, Int.reduceToNat, reduceCtorEq, reduceIte, ix1, gx1]
      exact hK _ (St.ent_by [0] rfl (Nat.le_of_ble_eq_true rfl) rfl (by decide) (by simp only [push_cast, Nat.reduceEqDiff, Nat.reduceAdd, reduceCtorEq, reduceIte]) (by simp only [push_cast, Nat.reduceEqDiff, Nat.reduceAdd, reduceCtorEq, reduceIte]))
    refine dN_seq hR11 (XA_ent hs ?_)
    refine XA_seq_st fun R12 hR12 => ?_
    refine XA_reg_g ?_
    refine RG_end ⟨[(3, .int .i64 0), (5, .int .i64 x1), (6, .os 0 0 a1.length), (7, .int .i64 (a1.length : Int)), (8, .int .i64 v1), (14, .bool (x1 != 0))], [(0, .arr 1 (List.map (AV.int .i64) a1))], 1⟩ (fun K hK => ?_) (fun s hs => ?_)
    · simp only [go_sem, Nat.reduceBEq, Nat.reduceLT, Nat.reduceLeDiff, Nat.reduceEqDiff, Nat.reduceAdd, Nat.reduceSub, Nat.reduceMul, Int.reduceBEq, Int.reduceBNe, Int.reduceLT, Int.reduceLE, Int.reduceEq, Int.reduceGT, Int.reduceAdd, Int.reduceSub, Int.reduceNeg, Int.reduceToNat, reduceCtorEq, reduceIte]
      exact hK _ (St.ent_by [0] rfl (Nat.le_of_ble_eq_true rfl) rfl (by decide) (by simp only [push_cast, Nat.reduceEqDiff, Nat.reduceAdd, reduceCtorEq, reduceIte]) (by simp only [push_cast, Nat.reduceEqDiff, Nat.reduceAdd, reduceCtorEq, reduceIte]))
    refine dN_seq hR12 (XA_ent hs ?_)
    refine XA_cond (t := (x1 != 0)) rfl (fun g2 => ?_) (fun g2 => ?_)
    · rw [g2, cond_true] at h
      refine XA_seq_st fun R13 hR13 => ?_
      refine XA_reg_g ?_
      refine RG_end ⟨[(2, .int .i64 x1)], [(0, .arr 1 (List.map (AV.int .i64) a1))], 1⟩ (fun K hK => ?_) (fun s hs => ?_)
      · simp only [go_sem, Nat.reduceBEq, Nat.reduceLT, Nat.reduceLeDiff, Nat.reduceEqDiff, Nat.reduceAdd, Nat.reduceSub, Nat.reduceMul, Int.reduceBEq, Int.reduceBNe, Int.reduceLT, Int.reduceLE, Int.reduceEq, Int.reduceGT, Int.reduceAdd, Int.reduceSub, Int.reduceNeg, Int.reduceToNat, reduceCtorEq, reduceIte]
        exact hK _ (St.ent_by [0] rfl (Nat.le_of_ble_eq_true rfl) rfl (by decide) (by simp only [push_cast, Nat.reduceEqDiff, Nat.reduceAdd, reduceCtorEq, reduceIte]) (by simp only [push_cast, Nat.reduceEqDiff, Nat.reduceAdd, reduceCtorEq, reduceIte]))
      refine dN_seq hR13 (XA_ent hs ?_)
      refine XA_ret ?_
      refine dR_block hR10 ?_
      refine dR_seq hR9 ?_
      refine dR_seq hR6 ?_
      refine dR_block hR5 ?_
      refine dR_seq hR3 ?_
      refine hR0 _ _ ⟨_, St.ent_self, EndPost_ret (v := .int .i64 x1) (by simp only [go_sem, Nat.reduceBEq, Nat.reduceLT, Nat.reduceLeDiff, Nat.reduceEqDiff, Nat.reduceAdd, Nat.reduceSub, Nat.reduceMul, Int.reduceBEq, Int.reduceBNe, Int.reduceLT, Int.reduceLE, Int.reduceEq, Int.reduceGT, Int.reduceAdd, Int.reduceSub, Int.reduceNeg, Int.reduceToNat, reduceCtorEq, reduceIte]) ?_⟩
      have h := Option.some.inj h; subst h
      exact (St.ent_by [0] rfl (Nat.le_of_ble_eq_true rfl) rfl (by decide) (by simp only [push_cast, Nat.reduceEqDiff, Nat.reduceAdd, reduceCtorEq, reduceIte]) (by simp only [push_cast, Nat.reduceEqDiff, Nat.reduceAdd, reduceCtorEq, reduceIte]))
    · rw [g2, cond_false] at h
      refine XA_skip ?_
      refine dN_block hR10 ?_
      refine dN_seq hR9 ?_
      refine XA_reg_g ?_
      refine RG_end ⟨[(3, .int .i64 0), (6, .os 0 0 a1.length), (7, .int .i64 (a1.length : Int)), (8, .int .i64 (IntKind.i64.wrap (v1 + 1)))], [(0, .arr 1 (List.map (AV.int .i64) a1))], 1⟩ (fun K hK => ?_) (fun s hs => ?_)
      · simp only [go_sem, Nat.reduceBEq, Nat.reduceLT, Nat.reduceLeDiff, Nat.reduceEqDiff, Nat.reduceAdd, Nat.reduceSub, Nat.reduceMul, Int.reduceBEq, Int.reduceBNe, Int.reduceLT, Int.reduceLE, Int.reduceEq, Int.reduceGT, Int.reduceAdd, Int.reduceSub, Int.reduceNeg, Int.reduceToNat, reduceCtorEq, reduceIte]
        exact hK _ (St.ent_by [0] rfl (Nat.le_of_ble_eq_true rfl) rfl (by decide) (by simp only [push_cast, Nat.reduceEqDiff, Nat.reduceAdd, reduceCtorEq, reduceIte]) (by simp only [push_cast, Nat.reduceEqDiff, Nat.reduceAdd, reduceCtorEq, reduceIte]))
      exact dN_seq hR6 ⟨(IntKind.i64.wrap (v1 + 1)), (hs.trans (St.ent_by [0] rfl (Nat.le_of_ble_eq_true rfl) rfl (by decide) (by simp only [push_cast, Nat.reduceEqDiff, Nat.reduceAdd, reduceCtorEq, reduceIte]) (by simp only [push_cast, Nat.reduceEqDiff, Nat.reduceAdd, reduceCtorEq, reduceIte]))), h⟩
  · rw [g1, cond_false] at h
    refine XA_exit ?_
    refine dX_seq hR8 ?_
    refine dX_seq hR6 ?_
    refine dE_block hR5 ?_
    refine dN_seq hR3 ?_
    refine XA_seq_st fun R14 hR14 => ?_
    refine XA_reg_g ?_
    refine RG_end ⟨[(2, .int .i64 0)], [(0, .arr 1 (List.map (AV.int .i64) a1))], 1⟩ (fun K hK => ?_) (fun s hs => ?_)
    · simp only [go_sem, Nat.reduceBEq, Nat.reduceLT, Nat.reduceLeDiff, Nat.reduceEqDiff, Nat.reduceAdd, Nat.reduceSub, Nat.reduceMul, Int.reduceBEq, Int.reduceBNe, Int.reduceLT, Int.reduceLE, Int.reduceEq, Int.reduceGT, Int.reduceAdd, Int.reduceSub, Int.reduceNeg, Int.reduceToNat, reduceCtorEq, reduceIte]
      exact hK _ (St.ent_by [0] rfl (Nat.le_of_ble_eq_true rfl) rfl (by decide) (by simp only [push_cast, Nat.reduceEqDiff, Nat.reduceAdd, reduceCtorEq, reduceIte]) (by simp only [push_cast, Nat.reduceEqDiff, Nat.reduceAdd, reduceCtorEq, reduceIte]))
    refine dN_seq hR14 (XA_ent hs ?_)
    refine XA_ret ?_
    refine hR0 _ _ ⟨_, St.ent_self, EndPost_ret (v := .int .i64 0) (by simp only [go_sem, Nat.reduceBEq, Nat.reduceLT, Nat.reduceLeDiff, Nat.reduceEqDiff, Nat.reduceAdd, Nat.reduceSub, Nat.reduceMul, Int.reduceBEq, Int.reduceBNe, Int.reduceLT, Int.reduceLE, Int.reduceEq, Int.reduceGT, Int.reduceAdd, Int.reduceSub, Int.reduceNeg, Int.reduceToNat, reduceCtorEq, reduceIte]) ?_⟩
    have h := Option.some.inj h; subst h
    exact (St.ent_by [0] rfl (Nat.le_of_ble_eq_true rfl) rfl (by decide) (by simp only [push_cast, Nat.reduceEqDiff, Nat.reduceAdd, reduceCtorEq, reduceIte]) (by simp only [push_cast, Nat.reduceEqDiff, Nat.reduceAdd, reduceCtorEq, reduceIte]))
def order (fuel : Nat) (a1 : Edt) (a2 : Edt) : Option (Int) :=
  (ob (compare a1.file a2.file) fun r1 => (ob (compare a1.fro a2.fro) fun r2 => (ob (compare a1.to_ a2.to_) fun r3 => (ob (cmpOr fuel [r1, r2, r3]) fun r4 => (some r4)))))

theorem ok_order {fuel : Nat} {a1 : Edt} {a2 : Edt} {r : Int} (h : order fuel a1 a2 = some r) : FnOk Tryd.prog 17 [.agg [.int .i64 a1.file, .int .i64 a1.fro, .int .i64 a1.to_, .str a1.text], .agg [.int .i64 a2.file, .int .i64 a2.fro, .int .i64 a2.to_, .str a2.text]] [] 0 (fun q s k => q = .ret (.int .i64 r) ∧ s = [] ∧ k = 0) := by
  refine Fn_by Tryd.func17 Tryd.ntmps17 Tryd.cc17 (Nat.le_of_ble_eq_true rfl) (rs := [.tmp 4]) (by kernel_rfl) (fun R0 hR0 => ?_)
  unfold order at h
  unfold Tryd.ac17
  refine (show XA _ _ _ _ ⟨[(0, .agg [.int .i64 a1.file, .int .i64 a1.fro, .int .i64 a1.to_, .str a1.text]), (1, .agg [.int .i64 a2.file, .int .i64 a2.fro, .int .i64 a2.to_, .str a2.text])], [], 0⟩ from ?_)
  refine XA_seq_st fun R1 hR1 => ?_
  refine XA_reg_g ?_
  refine RG_end ⟨[(2, .ptr 0 0), (3, .ptr 1 0)], [(0, .var [.int .i64 a1.file, .int .i64 a1.fro, .int .i64 a1.to_, .str a1.text]), (1, .var [.int .i64 a2.file, .int .i64 a2.fro, .int .i64 a2.to_, .str a2.text])], 2⟩ (fun K hK => ?_) (fun s hs => ?_)
  · simp only [go_sem, Nat.reduceBEq, Nat.reduceLT, Nat.reduceLeDiff, Nat.reduceEqDiff, Nat.reduceAdd, Nat.reduceSub, Nat.reduceMul, Int.reduceBEq, Int.reduceBNe, Int.reduceLT, Int.reduceLE, Int.reduceEq, Int.reduceGT, Int.reduceAdd, Int.reduceSub, Int.reduceNeg, Int.reduceToNat, reduceCtorEq, reduceIte]
    exact hK _ (St.ent_by [0, 1] rfl (Nat.le_of_ble_eq_true rfl) rfl (by decide) (by simp only [push_cast, Nat.reduceEqDiff, Nat.reduceAdd, reduceCtorEq, reduceIte]) (by simp only [push_cast, Nat.reduceEqDiff, Nat.reduceAdd, reduceCtorEq, reduceIte]))
  refine dN_seq hR1 (XA_ent hs ?_)
  refine XA_seq_st fun R2 hR2 => ?_
  obtain ⟨r1, hr1, h⟩ := ob_some h
  obtain ⟨r2, hr2, h⟩ := ob_some h
  obtain ⟨r3, hr3, h⟩ := ob_some h
  obtain ⟨r4, hr4, h⟩ := ob_some h
  refine XA_regd_to mix ⟨[(4, .int .i64 r4)], [], 0⟩ (fun K hK => ?_) (fun s hs => ?_)
  · refine runsD_cut 12 fun K1 hK1 => ?_
    simp only [go_sem, Nat.reduceBEq, Nat.reduceLT, Nat.reduceLeDiff, Nat.reduceEqDiff, Nat.reduceAdd, Nat.reduceSub, Nat.reduceMul, Int.reduceBEq, Int.reduceBNe, Int.reduceLT, Int.reduceLE, Int.reduceEq, Int.reduceGT, Int.reduceAdd, Int.reduceSub, Int.reduceNeg, Int.reduceToNat, reduceCtorEq, reduceIte]
    refine hK1 _ ?_
    simp only [List.take_succ_cons, List.take_zero, List.drop_succ_cons, List.drop_zero]
    refine runsD_call rfl rfl rfl (CallP.wk (CallP_of [] _ _ (.of Tryd.func25 (by kernel_rfl)) (ok_compare hr1) (by simp only [go_sem, Nat.reduceBEq, Nat.reduceLT, Nat.reduceLeDiff, Nat.reduceEqDiff, Nat.reduceAdd, Nat.reduceSub, Nat.reduceMul, Int.reduceBEq, Int.reduceBNe, Int.reduceLT, Int.reduceLE, Int.reduceEq, Int.reduceGT, Int.reduceAdd, Int.reduceSub, Int.reduceNeg, Int.reduceToNat, reduceCtorEq, reduceIte]) (by simp only [push_cast, Nat.reduceEqDiff, Nat.reduceAdd, reduceCtorEq, reduceIte, entStore]) rfl (by decide) ?_ (by rintro _ _ _ ⟨hv, _⟩; cases hv)))
    rintro _ _ _ ⟨hv, rfl, rfl⟩
    cases hv
    refine ⟨by simp only [go_sem, Nat.reduceBEq, Nat.reduceLT, Nat.reduceLeDiff, Nat.reduceEqDiff, Nat.reduceAdd, Nat.reduceSub, Nat.reduceMul, Int.reduceBEq, Int.reduceBNe, Int.reduceLT, Int.reduceLE, Int.reduceEq, Int.reduceGT, Int.reduceAdd, Int.reduceSub, Int.reduceNeg, Int.reduceToNat, reduceCtorEq, reduceIte], ?_⟩
    refine runsD_call rfl rfl rfl (CallP.wk (CallP_of [] _ _ (.of Tryd.func25 (by kernel_rfl)) (ok_compare hr2) (by simp only [go_sem, Nat.reduceBEq, Nat.reduceLT, Nat.reduceLeDiff, Nat.reduceEqDiff, Nat.reduceAdd, Nat.reduceSub, Nat.reduceMul, Int.reduceBEq, Int.reduceBNe, Int.reduceLT, Int.reduceLE, Int.reduceEq, Int.reduceGT, Int.reduceAdd, Int.reduceSub, Int.reduceNeg, Int.reduceToNat, reduceCtorEq, reduceIte]) (by simp only [push_cast, Nat.reduceEqDiff, Nat.reduceAdd, reduceCtorEq, reduceIte, entStore]) rfl (by decide) ?_ (by rintro _ _ _ ⟨hv, _⟩; cases hv)))
    rintro _ _ _ ⟨hv, rfl, rfl⟩
    cases hv
    refine ⟨by simp only [go_sem, Nat.reduceBEq, Nat.reduceLT, Nat.reduceLeDiff, Nat.reduceEqDiff, Nat.reduceAdd, Nat.reduceSub, Nat.reduceMul, Int.reduceBEq, Int.reduceBNe, Int.reduceLT, Int.reduceLE, Int.reduceEq, Int.reduceGT, Int.reduceAdd, Int.reduceSub, Int.reduceNeg, Int.reduceToNat, reduceCtorEq, reduceIte], ?_⟩
    refine runsD_call rfl rfl rfl (CallP.wk (CallP_of [] _ _ (.of Tryd.func25 (by kernel_rfl)) (ok_compare hr3) (by simp only [go_sem, Nat.reduceBEq, Nat.reduceLT, Nat.reduceLeDiff, Nat.reduceEqDiff, Nat.reduceAdd, Nat.reduceSub, Nat.reduceMul, Int.reduceBEq, Int.reduceBNe, Int.reduceLT, Int.reduceLE, Int.reduceEq, Int.reduceGT, Int.reduceAdd, Int.reduceSub, Int.reduceNeg, Int.reduceToNat, reduceCtorEq, reduceIte]) (by simp only [push_cast, Nat.reduceEqDiff, Nat.reduceAdd, reduceCtorEq, reduceIte, entStore]) rfl (by decide) ?_ (by rintro _ _ _ ⟨hv, _⟩; cases hv)))
    rintro _ _ _ ⟨hv, rfl, rfl⟩
    cases hv
    refine ⟨by simp only [go_sem, Nat.reduceBEq, Nat.reduceLT, Nat.reduceLeDiff, Nat.reduceEqDiff, Nat.reduceAdd, Nat.reduceSub, Nat.reduceMul, Int.reduceBEq, Int.reduceBNe, Int.reduceLT, Int.reduceLE, Int.reduceEq, Int.reduceGT, Int.reduceAdd, Int.reduceSub, Int.reduceNeg, Int.reduceToNat, reduceCtorEq, reduceIte], ?_⟩
    refine runsD_cut 1 fun K2 hK2 => ?_
    simp only [go_sem, Nat.reduceBEq, Nat.reduceLT, Nat.reduceLeDiff, Nat.reduceEqDiff, Nat.reduceAdd, Nat.reduceSub, Nat.reduceMul, Int.reduceBEq, Int.reduceBNe, Int.reduceLT, Int.reduceLE, Int.reduceEq, Int.reduceGT, Int.reduceAdd, Int.reduceSub, Int.reduceNeg, Int.reduceToNat, reduceCtorEq, reduceIte]
    refine hK2 _ ?_
    simp only [List.take_succ_cons, List.take_zero, List.drop_succ_cons, List.drop_zero]
    refine runsD_call rfl rfl rfl (CallP.wk (CallP_of [2] _ _ (.of Tryd.func24 (by kernel_rfl)) (ok_cmpOr hr4) (by simp only [go_sem, Nat.reduceBEq, Nat.reduceLT, Nat.reduceLeDiff, Nat.reduceEqDiff, Nat.reduceAdd, Nat.reduceSub, Nat.reduceMul, Int.reduceBEq, Int.reduceBNe, Int.reduceLT, Int.reduceLE, Int.reduceEq, Int.reduceGT, Int.reduceAdd, Int.reduceSub, Int.reduceNeg, Int.reduceToNat, reduceCtorEq, reduceIte]) (by simp only [push_cast, Nat.reduceEqDiff, Nat.reduceAdd, reduceCtorEq, reduceIte, entStore]) rfl (by decide) ?_ (by rintro _ _ _ ⟨hv, _⟩; cases hv)))
    rintro _ _ _ ⟨hv, rfl, rfl⟩
    cases hv
    refine ⟨by simp only [go_sem, Nat.reduceBEq, Nat.reduceLT, Nat.reduceLeDiff, Nat.reduceEqDiff, Nat.reduceAdd, Nat.reduceSub, Nat.reduceMul, Int.reduceBEq, Int.reduceBNe, Int.reduceLT, Int.reduceLE, Int.reduceEq, Int.reduceGT, Int.reduceAdd, Int.reduceSub, Int.reduceNeg, Int.reduceToNat, reduceCtorEq, reduceIte], ?_⟩
    simp only [go_sem, Nat.reduceBEq, Nat.reduceLT, Nat.reduceLeDiff, Nat.reduceEqDiff, Nat.reduceAdd, Nat.reduceSub, Nat.reduceMul, Int.reduceBEq, Int.reduceBNe, Int.reduceLT, Int.reduceLE, Int.reduceEq, Int.reduceGT, Int.reduceAdd, Int.reduceSub, Int.reduceNeg, Int.reduceToNat, reduceCtorEq, reduceIte]
    exact hK _ (St.ent_by [] rfl (Nat.le_of_ble_eq_true rfl) rfl (by decide) (by simp only [push_cast, Nat.reduceEqDiff, Nat.reduceAdd, reduceCtorEq, reduceIte]) (by simp only [push_cast, Nat.reduceEqDiff, Nat.reduceAdd, reduceCtorEq, reduceIte]))
  refine dN_seq hR2 (XA_ent hs ?_)
  refine XA_ret ?_
  refine hR0 _ _ ⟨_, St.ent_self, EndPost_ret (v := .int .i64 r4) (by simp only [go_sem, Nat.reduceBEq, Nat.reduceLT, Nat.reduceLeDiff, Nat.reduceEqDiff, Nat.reduceAdd, Nat.reduceSub, Nat.reduceMul, Int.reduceBEq, Int.reduceBNe, Int.reduceLT, Int.reduceLE, Int.reduceEq, Int.reduceGT, Int.reduceAdd, Int.reduceSub, Int.reduceNeg, Int.reduceToNat, reduceCtorEq, reduceIte]) ?_⟩
  have h := Option.some.inj h; subst h
  exact (St.ent_by [] rfl (Nat.le_of_ble_eq_true rfl) rfl (by decide) (by simp only [push_cast, Nat.reduceEqDiff, Nat.reduceAdd, reduceCtorEq, reduceIte]) (by simp only [push_cast, Nat.reduceEqDiff, Nat.reduceAdd, reduceCtorEq, reduceIte]))
def cloneF (a1 : List Src) : Option ((List Src)) :=
  (ck (roomy a1.length) (some a1))

theorem ok_cloneF {a1 : List Src} {r : (List Src)} (h : cloneF a1 = some r) : FnOk Tryd.prog 14 [.ls (List.map Src.av a1) false] [] 0 (fun q s k => q = .ret (.os 0 0 r.length) ∧ s = [(0, .arr 2 (List.map Src.av r))] ∧ k = 1) := by
  refine Fn_by Tryd.func14 Tryd.ntmps14 Tryd.cc14 (Nat.le_of_ble_eq_true rfl) (rs := [.tmp 2]) (by kernel_rfl) (fun R0 hR0 => ?_)
  unfold cloneF at h
  unfold Tryd.ac14
  refine (show XA _ _ _ _ ⟨[(0, .ls (List.map Src.av a1) false)], [], 0⟩ from ?_)
  refine XA_seq_st fun R1 hR1 => ?_
  refine XA_reg_g ?_
  refine RG_end ⟨[(0, .ls (List.map Src.av a1) false)], [], 0⟩ (fun K hK => ?_) (fun s hs => ?_)
  · simp only [go_sem, Nat.reduceBEq, Nat.reduceLT, Nat.reduceLeDiff, Nat.reduceEqDiff, Nat.reduceAdd, Nat.reduceSub, Nat.reduceMul, Int.reduceBEq, Int.reduceBNe, Int.reduceLT, Int.reduceLE, Int.reduceEq, Int.reduceGT, Int.reduceAdd, Int.reduceSub, Int.reduceNeg, Int.reduceToNat, reduceCtorEq, reduceIte]
    exact hK _ (St.ent_by [] rfl (Nat.le_of_ble_eq_true rfl) rfl (by decide) (by simp only [push_cast, Nat.reduceEqDiff, Nat.reduceAdd, reduceCtorEq, reduceIte]) (by simp only [push_cast, Nat.reduceEqDiff, Nat.reduceAdd, reduceCtorEq, reduceIte]))
  refine dN_seq hR1 (XA_ent hs ?_)
  refine XA_seq_st fun R2 hR2 => ?_
  refine XA_seq_st fun R3 hR3 => ?_
  refine XA_reg_g ?_
  refine RG_any (t := fun b1 : Bool => ⟨[(0, .ls (List.map Src.av a1) false), (4, .bool b1)], [], 0⟩) (p := fun b1 => b1 = true → a1 = []) (fun K hK => ?_) (fun b1 hb1 s hs => ?_)
  · simp only [go_sem, Nat.reduceBEq, Nat.reduceLT, Nat.reduceLeDiff, Nat.reduceEqDiff, Nat.reduceAdd, Nat.reduceSub, Nat.reduceMul, Int.reduceBEq, Int.reduceBNe, Int.reduceLT, Int.reduceLE, Int.reduceEq, Int.reduceGT, Int.reduceAdd, Int.reduceSub, Int.reduceNeg, Int.reduceToNat, reduceCtorEq, reduceIte]
    refine ⟨fun _ => hK false (fun hx => by cases hx) _ (St.ent_by [] rfl (Nat.le_of_ble_eq_true rfl) rfl (by decide) (by simp only [push_cast, Nat.reduceEqDiff, Nat.reduceAdd, reduceCtorEq, reduceIte]) (by simp only [push_cast, Nat.reduceEqDiff, Nat.reduceAdd, reduceCtorEq, reduceIte])), fun he b => hK b (fun _ => by simpa using he) _ (St.ent_by [] rfl (Nat.le_of_ble_eq_true rfl) rfl (by decide) (by simp only [push_cast, Nat.reduceEqDiff, Nat.reduceAdd, reduceCtorEq, reduceIte]) (by simp only [push_cast, Nat.reduceEqDiff, Nat.reduceAdd, reduceCtorEq, reduceIte]))⟩
  refine dN_seq hR3 (XA_ent hs ?_)
  refine XA_cond (t := b1) rfl (fun g1 => ?_) (fun g1 => ?_)
  · have he := hb1 g1
    subst he
    replace h : (some []) = some r := h
    refine XA_seq_st fun R4 hR4 => ?_
    refine XA_reg_g ?_
    refine RG_end ⟨[(2, .ls [] true)], [], 0⟩ (fun K hK => ?_) (fun s hs => ?_)
    · simp only [go_sem, Nat.reduceBEq, Nat.reduceLT, Nat.reduceLeDiff, Nat.reduceEqDiff, Nat.reduceAdd, Nat.reduceSub, Nat.reduceMul, Int.reduceBEq, Int.reduceBNe, Int.reduceLT, Int.reduceLE, Int.reduceEq, Int.reduceGT, Int.reduceAdd, Int.reduceSub, Int.reduceNeg, Int.reduceToNat, reduceCtorEq, reduceIte]
      exact hK _ (St.ent_by [] rfl (Nat.le_of_ble_eq_true rfl) rfl (by decide) (by simp only [push_cast, Nat.reduceEqDiff, Nat.reduceAdd, reduceCtorEq, reduceIte]) (by simp only [push_cast, Nat.reduceEqDiff, Nat.reduceAdd, reduceCtorEq, reduceIte]))
    refine dN_seq hR4 (XA_ent hs ?_)
    refine XA_ent (St.ent_virt (t := 2) (sz := 2) rfl (Nat.le_of_ble_eq_true rfl)) ?_
    refine XA_ret ?_
    refine dR_seq hR2 ?_
    refine hR0 _ _ ⟨_, St.ent_self, EndPost_ret (v := .os 0 0 0) (by simp only [go_sem, Nat.reduceBEq, Nat.reduceLT, Nat.reduceLeDiff, Nat.reduceEqDiff, Nat.reduceAdd, Nat.reduceSub, Nat.reduceMul, Int.reduceBEq, Int.reduceBNe, Int.reduceLT, Int.reduceLE, Int.reduceEq, Int.reduceGT, Int.reduceAdd, Int.reduceSub, Int.reduceNeg, Int.reduceToNat, reduceCtorEq, reduceIte]) ?_⟩
    have h := Option.some.inj h; subst h
    exact (St.ent_by [0] rfl (Nat.le_of_ble_eq_true rfl) rfl (by decide) (by simp only [push_cast, Nat.reduceEqDiff, Nat.reduceAdd, reduceCtorEq, reduceIte]) (by simp only [push_cast, Nat.reduceEqDiff, Nat.reduceAdd, reduceCtorEq, reduceIte]))
  · refine XA_skip ?_
    refine dN_seq hR2 ?_
    refine XA_seq_st fun R5 hR5 => ?_
    refine XA_reg_g ?_
    obtain ⟨c1, h⟩ := ck_some h
    refine RG_end ⟨[(2, .os 0 0 a1.length)], [(0, .arr 2 (List.map Src.av a1))], 1⟩ (fun K hK => ?_) (fun s hs => ?_)
    · simp only [go_sem, Nat.reduceBEq, Nat.reduceLT, Nat.reduceLeDiff, Nat.reduceEqDiff, Nat.reduceAdd, Nat.reduceSub, Nat.reduceMul, Int.reduceBEq, Int.reduceBNe, Int.reduceLT, Int.reduceLE, Int.reduceEq, Int.reduceGT, Int.reduceAdd, Int.reduceSub, Int.reduceNeg, Int.reduceToNat, reduceCtorEq, reduceIte, c1]
      exact hK _ (St.ent_by [1] rfl (Nat.le_of_ble_eq_true rfl) rfl (by decide) (by simp only [push_cast, Nat.reduceEqDiff, Nat.reduceAdd, reduceCtorEq, reduceIte]) (by simp only [push_cast, Nat.reduceEqDiff, Nat.reduceAdd, reduceCtorEq, reduceIte]))
    refine dN_seq hR5 (XA_ent hs ?_)
    refine XA_ret ?_
    refine hR0 _ _ ⟨_, St.ent_self, EndPost_ret (v := .os 0 0 a1.length) (by simp only [go_sem, Nat.reduceBEq, Nat.reduceLT, Nat.reduceLeDiff, Nat.reduceEqDiff, Nat.reduceAdd, Nat.reduceSub, Nat.reduceMul, Int.reduceBEq, Int.reduceBNe, Int.reduceLT, Int.reduceLE, Int.reduceEq, Int.reduceGT, Int.reduceAdd, Int.reduceSub, Int.reduceNeg, Int.reduceToNat, reduceCtorEq, reduceIte]) ?_⟩
    have h := Option.some.inj h; subst h
    exact (St.ent_by [0] rfl (Nat.le_of_ble_eq_true rfl) rfl (by decide) (by simp only [push_cast, Nat.reduceEqDiff, Nat.reduceAdd, reduceCtorEq, reduceIte]) (by simp only [push_cast, Nat.reduceEqDiff, Nat.reduceAdd, reduceCtorEq, reduceIte]))
def cloneE (a1 : List Edt) : Option ((List Edt)) :=
  (ck (roomy a1.length) (some a1))

theorem ok_cloneE {a1 : List Edt} {r : (List Edt)} (h : cloneE a1 = some r) : FnOk Tryd.prog 15 [.ls (List.map Edt.av a1) false] [] 0 (fun q s k => q = .ret (.os 0 0 r.length) ∧ s = [(0, .arr 4 (List.map Edt.av r))] ∧ k = 1) := by
  refine Fn_by Tryd.func15 Tryd.ntmps15 Tryd.cc15 (Nat.le_of_ble_eq_true rfl) (rs := [.tmp 2]) (by kernel_rfl) (fun R0 hR0 => ?_)
  unfold cloneE at h
  unfold Tryd.ac15
  refine (show XA _ _ _ _ ⟨[(0, .ls (List.map Edt.av a1) false)], [], 0⟩ from ?_)
  refine XA_seq_st fun R1 hR1 => ?_
  refine XA_reg_g ?_
  refine RG_end ⟨[(0, .ls (List.map Edt.av a1) false)], [], 0⟩ (fun K hK => ?_) (fun s hs => ?_)
  · simp only [go_sem, Nat.reduceBEq, Nat.reduceLT, Nat.reduceLeDiff, Nat.reduceEqDiff, Nat.reduceAdd, Nat.reduceSub, Nat.reduceMul, Int.reduceBEq, Int.reduceBNe, Int.reduceLT, Int.reduceLE, Int.reduceEq, Int.reduceGT, Int.reduceAdd, Int.reduceSub, Int.reduceNeg, Int.reduceToNat, reduceCtorEq, reduceIte]
    exact hK _ (St.ent_by [] rfl (Nat.le_of_ble_eq_true rfl) rfl (by decide) (by simp only [push_cast, Nat.reduceEqDiff, Nat.reduceAdd, reduceCtorEq, reduceIte]) (by simp only [push_cast, Nat.reduceEqDiff, Nat.reduceAdd, reduceCtorEq, reduceIte]))
  refine dN_seq hR1 (XA_ent hs ?_)
  refine XA_seq_st fun R2 hR2 => ?_
  refine XA_seq_st fun R3 hR3 => ?_
  refine XA_reg_g ?_
  refine RG_any (t := fun b1 : Bool => ⟨[(0, .ls (List.map Edt.av a1) false), (4, .bool b1)], [], 0⟩) (p := fun b1 => b1 = true → a1 = []) (fun K hK => ?_) (fun b1 hb1 s hs => ?_)
  · simp only [go_sem, Nat.reduceBEq, Nat.reduceLT, Nat.reduceLeDiff, Nat.reduceEqDiff, Nat.reduceAdd, Nat.reduceSub, Nat.reduceMul, Int.reduceBEq, Int.reduceBNe, Int.reduceLT, Int.reduceLE, Int.reduceEq, Int.reduceGT, Int.reduceAdd, Int.reduceSub, Int.reduceNeg, Int.reduceToNat, reduceCtorEq, reduceIte]
    refine ⟨fun _ => hK false (fun hx => by cases hx) _ (St.ent_by [] rfl (Nat.le_of_ble_eq_true rfl) rfl (by decide) (by simp only [push_cast, Nat.reduceEqDiff, Nat.reduceAdd, reduceCtorEq, reduceIte]) (by simp only [push_cast, Nat.reduceEqDiff, Nat.reduceAdd, reduceCtorEq, reduceIte])), fun he b => hK b (fun _ => by simpa using he) _ (St.ent_by [] rfl (Nat.le_of_ble_eq_true rfl) rfl (by decide) (by simp only [push_cast, Nat.reduceEqDiff, Nat.reduceAdd, reduceCtorEq, reduceIte]) (by simp only [push_cast, Nat.reduceEqDiff, Nat.reduceAdd, reduceCtorEq, reduceIte]))⟩
  refine dN_seq hR3 (XA_ent hs ?_)
  refine XA_cond (t := b1) rfl (fun g1 => ?_) (fun g1 => ?_)
  · have he := hb1 g1
    subst he
    replace h : (some []) = some r := h
    refine XA_seq_st fun R4 hR4 => ?_
    refine XA_reg_g ?_
    refine RG_end ⟨[(2, .ls [] true)], [], 0⟩ (fun K hK => ?_) (fun s hs => ?_)
    · simp only [go_sem, Nat.reduceBEq, Nat.reduceLT, Nat.reduceLeDiff, Nat.reduceEqDiff, Nat.reduceAdd, Nat.reduceSub, Nat.reduceMul, Int.reduceBEq, Int.reduceBNe, Int.reduceLT, Int.reduceLE, Int.reduceEq, Int.reduceGT, Int.reduceAdd, Int.reduceSub, Int.reduceNeg, Int.reduceToNat, reduceCtorEq, reduceIte]
      exact hK _ (St.ent_by [] rfl (Nat.le_of_ble_eq_true rfl) rfl (by decide) (by simp only [push_cast, Nat.reduceEqDiff, Nat.reduceAdd, reduceCtorEq, reduceIte]) (by simp only [push_cast, Nat.reduceEqDiff, Nat.reduceAdd, reduceCtorEq, reduceIte]))
    refine dN_seq hR4 (XA_ent hs ?_)
    refine XA_ent (St.ent_virt (t := 2) (sz := 4) rfl (Nat.le_of_ble_eq_true rfl)) ?_
    refine XA_ret ?_
    refine dR_seq hR2 ?_
    refine hR0 _ _ ⟨_, St.ent_self, EndPost_ret (v := .os 0 0 0) (by simp only [go_sem, Nat.reduceBEq, Nat.reduceLT, Nat.reduceLeDiff, Nat.reduceEqDiff, Nat.reduceAdd, Nat.reduceSub, Nat.reduceMul, Int.reduceBEq, Int.reduceBNe, Int.reduceLT, Int.reduceLE, Int.reduceEq, Int.reduceGT, Int.reduceAdd, Int.reduceSub, Int.reduceNeg, Int.reduceToNat, reduceCtorEq, reduceIte]) ?_⟩
    have h := Option.some.inj h; subst h
    exact (St.ent_by [0] rfl (Nat.le_of_ble_eq_true rfl) rfl (by decide) (by simp only [push_cast, Nat.reduceEqDiff, Nat.reduceAdd, reduceCtorEq, reduceIte]) (by simp only [push_cast, Nat.reduceEqDiff, Nat.reduceAdd, reduceCtorEq, reduceIte]))
  · refine XA_skip ?_
    refine dN_seq hR2 ?_
    refine XA_seq_st fun R5 hR5 => ?_
    refine XA_reg_g ?_
    obtain ⟨c1, h⟩ := ck_some h
    refine RG_end ⟨[(2, .os 0 0 a1.length)], [(0, .arr 4 (List.map Edt.av a1))], 1⟩ (fun K hK => ?_) (fun s hs => ?_)
    · simp only [go_sem, Nat.reduceBEq, Nat.reduceLT, Nat.reduceLeDiff, Nat.reduceEqDiff, Nat.reduceAdd, Nat.reduceSub, Nat.reduceMul, Int.reduceBEq, Int.reduceBNe, Int.reduceLT, Int.reduceLE, Int.reduceEq, Int.reduceGT, Int.reduceAdd, Int.reduceSub, Int.reduceNeg, Int.reduceToNat, reduceCtorEq, reduceIte, c1]
      exact hK _ (St.ent_by [1] rfl (Nat.le_of_ble_eq_true rfl) rfl (by decide) (by simp only [push_cast, Nat.reduceEqDiff, Nat.reduceAdd, reduceCtorEq, reduceIte]) (by simp only [push_cast, Nat.reduceEqDiff, Nat.reduceAdd, reduceCtorEq, reduceIte]))
    refine dN_seq hR5 (XA_ent hs ?_)
    refine XA_ret ?_
    refine hR0 _ _ ⟨_, St.ent_self, EndPost_ret (v := .os 0 0 a1.length) (by simp only [go_sem, Nat.reduceBEq, Nat.reduceLT, Nat.reduceLeDiff, Nat.reduceEqDiff, Nat.reduceAdd, Nat.reduceSub, Nat.reduceMul, Int.reduceBEq, Int.reduceBNe, Int.reduceLT, Int.reduceLE, Int.reduceEq, Int.reduceGT, Int.reduceAdd, Int.reduceSub, Int.reduceNeg, Int.reduceToNat, reduceCtorEq, reduceIte]) ?_⟩
    have h := Option.some.inj h; subst h
    exact (St.ent_by [0] rfl (Nat.le_of_ble_eq_true rfl) rfl (by decide) (by simp only [push_cast, Nat.reduceEqDiff, Nat.reduceAdd, reduceCtorEq, reduceIte]) (by simp only [push_cast, Nat.reduceEqDiff, Nat.reduceAdd, reduceCtorEq, reduceIte]))
def find1 (a1 : Src) (a2 : List UInt8) : Option (Bool) :=
  (some (a1.path == a2))

theorem ok_find1 {a1 : Src} {a2 : List UInt8} {r : Bool} (h : find1 a1 a2 = some r) : FnOk Tryd.prog 22 [.agg [.str a1.path, .str a1.text], .ptr 0 0] [(0, .var [.str a2])] 1 (fun q s k => q = .ret (.bool r) ∧ s = [(0, .var [.str a2])] ∧ k = 1) := by
  refine Fn_by Tryd.func22 Tryd.ntmps22 Tryd.cc22 (Nat.le_of_ble_eq_true rfl) (rs := [.tmp 3]) (by kernel_rfl) (fun R0 hR0 => ?_)
  unfold find1 at h
  unfold Tryd.ac22
  refine (show XA _ _ _ _ ⟨[(0, .agg [.str a1.path, .str a1.text]), (1, .ptr 0 0)], [(0, .var [.str a2])], 1⟩ from ?_)
  refine XA_seq_st fun R1 hR1 => ?_
  refine XA_reg_g ?_
  refine RG_end ⟨[(1, .ptr 0 0), (2, .ptr 1 0)], [(0, .var [.str a2]), (1, .var [.str a1.path, .str a1.text])], 2⟩ (fun K hK => ?_) (fun s hs => ?_)
  · simp only [go_sem, Nat.reduceBEq, Nat.reduceLT, Nat.reduceLeDiff, Nat.reduceEqDiff, Nat.reduceAdd, Nat.reduceSub, Nat.reduceMul, Int.reduceBEq, Int.reduceBNe, Int.reduceLT, Int.reduceLE, Int.reduceEq, Int.reduceGT, Int.reduceAdd, Int.reduceSub, Int.reduceNeg, Int.reduceToNat, reduceCtorEq, reduceIte]
    exact hK _ (St.ent_by [0, 1] rfl (Nat.le_of_ble_eq_true rfl) rfl (by decide) (by simp only [push_cast, Nat.reduceEqDiff, Nat.reduceAdd, reduceCtorEq, reduceIte]) (by simp only [push_cast, Nat.reduceEqDiff, Nat.reduceAdd, reduceCtorEq, reduceIte]))
  refine dN_seq hR1 (XA_ent hs ?_)
  refine XA_seq_st fun R2 hR2 => ?_
  refine XA_reg_g ?_
  refine RG_end ⟨[(3, .bool (a1.path == a2))], [(0, .var [.str a2])], 1⟩ (fun K hK => ?_) (fun s hs => ?_)
  · simp only [go_sem, Nat.reduceBEq, Nat.reduceLT, Nat.reduceLeDiff, Nat.reduceEqDiff, Nat.reduceAdd, Nat.reduceSub, Nat.reduceMul, Int.reduceBEq, Int.reduceBNe, Int.reduceLT, Int.reduceLE, Int.reduceEq, Int.reduceGT, Int.reduceAdd, Int.reduceSub, Int.reduceNeg, Int.reduceToNat, reduceCtorEq, reduceIte]
    exact hK _ (St.ent_by [0] rfl (Nat.le_of_ble_eq_true rfl) rfl (by decide) (by simp only [push_cast, Nat.reduceEqDiff, Nat.reduceAdd, reduceCtorEq, reduceIte]) (by simp only [push_cast, Nat.reduceEqDiff, Nat.reduceAdd, reduceCtorEq, reduceIte]))
  refine dN_seq hR2 (XA_ent hs ?_)
  refine XA_ret ?_
  refine hR0 _ _ ⟨_, St.ent_self, EndPost_ret (v := .bool (a1.path == a2)) (by simp only [go_sem, Nat.reduceBEq, Nat.reduceLT, Nat.reduceLeDiff, Nat.reduceEqDiff, Nat.reduceAdd, Nat.reduceSub, Nat.reduceMul, Int.reduceBEq, Int.reduceBNe, Int.reduceLT, Int.reduceLE, Int.reduceEq, Int.reduceGT, Int.reduceAdd, Int.reduceSub, Int.reduceNeg, Int.reduceToNat, reduceCtorEq, reduceIte]) ?_⟩
  have h := Option.some.inj h; subst h
  exact (St.ent_by [0] rfl (Nat.le_of_ble_eq_true rfl) rfl (by decide) (by simp only [push_cast, Nat.reduceEqDiff, Nat.reduceAdd, reduceCtorEq, reduceIte]) (by simp only [push_cast, Nat.reduceEqDiff, Nat.reduceAdd, reduceCtorEq, reduceIte]))
def indexF_b1 (a1 : List Src) (a2 : List UInt8) (again1 : Int → Option (Int)) (v1 : Int) : Option (Int) :=
  (cond (decide (v1 < (a1.length : Int))) (ob (rd a1 v1) fun x1 => (ob (find1 x1 a2) fun r1 => (cond r1 (some v1) (again1 (IntKind.i64.wrap (v1 + 1)))))) (some (-1)))

def indexF (fuel : Nat) (a1 : List Src) (a2 : List UInt8) : Option (Int) :=
  (loopF (fun again1 v => indexF_b1 a1 a2 again1 v) fuel 0)

theorem ok_indexF {fuel : Nat} {a1 : List Src} {a2 : List UInt8} {r : Int} (h : indexF fuel a1 a2 = some r) : FnOk Tryd.prog 21 [.ls (List.map Src.av a1) false, .fn 22 [.ptr 0 0]] [(0, .var [.str a2])] 1 (fun q s k => q = .ret (.int .i64 r) ∧ s = [(0, .var [.str a2])] ∧ k = 1) := by
  refine Fn_by Tryd.func21 Tryd.ntmps21 Tryd.cc21 (Nat.le_of_ble_eq_true rfl) (rs := [.tmp 4]) (by kernel_rfl) (fun R0 hR0 => ?_)
  unfold indexF at h
  unfold Tryd.ac21
  refine (show XA _ _ _ _ ⟨[(0, .ls (List.map Src.av a1) false), (1, .fn 22 [.ptr 0 0])], [(0, .var [.str a2])], 1⟩ from ?_)
  refine XA_seq_st fun R1 hR1 => ?_
  refine XA_reg_g ?_
  refine RG_end ⟨[(0, .ls (List.map Src.av a1) false), (1, .fn 22 [.ptr 0 0])], [(0, .var [.str a2])], 1⟩ (fun K hK => ?_) (fun s hs => ?_)
  · simp only [go_sem, Nat.reduceBEq, Nat.reduceLT, Nat.reduceLeDiff, Nat.reduceEqDiff, Nat.reduceAdd, Nat.reduceSub, Nat.reduceMul, Int.reduceBEq, Int.reduceBNe, Int.reduceLT, Int.reduceLE, Int.reduceEq, Int.reduceGT, Int.reduceAdd, Int.reduceSub, Int.reduceNeg, Int.reduceToNat, reduceCtorEq, reduceIte]
    exact hK _ (St.ent_by [0] rfl (Nat.le_of_ble_eq_true rfl) rfl (by decide) (by simp only [push_cast, Nat.reduceEqDiff, Nat.reduceAdd, reduceCtorEq, reduceIte]) (by simp only [push_cast, Nat.reduceEqDiff, Nat.reduceAdd, reduceCtorEq, reduceIte]))
  refine dN_seq hR1 (XA_ent hs ?_)
  refine XA_seq_st fun R2 hR2 => ?_
  refine XA_seq_st fun R3 hR3 => ?_
  refine XA_reg_g ?_
  refine RG_end ⟨[(0, .ls (List.map Src.av a1) false), (1, .fn 22 [.ptr 0 0]), (7, .int .i64 (a1.length : Int)), (8, .int .i64 0)], [(0, .var [.str a2])], 1⟩ (fun K hK => ?_) (fun s hs => ?_)
  · simp only [go_sem, Nat.reduceBEq, Nat.reduceLT, Nat.reduceLeDiff, Nat.reduceEqDiff, Nat.reduceAdd, Nat.reduceSub, Nat.reduceMul, Int.reduceBEq, Int.reduceBNe, Int.reduceLT, Int.reduceLE, Int.reduceEq, Int.reduceGT, Int.reduceAdd, Int.reduceSub, Int.reduceNeg, Int.reduceToNat, reduceCtorEq, reduceIte]
    exact hK _ (St.ent_by [0] rfl (Nat.le_of_ble_eq_true rfl) rfl (by decide) (by simp only [push_cast, Nat.reduceEqDiff, Nat.reduceAdd, reduceCtorEq, reduceIte]) (by simp only [push_cast, Nat.reduceEqDiff, Nat.reduceAdd, reduceCtorEq, reduceIte]))
  refine dN_seq hR3 (XA_ent hs ?_)
  refine XA_block_st fun R4 hR4 => ?_
  refine XA_loop_by (T := fun v : Int => ⟨[(0, .ls (List.map Src.av a1) false), (1, .fn 22 [.ptr 0 0]), (7, .int .i64 (a1.length : Int)), (8, .int .i64 v)], [(0, .var [.str a2])], 1⟩) (fuel := fuel) h (St.ent_by [0] rfl (Nat.le_of_ble_eq_true rfl) rfl (by decide) (by simp only [push_cast, Nat.reduceEqDiff, Nat.reduceAdd, reduceCtorEq, reduceIte]) (by simp only [push_cast, Nat.reduceEqDiff, Nat.reduceAdd, reduceCtorEq, reduceIte])) (fun again1 v h R5 hR5 => ?_)
  revert h; generalize v = v1; intro h
  replace h : indexF_b1 a1 a2 again1 v1 = some r := h
  unfold indexF_b1 at h
  refine (show XA _ _ _ _ ⟨[(0, .ls (List.map Src.av a1) false), (1, .fn 22 [.ptr 0 0]), (7, .int .i64 (a1.length : Int)), (8, .int .i64 v1)], [(0, .var [.str a2])], 1⟩ from ?_)
  refine XA_seq_st fun R6 hR6 => ?_
  refine XA_reg_g ?_
  refine RG_end ⟨[(0, .ls (List.map Src.av a1) false), (1, .fn 22 [.ptr 0 0]), (7, .int .i64 (a1.length : Int)), (8, .int .i64 v1), (9, .bool (decide (v1 < (a1.length : Int))))], [(0, .var [.str a2])], 1⟩ (fun K hK => ?_) (fun s hs => ?_)
  · simp only [go_sem, Nat.reduceBEq, Nat.reduceLT, Nat.reduceLeDiff, Nat.reduceEqDiff, Nat.reduceAdd, Nat.reduceSub, Nat.reduceMul, Int.reduceBEq, Int.reduceBNe, Int.reduceLT, Int.reduceLE, Int.reduceEq, Int.reduceGT, Int.reduceAdd, Int.reduceSub, Int.reduceNeg, Int.reduceToNat, reduceCtorEq, reduceIte]
    exact hK _ (St.ent_by [0] rfl (Nat.le_of_ble_eq_true rfl) rfl (by decide) (by simp only [push_cast, Nat.reduceEqDiff, Nat.reduceAdd, reduceCtorEq, reduceIte]) (by simp only [push_cast, Nat.reduceEqDiff, Nat.reduceAdd, reduceCtorEq, reduceIte]))
  refine dN_seq hR6 (XA_ent hs ?_)
  refine XA_seq_st fun R7 hR7 => ?_
  refine XA_cond (t := (decide (v1 < (a1.length : Int)))) rfl (fun g1 => ?_) (fun g1 => ?_)
  · rw [g1, cond_true] at h
    refine XA_skip ?_
    refine dN_seq hR7 ?_
    refine XA_seq_st fun R8 hR8 => ?_
    refine XA_block_st fun R9 hR9 => ?_
    refine XA_seq_st fun R10 hR10 => ?_
    refine XA_reg_g ?_
    refine RG_end ⟨[(0, .ls (List.map Src.av a1) false), (1, .fn 22 [.ptr 0 0]), (5, .int .i64 v1), (7, .int .i64 (a1.length : Int)), (8, .int .i64 v1)], [(0, .var [.str a2])], 1⟩ (fun K hK => ?_) (fun s hs => ?_)
    · simp only [go_sem, Nat.reduceBEq, Nat.reduceLT, Nat.reduceLeDiff, Nat.reduceEqDiff, Nat.reduceAdd, Nat.reduceSub, Nat.reduceMul, Int.reduceBEq, Int.reduceBNe, Int.reduceLT, Int.reduceLE, Int.reduceEq, Int.reduceGT, Int.reduceAdd, Int.reduceSub, Int.reduceNeg, Int.reduceToNat, reduceCtorEq, reduceIte]
      exact hK _ (St.ent_by [0] rfl (Nat.le_of_ble_eq_true rfl) rfl (by decide) (by simp only [push_cast, Nat.reduceEqDiff, Nat.reduceAdd, reduceCtorEq, reduceIte]) (by simp only [push_cast, Nat.reduceEqDiff, Nat.reduceAdd, reduceCtorEq, reduceIte]))
    refine dN_seq hR10 (XA_ent hs ?_)
    refine XA_seq_st fun R11 hR11 => ?_
    refine XA_reg_g ?_
    obtain ⟨x1, hx1, h⟩ := ob_some h
    have ix1 := rd_in hx1
    have gx1 := rd_get hx1
    try simp only [Int.reduceToNat, Int.toNat_natCast] at gx1
    obtain ⟨r1, hr1, h⟩ := ob_some h
    refine RG_end ⟨[(0, .ls (List.map Src.av a1) false), (1, .fn 22 [.ptr 0 0]), (5, .int .i64 v1), (7, .int .i64 (a1.length : Int)), (8, .int .i64 v1), (16, .bool r1)], [(0, .var [.str a2])], 1⟩ (fun K hK => ?_) (fun s hs => ?_)
    · refine runs_cut 5 fun K1 hK1 => ?_
      simp only [go_sem, Nat.reduceBEq, Nat.reduceLT, Nat.reduceLeDiff, Nat.reduceEqDiff, Nat.reduceAdd, Nat.reduceSub, Nat.reduceMul, Int.reduceBEq, Int.reduceBNe, Int.reduceLT, Int.reduceLE, Int.reduceEq, Int.reduceGT, Int.reduceAdd, Int.reduceSub, Int.reduceNeg, Int.reduceToNat, reduceCtorEq, reduceIte, ix1, gx1]
      refine hK1 _ ?_
      simp only [List.take_succ_cons, List.take_zero, List.drop_succ_cons, List.drop_zero]
      refine runs_callv rfl rfl rfl (CallP.wk (CallP_of [0] _ _ (.of Tryd.func22 (by kernel_rfl)) (ok_find1 hr1) (by simp only [go_sem, Nat.reduceBEq, Nat.reduceLT, Nat.reduceLeDiff, Nat.reduceEqDiff, Nat.reduceAdd, Nat.reduceSub, Nat.reduceMul, Int.reduceBEq, Int.reduceBNe, Int.reduceLT, Int.reduceLE, Int.reduceEq, Int.reduceGT, Int.reduceAdd, Int.reduceSub, Int.reduceNeg, Int.reduceToNat, reduceCtorEq, reduceIte, ix1, gx1]) (by simp only [push_cast, Nat.reduceEqDiff, Nat.reduceAdd, reduceCtorEq, reduceIte, entStore]) rfl (by decide) ?_ (by rintro _ _ _ ⟨hv, _⟩; cases hv)))
      rintro _ _ _ ⟨hv, rfl, rfl⟩
      cases hv
      simp only [go_sem, Nat.reduceBEq, Nat.reduceLT, Nat.reduceLeDiff, Nat.reduceEqDiff, Nat.reduceAdd, Nat.reduceSub, Nat.reduceMul, Int.reduceBEq, Int.reduceBNe, Int.reduceLT, Int.reduceLE, Int.reduceEq, Int.reduceGT, Int.reduceAdd, Int.reduceSub, Int.reduceNeg, Int.reduceToNat, reduceCtorEq, reduceIte, ix1, gx1]
      exact hK _ (St.ent_by [0] rfl (Nat.le_of_ble_eq_true rfl) rfl (by decide) (by simp only [push_cast, Nat.reduceEqDiff, Nat.reduceAdd, reduceCtorEq, reduceIte]) (by simp only [push_cast, Nat.reduceEqDiff, Nat.reduceAdd, reduceCtorEq, reduceIte]))
    refine dN_seq hR11 (XA_ent hs ?_)
    refine XA_cond (t := r1) rfl (fun g2 => ?_) (fun g2 => ?_)
    · rw [g2, cond_true] at h
      refine XA_seq_st fun R12 hR12 => ?_
      refine XA_reg_g ?_
      refine RG_end ⟨[(4, .int .i64 v1)], [(0, .var [.str a2])], 1⟩ (fun K hK => ?_) (fun s hs => ?_)
      · simp only [go_sem, Nat.reduceBEq, Nat.reduceLT, Nat.reduceLeDiff, Nat.reduceEqDiff, Nat.reduceAdd, Nat.reduceSub, Nat.reduceMul, Int.reduceBEq, Int.reduceBNe, Int.reduceLT, Int.reduceLE, Int.reduceEq, Int.reduceGT, Int.reduceAdd, Int.reduceSub, Int.reduceNeg, Int.reduceToNat, reduceCtorEq, reduceIte]
        exact hK _ (St.ent_by [0] rfl (Nat.le_of_ble_eq_true rfl) rfl (by decide) (by simp only [push_cast, Nat.reduceEqDiff, Nat.reduceAdd, reduceCtorEq, reduceIte]) (by simp only [push_cast, Nat.reduceEqDiff, Nat.reduceAdd, reduceCtorEq, reduceIte]))
      refine dN_seq hR12 (XA_ent hs ?_)
      refine XA_ret ?_
      refine dR_block hR9 ?_
      refine dR_seq hR8 ?_
      refine dR_seq hR5 ?_
      refine dR_block hR4 ?_
      refine dR_seq hR2 ?_
      refine hR0 _ _ ⟨_, St.ent_self, EndPost_ret (v := .int .i64 v1) (by simp only [go_sem, Nat.reduceBEq, Nat.reduceLT, Nat.reduceLeDiff, Nat.reduceEqDiff, Nat.reduceAdd, Nat.reduceSub, Nat.reduceMul, Int.reduceBEq, Int.reduceBNe, Int.reduceLT, Int.reduceLE, Int.reduceEq, Int.reduceGT, Int.reduceAdd, Int.reduceSub, Int.reduceNeg, Int.reduceToNat, reduceCtorEq, reduceIte]) ?_⟩
      have h := Option.some.inj h; subst h
      exact (St.ent_by [0] rfl (Nat.le_of_ble_eq_true rfl) rfl (by decide) (by simp only [push_cast, Nat.reduceEqDiff, Nat.reduceAdd, reduceCtorEq, reduceIte]) (by simp only [push_cast, Nat.reduceEqDiff, Nat.reduceAdd, reduceCtorEq, reduceIte]))
    · rw [g2, cond_false] at h
      refine XA_skip ?_
      refine dN_block hR9 ?_
      refine dN_seq hR8 ?_
      refine XA_reg_g ?_
      refine RG_end ⟨[(0, .ls (List.map Src.av a1) false), (1, .fn 22 [.ptr 0 0]), (7, .int .i64 (a1.length : Int)), (8, .int .i64 (IntKind.i64.wrap (v1 + 1)))], [(0, .var [.str a2])], 1⟩ (fun K hK => ?_) (fun s hs => ?_)
      · simp only [go_sem, Nat.reduceBEq, Nat.reduceLT, Nat.reduceLeDiff, Nat.reduceEqDiff, Nat.reduceAdd, Nat.reduceSub, Nat.reduceMul, Int.reduceBEq, Int.reduceBNe, Int.reduceLT, Int.reduceLE, Int.reduceEq, Int.reduceGT, Int.reduceAdd, Int.reduceSub, Int.reduceNeg, Int.reduceToNat, reduceCtorEq, reduceIte]
        exact hK _ (St.ent_by [0] rfl (Nat.le_of_ble_eq_true rfl) rfl (by decide) (by simp only [push_cast, Nat.reduceEqDiff, Nat.reduceAdd, reduceCtorEq, reduceIte]) (by simp only [push_cast, Nat.reduceEqDiff, Nat.reduceAdd, reduceCtorEq, reduceIte]))
      exact dN_seq hR5 ⟨(IntKind.i64.wrap (v1 + 1)), (hs.trans (St.ent_by [0] rfl (Nat.le_of_ble_eq_true rfl) rfl (by decide) (by simp only [push_cast, Nat.reduceEqDiff, Nat.reduceAdd, reduceCtorEq, reduceIte]) (by simp only [push_cast, Nat.reduceEqDiff, Nat.reduceAdd, reduceCtorEq, reduceIte]))), h⟩
  · rw [g1, cond_false] at h
    refine XA_exit ?_
    refine dX_seq hR7 ?_
    refine dX_seq hR5 ?_
    refine dE_block hR4 ?_
    refine dN_seq hR2 ?_
    refine XA_seq_st fun R13 hR13 => ?_
    refine XA_reg_g ?_
    refine RG_end ⟨[(4, .int .i64 (-1))], [(0, .var [.str a2])], 1⟩ (fun K hK => ?_) (fun s hs => ?_)
    · simp only [go_sem, Nat.reduceBEq, Nat.reduceLT, Nat.reduceLeDiff, Nat.reduceEqDiff, Nat.reduceAdd, Nat.reduceSub, Nat.reduceMul, Int.reduceBEq, Int.reduceBNe, Int.reduceLT, Int.reduceLE, Int.reduceEq, Int.reduceGT, Int.reduceAdd, Int.reduceSub, Int.reduceNeg, Int.reduceToNat, reduceCtorEq, reduceIte]
      exact hK _ (St.ent_by [0] rfl (Nat.le_of_ble_eq_true rfl) rfl (by decide) (by simp only [push_cast, Nat.reduceEqDiff, Nat.reduceAdd, reduceCtorEq, reduceIte]) (by simp only [push_cast, Nat.reduceEqDiff, Nat.reduceAdd, reduceCtorEq, reduceIte]))
    refine dN_seq hR13 (XA_ent hs ?_)
    refine XA_ret ?_
    refine hR0 _ _ ⟨_, St.ent_self, EndPost_ret (v := .int .i64 (-1)) (by simp only [go_sem, Nat.reduceBEq, Nat.reduceLT, Nat.reduceLeDiff, Nat.reduceEqDiff, Nat.reduceAdd, Nat.reduceSub, Nat.reduceMul, Int.reduceBEq, Int.reduceBNe, Int.reduceLT, Int.reduceLE, Int.reduceEq, Int.reduceGT, Int.reduceAdd, Int.reduceSub, Int.reduceNeg, Int.reduceToNat, reduceCtorEq, reduceIte]) ?_⟩
    have h := Option.some.inj h; subst h
    exact (St.ent_by [0] rfl (Nat.le_of_ble_eq_true rfl) rfl (by decide) (by simp only [push_cast, Nat.reduceEqDiff, Nat.reduceAdd, reduceCtorEq, reduceIte]) (by simp only [push_cast, Nat.reduceEqDiff, Nat.reduceAdd, reduceCtorEq, reduceIte]))
def find (fuel : Nat) (a1 : List Src) (a2 : List UInt8) : Option (Int) :=
  (ob (indexF fuel a1 a2) fun r1 => (some r1))

theorem ok_find {fuel : Nat} {a1 : List Src} {a2 : List UInt8} {r : Int} (h : find fuel a1 a2 = some r) : FnOk Tryd.prog 13 [.ls (List.map Src.av a1) false, .str a2] [] 0 (fun q s k => q = .ret (.int .i64 r) ∧ s = [] ∧ k = 0) := by
  refine Fn_by Tryd.func13 Tryd.ntmps13 Tryd.cc13 (Nat.le_of_ble_eq_true rfl) (rs := [.tmp 4]) (by kernel_rfl) (fun R0 hR0 => ?_)
  unfold find at h
  unfold Tryd.ac13
  refine (show XA _ _ _ _ ⟨[(0, .ls (List.map Src.av a1) false), (1, .str a2)], [], 0⟩ from ?_)
  refine XA_seq_st fun R1 hR1 => ?_
  refine XA_reg_g ?_
  refine RG_end ⟨[(0, .ls (List.map Src.av a1) false), (3, .ptr 0 0)], [(0, .var [.str a2])], 1⟩ (fun K hK => ?_) (fun s hs => ?_)
  · simp only [go_sem, Nat.reduceBEq, Nat.reduceLT, Nat.reduceLeDiff, Nat.reduceEqDiff, Nat.reduceAdd, Nat.reduceSub, Nat.reduceMul, Int.reduceBEq, Int.reduceBNe, Int.reduceLT, Int.reduceLE, Int.reduceEq, Int.reduceGT, Int.reduceAdd, Int.reduceSub, Int.reduceNeg, Int.reduceToNat, reduceCtorEq, reduceIte]
    exact hK _ (St.ent_by [0] rfl (Nat.le_of_ble_eq_true rfl) rfl (by decide) (by simp only [push_cast, Nat.reduceEqDiff, Nat.reduceAdd, reduceCtorEq, reduceIte]) (by simp only [push_cast, Nat.reduceEqDiff, Nat.reduceAdd, reduceCtorEq, reduceIte]))
  refine dN_seq hR1 (XA_ent hs ?_)
  refine XA_seq_st fun R2 hR2 => ?_
  refine XA_reg_g ?_
  obtain ⟨r1, hr1, h⟩ := ob_some h
  refine RG_end ⟨[(4, .int .i64 r1)], [], 0⟩ (fun K hK => ?_) (fun s hs => ?_)
  · refine runs_cut 2 fun K1 hK1 => ?_
    simp only [go_sem, Nat.reduceBEq, Nat.reduceLT, Nat.reduceLeDiff, Nat.reduceEqDiff, Nat.reduceAdd, Nat.reduceSub, Nat.reduceMul, Int.reduceBEq, Int.reduceBNe, Int.reduceLT, Int.reduceLE, Int.reduceEq, Int.reduceGT, Int.reduceAdd, Int.reduceSub, Int.reduceNeg, Int.reduceToNat, reduceCtorEq, reduceIte]
    refine hK1 _ ?_
    simp only [List.take_succ_cons, List.take_zero, List.drop_succ_cons, List.drop_zero]
    refine runs_call rfl rfl (CallP.wk (CallP_of [0] _ _ (.of Tryd.func21 (by kernel_rfl)) (ok_indexF hr1) (by simp only [go_sem, Nat.reduceBEq, Nat.reduceLT, Nat.reduceLeDiff, Nat.reduceEqDiff, Nat.reduceAdd, Nat.reduceSub, Nat.reduceMul, Int.reduceBEq, Int.reduceBNe, Int.reduceLT, Int.reduceLE, Int.reduceEq, Int.reduceGT, Int.reduceAdd, Int.reduceSub, Int.reduceNeg, Int.reduceToNat, reduceCtorEq, reduceIte]) (by simp only [push_cast, Nat.reduceEqDiff, Nat.reduceAdd, reduceCtorEq, reduceIte, entStore]) rfl (by decide) ?_ (by rintro _ _ _ ⟨hv, _⟩; cases hv)))
    rintro _ _ _ ⟨hv, rfl, rfl⟩
    cases hv
    simp only [go_sem, Nat.reduceBEq, Nat.reduceLT, Nat.reduceLeDiff, Nat.reduceEqDiff, Nat.reduceAdd, Nat.reduceSub, Nat.reduceMul, Int.reduceBEq, Int.reduceBNe, Int.reduceLT, Int.reduceLE, Int.reduceEq, Int.reduceGT, Int.reduceAdd, Int.reduceSub, Int.reduceNeg, Int.reduceToNat, reduceCtorEq, reduceIte]
    exact hK _ (St.ent_by [] rfl (Nat.le_of_ble_eq_true rfl) rfl (by decide) (by simp only [push_cast, Nat.reduceEqDiff, Nat.reduceAdd, reduceCtorEq, reduceIte]) (by simp only [push_cast, Nat.reduceEqDiff, Nat.reduceAdd, reduceCtorEq, reduceIte]))
  refine dN_seq hR2 (XA_ent hs ?_)
  refine XA_ret ?_
  refine hR0 _ _ ⟨_, St.ent_self, EndPost_ret (v := .int .i64 r1) (by simp only [go_sem, Nat.reduceBEq, Nat.reduceLT, Nat.reduceLeDiff, Nat.reduceEqDiff, Nat.reduceAdd, Nat.reduceSub, Nat.reduceMul, Int.reduceBEq, Int.reduceBNe, Int.reduceLT, Int.reduceLE, Int.reduceEq, Int.reduceGT, Int.reduceAdd, Int.reduceSub, Int.reduceNeg, Int.reduceToNat, reduceCtorEq, reduceIte]) ?_⟩
  have h := Option.some.inj h; subst h
  exact (St.ent_by [] rfl (Nat.le_of_ble_eq_true rfl) rfl (by decide) (by simp only [push_cast, Nat.reduceEqDiff, Nat.reduceAdd, reduceCtorEq, reduceIte]) (by simp only [push_cast, Nat.reduceEqDiff, Nat.reduceAdd, reduceCtorEq, reduceIte]))
end Go.Proofs
