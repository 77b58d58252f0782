/-
  Pure functions, and that the code does what they do: by program.
-/
import Derived.Test.YtbldikkinholnaaDoorG6
import Derived.Test.YtbldikkinholnaaDoorG2
namespace Go.Proofs
open Go Go.Ab
set_option linter.unusedSimpArgs false
set_option linter.unusedVariables false
set_option maxHeartbeats 8000000
def cloneEO (a1 : List Edt) : Option ((List Edt)) :=
  (ck (roomy a1.length) (some a1))

theorem ok_cloneEO {a1 : List Edt} {r : (List Edt)} (h : cloneEO a1 = some r) : FnOk Tryd.prog 15 [.os 0 0 a1.length] [(0, .arr 4 (List.map Edt.av a1))] 1 (fun q s k => q = .ret (.os 1 0 r.length) ∧ s = [(0, .arr 4 (List.map Edt.av a1)), (1, .arr 4 (List.map Edt.av r))] ∧ k = 2) := by
  refine Fn_by Tryd.func15 Tryd.ntmps15 Tryd.cc15 (Nat.le_of_ble_eq_true rfl) (rs := [.tmp 2]) (by kernel_rfl) (fun R0 hR0 => ?_)
  unfold cloneEO at h
  unfold Tryd.ac15
  refine (show XA _ _ _ _ ⟨[(0, .os 0 0 a1.length)], [(0, .arr 4 (List.map Edt.av a1))], 1⟩ from ?_)
  refine XA_seq_st fun R1 hR1 => ?_
  refine XA_reg_g ?_
  refine RG_end ⟨[(0, .os 0 0 a1.length)], [(0, .arr 4 (List.map Edt.av a1))], 1⟩ (fun K hK => ?_) (fun s hs => ?_)
  · simp only [go_sem, Nat.reduceBEq, Nat.reduceLT, Nat.reduceLeDiff, Nat.reduceEqDiff, Nat.reduceAdd, Nat.reduceSub, Nat.reduceMul, Int.reduceBEq, Int.reduceBNe, Int.reduceLT, Int.reduceLE, Int.reduceEq, Int.reduceGT, Int.reduceAdd, Int.reduceSub, Int.reduceNeg, Int.reduceToNat, reduceCtorEq, reduceIte]
    exact hK _ (St.ent_by [0] rfl (Nat.le_of_ble_eq_true rfl) rfl (by decide) (by simp only [push_cast, Nat.reduceEqDiff, Nat.reduceAdd, reduceCtorEq, reduceIte]) (by simp only [push_cast, Nat.reduceEqDiff, Nat.reduceAdd, reduceCtorEq, reduceIte]))
  refine dN_seq hR1 (XA_ent hs ?_)
  refine XA_seq_st fun R2 hR2 => ?_
  refine XA_seq_st fun R3 hR3 => ?_
  refine XA_reg_g ?_
  refine RG_any (t := fun b1 : Bool => ⟨[(0, .os 0 0 a1.length), (4, .bool b1)], [(0, .arr 4 (List.map Edt.av a1))], 1⟩) (p := fun b1 => b1 = true → a1 = []) (fun K hK => ?_) (fun b1 hb1 s hs => ?_)
  · simp only [go_sem, Nat.reduceBEq, Nat.reduceLT, Nat.reduceLeDiff, Nat.reduceEqDiff, Nat.reduceAdd, Nat.reduceSub, Nat.reduceMul, Int.reduceBEq, Int.reduceBNe, Int.reduceLT, Int.reduceLE, Int.reduceEq, Int.reduceGT, Int.reduceAdd, Int.reduceSub, Int.reduceNeg, Int.reduceToNat, reduceCtorEq, reduceIte]
    refine ⟨fun _ => hK false (fun hx => by cases hx) _ (St.ent_by [0] rfl (Nat.le_of_ble_eq_true rfl) rfl (by decide) (by simp only [push_cast, Nat.reduceEqDiff, Nat.reduceAdd, reduceCtorEq, reduceIte]) (by simp only [push_cast, Nat.reduceEqDiff, Nat.reduceAdd, reduceCtorEq, reduceIte])), fun he b => hK b (fun _ => by simpa using he) _ (St.ent_by [0] rfl (Nat.le_of_ble_eq_true rfl) rfl (by decide) (by simp only [push_cast, Nat.reduceEqDiff, Nat.reduceAdd, reduceCtorEq, reduceIte]) (by simp only [push_cast, Nat.reduceEqDiff, Nat.reduceAdd, reduceCtorEq, reduceIte]))⟩
  refine dN_seq hR3 (XA_ent hs ?_)
  refine XA_cond (t := b1) rfl (fun g1 => ?_) (fun g1 => ?_)
  · have he := hb1 g1
    subst he
    replace h : (some []) = some r := h
    refine XA_seq_st fun R4 hR4 => ?_
    refine XA_reg_g ?_
    refine RG_end ⟨[(2, .ls [] true)], [(0, .arr 4 (List.map Edt.av ([] : List Edt)))], 1⟩ (fun K hK => ?_) (fun s hs => ?_)
    · simp only [go_sem, Nat.reduceBEq, Nat.reduceLT, Nat.reduceLeDiff, Nat.reduceEqDiff, Nat.reduceAdd, Nat.reduceSub, Nat.reduceMul, Int.reduceBEq, Int.reduceBNe, Int.reduceLT, Int.reduceLE, Int.reduceEq, Int.reduceGT, Int.reduceAdd, Int.reduceSub, Int.reduceNeg, Int.reduceToNat, reduceCtorEq, reduceIte]
      exact hK _ (St.ent_by [0] rfl (Nat.le_of_ble_eq_true rfl) rfl (by decide) (by simp only [push_cast, Nat.reduceEqDiff, Nat.reduceAdd, reduceCtorEq, reduceIte]) (by simp only [push_cast, Nat.reduceEqDiff, Nat.reduceAdd, reduceCtorEq, reduceIte]))
    refine dN_seq hR4 (XA_ent hs ?_)
    refine XA_ent (St.ent_virt (t := 2) (sz := 4) rfl (Nat.le_of_ble_eq_true rfl)) ?_
    refine XA_ret ?_
    refine dR_seq hR2 ?_
    refine hR0 _ _ ⟨_, St.ent_self, EndPost_ret (v := .os 1 0 0) (by simp only [go_sem, Nat.reduceBEq, Nat.reduceLT, Nat.reduceLeDiff, Nat.reduceEqDiff, Nat.reduceAdd, Nat.reduceSub, Nat.reduceMul, Int.reduceBEq, Int.reduceBNe, Int.reduceLT, Int.reduceLE, Int.reduceEq, Int.reduceGT, Int.reduceAdd, Int.reduceSub, Int.reduceNeg, Int.reduceToNat, reduceCtorEq, reduceIte]) ?_⟩
    have h := Option.some.inj h; subst h
    exact (St.ent_by [0, 1] rfl (Nat.le_of_ble_eq_true rfl) rfl (by decide) (by simp only [push_cast, Nat.reduceEqDiff, Nat.reduceAdd, reduceCtorEq, reduceIte]) (by simp only [push_cast, Nat.reduceEqDiff, Nat.reduceAdd, reduceCtorEq, reduceIte]))
  · refine XA_skip ?_
    refine dN_seq hR2 ?_
    refine XA_seq_st fun R5 hR5 => ?_
    refine XA_reg_g ?_
    obtain ⟨c1, h⟩ := ck_some h
    refine RG_end ⟨[(2, .os 1 0 a1.length)], [(0, .arr 4 (List.map Edt.av a1)), (1, .arr 4 (List.map Edt.av a1))], 2⟩ (fun K hK => ?_) (fun s hs => ?_)
    · simp only [go_sem, Nat.reduceBEq, Nat.reduceLT, Nat.reduceLeDiff, Nat.reduceEqDiff, Nat.reduceAdd, Nat.reduceSub, Nat.reduceMul, Int.reduceBEq, Int.reduceBNe, Int.reduceLT, Int.reduceLE, Int.reduceEq, Int.reduceGT, Int.reduceAdd, Int.reduceSub, Int.reduceNeg, Int.reduceToNat, reduceCtorEq, reduceIte, c1]
      exact hK _ (St.ent_by [0, 2] rfl (Nat.le_of_ble_eq_true rfl) rfl (by decide) (by simp only [push_cast, Nat.reduceEqDiff, Nat.reduceAdd, reduceCtorEq, reduceIte]) (by simp only [push_cast, Nat.reduceEqDiff, Nat.reduceAdd, reduceCtorEq, reduceIte]))
    refine dN_seq hR5 (XA_ent hs ?_)
    refine XA_ret ?_
    refine hR0 _ _ ⟨_, St.ent_self, EndPost_ret (v := .os 1 0 a1.length) (by simp only [go_sem, Nat.reduceBEq, Nat.reduceLT, Nat.reduceLeDiff, Nat.reduceEqDiff, Nat.reduceAdd, Nat.reduceSub, Nat.reduceMul, Int.reduceBEq, Int.reduceBNe, Int.reduceLT, Int.reduceLE, Int.reduceEq, Int.reduceGT, Int.reduceAdd, Int.reduceSub, Int.reduceNeg, Int.reduceToNat, reduceCtorEq, reduceIte]) ?_⟩
    have h := Option.some.inj h; subst h
    exact (St.ent_by [0, 1] rfl (Nat.le_of_ble_eq_true rfl) rfl (by decide) (by simp only [push_cast, Nat.reduceEqDiff, Nat.reduceAdd, reduceCtorEq, reduceIte]) (by simp only [push_cast, Nat.reduceEqDiff, Nat.reduceAdd, reduceCtorEq, reduceIte]))

def changeO_b3 (v3 : List Src) (again3 : Int → Option ((List Src) × Int)) (v4 : Int) : Option ((List Src) × Int) :=
  (cond (decide (v4 < (v3.length : Int))) (ob (rd v3 v4) fun x6 => (cond (decide ((x6.text.length : Int) > 3000)) (some ([], 4)) (again3 (IntKind.i64.wrap (v4 + 1))))) (some (v3, 0)))

def changeO_b2 (r4 : (List Edt)) (fuel : Nat) (again2 : (Int × (List Src)) → Option ((List Src) × Int)) (v2 : Int) (v3 : List Src) : Option ((List Src) × Int) :=
  (cond (decide (v2 ≥ 0)) (ob (rd r4 v2) fun x4 => (ob (rd v3 x4.file) fun x5 => (cond (decide ((x4.text.length : Int) > 3000)) (some ([], 4)) (ck (upB x4.fro x5.text.length) (ck (roomy (((x5.text.take x4.fro.toNat).length) + x4.text.length)) (ck (upB x4.to_ x5.text.length) (ck (roomy (((x5.text.take x4.fro.toNat).length + x4.text.length) + ((x5.text.drop x4.to_.toNat).length))) (again2 ((IntKind.i64.wrap (v2 - 1)), (v3.set x4.file.toNat { x5 with text := (((x5.text.take x4.fro.toNat) ++ x4.text) ++ (x5.text.drop x4.to_.toNat)) })))))))))) (loopF (fun again3 v => changeO_b3 v3 again3 v) fuel 0))

def changeO_b1 (r4 : (List Edt)) (a1 : List Src) (fuel : Nat) (r2 : (List Src)) (again1 : Int → Option ((List Src) × Int)) (v1 : Int) : Option ((List Src) × Int) :=
  (cond (decide (v1 < (r4.length : Int))) (ob (rd r4 v1) fun x1 => (cond ((decide (x1.file < 0)) || (decide (x1.file ≥ (a1.length : Int)))) (some ([], 6)) (ob (cond (decide (x1.fro < 0)) (some true) (cond (decide (x1.fro > x1.to_)) (some true) (ob (rd a1 x1.file) fun x2 => (some (decide (x1.to_ > (x2.text.length : Int))))))) fun y1 => (cond y1 (some ([], 3)) (ob (cond (decide (v1 > 0)) (ob (rd r4 (IntKind.i64.wrap (v1 - 1))) fun x3 => (cond (x3.file == x1.file) (cond (decide (x3.to_ > x1.fro)) (some true) (some (x3.fro == x1.fro))) (some false))) (some false)) fun y2 => (cond y2 (some ([], 8)) (again1 (IntKind.i64.wrap (v1 + 1))))))))) (loopF (fun again2 v => changeO_b2 r4 fuel again2 v.1 v.2) fuel ((IntKind.i64.wrap ((r4.length : Int) - 1)), r2)))

def changeO (fuel : Nat) (a1 : List Src) (a2 : List Edt) : Option ((List Src) × Int) :=
  (ob (wrong fuel a1) fun r1 => (cond (r1.err != 0) (some ([], r1.err)) (ob (cloneF a1) fun r2 => (ob (cloneEO a2) fun r3 => (ob (sortStable fuel r3) fun r4 => (loopF (fun again1 v => changeO_b1 r4 a1 fuel r2 again1 v) fuel 0))))))

theorem ok_changeO {fuel : Nat} {a1 : List Src} {a2 : List Edt} {r : (List Src) × Int} (h : changeO fuel a1 a2 = some r) : FnOk Tryd.prog 7 [.ls (List.map Src.av a1) false, .os 0 0 a2.length] [(0, .arr 4 (List.map Edt.av a2))] 1 (fun q s k => q = .ret (.tup [.os 1 0 r.1.length, .int .i64 r.2]) ∧ s = [(0, .arr 4 (List.map Edt.av a2)), (1, .arr 2 (List.map Src.av r.1))] ∧ k = 2) := by
  refine Fn_by Tryd.func7 Tryd.ntmps7 Tryd.cc7 (Nat.le_of_ble_eq_true rfl) (rs := [.tmp 4, .tmp 5]) (by kernel_rfl) (fun R0 hR0 => ?_)
  unfold changeO at h
  unfold Tryd.ac7
  refine (show XA _ _ _ _ ⟨[(0, .ls (List.map Src.av a1) false), (1, .os 0 0 a2.length)], [(0, .arr 4 (List.map Edt.av a2))], 1⟩ from ?_)
  refine XA_seq_st fun R1 hR1 => ?_
  refine XA_reg_g ?_
  refine RG_end ⟨[(0, .ls (List.map Src.av a1) false), (1, .os 0 0 a2.length)], [(0, .arr 4 (List.map Edt.av a2))], 1⟩ (fun K hK => ?_) (fun s hs => ?_)
  · simp only [go_sem, Nat.reduceBEq, Nat.reduceLT, Nat.reduceLeDiff, Nat.reduceEqDiff, Nat.reduceAdd, Nat.reduceSub, Nat.reduceMul, Int.reduceBEq, Int.reduceBNe, Int.reduceLT, Int.reduceLE, Int.reduceEq, Int.reduceGT, Int.reduceAdd, Int.reduceSub, Int.reduceNeg, Int.reduceToNat, reduceCtorEq, reduceIte]
    exact hK _ (St.ent_by [0] rfl (Nat.le_of_ble_eq_true rfl) rfl (by decide) (by simp only [push_cast, Nat.reduceEqDiff, Nat.reduceAdd, reduceCtorEq, reduceIte]) (by simp only [push_cast, Nat.reduceEqDiff, Nat.reduceAdd, reduceCtorEq, reduceIte]))
  refine dN_seq hR1 (XA_ent hs ?_)
  refine XA_seq_st fun R2 hR2 => ?_
  refine XA_seq_st fun R3 hR3 => ?_
  refine XA_reg_g ?_
  obtain ⟨r1, hr1, h⟩ := ob_some h
  refine RG_end ⟨[(0, .ls (List.map Src.av a1) false), (1, .os 0 0 a2.length), (6, .ptr 1 0)], [(0, .arr 4 (List.map Edt.av a2)), (1, .var [.int .i64 r1.err, .int .i64 r1.file, .int .i64 r1.at_])], 2⟩ (fun K hK => ?_) (fun s hs => ?_)
  · refine runs_cut 1 fun K1 hK1 => ?_
    simp only [go_sem, Nat.reduceBEq, Nat.reduceLT, Nat.reduceLeDiff, Nat.reduceEqDiff, Nat.reduceAdd, Nat.reduceSub, Nat.reduceMul, Int.reduceBEq, Int.reduceBNe, Int.reduceLT, Int.reduceLE, Int.reduceEq, Int.reduceGT, Int.reduceAdd, Int.reduceSub, Int.reduceNeg, Int.reduceToNat, reduceCtorEq, reduceIte]
    refine hK1 _ ?_
    simp only [List.take_succ_cons, List.take_zero, List.drop_succ_cons, List.drop_zero]
    refine runs_call rfl rfl (CallP.wk (CallP_of [] _ _ (.of Tryd.func9 (by kernel_rfl)) (ok_wrong hr1) (by simp only [go_sem, Nat.reduceBEq, Nat.reduceLT, Nat.reduceLeDiff, Nat.reduceEqDiff, Nat.reduceAdd, Nat.reduceSub, Nat.reduceMul, Int.reduceBEq, Int.reduceBNe, Int.reduceLT, Int.reduceLE, Int.reduceEq, Int.reduceGT, Int.reduceAdd, Int.reduceSub, Int.reduceNeg, Int.reduceToNat, reduceCtorEq, reduceIte]) (by simp only [push_cast, Nat.reduceEqDiff, Nat.reduceAdd, reduceCtorEq, reduceIte, entStore]) rfl (by decide) ?_ (by rintro _ _ _ ⟨hv, _⟩; cases hv)))
    rintro _ _ _ ⟨hv, rfl, rfl⟩
    cases hv
    simp only [go_sem, Nat.reduceBEq, Nat.reduceLT, Nat.reduceLeDiff, Nat.reduceEqDiff, Nat.reduceAdd, Nat.reduceSub, Nat.reduceMul, Int.reduceBEq, Int.reduceBNe, Int.reduceLT, Int.reduceLE, Int.reduceEq, Int.reduceGT, Int.reduceAdd, Int.reduceSub, Int.reduceNeg, Int.reduceToNat, reduceCtorEq, reduceIte]
    exact hK _ (St.ent_by [0, 1] rfl (Nat.le_of_ble_eq_true rfl) rfl (by decide) (by simp only [push_cast, Nat.reduceEqDiff, Nat.reduceAdd, reduceCtorEq, reduceIte]) (by simp only [push_cast, Nat.reduceEqDiff, Nat.reduceAdd, reduceCtorEq, reduceIte]))
  refine dN_seq hR3 (XA_ent hs ?_)
  refine XA_seq_st fun R4 hR4 => ?_
  refine XA_reg_g ?_
  refine RG_end ⟨[(0, .ls (List.map Src.av a1) false), (1, .os 0 0 a2.length), (6, .ptr 1 0), (20, .bool (r1.err != 0))], [(0, .arr 4 (List.map Edt.av a2)), (1, .var [.int .i64 r1.err, .int .i64 r1.file, .int .i64 r1.at_])], 2⟩ (fun K hK => ?_) (fun s hs => ?_)
  · simp only [go_sem, Nat.reduceBEq, Nat.reduceLT, Nat.reduceLeDiff, Nat.reduceEqDiff, Nat.reduceAdd, Nat.reduceSub, Nat.reduceMul, Int.reduceBEq, Int.reduceBNe, Int.reduceLT, Int.reduceLE, Int.reduceEq, Int.reduceGT, Int.reduceAdd, Int.reduceSub, Int.reduceNeg, Int.reduceToNat, reduceCtorEq, reduceIte]
    exact hK _ (St.ent_by [0, 1] rfl (Nat.le_of_ble_eq_true rfl) rfl (by decide) (by simp only [push_cast, Nat.reduceEqDiff, Nat.reduceAdd, reduceCtorEq, reduceIte]) (by simp only [push_cast, Nat.reduceEqDiff, Nat.reduceAdd, reduceCtorEq, reduceIte]))
  refine dN_seq hR4 (XA_ent hs ?_)
  refine XA_cond (t := (r1.err != 0)) rfl (fun g1 => ?_) (fun g1 => ?_)
  · rw [g1, cond_true] at h
    refine XA_seq_st fun R5 hR5 => ?_
    refine XA_regd_to mix ⟨[(4, .ls [] true), (5, .int .i64 r1.err)], [(0, .arr 4 (List.map Edt.av a2))], 1⟩ (fun K hK => ?_) (fun s hs => ?_)
    · simp only [go_sem, Nat.reduceBEq, Nat.reduceLT, Nat.reduceLeDiff, Nat.reduceEqDiff, Nat.reduceAdd, Nat.reduceSub, Nat.reduceMul, Int.reduceBEq, Int.reduceBNe, Int.reduceLT, Int.reduceLE, Int.reduceEq, Int.reduceGT, Int.reduceAdd, Int.reduceSub, Int.reduceNeg, Int.reduceToNat, reduceCtorEq, reduceIte]
      exact hK _ (St.ent_by [0] rfl (Nat.le_of_ble_eq_true rfl) rfl (by decide) (by simp only [push_cast, Nat.reduceEqDiff, Nat.reduceAdd, reduceCtorEq, reduceIte]) (by simp only [push_cast, Nat.reduceEqDiff, Nat.reduceAdd, reduceCtorEq, reduceIte]))
    refine dN_seq hR5 (XA_ent hs ?_)
    refine XA_ent (St.ent_virt (t := 4) (sz := 2) rfl (Nat.le_of_ble_eq_true rfl)) ?_
    refine XA_ret ?_
    refine dR_seq hR2 ?_
    refine hR0 _ _ ⟨_, St.ent_self, EndPost_ret (v := .tup [.os 1 0 0, .int .i64 r1.err]) (by simp only [go_sem, Nat.reduceBEq, Nat.reduceLT, Nat.reduceLeDiff, Nat.reduceEqDiff, Nat.reduceAdd, Nat.reduceSub, Nat.reduceMul, Int.reduceBEq, Int.reduceBNe, Int.reduceLT, Int.reduceLE, Int.reduceEq, Int.reduceGT, Int.reduceAdd, Int.reduceSub, Int.reduceNeg, Int.reduceToNat, reduceCtorEq, reduceIte]) ?_⟩
    have h := Option.some.inj h; subst h
    exact (St.ent_by [0, 1] rfl (Nat.le_of_ble_eq_true rfl) rfl (by decide) (by simp only [push_cast, Nat.reduceEqDiff, Nat.reduceAdd, reduceCtorEq, reduceIte]) (by simp only [push_cast, Nat.reduceEqDiff, Nat.reduceAdd, reduceCtorEq, reduceIte]))
  · rw [g1, cond_false] at h
    refine XA_skip ?_
    refine dN_seq hR2 ?_
    refine XA_seq_st fun R6 hR6 => ?_
    refine XA_reg_g ?_
    obtain ⟨r2, hr2, h⟩ := ob_some h
    refine RG_end ⟨[(0, .ls (List.map Src.av a1) false), (1, .os 0 0 a2.length), (7, .os 1 0 r2.length)], [(0, .arr 4 (List.map Edt.av a2)), (1, .arr 2 (List.map Src.av r2))], 2⟩ (fun K hK => ?_) (fun s hs => ?_)
    · refine runs_cut 1 fun K2 hK2 => ?_
      simp only [go_sem, Nat.reduceBEq, Nat.reduceLT, Nat.reduceLeDiff, Nat.reduceEqDiff, Nat.reduceAdd, Nat.reduceSub, Nat.reduceMul, Int.reduceBEq, Int.reduceBNe, Int.reduceLT, Int.reduceLE, Int.reduceEq, Int.reduceGT, Int.reduceAdd, Int.reduceSub, Int.reduceNeg, Int.reduceToNat, reduceCtorEq, reduceIte]
      refine hK2 _ ?_
      simp only [List.take_succ_cons, List.take_zero, List.drop_succ_cons, List.drop_zero]
      refine runs_call rfl rfl (CallP.wk (CallP_of [] _ _ (.of Tryd.func14 (by kernel_rfl)) (ok_cloneF hr2) (by simp only [go_sem, Nat.reduceBEq, Nat.reduceLT, Nat.reduceLeDiff, Nat.reduceEqDiff, Nat.reduceAdd, Nat.reduceSub, Nat.reduceMul, Int.reduceBEq, Int.reduceBNe, Int.reduceLT, Int.reduceLE, Int.reduceEq, Int.reduceGT, Int.reduceAdd, Int.reduceSub, Int.reduceNeg, Int.reduceToNat, reduceCtorEq, reduceIte]) (by simp only [push_cast, Nat.reduceEqDiff, Nat.reduceAdd, reduceCtorEq, reduceIte, entStore]) rfl (by decide) ?_ (by rintro _ _ _ ⟨hv, _⟩; cases hv)))
      rintro _ _ _ ⟨hv, rfl, rfl⟩
      cases hv
      simp only [go_sem, Nat.reduceBEq, Nat.reduceLT, Nat.reduceLeDiff, Nat.reduceEqDiff, Nat.reduceAdd, Nat.reduceSub, Nat.reduceMul, Int.reduceBEq, Int.reduceBNe, Int.reduceLT, Int.reduceLE, Int.reduceEq, Int.reduceGT, Int.reduceAdd, Int.reduceSub, Int.reduceNeg, Int.reduceToNat, reduceCtorEq, reduceIte]
      exact hK _ (St.ent_by [0, 2] rfl (Nat.le_of_ble_eq_true rfl) rfl (by decide) (by simp only [push_cast, Nat.reduceEqDiff, Nat.reduceAdd, reduceCtorEq, reduceIte]) (by simp only [push_cast, Nat.reduceEqDiff, Nat.reduceAdd, reduceCtorEq, reduceIte]))
    refine dN_seq hR6 (XA_ent hs ?_)
    refine XA_seq_st fun R7 hR7 => ?_
    refine XA_reg_g ?_
    obtain ⟨r3, hr3, h⟩ := ob_some h
    refine RG_end ⟨[(0, .ls (List.map Src.av a1) false), (7, .os 1 0 r2.length), (8, .os 2 0 r3.length)], [(0, .arr 4 (List.map Edt.av a2)), (1, .arr 2 (List.map Src.av r2)), (2, .arr 4 (List.map Edt.av r3))], 3⟩ (fun K hK => ?_) (fun s hs => ?_)
    · refine runs_cut 1 fun K3 hK3 => ?_
      simp only [go_sem, Nat.reduceBEq, Nat.reduceLT, Nat.reduceLeDiff, Nat.reduceEqDiff, Nat.reduceAdd, Nat.reduceSub, Nat.reduceMul, Int.reduceBEq, Int.reduceBNe, Int.reduceLT, Int.reduceLE, Int.reduceEq, Int.reduceGT, Int.reduceAdd, Int.reduceSub, Int.reduceNeg, Int.reduceToNat, reduceCtorEq, reduceIte]
      refine hK3 _ ?_
      simp only [List.take_succ_cons, List.take_zero, List.drop_succ_cons, List.drop_zero]
      refine runs_call rfl rfl (CallP.wk (CallP_of [0] _ _ (.of Tryd.func15 (by kernel_rfl)) (ok_cloneEO hr3) (by simp only [go_sem, Nat.reduceBEq, Nat.reduceLT, Nat.reduceLeDiff, Nat.reduceEqDiff, Nat.reduceAdd, Nat.reduceSub, Nat.reduceMul, Int.reduceBEq, Int.reduceBNe, Int.reduceLT, Int.reduceLE, Int.reduceEq, Int.reduceGT, Int.reduceAdd, Int.reduceSub, Int.reduceNeg, Int.reduceToNat, reduceCtorEq, reduceIte]) (by simp only [push_cast, Nat.reduceEqDiff, Nat.reduceAdd, reduceCtorEq, reduceIte, entStore]) rfl (by decide) ?_ (by rintro _ _ _ ⟨hv, _⟩; cases hv)))
      rintro _ _ _ ⟨hv, rfl, rfl⟩
      cases hv
      simp only [go_sem, Nat.reduceBEq, Nat.reduceLT, Nat.reduceLeDiff, Nat.reduceEqDiff, Nat.reduceAdd, Nat.reduceSub, Nat.reduceMul, Int.reduceBEq, Int.reduceBNe, Int.reduceLT, Int.reduceLE, Int.reduceEq, Int.reduceGT, Int.reduceAdd, Int.reduceSub, Int.reduceNeg, Int.reduceToNat, reduceCtorEq, reduceIte]
      exact hK _ (St.ent_by [0, 1, 2] rfl (Nat.le_of_ble_eq_true rfl) rfl (by decide) (by simp only [push_cast, Nat.reduceEqDiff, Nat.reduceAdd, reduceCtorEq, reduceIte]) (by simp only [push_cast, Nat.reduceEqDiff, Nat.reduceAdd, reduceCtorEq, reduceIte]))
    refine dN_seq hR7 (XA_ent hs ?_)
    refine XA_seq_st fun R8 hR8 => ?_
    refine XA_reg_g ?_
    obtain ⟨r4, hr4, h⟩ := ob_some h
    have lr4 := sortStable_len hr4
    refine RG_end ⟨[(0, .ls (List.map Src.av a1) false), (7, .os 1 0 r2.length), (8, .os 2 0 r4.length)], [(0, .arr 4 (List.map Edt.av a2)), (1, .arr 2 (List.map Src.av r2)), (2, .arr 4 (List.map Edt.av r4))], 3⟩ (fun K hK => ?_) (fun s hs => ?_)
    · refine runs_cut 1 fun K4 hK4 => ?_
      simp only [go_sem, Nat.reduceBEq, Nat.reduceLT, Nat.reduceLeDiff, Nat.reduceEqDiff, Nat.reduceAdd, Nat.reduceSub, Nat.reduceMul, Int.reduceBEq, Int.reduceBNe, Int.reduceLT, Int.reduceLE, Int.reduceEq, Int.reduceGT, Int.reduceAdd, Int.reduceSub, Int.reduceNeg, Int.reduceToNat, reduceCtorEq, reduceIte]
      refine hK4 _ ?_
      simp only [List.take_succ_cons, List.take_zero, List.drop_succ_cons, List.drop_zero]
      refine runs_call rfl rfl (CallP.wk (CallP_of [2] _ _ (.of Tryd.func16 (by kernel_rfl)) (ok_sortStable hr4) (by simp only [go_sem, Nat.reduceBEq, Nat.reduceLT, Nat.reduceLeDiff, Nat.reduceEqDiff, Nat.reduceAdd, Nat.reduceSub, Nat.reduceMul, Int.reduceBEq, Int.reduceBNe, Int.reduceLT, Int.reduceLE, Int.reduceEq, Int.reduceGT, Int.reduceAdd, Int.reduceSub, Int.reduceNeg, Int.reduceToNat, reduceCtorEq, reduceIte]) (by simp only [push_cast, Nat.reduceEqDiff, Nat.reduceAdd, reduceCtorEq, reduceIte, entStore]) rfl (by decide) ?_ (by rintro _ _ _ ⟨hv, _⟩; cases hv)))
      rintro _ _ _ ⟨hv, rfl, rfl⟩
      cases hv
      simp only [go_sem, Nat.reduceBEq, Nat.reduceLT, Nat.reduceLeDiff, Nat.reduceEqDiff, Nat.reduceAdd, Nat.reduceSub, Nat.reduceMul, Int.reduceBEq, Int.reduceBNe, Int.reduceLT, Int.reduceLE, Int.reduceEq, Int.reduceGT, Int.reduceAdd, Int.reduceSub, Int.reduceNeg, Int.reduceToNat, reduceCtorEq, reduceIte, lr4]
      exact hK _ (St.ent_by [0, 1, 2] rfl (Nat.le_of_ble_eq_true rfl) rfl (by decide) (by simp only [push_cast, Nat.reduceEqDiff, Nat.reduceAdd, reduceCtorEq, reduceIte, lr4]) (by simp only [push_cast, Nat.reduceEqDiff, Nat.reduceAdd, reduceCtorEq, reduceIte, lr4]))
    refine dN_seq hR8 (XA_ent hs ?_)
    refine XA_seq_st fun R9 hR9 => ?_
    refine XA_seq_st fun R10 hR10 => ?_
    refine XA_reg_g ?_
    refine RG_end ⟨[(0, .ls (List.map Src.av a1) false), (7, .os 1 0 r2.length), (8, .os 2 0 r4.length), (29, .os 2 0 r4.length), (30, .int .i64 (r4.length : Int)), (31, .int .i64 0)], [(0, .arr 4 (List.map Edt.av a2)), (1, .arr 2 (List.map Src.av r2)), (2, .arr 4 (List.map Edt.av r4))], 3⟩ (fun K hK => ?_) (fun s hs => ?_)
    · simp only [go_sem, Nat.reduceBEq, Nat.reduceLT, Nat.reduceLeDiff, Nat.reduceEqDiff, Nat.reduceAdd, Nat.reduceSub, Nat.reduceMul, Int.reduceBEq, Int.reduceBNe, Int.reduceLT, Int.reduceLE, Int.reduceEq, Int.reduceGT, Int.reduceAdd, Int.reduceSub, Int.reduceNeg, Int.reduceToNat, reduceCtorEq, reduceIte, lr4]
      exact hK _ (St.ent_by [0, 1, 2] rfl (Nat.le_of_ble_eq_true rfl) rfl (by decide) (by simp only [push_cast, Nat.reduceEqDiff, Nat.reduceAdd, reduceCtorEq, reduceIte, lr4]) (by simp only [push_cast, Nat.reduceEqDiff, Nat.reduceAdd, reduceCtorEq, reduceIte, lr4]))
    refine dN_seq hR10 (XA_ent hs ?_)
    refine XA_block_st fun R11 hR11 => ?_
    refine XA_loop_by (T := fun v : Int => ⟨[(0, .ls (List.map Src.av a1) false), (7, .os 1 0 r2.length), (8, .os 2 0 r4.length), (29, .os 2 0 r4.length), (30, .int .i64 (r4.length : Int)), (31, .int .i64 v)], [(0, .arr 4 (List.map Edt.av a2)), (1, .arr 2 (List.map Src.av r2)), (2, .arr 4 (List.map Edt.av r4))], 3⟩) (fuel := fuel) h (St.ent_by [0, 1, 2] rfl (Nat.le_of_ble_eq_true rfl) rfl (by decide) (by simp only [push_cast, Nat.reduceEqDiff, Nat.reduceAdd, reduceCtorEq, reduceIte, lr4]) (by simp only [push_cast, Nat.reduceEqDiff, Nat.reduceAdd, reduceCtorEq, reduceIte, lr4])) (fun again1 v h R12 hR12 => ?_)
    revert h; generalize v = v1; intro h
    replace h : changeO_b1 r4 a1 fuel r2 again1 v1 = some r := h
    unfold changeO_b1 at h
    refine (show XA _ _ _ _ ⟨[(0, .ls (List.map Src.av a1) false), (7, .os 1 0 r2.length), (8, .os 2 0 r4.length), (29, .os 2 0 r4.length), (30, .int .i64 (r4.length : Int)), (31, .int .i64 v1)], [(0, .arr 4 (List.map Edt.av a2)), (1, .arr 2 (List.map Src.av r2)), (2, .arr 4 (List.map Edt.av r4))], 3⟩ from ?_)
    refine XA_seq_st fun R13 hR13 => ?_
    refine XA_reg_g ?_
    refine RG_end ⟨[(0, .ls (List.map Src.av a1) false), (7, .os 1 0 r2.length), (8, .os 2 0 r4.length), (29, .os 2 0 r4.length), (30, .int .i64 (r4.length : Int)), (31, .int .i64 v1), (32, .bool (decide (v1 < (r4.length : Int))))], [(0, .arr 4 (List.map Edt.av a2)), (1, .arr 2 (List.map Src.av r2)), (2, .arr 4 (List.map Edt.av r4))], 3⟩ (fun K hK => ?_) (fun s hs => ?_)
    · simp only [go_sem, Nat.reduceBEq, Nat.reduceLT, Nat.reduceLeDiff, Nat.reduceEqDiff, Nat.reduceAdd, Nat.reduceSub, Nat.reduceMul, Int.reduceBEq, Int.reduceBNe, Int.reduceLT, Int.reduceLE, Int.reduceEq, Int.reduceGT, Int.reduceAdd, Int.reduceSub, Int.reduceNeg, Int.reduceToNat, reduceCtorEq, reduceIte, lr4]
      exact hK _ (St.ent_by [0, 1, 2] rfl (Nat.le_of_ble_eq_true rfl) rfl (by decide) (by simp only [push_cast, Nat.reduceEqDiff, Nat.reduceAdd, reduceCtorEq, reduceIte, lr4]) (by simp only [push_cast, Nat.reduceEqDiff, Nat.reduceAdd, reduceCtorEq, reduceIte, lr4]))
    refine dN_seq hR13 (XA_ent hs ?_)
    refine XA_seq_st fun R14 hR14 => ?_
    refine XA_cond (t := (decide (v1 < (r4.length : Int)))) rfl (fun g2 => ?_) (fun g2 => ?_)
    · rw [g2, cond_true] at h
      refine XA_skip ?_
      refine dN_seq hR14 ?_
      refine XA_seq_st fun R15 hR15 => ?_
      refine XA_block_st fun R16 hR16 => ?_
      refine XA_seq_st fun R17 hR17 => ?_
      refine XA_reg_g ?_
      obtain ⟨x1, hx1, h⟩ := ob_some h
      have ix1 := rd_in hx1
      try simp only [lr4] at ix1
      have gx1 := rd_get hx1
      try simp only [Int.reduceToNat, Int.toNat_natCast] at gx1
      refine RG_end ⟨[(0, .ls (List.map Src.av a1) false), (7, .os 1 0 r2.length), (8, .os 2 0 r4.length), (9, .int .i64 v1), (10, .ptr 3 0), (29, .os 2 0 r4.length), (30, .int .i64 (r4.length : Int)), (31, .int .i64 v1)], [(0, .arr 4 (List.map Edt.av a2)), (1, .arr 2 (List.map Src.av r2)), (2, .arr 4 (List.map Edt.av r4)), (3, .var [.int .i64 x1.file, .int .i64 x1.fro, .int .i64 x1.to_, .str x1.text])], 4⟩ (fun K hK => ?_) (fun s hs => ?_)
      · simp only [go_sem, Nat.reduceBEq, Nat.reduceLT, Nat.reduceLeDiff, Nat.reduceEqDiff, Nat.reduceAdd, Nat.reduceSub, Nat.reduceMul, Int.reduceBEq, Int.reduceBNe, Int.reduceLT, Int.reduceLE, Int.reduceEq, Int.reduceGT, Int.reduceAdd, Int.reduceSub, Int.reduceNeg, Int.reduceToNat, reduceCtorEq, reduceIte, lr4, ix1, gx1]
        exact hK _ (St.ent_by [0, 1, 2, 3] rfl (Nat.le_of_ble_eq_true rfl) rfl (by decide) (by simp only [push_cast, Nat.reduceEqDiff, Nat.reduceAdd, reduceCtorEq, reduceIte, lr4]) (by simp only [push_cast, Nat.reduceEqDiff, Nat.reduceAdd, reduceCtorEq, reduceIte, lr4]))
      refine dN_seq hR17 (XA_ent hs ?_)
      refine XA_seq_st fun R18 hR18 => ?_
      refine XA_seq_st fun R19 hR19 => ?_
      refine XA_reg_g ?_
      refine RG_end ⟨[(0, .ls (List.map Src.av a1) false), (7, .os 1 0 r2.length), (8, .os 2 0 r4.length), (9, .int .i64 v1), (10, .ptr 3 0), (29, .os 2 0 r4.length), (30, .int .i64 (r4.length : Int)), (31, .int .i64 v1), (45, .bool ((decide (x1.file < 0)) || (decide (x1.file ≥ (a1.length : Int)))))], [(0, .arr 4 (List.map Edt.av a2)), (1, .arr 2 (List.map Src.av r2)), (2, .arr 4 (List.map Edt.av r4)), (3, .var [.int .i64 x1.file, .int .i64 x1.fro, .int .i64 x1.to_, .str x1.text])], 4⟩ (fun K hK => ?_) (fun s hs => ?_)
      · refine runs_cut 4 fun K5 hK5 => ?_
        simp only [go_sem, Nat.reduceBEq, Nat.reduceLT, Nat.reduceLeDiff, Nat.reduceEqDiff, Nat.reduceAdd, Nat.reduceSub, Nat.reduceMul, Int.reduceBEq, Int.reduceBNe, Int.reduceLT, Int.reduceLE, Int.reduceEq, Int.reduceGT, Int.reduceAdd, Int.reduceSub, Int.reduceNeg, Int.reduceToNat, reduceCtorEq, reduceIte, lr4]
        refine hK5 _ ?_
        simp only [List.take_succ_cons, List.take_zero, List.drop_succ_cons, List.drop_zero]
        rcases bool_or (decide (x1.file < 0)) with g3 | g3
        · simp only [go_sem, Nat.reduceBEq, Nat.reduceLT, Nat.reduceLeDiff, Nat.reduceEqDiff, Nat.reduceAdd, Nat.reduceSub, Nat.reduceMul, Int.reduceBEq, Int.reduceBNe, Int.reduceLT, Int.reduceLE, Int.reduceEq, Int.reduceGT, Int.reduceAdd, Int.reduceSub, Int.reduceNeg, Int.reduceToNat, reduceCtorEq, reduceIte, lr4, g3]
          exact hK _ (St.ent_by [0, 1, 2, 3] rfl (Nat.le_of_ble_eq_true rfl) rfl (by decide) (by simp only [push_cast, Nat.reduceEqDiff, Nat.reduceAdd, reduceCtorEq, reduceIte, g3, lr4]) (by simp only [push_cast, Nat.reduceEqDiff, Nat.reduceAdd, reduceCtorEq, reduceIte, g3, lr4]))
        · simp only [go_sem, Nat.reduceBEq, Nat.reduceLT, Nat.reduceLeDiff, Nat.reduceEqDiff, Nat.reduceAdd, Nat.reduceSub, Nat.reduceMul, Int.reduceBEq, Int.reduceBNe, Int.reduceLT, Int.reduceLE, Int.reduceEq, Int.reduceGT, Int.reduceAdd, Int.reduceSub, Int.reduceNeg, Int.reduceToNat, reduceCtorEq, reduceIte, lr4, g3]
          exact hK _ (St.ent_by [0, 1, 2, 3] rfl (Nat.le_of_ble_eq_true rfl) rfl (by decide) (by simp only [push_cast, Nat.reduceEqDiff, Nat.reduceAdd, reduceCtorEq, reduceIte, g3, lr4]) (by simp only [push_cast, Nat.reduceEqDiff, Nat.reduceAdd, reduceCtorEq, reduceIte, g3, lr4]))
      refine dN_seq hR19 (XA_ent hs ?_)
      refine XA_cond (t := ((decide (x1.file < 0)) || (decide (x1.file ≥ (a1.length : Int))))) rfl (fun g4 => ?_) (fun g4 => ?_)
      · rw [g4, cond_true] at h
        refine XA_seq_st fun R20 hR20 => ?_
        refine XA_reg_g ?_
        refine RG_end ⟨[(4, .ls [] true), (5, .int .i64 6)], [(0, .arr 4 (List.map Edt.av a2))], 1⟩ (fun K hK => ?_) (fun s hs => ?_)
        · simp only [go_sem, Nat.reduceBEq, Nat.reduceLT, Nat.reduceLeDiff, Nat.reduceEqDiff, Nat.reduceAdd, Nat.reduceSub, Nat.reduceMul, Int.reduceBEq, Int.reduceBNe, Int.reduceLT, Int.reduceLE, Int.reduceEq, Int.reduceGT, Int.reduceAdd, Int.reduceSub, Int.reduceNeg, Int.reduceToNat, reduceCtorEq, reduceIte, lr4]
          exact hK _ (St.ent_by [0] rfl (Nat.le_of_ble_eq_true rfl) rfl (by decide) (by simp only [push_cast, Nat.reduceEqDiff, Nat.reduceAdd, reduceCtorEq, reduceIte, lr4]) (by simp only [push_cast, Nat.reduceEqDiff, Nat.reduceAdd, reduceCtorEq, reduceIte, lr4]))
        refine dN_seq hR20 (XA_ent hs ?_)
        refine XA_ent (St.ent_virt (t := 4) (sz := 2) rfl (Nat.le_of_ble_eq_true rfl)) ?_
        refine XA_ret ?_
        refine dR_seq hR18 ?_
        refine dR_block hR16 ?_
        refine dR_seq hR15 ?_
        refine dR_seq hR12 ?_
        refine dR_block hR11 ?_
        refine dR_seq hR9 ?_
        refine hR0 _ _ ⟨_, St.ent_self, EndPost_ret (v := .tup [.os 1 0 0, .int .i64 6]) (by simp only [go_sem, Nat.reduceBEq, Nat.reduceLT, Nat.reduceLeDiff, Nat.reduceEqDiff, Nat.reduceAdd, Nat.reduceSub, Nat.reduceMul, Int.reduceBEq, Int.reduceBNe, Int.reduceLT, Int.reduceLE, Int.reduceEq, Int.reduceGT, Int.reduceAdd, Int.reduceSub, Int.reduceNeg, Int.reduceToNat, reduceCtorEq, reduceIte]) ?_⟩
        have h := Option.some.inj h; subst h
        exact (St.ent_by [0, 1] rfl (Nat.le_of_ble_eq_true rfl) rfl (by decide) (by simp only [push_cast, Nat.reduceEqDiff, Nat.reduceAdd, reduceCtorEq, reduceIte, lr4]) (by simp only [push_cast, Nat.reduceEqDiff, Nat.reduceAdd, reduceCtorEq, reduceIte, lr4]))
      · rw [g4, cond_false] at h
        refine XA_skip ?_
        refine dN_seq hR18 ?_
        refine XA_seq_st fun R21 hR21 => ?_
        refine XA_seq_st fun R22 hR22 => ?_
        obtain ⟨y1, hy1, h⟩ := ob_some h
        refine XA_regd_to mix ⟨[(0, .ls (List.map Src.av a1) false), (7, .os 1 0 r2.length), (8, .os 2 0 r4.length), (9, .int .i64 v1), (10, .ptr 3 0), (29, .os 2 0 r4.length), (30, .int .i64 (r4.length : Int)), (31, .int .i64 v1), (67, .bool y1)], [(0, .arr 4 (List.map Edt.av a2)), (1, .arr 2 (List.map Src.av r2)), (2, .arr 4 (List.map Edt.av r4)), (3, .var [.int .i64 x1.file, .int .i64 x1.fro, .int .i64 x1.to_, .str x1.text])], 4⟩ (fun K hK => ?_) (fun s hs => ?_)
        · refine runsD_cut 4 fun K6 hK6 => ?_
          simp only [go_sem, Nat.reduceBEq, Nat.reduceLT, Nat.reduceLeDiff, Nat.reduceEqDiff, Nat.reduceAdd, Nat.reduceSub, Nat.reduceMul, Int.reduceBEq, Int.reduceBNe, Int.reduceLT, Int.reduceLE, Int.reduceEq, Int.reduceGT, Int.reduceAdd, Int.reduceSub, Int.reduceNeg, Int.reduceToNat, reduceCtorEq, reduceIte, lr4]
          refine hK6 _ ?_
          simp only [List.take_succ_cons, List.take_zero, List.drop_succ_cons, List.drop_zero]
          rcases bool_or (decide (x1.fro < 0)) with g5 | g5
          · rw [g5, cond_true] at hy1
            have hy := Option.some.inj hy1
            subst hy
            simp only [go_sem, Nat.reduceBEq, Nat.reduceLT, Nat.reduceLeDiff, Nat.reduceEqDiff, Nat.reduceAdd, Nat.reduceSub, Nat.reduceMul, Int.reduceBEq, Int.reduceBNe, Int.reduceLT, Int.reduceLE, Int.reduceEq, Int.reduceGT, Int.reduceAdd, Int.reduceSub, Int.reduceNeg, Int.reduceToNat, reduceCtorEq, reduceIte, lr4, g5]
            exact hK _ (St.ent_by [0, 1, 2, 3] rfl (Nat.le_of_ble_eq_true rfl) rfl (by decide) (by simp only [push_cast, Nat.reduceEqDiff, Nat.reduceAdd, reduceCtorEq, reduceIte, g5, lr4]) (by simp only [push_cast, Nat.reduceEqDiff, Nat.reduceAdd, reduceCtorEq, reduceIte, g5, lr4]))
          · rw [g5, cond_false] at hy1
            refine runsD_cut 7 fun K7 hK7 => ?_
            simp only [go_sem, Nat.reduceBEq, Nat.reduceLT, Nat.reduceLeDiff, Nat.reduceEqDiff, Nat.reduceAdd, Nat.reduceSub, Nat.reduceMul, Int.reduceBEq, Int.reduceBNe, Int.reduceLT, Int.reduceLE, Int.reduceEq, Int.reduceGT, Int.reduceAdd, Int.reduceSub, Int.reduceNeg, Int.reduceToNat, reduceCtorEq, reduceIte, lr4, g5]
            refine hK7 _ ?_
            simp only [List.take_succ_cons, List.take_zero, List.drop_succ_cons, List.drop_zero]
            rcases bool_or (decide (x1.fro > x1.to_)) with g6 | g6
            · rw [g6, cond_true] at hy1
              have hy := Option.some.inj hy1
              subst hy
              simp only [go_sem, Nat.reduceBEq, Nat.reduceLT, Nat.reduceLeDiff, Nat.reduceEqDiff, Nat.reduceAdd, Nat.reduceSub, Nat.reduceMul, Int.reduceBEq, Int.reduceBNe, Int.reduceLT, Int.reduceLE, Int.reduceEq, Int.reduceGT, Int.reduceAdd, Int.reduceSub, Int.reduceNeg, Int.reduceToNat, reduceCtorEq, reduceIte, lr4, g5, g6]
              exact hK _ (St.ent_by [0, 1, 2, 3] rfl (Nat.le_of_ble_eq_true rfl) rfl (by decide) (by simp only [push_cast, Nat.reduceEqDiff, Nat.reduceAdd, reduceCtorEq, reduceIte, g5, g6, lr4]) (by simp only [push_cast, Nat.reduceEqDiff, Nat.reduceAdd, reduceCtorEq, reduceIte, g5, g6, lr4]))
            · rw [g6, cond_false] at hy1
              obtain ⟨x2, hx2, hy1⟩ := ob_some hy1
              have ix2 := rd_in hx2
              try simp only [lr4] at ix2
              have gx2 := rd_get hx2
              try simp only [Int.reduceToNat, Int.toNat_natCast] at gx2
              have hy := Option.some.inj hy1
              subst hy
              simp only [go_sem, Nat.reduceBEq, Nat.reduceLT, Nat.reduceLeDiff, Nat.reduceEqDiff, Nat.reduceAdd, Nat.reduceSub, Nat.reduceMul, Int.reduceBEq, Int.reduceBNe, Int.reduceLT, Int.reduceLE, Int.reduceEq, Int.reduceGT, Int.reduceAdd, Int.reduceSub, Int.reduceNeg, Int.reduceToNat, reduceCtorEq, reduceIte, lr4, ix2, gx2, g5, g6]
              exact hK _ (St.ent_by [0, 1, 2, 3] rfl (Nat.le_of_ble_eq_true rfl) rfl (by decide) (by simp only [push_cast, Nat.reduceEqDiff, Nat.reduceAdd, reduceCtorEq, reduceIte, g5, g6, lr4]) (by simp only [push_cast, Nat.reduceEqDiff, Nat.reduceAdd, reduceCtorEq, reduceIte, g5, g6, lr4]))
        refine dN_seq hR22 (XA_ent hs ?_)
        refine XA_cond (t := y1) rfl (fun g7 => ?_) (fun g7 => ?_)
        · rw [g7, cond_true] at h
          refine XA_seq_st fun R23 hR23 => ?_
          refine XA_reg_g ?_
          refine RG_end ⟨[(4, .ls [] true), (5, .int .i64 3)], [(0, .arr 4 (List.map Edt.av a2))], 1⟩ (fun K hK => ?_) (fun s hs => ?_)
          · simp only [go_sem, Nat.reduceBEq, Nat.reduceLT, Nat.reduceLeDiff, Nat.reduceEqDiff, Nat.reduceAdd, Nat.reduceSub, Nat.reduceMul, Int.reduceBEq, Int.reduceBNe, Int.reduceLT, Int.reduceLE, Int.reduceEq, Int.reduceGT, Int.reduceAdd, Int.reduceSub, Int.reduceNeg, Int.reduceToNat, reduceCtorEq, reduceIte, lr4]
            exact hK _ (St.ent_by [0] rfl (Nat.le_of_ble_eq_true rfl) rfl (by decide) (by simp only [push_cast, Nat.reduceEqDiff, Nat.reduceAdd, reduceCtorEq, reduceIte, lr4]) (by simp only [push_cast, Nat.reduceEqDiff, Nat.reduceAdd, reduceCtorEq, reduceIte, lr4]))
          refine dN_seq hR23 (XA_ent hs ?_)
          refine XA_ent (St.ent_virt (t := 4) (sz := 2) rfl (Nat.le_of_ble_eq_true rfl)) ?_
          refine XA_ret ?_
          refine dR_seq hR21 ?_
          refine dR_block hR16 ?_
          refine dR_seq hR15 ?_
          refine dR_seq hR12 ?_
          refine dR_block hR11 ?_
          refine dR_seq hR9 ?_
          refine hR0 _ _ ⟨_, St.ent_self, EndPost_ret (v := .tup [.os 1 0 0, .int .i64 3]) (by simp only [go_sem, Nat.reduceBEq, Nat.reduceLT, Nat.reduceLeDiff, Nat.reduceEqDiff, Nat.reduceAdd, Nat.reduceSub, Nat.reduceMul, Int.reduceBEq, Int.reduceBNe, Int.reduceLT, Int.reduceLE, Int.reduceEq, Int.reduceGT, Int.reduceAdd, Int.reduceSub, Int.reduceNeg, Int.reduceToNat, reduceCtorEq, reduceIte]) ?_⟩
          have h := Option.some.inj h; subst h
          exact (St.ent_by [0, 1] rfl (Nat.le_of_ble_eq_true rfl) rfl (by decide) (by simp only [push_cast, Nat.reduceEqDiff, Nat.reduceAdd, reduceCtorEq, reduceIte, lr4]) (by simp only [push_cast, Nat.reduceEqDiff, Nat.reduceAdd, reduceCtorEq, reduceIte, lr4]))
        · rw [g7, cond_false] at h
          refine XA_skip ?_
          refine dN_seq hR21 ?_
          refine XA_seq_st fun R24 hR24 => ?_
          obtain ⟨y2, hy2, h⟩ := ob_some h
          refine XA_regd_to mix ⟨[(0, .ls (List.map Src.av a1) false), (7, .os 1 0 r2.length), (8, .os 2 0 r4.length), (29, .os 2 0 r4.length), (30, .int .i64 (r4.length : Int)), (31, .int .i64 v1), (102, .bool y2)], [(0, .arr 4 (List.map Edt.av a2)), (1, .arr 2 (List.map Src.av r2)), (2, .arr 4 (List.map Edt.av r4))], 3⟩ (fun K hK => ?_) (fun s hs => ?_)
          · refine runsD_cut 3 fun K8 hK8 => ?_
            simp only [go_sem, Nat.reduceBEq, Nat.reduceLT, Nat.reduceLeDiff, Nat.reduceEqDiff, Nat.reduceAdd, Nat.reduceSub, Nat.reduceMul, Int.reduceBEq, Int.reduceBNe, Int.reduceLT, Int.reduceLE, Int.reduceEq, Int.reduceGT, Int.reduceAdd, Int.reduceSub, Int.reduceNeg, Int.reduceToNat, reduceCtorEq, reduceIte, lr4]
            refine hK8 _ ?_
            simp only [List.take_succ_cons, List.take_zero, List.drop_succ_cons, List.drop_zero]
            rcases bool_or (decide (v1 > 0)) with g8 | g8
            · rw [g8, cond_true] at hy2
              obtain ⟨x3, hx3, hy2⟩ := ob_some hy2
              have ix3 := rd_in hx3
              try simp only [lr4] at ix3
              have gx3 := rd_get hx3
              try simp only [Int.reduceToNat, Int.toNat_natCast] at gx3
              refine runsD_cut 11 fun K9 hK9 => ?_
              simp only [go_sem, Nat.reduceBEq, Nat.reduceLT, Nat.reduceLeDiff, Nat.reduceEqDiff, Nat.reduceAdd, Nat.reduceSub, Nat.reduceMul, Int.reduceBEq, Int.reduceBNe, Int.reduceLT, Int.reduceLE, Int.reduceEq, Int.reduceGT, Int.reduceAdd, Int.reduceSub, Int.reduceNeg, Int.reduceToNat, reduceCtorEq, reduceIte, lr4, ix3, gx3, g8]
              refine hK9 _ ?_
              simp only [List.take_succ_cons, List.take_zero, List.drop_succ_cons, List.drop_zero]
              rcases bool_or (x3.file == x1.file) with g9 | g9
              · rw [g9, cond_true] at hy2
                refine runsD_cut 10 fun K10 hK10 => ?_
                simp only [go_sem, Nat.reduceBEq, Nat.reduceLT, Nat.reduceLeDiff, Nat.reduceEqDiff, Nat.reduceAdd, Nat.reduceSub, Nat.reduceMul, Int.reduceBEq, Int.reduceBNe, Int.reduceLT, Int.reduceLE, Int.reduceEq, Int.reduceGT, Int.reduceAdd, Int.reduceSub, Int.reduceNeg, Int.reduceToNat, reduceCtorEq, reduceIte, lr4, ix3, gx3, g8, g9]
                refine hK10 _ ?_
                simp only [List.take_succ_cons, List.take_zero, List.drop_succ_cons, List.drop_zero]
                rcases bool_or (decide (x3.to_ > x1.fro)) with g10 | g10
                · rw [g10, cond_true] at hy2
                  have hy := Option.some.inj hy2
                  subst hy
                  simp only [go_sem, Nat.reduceBEq, Nat.reduceLT, Nat.reduceLeDiff, Nat.reduceEqDiff, Nat.reduceAdd, Nat.reduceSub, Nat.reduceMul, Int.reduceBEq, Int.reduceBNe, Int.reduceLT, Int.reduceLE, Int.reduceEq, Int.reduceGT, Int.reduceAdd, Int.reduceSub, Int.reduceNeg, Int.reduceToNat, reduceCtorEq, reduceIte, lr4, ix3, gx3, g8, g9, g10]
                  exact hK _ (St.ent_by [0, 1, 2] rfl (Nat.le_of_ble_eq_true rfl) rfl (by decide) (by simp only [push_cast, Nat.reduceEqDiff, Nat.reduceAdd, reduceCtorEq, reduceIte, g8, g9, g10, lr4]) (by simp only [push_cast, Nat.reduceEqDiff, Nat.reduceAdd, reduceCtorEq, reduceIte, g8, g9, g10, lr4]))
                · rw [g10, cond_false] at hy2
                  have hy := Option.some.inj hy2
                  subst hy
                  simp only [go_sem, Nat.reduceBEq, Nat.reduceLT, Nat.reduceLeDiff, Nat.reduceEqDiff, Nat.reduceAdd, Nat.reduceSub, Nat.reduceMul, Int.reduceBEq, Int.reduceBNe, Int.reduceLT, Int.reduceLE, Int.reduceEq, Int.reduceGT, Int.reduceAdd, Int.reduceSub, Int.reduceNeg, Int.reduceToNat, reduceCtorEq, reduceIte, lr4, ix3, gx3, g8, g9, g10]
                  exact hK _ (St.ent_by [0, 1, 2] rfl (Nat.le_of_ble_eq_true rfl) rfl (by decide) (by simp only [push_cast, Nat.reduceEqDiff, Nat.reduceAdd, reduceCtorEq, reduceIte, g8, g9, g10, lr4]) (by simp only [push_cast, Nat.reduceEqDiff, Nat.reduceAdd, reduceCtorEq, reduceIte, g8, g9, g10, lr4]))
              · rw [g9, cond_false] at hy2
                have hy := Option.some.inj hy2
                subst hy
                simp only [go_sem, Nat.reduceBEq, Nat.reduceLT, Nat.reduceLeDiff, Nat.reduceEqDiff, Nat.reduceAdd, Nat.reduceSub, Nat.reduceMul, Int.reduceBEq, Int.reduceBNe, Int.reduceLT, Int.reduceLE, Int.reduceEq, Int.reduceGT, Int.reduceAdd, Int.reduceSub, Int.reduceNeg, Int.reduceToNat, reduceCtorEq, reduceIte, lr4, ix3, gx3, g8, g9]
                exact hK _ (St.ent_by [0, 1, 2] rfl (Nat.le_of_ble_eq_true rfl) rfl (by decide) (by simp only [push_cast, Nat.reduceEqDiff, Nat.reduceAdd, reduceCtorEq, reduceIte, g8, g9, lr4]) (by simp only [push_cast, Nat.reduceEqDiff, Nat.reduceAdd, reduceCtorEq, reduceIte, g8, g9, lr4]))
            · rw [g8, cond_false] at hy2
              have hy := Option.some.inj hy2
              subst hy
              simp only [go_sem, Nat.reduceBEq, Nat.reduceLT, Nat.reduceLeDiff, Nat.reduceEqDiff, Nat.reduceAdd, Nat.reduceSub, Nat.reduceMul, Int.reduceBEq, Int.reduceBNe, Int.reduceLT, Int.reduceLE, Int.reduceEq, Int.reduceGT, Int.reduceAdd, Int.reduceSub, Int.reduceNeg, Int.reduceToNat, reduceCtorEq, reduceIte, lr4, g8]
              exact hK _ (St.ent_by [0, 1, 2] rfl (Nat.le_of_ble_eq_true rfl) rfl (by decide) (by simp only [push_cast, Nat.reduceEqDiff, Nat.reduceAdd, reduceCtorEq, reduceIte, g8, lr4]) (by simp only [push_cast, Nat.reduceEqDiff, Nat.reduceAdd, reduceCtorEq, reduceIte, g8, lr4]))
          refine dN_seq hR24 (XA_ent hs ?_)
          refine XA_cond (t := y2) rfl (fun g11 => ?_) (fun g11 => ?_)
          · rw [g11, cond_true] at h
            refine XA_seq_st fun R25 hR25 => ?_
            refine XA_reg_g ?_
            refine RG_end ⟨[(4, .ls [] true), (5, .int .i64 8)], [(0, .arr 4 (List.map Edt.av a2))], 1⟩ (fun K hK => ?_) (fun s hs => ?_)
            · simp only [go_sem, Nat.reduceBEq, Nat.reduceLT, Nat.reduceLeDiff, Nat.reduceEqDiff, Nat.reduceAdd, Nat.reduceSub, Nat.reduceMul, Int.reduceBEq, Int.reduceBNe, Int.reduceLT, Int.reduceLE, Int.reduceEq, Int.reduceGT, Int.reduceAdd, Int.reduceSub, Int.reduceNeg, Int.reduceToNat, reduceCtorEq, reduceIte, lr4]
              exact hK _ (St.ent_by [0] rfl (Nat.le_of_ble_eq_true rfl) rfl (by decide) (by simp only [push_cast, Nat.reduceEqDiff, Nat.reduceAdd, reduceCtorEq, reduceIte, lr4]) (by simp only [push_cast, Nat.reduceEqDiff, Nat.reduceAdd, reduceCtorEq, reduceIte, lr4]))
            refine dN_seq hR25 (XA_ent hs ?_)
            refine XA_ent (St.ent_virt (t := 4) (sz := 2) rfl (Nat.le_of_ble_eq_true rfl)) ?_
            refine XA_ret ?_
            refine dR_block hR16 ?_
            refine dR_seq hR15 ?_
            refine dR_seq hR12 ?_
            refine dR_block hR11 ?_
            refine dR_seq hR9 ?_
            refine hR0 _ _ ⟨_, St.ent_self, EndPost_ret (v := .tup [.os 1 0 0, .int .i64 8]) (by simp only [go_sem, Nat.reduceBEq, Nat.reduceLT, Nat.reduceLeDiff, Nat.reduceEqDiff, Nat.reduceAdd, Nat.reduceSub, Nat.reduceMul, Int.reduceBEq, Int.reduceBNe, Int.reduceLT, Int.reduceLE, Int.reduceEq, Int.reduceGT, Int.reduceAdd, Int.reduceSub, Int.reduceNeg, Int.reduceToNat, reduceCtorEq, reduceIte]) ?_⟩
            have h := Option.some.inj h; subst h
            exact (St.ent_by [0, 1] rfl (Nat.le_of_ble_eq_true rfl) rfl (by decide) (by simp only [push_cast, Nat.reduceEqDiff, Nat.reduceAdd, reduceCtorEq, reduceIte, lr4]) (by simp only [push_cast, Nat.reduceEqDiff, Nat.reduceAdd, reduceCtorEq, reduceIte, lr4]))
          · rw [g11, cond_false] at h
            refine XA_skip ?_
            refine dN_block hR16 ?_
            refine dN_seq hR15 ?_
            refine XA_reg_g ?_
            refine RG_end ⟨[(0, .ls (List.map Src.av a1) false), (7, .os 1 0 r2.length), (8, .os 2 0 r4.length), (29, .os 2 0 r4.length), (30, .int .i64 (r4.length : Int)), (31, .int .i64 (IntKind.i64.wrap (v1 + 1)))], [(0, .arr 4 (List.map Edt.av a2)), (1, .arr 2 (List.map Src.av r2)), (2, .arr 4 (List.map Edt.av r4))], 3⟩ (fun K hK => ?_) (fun s hs => ?_)
            · simp only [go_sem, Nat.reduceBEq, Nat.reduceLT, Nat.reduceLeDiff, Nat.reduceEqDiff, Nat.reduceAdd, Nat.reduceSub, Nat.reduceMul, Int.reduceBEq, Int.reduceBNe, Int.reduceLT, Int.reduceLE, Int.reduceEq, Int.reduceGT, Int.reduceAdd, Int.reduceSub, Int.reduceNeg, Int.reduceToNat, reduceCtorEq, reduceIte, lr4]
              exact hK _ (St.ent_by [0, 1, 2] rfl (Nat.le_of_ble_eq_true rfl) rfl (by decide) (by simp only [push_cast, Nat.reduceEqDiff, Nat.reduceAdd, reduceCtorEq, reduceIte, lr4]) (by simp only [push_cast, Nat.reduceEqDiff, Nat.reduceAdd, reduceCtorEq, reduceIte, lr4]))
            exact dN_seq hR12 ⟨(IntKind.i64.wrap (v1 + 1)), (hs.trans (St.ent_by [0, 1, 2] rfl (Nat.le_of_ble_eq_true rfl) rfl (by decide) (by simp only [push_cast, Nat.reduceEqDiff, Nat.reduceAdd, reduceCtorEq, reduceIte, lr4]) (by simp only [push_cast, Nat.reduceEqDiff, Nat.reduceAdd, reduceCtorEq, reduceIte, lr4]))), h⟩
    · rw [g2, cond_false] at h
      refine XA_exit ?_
      refine dX_seq hR14 ?_
      refine dX_seq hR12 ?_
      refine dE_block hR11 ?_
      refine dN_seq hR9 ?_
      refine XA_seq_st fun R26 hR26 => ?_
      refine XA_seq_st fun R27 hR27 => ?_
      refine XA_reg_g ?_
      refine RG_end ⟨[(7, .os 1 0 r2.length), (8, .os 2 0 r4.length), (11, .int .i64 (IntKind.i64.wrap ((r4.length : Int) - 1)))], [(0, .arr 4 (List.map Edt.av a2)), (1, .arr 2 (List.map Src.av r2)), (2, .arr 4 (List.map Edt.av r4))], 3⟩ (fun K hK => ?_) (fun s hs => ?_)
      · simp only [go_sem, Nat.reduceBEq, Nat.reduceLT, Nat.reduceLeDiff, Nat.reduceEqDiff, Nat.reduceAdd, Nat.reduceSub, Nat.reduceMul, Int.reduceBEq, Int.reduceBNe, Int.reduceLT, Int.reduceLE, Int.reduceEq, Int.reduceGT, Int.reduceAdd, Int.reduceSub, Int.reduceNeg, Int.reduceToNat, reduceCtorEq, reduceIte, lr4]
        exact hK _ (St.ent_by [0, 1, 2] rfl (Nat.le_of_ble_eq_true rfl) rfl (by decide) (by simp only [push_cast, Nat.reduceEqDiff, Nat.reduceAdd, reduceCtorEq, reduceIte, lr4]) (by simp only [push_cast, Nat.reduceEqDiff, Nat.reduceAdd, reduceCtorEq, reduceIte, lr4]))
      refine dN_seq hR27 (XA_ent hs ?_)
      refine XA_block_st fun R28 hR28 => ?_
      refine XA_loop_by (T := fun v : Int × (List Src) => ⟨[(7, .os 1 0 v.2.length), (8, .os 2 0 r4.length), (11, .int .i64 v.1)], [(0, .arr 4 (List.map Edt.av a2)), (1, .arr 2 (List.map Src.av v.2)), (2, .arr 4 (List.map Edt.av r4))], 3⟩) (fuel := fuel) h (St.ent_by [0, 1, 2] rfl (Nat.le_of_ble_eq_true rfl) rfl (by decide) (by simp only [push_cast, Nat.reduceEqDiff, Nat.reduceAdd, reduceCtorEq, reduceIte, lr4]) (by simp only [push_cast, Nat.reduceEqDiff, Nat.reduceAdd, reduceCtorEq, reduceIte, lr4])) (fun again2 v h R29 hR29 => ?_)
      rcases v with ⟨v2, v3⟩
      replace h : changeO_b2 r4 fuel again2 v2 v3 = some r := h
      unfold changeO_b2 at h
      refine (show XA _ _ _ _ ⟨[(7, .os 1 0 v3.length), (8, .os 2 0 r4.length), (11, .int .i64 v2)], [(0, .arr 4 (List.map Edt.av a2)), (1, .arr 2 (List.map Src.av v3)), (2, .arr 4 (List.map Edt.av r4))], 3⟩ from ?_)
      refine XA_seq_st fun R30 hR30 => ?_
      refine XA_seq_st fun R31 hR31 => ?_
      refine XA_reg_g ?_
      refine RG_end ⟨[(7, .os 1 0 v3.length), (8, .os 2 0 r4.length), (11, .int .i64 v2), (108, .bool (decide (v2 ≥ 0)))], [(0, .arr 4 (List.map Edt.av a2)), (1, .arr 2 (List.map Src.av v3)), (2, .arr 4 (List.map Edt.av r4))], 3⟩ (fun K hK => ?_) (fun s hs => ?_)
      · simp only [go_sem, Nat.reduceBEq, Nat.reduceLT, Nat.reduceLeDiff, Nat.reduceEqDiff, Nat.reduceAdd, Nat.reduceSub, Nat.reduceMul, Int.reduceBEq, Int.reduceBNe, Int.reduceLT, Int.reduceLE, Int.reduceEq, Int.reduceGT, Int.reduceAdd, Int.reduceSub, Int.reduceNeg, Int.reduceToNat, reduceCtorEq, reduceIte, lr4]
        exact hK _ (St.ent_by [0, 1, 2] rfl (Nat.le_of_ble_eq_true rfl) rfl (by decide) (by simp only [push_cast, Nat.reduceEqDiff, Nat.reduceAdd, reduceCtorEq, reduceIte, lr4]) (by simp only [push_cast, Nat.reduceEqDiff, Nat.reduceAdd, reduceCtorEq, reduceIte, lr4]))
      refine dN_seq hR31 (XA_ent hs ?_)
      refine XA_cond (t := (decide (v2 ≥ 0))) rfl (fun g12 => ?_) (fun g12 => ?_)
      · rw [g12, cond_true] at h
        refine XA_skip ?_
        refine dN_seq hR30 ?_
        refine XA_seq_st fun R32 hR32 => ?_
        refine XA_block_st fun R33 hR33 => ?_
        refine XA_seq_st fun R34 hR34 => ?_
        refine XA_reg_g ?_
        obtain ⟨x4, hx4, h⟩ := ob_some h
        have ix4 := rd_in hx4
        try simp only [lr4] at ix4
        have gx4 := rd_get hx4
        try simp only [Int.reduceToNat, Int.toNat_natCast] at gx4
        refine RG_end ⟨[(7, .os 1 0 v3.length), (8, .os 2 0 r4.length), (11, .int .i64 v2), (12, .ptr 3 0)], [(0, .arr 4 (List.map Edt.av a2)), (1, .arr 2 (List.map Src.av v3)), (2, .arr 4 (List.map Edt.av r4)), (3, .var [.int .i64 x4.file, .int .i64 x4.fro, .int .i64 x4.to_, .str x4.text])], 4⟩ (fun K hK => ?_) (fun s hs => ?_)
        · simp only [go_sem, Nat.reduceBEq, Nat.reduceLT, Nat.reduceLeDiff, Nat.reduceEqDiff, Nat.reduceAdd, Nat.reduceSub, Nat.reduceMul, Int.reduceBEq, Int.reduceBNe, Int.reduceLT, Int.reduceLE, Int.reduceEq, Int.reduceGT, Int.reduceAdd, Int.reduceSub, Int.reduceNeg, Int.reduceToNat, reduceCtorEq, reduceIte, lr4, ix4, gx4]
          exact hK _ (St.ent_by [0, 1, 2, 3] rfl (Nat.le_of_ble_eq_true rfl) rfl (by decide) (by simp only [push_cast, Nat.reduceEqDiff, Nat.reduceAdd, reduceCtorEq, reduceIte, lr4]) (by simp only [push_cast, Nat.reduceEqDiff, Nat.reduceAdd, reduceCtorEq, reduceIte, lr4]))
        refine dN_seq hR34 (XA_ent hs ?_)
        refine XA_seq_st fun R35 hR35 => ?_
        refine XA_reg_g ?_
        obtain ⟨x5, hx5, h⟩ := ob_some h
        have ix5 := rd_in hx5
        try simp only [lr4] at ix5
        have gx5 := rd_get hx5
        try simp only [Int.reduceToNat, Int.toNat_natCast] at gx5
        refine RG_end ⟨[(7, .os 1 0 v3.length), (8, .os 2 0 r4.length), (11, .int .i64 v2), (12, .ptr 3 0), (13, .str x5.text)], [(0, .arr 4 (List.map Edt.av a2)), (1, .arr 2 (List.map Src.av v3)), (2, .arr 4 (List.map Edt.av r4)), (3, .var [.int .i64 x4.file, .int .i64 x4.fro, .int .i64 x4.to_, .str x4.text])], 4⟩ (fun K hK => ?_) (fun s hs => ?_)
        · simp only [go_sem, Nat.reduceBEq, Nat.reduceLT, Nat.reduceLeDiff, Nat.reduceEqDiff, Nat.reduceAdd, Nat.reduceSub, Nat.reduceMul, Int.reduceBEq, Int.reduceBNe, Int.reduceLT, Int.reduceLE, Int.reduceEq, Int.reduceGT, Int.reduceAdd, Int.reduceSub, Int.reduceNeg, Int.reduceToNat, reduceCtorEq, reduceIte, lr4, ix5, gx5]
          exact hK _ (St.ent_by [0, 1, 2, 3] rfl (Nat.le_of_ble_eq_true rfl) rfl (by decide) (by simp only [push_cast, Nat.reduceEqDiff, Nat.reduceAdd, reduceCtorEq, reduceIte, lr4]) (by simp only [push_cast, Nat.reduceEqDiff, Nat.reduceAdd, reduceCtorEq, reduceIte, lr4]))
        refine dN_seq hR35 (XA_ent hs ?_)
        refine XA_seq_st fun R36 hR36 => ?_
        refine XA_seq_st fun R37 hR37 => ?_
        refine XA_reg_g ?_
        refine RG_end ⟨[(7, .os 1 0 v3.length), (8, .os 2 0 r4.length), (11, .int .i64 v2), (12, .ptr 3 0), (13, .str x5.text), (124, .bool (decide ((x4.text.length : Int) > 3000)))], [(0, .arr 4 (List.map Edt.av a2)), (1, .arr 2 (List.map Src.av v3)), (2, .arr 4 (List.map Edt.av r4)), (3, .var [.int .i64 x4.file, .int .i64 x4.fro, .int .i64 x4.to_, .str x4.text])], 4⟩ (fun K hK => ?_) (fun s hs => ?_)
        · simp only [go_sem, Nat.reduceBEq, Nat.reduceLT, Nat.reduceLeDiff, Nat.reduceEqDiff, Nat.reduceAdd, Nat.reduceSub, Nat.reduceMul, Int.reduceBEq, Int.reduceBNe, Int.reduceLT, Int.reduceLE, Int.reduceEq, Int.reduceGT, Int.reduceAdd, Int.reduceSub, Int.reduceNeg, Int.reduceToNat, reduceCtorEq, reduceIte, lr4]
          exact hK _ (St.ent_by [0, 1, 2, 3] rfl (Nat.le_of_ble_eq_true rfl) rfl (by decide) (by simp only [push_cast, Nat.reduceEqDiff, Nat.reduceAdd, reduceCtorEq, reduceIte, lr4]) (by simp only [push_cast, Nat.reduceEqDiff, Nat.reduceAdd, reduceCtorEq, reduceIte, lr4]))
        refine dN_seq hR37 (XA_ent hs ?_)
        refine XA_cond (t := (decide ((x4.text.length : Int) > 3000))) rfl (fun g13 => ?_) (fun g13 => ?_)
        · rw [g13, cond_true] at h
          refine XA_seq_st fun R38 hR38 => ?_
          refine XA_reg_g ?_
          refine RG_end ⟨[(4, .ls [] true), (5, .int .i64 4)], [(0, .arr 4 (List.map Edt.av a2))], 1⟩ (fun K hK => ?_) (fun s hs => ?_)
          · simp only [go_sem, Nat.reduceBEq, Nat.reduceLT, Nat.reduceLeDiff, Nat.reduceEqDiff, Nat.reduceAdd, Nat.reduceSub, Nat.reduceMul, Int.reduceBEq, Int.reduceBNe, Int.reduceLT, Int.reduceLE, Int.reduceEq, Int.reduceGT, Int.reduceAdd, Int.reduceSub, Int.reduceNeg, Int.reduceToNat, reduceCtorEq, reduceIte, lr4]
            exact hK _ (St.ent_by [0] rfl (Nat.le_of_ble_eq_true rfl) rfl (by decide) (by simp only [push_cast, Nat.reduceEqDiff, Nat.reduceAdd, reduceCtorEq, reduceIte, lr4]) (by simp only [push_cast, Nat.reduceEqDiff, Nat.reduceAdd, reduceCtorEq, reduceIte, lr4]))
          refine dN_seq hR38 (XA_ent hs ?_)
          refine XA_ent (St.ent_virt (t := 4) (sz := 2) rfl (Nat.le_of_ble_eq_true rfl)) ?_
          refine XA_ret ?_
          refine dR_seq hR36 ?_
          refine dR_block hR33 ?_
          refine dR_seq hR32 ?_
          refine dR_seq hR29 ?_
          refine dR_block hR28 ?_
          refine dR_seq hR26 ?_
          refine hR0 _ _ ⟨_, St.ent_self, EndPost_ret (v := .tup [.os 1 0 0, .int .i64 4]) (by simp only [go_sem, Nat.reduceBEq, Nat.reduceLT, Nat.reduceLeDiff, Nat.reduceEqDiff, Nat.reduceAdd, Nat.reduceSub, Nat.reduceMul, Int.reduceBEq, Int.reduceBNe, Int.reduceLT, Int.reduceLE, Int.reduceEq, Int.reduceGT, Int.reduceAdd, Int.reduceSub, Int.reduceNeg, Int.reduceToNat, reduceCtorEq, reduceIte]) ?_⟩
          have h := Option.some.inj h; subst h
          exact (St.ent_by [0, 1] rfl (Nat.le_of_ble_eq_true rfl) rfl (by decide) (by simp only [push_cast, Nat.reduceEqDiff, Nat.reduceAdd, reduceCtorEq, reduceIte, lr4]) (by simp only [push_cast, Nat.reduceEqDiff, Nat.reduceAdd, reduceCtorEq, reduceIte, lr4]))
        · rw [g13, cond_false] at h
          refine XA_skip ?_
          refine dN_seq hR36 ?_
          obtain ⟨c1, h⟩ := ck_some h
          obtain ⟨c2, h⟩ := ck_some h
          obtain ⟨c3, h⟩ := ck_some h
          obtain ⟨c4, h⟩ := ck_some h
          refine XA_regd_to mix ⟨[(7, .os 1 0 ((v3.set x4.file.toNat { x5 with text := (((x5.text.take x4.fro.toNat) ++ x4.text) ++ (x5.text.drop x4.to_.toNat)) }).length)), (8, .os 2 0 r4.length), (11, .int .i64 v2)], [(0, .arr 4 (List.map Edt.av a2)), (1, .arr 2 (List.map Src.av (v3.set x4.file.toNat { x5 with text := (((x5.text.take x4.fro.toNat) ++ x4.text) ++ (x5.text.drop x4.to_.toNat)) }))), (2, .arr 4 (List.map Edt.av r4))], 3⟩ (fun K hK => ?_) (fun s hs => ?_)
          · simp only [go_sem, Nat.reduceBEq, Nat.reduceLT, Nat.reduceLeDiff, Nat.reduceEqDiff, Nat.reduceAdd, Nat.reduceSub, Nat.reduceMul, Int.reduceBEq, Int.reduceBNe, Int.reduceLT, Int.reduceLE, Int.reduceEq, Int.reduceGT, Int.reduceAdd, Int.reduceSub, Int.reduceNeg, Int.reduceToNat, reduceCtorEq, reduceIte, lr4, c1, c2, c3, c4, ix5, gx5]
            exact hK _ (St.ent_by [0, 1, 2] rfl (Nat.le_of_ble_eq_true rfl) rfl (by decide) (by simp only [push_cast, Nat.reduceEqDiff, Nat.reduceAdd, reduceCtorEq, reduceIte, lr4]) (by simp only [push_cast, Nat.reduceEqDiff, Nat.reduceAdd, reduceCtorEq, reduceIte, lr4]))
          refine dN_block hR33 ?_
          refine dN_seq hR32 (XA_ent hs ?_)
          refine XA_reg_g ?_
          refine RG_end ⟨[(7, .os 1 0 ((v3.set x4.file.toNat { x5 with text := (((x5.text.take x4.fro.toNat) ++ x4.text) ++ (x5.text.drop x4.to_.toNat)) }).length)), (8, .os 2 0 r4.length), (11, .int .i64 (IntKind.i64.wrap (v2 - 1)))], [(0, .arr 4 (List.map Edt.av a2)), (1, .arr 2 (List.map Src.av (v3.set x4.file.toNat { x5 with text := (((x5.text.take x4.fro.toNat) ++ x4.text) ++ (x5.text.drop x4.to_.toNat)) }))), (2, .arr 4 (List.map Edt.av r4))], 3⟩ (fun K hK => ?_) (fun s hs => ?_)
          · simp only [go_sem, Nat.reduceBEq, Nat.reduceLT, Nat.reduceLeDiff, Nat.reduceEqDiff, Nat.reduceAdd, Nat.reduceSub, Nat.reduceMul, Int.reduceBEq, Int.reduceBNe, Int.reduceLT, Int.reduceLE, Int.reduceEq, Int.reduceGT, Int.reduceAdd, Int.reduceSub, Int.reduceNeg, Int.reduceToNat, reduceCtorEq, reduceIte, lr4]
            exact hK _ (St.ent_by [0, 1, 2] rfl (Nat.le_of_ble_eq_true rfl) rfl (by decide) (by simp only [push_cast, Nat.reduceEqDiff, Nat.reduceAdd, reduceCtorEq, reduceIte, lr4]) (by simp only [push_cast, Nat.reduceEqDiff, Nat.reduceAdd, reduceCtorEq, reduceIte, lr4]))
          exact dN_seq hR29 ⟨((IntKind.i64.wrap (v2 - 1)), (v3.set x4.file.toNat { x5 with text := (((x5.text.take x4.fro.toNat) ++ x4.text) ++ (x5.text.drop x4.to_.toNat)) })), (hs.trans (St.ent_by [0, 1, 2] rfl (Nat.le_of_ble_eq_true rfl) rfl (by decide) (by simp only [push_cast, Nat.reduceEqDiff, Nat.reduceAdd, reduceCtorEq, reduceIte, lr4]) (by simp only [push_cast, Nat.reduceEqDiff, Nat.reduceAdd, reduceCtorEq, reduceIte, lr4]))), h⟩
      · rw [g12, cond_false] at h
        refine XA_exit ?_
        refine dX_seq hR30 ?_
        refine dX_seq hR29 ?_
        refine dE_block hR28 ?_
        refine dN_seq hR26 ?_
        refine XA_seq_st fun R39 hR39 => ?_
        refine XA_seq_st fun R40 hR40 => ?_
        refine XA_reg_g ?_
        refine RG_end ⟨[(7, .os 1 0 v3.length), (142, .os 1 0 v3.length), (143, .int .i64 (v3.length : Int)), (144, .int .i64 0)], [(0, .arr 4 (List.map Edt.av a2)), (1, .arr 2 (List.map Src.av v3))], 2⟩ (fun K hK => ?_) (fun s hs => ?_)
        · simp only [go_sem, Nat.reduceBEq, Nat.reduceLT, Nat.reduceLeDiff, Nat.reduceEqDiff, Nat.reduceAdd, Nat.reduceSub, Nat.reduceMul, Int.reduceBEq, Int.reduceBNe, Int.reduceLT, Int.reduceLE, Int.reduceEq, Int.reduceGT, Int.reduceAdd, Int.reduceSub, Int.reduceNeg, Int.reduceToNat, reduceCtorEq, reduceIte, lr4]
          exact hK _ (St.ent_by [0, 1] rfl (Nat.le_of_ble_eq_true rfl) rfl (by decide) (by simp only [push_cast, Nat.reduceEqDiff, Nat.reduceAdd, reduceCtorEq, reduceIte, lr4]) (by simp only [push_cast, Nat.reduceEqDiff, Nat.reduceAdd, reduceCtorEq, reduceIte, lr4]))
        refine dN_seq hR40 (XA_ent hs ?_)
        refine XA_block_st fun R41 hR41 => ?_
        refine XA_loop_by (T := fun v : Int => ⟨[(7, .os 1 0 v3.length), (142, .os 1 0 v3.length), (143, .int .i64 (v3.length : Int)), (144, .int .i64 v)], [(0, .arr 4 (List.map Edt.av a2)), (1, .arr 2 (List.map Src.av v3))], 2⟩) (fuel := fuel) h (St.ent_by [0, 1] rfl (Nat.le_of_ble_eq_true rfl) rfl (by decide) (by simp only [push_cast, Nat.reduceEqDiff, Nat.reduceAdd, reduceCtorEq, reduceIte, lr4]) (by simp only [push_cast, Nat.reduceEqDiff, Nat.reduceAdd, reduceCtorEq, reduceIte, lr4])) (fun again3 v h R42 hR42 => ?_)
        revert h; generalize v = v4; intro h
        replace h : changeO_b3 v3 again3 v4 = some r := h
        unfold changeO_b3 at h
        refine (show XA _ _ _ _ ⟨[(7, .os 1 0 v3.length), (142, .os 1 0 v3.length), (143, .int .i64 (v3.length : Int)), (144, .int .i64 v4)], [(0, .arr 4 (List.map Edt.av a2)), (1, .arr 2 (List.map Src.av v3))], 2⟩ from ?_)
        refine XA_seq_st fun R43 hR43 => ?_
        refine XA_reg_g ?_
        refine RG_end ⟨[(7, .os 1 0 v3.length), (142, .os 1 0 v3.length), (143, .int .i64 (v3.length : Int)), (144, .int .i64 v4), (145, .bool (decide (v4 < (v3.length : Int))))], [(0, .arr 4 (List.map Edt.av a2)), (1, .arr 2 (List.map Src.av v3))], 2⟩ (fun K hK => ?_) (fun s hs => ?_)
        · simp only [go_sem, Nat.reduceBEq, Nat.reduceLT, Nat.reduceLeDiff, Nat.reduceEqDiff, Nat.reduceAdd, Nat.reduceSub, Nat.reduceMul, Int.reduceBEq, Int.reduceBNe, Int.reduceLT, Int.reduceLE, Int.reduceEq, Int.reduceGT, Int.reduceAdd, Int.reduceSub, Int.reduceNeg, Int.reduceToNat, reduceCtorEq, reduceIte, lr4]
          exact hK _ (St.ent_by [0, 1] rfl (Nat.le_of_ble_eq_true rfl) rfl (by decide) (by simp only [push_cast, Nat.reduceEqDiff, Nat.reduceAdd, reduceCtorEq, reduceIte, lr4]) (by simp only [push_cast, Nat.reduceEqDiff, Nat.reduceAdd, reduceCtorEq, reduceIte, lr4]))
        refine dN_seq hR43 (XA_ent hs ?_)
        refine XA_seq_st fun R44 hR44 => ?_
        refine XA_cond (t := (decide (v4 < (v3.length : Int)))) rfl (fun g14 => ?_) (fun g14 => ?_)
        · rw [g14, cond_true] at h
          refine XA_skip ?_
          refine dN_seq hR44 ?_
          refine XA_seq_st fun R45 hR45 => ?_
          refine XA_block_st fun R46 hR46 => ?_
          refine XA_seq_st fun R47 hR47 => ?_
          refine XA_reg_g ?_
          obtain ⟨x6, hx6, h⟩ := ob_some h
          have ix6 := rd_in hx6
          try simp only [lr4] at ix6
          have gx6 := rd_get hx6
          try simp only [Int.reduceToNat, Int.toNat_natCast] at gx6
          refine RG_end ⟨[(7, .os 1 0 v3.length), (15, .ptr 2 0), (142, .os 1 0 v3.length), (143, .int .i64 (v3.length : Int)), (144, .int .i64 v4)], [(0, .arr 4 (List.map Edt.av a2)), (1, .arr 2 (List.map Src.av v3)), (2, .var [.str x6.path, .str x6.text])], 3⟩ (fun K hK => ?_) (fun s hs => ?_)
          · simp only [go_sem, Nat.reduceBEq, Nat.reduceLT, Nat.reduceLeDiff, Nat.reduceEqDiff, Nat.reduceAdd, Nat.reduceSub, Nat.reduceMul, Int.reduceBEq, Int.reduceBNe, Int.reduceLT, Int.reduceLE, Int.reduceEq, Int.reduceGT, Int.reduceAdd, Int.reduceSub, Int.reduceNeg, Int.reduceToNat, reduceCtorEq, reduceIte, lr4, ix6, gx6]
            exact hK _ (St.ent_by [0, 1, 2] rfl (Nat.le_of_ble_eq_true rfl) rfl (by decide) (by simp only [push_cast, Nat.reduceEqDiff, Nat.reduceAdd, reduceCtorEq, reduceIte, lr4]) (by simp only [push_cast, Nat.reduceEqDiff, Nat.reduceAdd, reduceCtorEq, reduceIte, lr4]))
          refine dN_seq hR47 (XA_ent hs ?_)
          refine XA_seq_st fun R48 hR48 => ?_
          refine XA_reg_g ?_
          refine RG_end ⟨[(7, .os 1 0 v3.length), (142, .os 1 0 v3.length), (143, .int .i64 (v3.length : Int)), (144, .int .i64 v4), (151, .bool (decide ((x6.text.length : Int) > 3000)))], [(0, .arr 4 (List.map Edt.av a2)), (1, .arr 2 (List.map Src.av v3))], 2⟩ (fun K hK => ?_) (fun s hs => ?_)
          · simp only [go_sem, Nat.reduceBEq, Nat.reduceLT, Nat.reduceLeDiff, Nat.reduceEqDiff, Nat.reduceAdd, Nat.reduceSub, Nat.reduceMul, Int.reduceBEq, Int.reduceBNe, Int.reduceLT, Int.reduceLE, Int.reduceEq, Int.reduceGT, Int.reduceAdd, Int.reduceSub, Int.reduceNeg, Int.reduceToNat, reduceCtorEq, reduceIte, lr4]
            exact hK _ (St.ent_by [0, 1] rfl (Nat.le_of_ble_eq_true rfl) rfl (by decide) (by simp only [push_cast, Nat.reduceEqDiff, Nat.reduceAdd, reduceCtorEq, reduceIte, lr4]) (by simp only [push_cast, Nat.reduceEqDiff, Nat.reduceAdd, reduceCtorEq, reduceIte, lr4]))
          refine dN_seq hR48 (XA_ent hs ?_)
          refine XA_cond (t := (decide ((x6.text.length : Int) > 3000))) rfl (fun g15 => ?_) (fun g15 => ?_)
          · rw [g15, cond_true] at h
            refine XA_seq_st fun R49 hR49 => ?_
            refine XA_reg_g ?_
            refine RG_end ⟨[(4, .ls [] true), (5, .int .i64 4)], [(0, .arr 4 (List.map Edt.av a2))], 1⟩ (fun K hK => ?_) (fun s hs => ?_)
            · simp only [go_sem, Nat.reduceBEq, Nat.reduceLT, Nat.reduceLeDiff, Nat.reduceEqDiff, Nat.reduceAdd, Nat.reduceSub, Nat.reduceMul, Int.reduceBEq, Int.reduceBNe, Int.reduceLT, Int.reduceLE, Int.reduceEq, Int.reduceGT, Int.reduceAdd, Int.reduceSub, Int.reduceNeg, Int.reduceToNat, reduceCtorEq, reduceIte, lr4]
              exact hK _ (St.ent_by [0] rfl (Nat.le_of_ble_eq_true rfl) rfl (by decide) (by simp only [push_cast, Nat.reduceEqDiff, Nat.reduceAdd, reduceCtorEq, reduceIte, lr4]) (by simp only [push_cast, Nat.reduceEqDiff, Nat.reduceAdd, reduceCtorEq, reduceIte, lr4]))
            refine dN_seq hR49 (XA_ent hs ?_)
            refine XA_ent (St.ent_virt (t := 4) (sz := 2) rfl (Nat.le_of_ble_eq_true rfl)) ?_
            refine XA_ret ?_
            refine dR_block hR46 ?_
            refine dR_seq hR45 ?_
            refine dR_seq hR42 ?_
            refine dR_block hR41 ?_
            refine dR_seq hR39 ?_
            refine hR0 _ _ ⟨_, St.ent_self, EndPost_ret (v := .tup [.os 1 0 0, .int .i64 4]) (by simp only [go_sem, Nat.reduceBEq, Nat.reduceLT, Nat.reduceLeDiff, Nat.reduceEqDiff, Nat.reduceAdd, Nat.reduceSub, Nat.reduceMul, Int.reduceBEq, Int.reduceBNe, Int.reduceLT, Int.reduceLE, Int.reduceEq, Int.reduceGT, Int.reduceAdd, Int.reduceSub, Int.reduceNeg, Int.reduceToNat, reduceCtorEq, reduceIte]) ?_⟩
            have h := Option.some.inj h; subst h
            exact (St.ent_by [0, 1] rfl (Nat.le_of_ble_eq_true rfl) rfl (by decide) (by simp only [push_cast, Nat.reduceEqDiff, Nat.reduceAdd, reduceCtorEq, reduceIte, lr4]) (by simp only [push_cast, Nat.reduceEqDiff, Nat.reduceAdd, reduceCtorEq, reduceIte, lr4]))
          · rw [g15, cond_false] at h
            refine XA_skip ?_
            refine dN_block hR46 ?_
            refine dN_seq hR45 ?_
            refine XA_reg_g ?_
            refine RG_end ⟨[(7, .os 1 0 v3.length), (142, .os 1 0 v3.length), (143, .int .i64 (v3.length : Int)), (144, .int .i64 (IntKind.i64.wrap (v4 + 1)))], [(0, .arr 4 (List.map Edt.av a2)), (1, .arr 2 (List.map Src.av v3))], 2⟩ (fun K hK => ?_) (fun s hs => ?_)
            · simp only [go_sem, Nat.reduceBEq, Nat.reduceLT, Nat.reduceLeDiff, Nat.reduceEqDiff, Nat.reduceAdd, Nat.reduceSub, Nat.reduceMul, Int.reduceBEq, Int.reduceBNe, Int.reduceLT, Int.reduceLE, Int.reduceEq, Int.reduceGT, Int.reduceAdd, Int.reduceSub, Int.reduceNeg, Int.reduceToNat, reduceCtorEq, reduceIte, lr4]
              exact hK _ (St.ent_by [0, 1] rfl (Nat.le_of_ble_eq_true rfl) rfl (by decide) (by simp only [push_cast, Nat.reduceEqDiff, Nat.reduceAdd, reduceCtorEq, reduceIte, lr4]) (by simp only [push_cast, Nat.reduceEqDiff, Nat.reduceAdd, reduceCtorEq, reduceIte, lr4]))
            exact dN_seq hR42 ⟨(IntKind.i64.wrap (v4 + 1)), (hs.trans (St.ent_by [0, 1] rfl (Nat.le_of_ble_eq_true rfl) rfl (by decide) (by simp only [push_cast, Nat.reduceEqDiff, Nat.reduceAdd, reduceCtorEq, reduceIte, lr4]) (by simp only [push_cast, Nat.reduceEqDiff, Nat.reduceAdd, reduceCtorEq, reduceIte, lr4]))), h⟩
        · rw [g14, cond_false] at h
          refine XA_exit ?_
          refine dX_seq hR44 ?_
          refine dX_seq hR42 ?_
          refine dE_block hR41 ?_
          refine dN_seq hR39 ?_
          refine XA_seq_st fun R50 hR50 => ?_
          refine XA_reg_g ?_
          refine RG_end ⟨[(4, .os 1 0 v3.length), (5, .int .i64 0)], [(0, .arr 4 (List.map Edt.av a2)), (1, .arr 2 (List.map Src.av v3))], 2⟩ (fun K hK => ?_) (fun s hs => ?_)
          · simp only [go_sem, Nat.reduceBEq, Nat.reduceLT, Nat.reduceLeDiff, Nat.reduceEqDiff, Nat.reduceAdd, Nat.reduceSub, Nat.reduceMul, Int.reduceBEq, Int.reduceBNe, Int.reduceLT, Int.reduceLE, Int.reduceEq, Int.reduceGT, Int.reduceAdd, Int.reduceSub, Int.reduceNeg, Int.reduceToNat, reduceCtorEq, reduceIte, lr4]
            exact hK _ (St.ent_by [0, 1] rfl (Nat.le_of_ble_eq_true rfl) rfl (by decide) (by simp only [push_cast, Nat.reduceEqDiff, Nat.reduceAdd, reduceCtorEq, reduceIte, lr4]) (by simp only [push_cast, Nat.reduceEqDiff, Nat.reduceAdd, reduceCtorEq, reduceIte, lr4]))
          refine dN_seq hR50 (XA_ent hs ?_)
          refine XA_ret ?_
          refine hR0 _ _ ⟨_, St.ent_self, EndPost_ret (v := .tup [.os 1 0 v3.length, .int .i64 0]) (by simp only [go_sem, Nat.reduceBEq, Nat.reduceLT, Nat.reduceLeDiff, Nat.reduceEqDiff, Nat.reduceAdd, Nat.reduceSub, Nat.reduceMul, Int.reduceBEq, Int.reduceBNe, Int.reduceLT, Int.reduceLE, Int.reduceEq, Int.reduceGT, Int.reduceAdd, Int.reduceSub, Int.reduceNeg, Int.reduceToNat, reduceCtorEq, reduceIte]) ?_⟩
          have h := Option.some.inj h; subst h
          exact (St.ent_by [0, 1] rfl (Nat.le_of_ble_eq_true rfl) rfl (by decide) (by simp only [push_cast, Nat.reduceEqDiff, Nat.reduceAdd, reduceCtorEq, reduceIte, lr4]) (by simp only [push_cast, Nat.reduceEqDiff, Nat.reduceAdd, reduceCtorEq, reduceIte, lr4]))
end Go.Proofs
