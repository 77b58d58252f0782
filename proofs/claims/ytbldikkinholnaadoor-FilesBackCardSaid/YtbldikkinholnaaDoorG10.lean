/-
  Pure functions, and that the code does what they do: by program.
-/
import Derived.Test.YtbldikkinholnaaDoorG9
import Derived.Test.YtbldikkinholnaaDoorG7
import Derived.Test.YtbldikkinholnaaDoorG7b
namespace Go.Proofs
open Go Go.Ab
set_option linter.unusedSimpArgs false
set_option linter.unusedVariables false
set_option maxHeartbeats 8000000
def alive (fuel : Nat) : Option (Bool) :=
  (ob (changeO fuel [(⟨[97, 47, 98, 46, 104], [120, 121, 122]⟩ : Src), (⟨[109, 97, 105, 110, 46, 99], [105, 110, 116]⟩ : Src)] [(⟨0, 1, 2, [81]⟩ : Edt)]) fun r1 => (ob (cond ((r1.2 == 0) && ((r1.1.length : Int) == 2)) (ob (rd r1.1 0) fun x1 => (some (x1.text == ([120, 81, 122] : List UInt8)))) (some false)) fun y1 => (ob (cond y1 (ob (find fuel [(⟨[97, 47, 98, 46, 104], [120, 121, 122]⟩ : Src), (⟨[109, 97, 105, 110, 46, 99], [105, 110, 116]⟩ : Src)] [109, 97, 105, 110, 46, 99]) fun r2 => (some (r2 == 1))) (some false)) fun y2 => (ob (cond y2 (ob (beside fuel [97, 47, 98, 46, 104] [46, 46, 47, 109, 97, 105, 110, 46, 99]) fun r3 => (some (r3 == ([109, 97, 105, 110, 46, 99] : List UInt8)))) (some false)) fun y3 => (ob (cond y3 (ob (inclF fuel [(⟨[97, 47, 98, 46, 104], [120, 121, 122]⟩ : Src), (⟨[109, 97, 105, 110, 46, 99], [105, 110, 116]⟩ : Src)] 0 [98, 46, 104] true) fun r4 => (some (r4 == 0))) (some false)) fun y4 => (ob (cond y4 (ob (clean fuel [97]) fun r5 => (some r5)) (some false)) fun y5 => (ob (cond y5 (ob (wrong fuel [(⟨[97, 47, 98, 46, 104], [120, 121, 122]⟩ : Src), (⟨[109, 97, 105, 110, 46, 99], [105, 110, 116]⟩ : Src)]) fun r6 => (some (r6.err == 0))) (some false)) fun y6 => (some y6))))))))

theorem ok_alive {fuel : Nat} {r : Bool} (h : alive fuel = some r) : FnOk Tryd.prog 6 [] [] 0 (fun q s k => q = .ret (.bool r) ∧ s = [] ∧ k = 0) := by
  refine Fn_by Tryd.func6 Tryd.ntmps6 Tryd.cc6 (Nat.le_of_ble_eq_true rfl) (rs := [.tmp 0]) (by kernel_rfl) (fun R0 hR0 => ?_)
  unfold alive at h
  unfold Tryd.ac6
  refine (show XA _ _ _ _ ⟨[], [], 0⟩ from ?_)
  refine XA_seq_st fun R1 hR1 => ?_
  refine XA_reg_g ?_
  refine RG_end ⟨[], [], 0⟩ (fun K hK => ?_) (fun s hs => ?_)
  · simp only [go_sem, Nat.reduceBEq, Nat.reduceLT, Nat.reduceLeDiff, Nat.reduceEqDiff, Nat.reduceAdd, Nat.reduceSub, Nat.reduceMul, Int.reduceBEq, Int.reduceBNe, Int.reduceLT, Int.reduceLE, Int.reduceEq, Int.reduceGT, Int.reduceAdd, Int.reduceSub, Int.reduceNeg, Int.reduceToNat, reduceCtorEq, reduceIte]
    exact hK _ (St.ent_by [] rfl (Nat.le_of_ble_eq_true rfl) rfl (by decide) (by simp only [push_cast, Nat.reduceEqDiff, Nat.reduceAdd, reduceCtorEq, reduceIte]) (by simp only [push_cast, Nat.reduceEqDiff, Nat.reduceAdd, reduceCtorEq, reduceIte]))
  refine dN_seq hR1 (XA_ent hs ?_)
  refine XA_seq_st fun R2 hR2 => ?_
  refine XA_reg_g ?_
  refine RG_end ⟨[(1, .os 0 0 ([(⟨[97, 47, 98, 46, 104], [120, 121, 122]⟩ : Src), (⟨[109, 97, 105, 110, 46, 99], [105, 110, 116]⟩ : Src)].length))], [(0, .arr 2 (List.map Src.av [(⟨[97, 47, 98, 46, 104], [120, 121, 122]⟩ : Src), (⟨[109, 97, 105, 110, 46, 99], [105, 110, 116]⟩ : Src)]))], 1⟩ (fun K hK => ?_) (fun s hs => ?_)
  · simp only [go_sem, Nat.reduceBEq, Nat.reduceLT, Nat.reduceLeDiff, Nat.reduceEqDiff, Nat.reduceAdd, Nat.reduceSub, Nat.reduceMul, Int.reduceBEq, Int.reduceBNe, Int.reduceLT, Int.reduceLE, Int.reduceEq, Int.reduceGT, Int.reduceAdd, Int.reduceSub, Int.reduceNeg, Int.reduceToNat, reduceCtorEq, reduceIte]
    exact hK _ (St.ent_by [0] rfl (Nat.le_of_ble_eq_true rfl) rfl (by decide) (by simp only [push_cast, Nat.reduceEqDiff, Nat.reduceAdd, reduceCtorEq, reduceIte]) (by simp only [push_cast, Nat.reduceEqDiff, Nat.reduceAdd, reduceCtorEq, reduceIte]))
  refine dN_seq hR2 (XA_ent hs ?_)
  refine XA_seq_st fun R3 hR3 => ?_
  refine XA_reg_g ?_
  refine RG_ent ((St.ent_fz (l := 0) (o := .arr 2 (List.map Src.av [(⟨[97, 47, 98, 46, 104], [120, 121, 122]⟩ : Src), (⟨[109, 97, 105, 110, 46, 99], [105, 110, 116]⟩ : Src)])) rfl (by simp only [push_cast, Nat.reduceEqDiff, Nat.reduceAdd, reduceCtorEq, reduceIte, List.take_of_length_le])).trans (St.ent_by (t := ⟨[(1, .ls (List.map Src.av [(⟨[97, 47, 98, 46, 104], [120, 121, 122]⟩ : Src), (⟨[109, 97, 105, 110, 46, 99], [105, 110, 116]⟩ : Src)]) false)], [], 0⟩) [] rfl (Nat.le_of_ble_eq_true rfl) rfl (by decide) (by simp only [push_cast, Nat.reduceEqDiff, Nat.reduceAdd, reduceCtorEq, reduceIte, List.take_of_length_le]) (by simp only [push_cast, Nat.reduceEqDiff, Nat.reduceAdd, reduceCtorEq, reduceIte, List.take_of_length_le]))) ?_
  obtain ⟨r1, hr1, h⟩ := ob_some h
  refine RG_end ⟨[(1, .ls (List.map Src.av [(⟨[97, 47, 98, 46, 104], [120, 121, 122]⟩ : Src), (⟨[109, 97, 105, 110, 46, 99], [105, 110, 116]⟩ : Src)]) false), (2, .os 0 0 r1.1.length), (3, .int .i64 r1.2)], [(0, .arr 2 (List.map Src.av r1.1))], 1⟩ (fun K hK => ?_) (fun s hs => ?_)
  · refine runs_cut 3 fun K1 hK1 => ?_
    simp only [go_sem, Nat.reduceBEq, Nat.reduceLT, Nat.reduceLeDiff, Nat.reduceEqDiff, Nat.reduceAdd, Nat.reduceSub, Nat.reduceMul, Int.reduceBEq, Int.reduceBNe, Int.reduceLT, Int.reduceLE, Int.reduceEq, Int.reduceGT, Int.reduceAdd, Int.reduceSub, Int.reduceNeg, Int.reduceToNat, reduceCtorEq, reduceIte]
    refine hK1 _ ?_
    simp only [List.take_succ_cons, List.take_zero, List.drop_succ_cons, List.drop_zero]
    refine runs_call rfl rfl (CallP.wk (CallP_of [0] _ _ (.of Tryd.func7 (by kernel_rfl)) (ok_changeO hr1) (by simp only [go_sem, Nat.reduceBEq, Nat.reduceLT, Nat.reduceLeDiff, Nat.reduceEqDiff, Nat.reduceAdd, Nat.reduceSub, Nat.reduceMul, Int.reduceBEq, Int.reduceBNe, Int.reduceLT, Int.reduceLE, Int.reduceEq, Int.reduceGT, Int.reduceAdd, Int.reduceSub, Int.reduceNeg, Int.reduceToNat, reduceCtorEq, reduceIte]) (by simp only [push_cast, Nat.reduceEqDiff, Nat.reduceAdd, reduceCtorEq, reduceIte, entStore]) rfl (by decide) ?_ (by rintro _ _ _ ⟨hv, _⟩; cases hv)))
    rintro _ _ _ ⟨hv, rfl, rfl⟩
    cases hv
    simp only [go_sem, Nat.reduceBEq, Nat.reduceLT, Nat.reduceLeDiff, Nat.reduceEqDiff, Nat.reduceAdd, Nat.reduceSub, Nat.reduceMul, Int.reduceBEq, Int.reduceBNe, Int.reduceLT, Int.reduceLE, Int.reduceEq, Int.reduceGT, Int.reduceAdd, Int.reduceSub, Int.reduceNeg, Int.reduceToNat, reduceCtorEq, reduceIte]
    exact hK _ (St.ent_by [1] rfl (Nat.le_of_ble_eq_true rfl) rfl (by decide) (by simp only [push_cast, Nat.reduceEqDiff, Nat.reduceAdd, reduceCtorEq, reduceIte]) (by simp only [push_cast, Nat.reduceEqDiff, Nat.reduceAdd, reduceCtorEq, reduceIte]))
  refine dN_seq hR3 (XA_ent hs ?_)
  refine XA_seq_st fun R4 hR4 => ?_
  refine XA_reg_g ?_
  refine RG_cut 7 ⟨[(1, .ls (List.map Src.av [(⟨[97, 47, 98, 46, 104], [120, 121, 122]⟩ : Src), (⟨[109, 97, 105, 110, 46, 99], [105, 110, 116]⟩ : Src)]) false), (2, .os 0 0 r1.1.length), (20, .bool ((r1.2 == 0) && ((r1.1.length : Int) == 2)))], [(0, .arr 2 (List.map Src.av r1.1))], 1⟩ (fun K hK => ?_) ?_
  · refine runs_cut 3 fun K2 hK2 => ?_
    simp only [go_sem, Nat.reduceBEq, Nat.reduceLT, Nat.reduceLeDiff, Nat.reduceEqDiff, Nat.reduceAdd, Nat.reduceSub, Nat.reduceMul, Int.reduceBEq, Int.reduceBNe, Int.reduceLT, Int.reduceLE, Int.reduceEq, Int.reduceGT, Int.reduceAdd, Int.reduceSub, Int.reduceNeg, Int.reduceToNat, reduceCtorEq, reduceIte]
    refine hK2 _ ?_
    simp only [List.take_succ_cons, List.take_zero, List.drop_succ_cons, List.drop_zero]
    rcases bool_or (r1.2 == 0) with g1 | g1
    · simp only [go_sem, Nat.reduceBEq, Nat.reduceLT, Nat.reduceLeDiff, Nat.reduceEqDiff, Nat.reduceAdd, Nat.reduceSub, Nat.reduceMul, Int.reduceBEq, Int.reduceBNe, Int.reduceLT, Int.reduceLE, Int.reduceEq, Int.reduceGT, Int.reduceAdd, Int.reduceSub, Int.reduceNeg, Int.reduceToNat, reduceCtorEq, reduceIte, g1]
      exact hK _ (St.ent_by [0] rfl (Nat.le_of_ble_eq_true rfl) rfl (by decide) (by simp only [push_cast, Nat.reduceEqDiff, Nat.reduceAdd, reduceCtorEq, reduceIte, g1]) (by simp only [push_cast, Nat.reduceEqDiff, Nat.reduceAdd, reduceCtorEq, reduceIte, g1]))
    · simp only [go_sem, Nat.reduceBEq, Nat.reduceLT, Nat.reduceLeDiff, Nat.reduceEqDiff, Nat.reduceAdd, Nat.reduceSub, Nat.reduceMul, Int.reduceBEq, Int.reduceBNe, Int.reduceLT, Int.reduceLE, Int.reduceEq, Int.reduceGT, Int.reduceAdd, Int.reduceSub, Int.reduceNeg, Int.reduceToNat, reduceCtorEq, reduceIte, g1]
      exact hK _ (St.ent_by [0] rfl (Nat.le_of_ble_eq_true rfl) rfl (by decide) (by simp only [push_cast, Nat.reduceEqDiff, Nat.reduceAdd, reduceCtorEq, reduceIte, g1]) (by simp only [push_cast, Nat.reduceEqDiff, Nat.reduceAdd, reduceCtorEq, reduceIte, g1]))
  simp only [List.take_succ_cons, List.take_zero, List.drop_succ_cons, List.drop_zero]
  obtain ⟨y1, hy1, h⟩ := ob_some h
  refine RG_cut 7 ⟨[(1, .ls (List.map Src.av [(⟨[97, 47, 98, 46, 104], [120, 121, 122]⟩ : Src), (⟨[109, 97, 105, 110, 46, 99], [105, 110, 116]⟩ : Src)]) false), (27, .bool y1)], [], 0⟩ (fun K hK => ?_) ?_
  · refine runs_cut 1 fun K3 hK3 => ?_
    simp only [go_sem, Nat.reduceBEq, Nat.reduceLT, Nat.reduceLeDiff, Nat.reduceEqDiff, Nat.reduceAdd, Nat.reduceSub, Nat.reduceMul, Int.reduceBEq, Int.reduceBNe, Int.reduceLT, Int.reduceLE, Int.reduceEq, Int.reduceGT, Int.reduceAdd, Int.reduceSub, Int.reduceNeg, Int.reduceToNat, reduceCtorEq, reduceIte]
    refine hK3 _ ?_
    simp only [List.take_succ_cons, List.take_zero, List.drop_succ_cons, List.drop_zero]
    rcases bool_or ((r1.2 == 0) && ((r1.1.length : Int) == 2)) with g2 | g2
    · rw [g2, cond_true] at hy1
      obtain ⟨x1, hx1, hy1⟩ := ob_some hy1
      have ix1 := rd_in hx1
      have gx1 := rd_get hx1
      try simp only [Int.reduceToNat, Int.toNat_natCast] at gx1
      have hy := Option.some.inj hy1
      subst hy
      simp only [go_sem, Nat.reduceBEq, Nat.reduceLT, Nat.reduceLeDiff, Nat.reduceEqDiff, Nat.reduceAdd, Nat.reduceSub, Nat.reduceMul, Int.reduceBEq, Int.reduceBNe, Int.reduceLT, Int.reduceLE, Int.reduceEq, Int.reduceGT, Int.reduceAdd, Int.reduceSub, Int.reduceNeg, Int.reduceToNat, reduceCtorEq, reduceIte, ix1, gx1, g2]
      exact hK _ (St.ent_by [] rfl (Nat.le_of_ble_eq_true rfl) rfl (by decide) (by simp only [push_cast, Nat.reduceEqDiff, Nat.reduceAdd, reduceCtorEq, reduceIte, g2]) (by simp only [push_cast, Nat.reduceEqDiff, Nat.reduceAdd, reduceCtorEq, reduceIte, g2]))
    · rw [g2, cond_false] at hy1
      have hy := Option.some.inj hy1
      subst hy
      simp only [go_sem, Nat.reduceBEq, Nat.reduceLT, Nat.reduceLeDiff, Nat.reduceEqDiff, Nat.reduceAdd, Nat.reduceSub, Nat.reduceMul, Int.reduceBEq, Int.reduceBNe, Int.reduceLT, Int.reduceLE, Int.reduceEq, Int.reduceGT, Int.reduceAdd, Int.reduceSub, Int.reduceNeg, Int.reduceToNat, reduceCtorEq, reduceIte, g2]
      exact hK _ (St.ent_by [] rfl (Nat.le_of_ble_eq_true rfl) rfl (by decide) (by simp only [push_cast, Nat.reduceEqDiff, Nat.reduceAdd, reduceCtorEq, reduceIte, g2]) (by simp only [push_cast, Nat.reduceEqDiff, Nat.reduceAdd, reduceCtorEq, reduceIte, g2]))
  simp only [List.take_succ_cons, List.take_zero, List.drop_succ_cons, List.drop_zero]
  obtain ⟨y2, hy2, h⟩ := ob_some h
  refine RG_cut 5 ⟨[(1, .ls (List.map Src.av [(⟨[97, 47, 98, 46, 104], [120, 121, 122]⟩ : Src), (⟨[109, 97, 105, 110, 46, 99], [105, 110, 116]⟩ : Src)]) false), (32, .bool y2)], [], 0⟩ (fun K hK => ?_) ?_
  · refine runs_cut 1 fun K4 hK4 => ?_
    simp only [go_sem, Nat.reduceBEq, Nat.reduceLT, Nat.reduceLeDiff, Nat.reduceEqDiff, Nat.reduceAdd, Nat.reduceSub, Nat.reduceMul, Int.reduceBEq, Int.reduceBNe, Int.reduceLT, Int.reduceLE, Int.reduceEq, Int.reduceGT, Int.reduceAdd, Int.reduceSub, Int.reduceNeg, Int.reduceToNat, reduceCtorEq, reduceIte]
    refine hK4 _ ?_
    simp only [List.take_succ_cons, List.take_zero, List.drop_succ_cons, List.drop_zero]
    rcases bool_or y1 with g3 | g3
    · rw [g3, cond_true] at hy2
      obtain ⟨r2, hr2, hy2⟩ := ob_some hy2
      refine runs_cut 1 fun K5 hK5 => ?_
      simp only [go_sem, Nat.reduceBEq, Nat.reduceLT, Nat.reduceLeDiff, Nat.reduceEqDiff, Nat.reduceAdd, Nat.reduceSub, Nat.reduceMul, Int.reduceBEq, Int.reduceBNe, Int.reduceLT, Int.reduceLE, Int.reduceEq, Int.reduceGT, Int.reduceAdd, Int.reduceSub, Int.reduceNeg, Int.reduceToNat, reduceCtorEq, reduceIte, g3]
      refine hK5 _ ?_
      simp only [List.take_succ_cons, List.take_zero, List.drop_succ_cons, List.drop_zero]
      refine runs_call rfl (by simp only [go_sem, Nat.reduceBEq, Nat.reduceLT, Nat.reduceLeDiff, Nat.reduceEqDiff, Nat.reduceAdd, Nat.reduceSub, Nat.reduceMul, Int.reduceBEq, Int.reduceBNe, Int.reduceLT, Int.reduceLE, Int.reduceEq, Int.reduceGT, Int.reduceAdd, Int.reduceSub, Int.reduceNeg, Int.reduceToNat, reduceCtorEq, reduceIte, g3]) (CallP.wk (CallP_of [] _ _ (.of Tryd.func13 (by kernel_rfl)) (ok_find hr2) (by simp only [go_sem, Nat.reduceBEq, Nat.reduceLT, Nat.reduceLeDiff, Nat.reduceEqDiff, Nat.reduceAdd, Nat.reduceSub, Nat.reduceMul, Int.reduceBEq, Int.reduceBNe, Int.reduceLT, Int.reduceLE, Int.reduceEq, Int.reduceGT, Int.reduceAdd, Int.reduceSub, Int.reduceNeg, Int.reduceToNat, reduceCtorEq, reduceIte, g3]) (by simp only [push_cast, Nat.reduceEqDiff, Nat.reduceAdd, reduceCtorEq, reduceIte, entStore, g3]) rfl (by decide) ?_ (by rintro _ _ _ ⟨hv, _⟩; cases hv)))
      rintro _ _ _ ⟨hv, rfl, rfl⟩
      cases hv
      have hy := Option.some.inj hy2
      subst hy
      simp only [go_sem, Nat.reduceBEq, Nat.reduceLT, Nat.reduceLeDiff, Nat.reduceEqDiff, Nat.reduceAdd, Nat.reduceSub, Nat.reduceMul, Int.reduceBEq, Int.reduceBNe, Int.reduceLT, Int.reduceLE, Int.reduceEq, Int.reduceGT, Int.reduceAdd, Int.reduceSub, Int.reduceNeg, Int.reduceToNat, reduceCtorEq, reduceIte, g3]
      exact hK _ (St.ent_by [] rfl (Nat.le_of_ble_eq_true rfl) rfl (by decide) (by simp only [push_cast, Nat.reduceEqDiff, Nat.reduceAdd, reduceCtorEq, reduceIte, g3]) (by simp only [push_cast, Nat.reduceEqDiff, Nat.reduceAdd, reduceCtorEq, reduceIte, g3]))
    · rw [g3, cond_false] at hy2
      have hy := Option.some.inj hy2
      subst hy
      simp only [go_sem, Nat.reduceBEq, Nat.reduceLT, Nat.reduceLeDiff, Nat.reduceEqDiff, Nat.reduceAdd, Nat.reduceSub, Nat.reduceMul, Int.reduceBEq, Int.reduceBNe, Int.reduceLT, Int.reduceLE, Int.reduceEq, Int.reduceGT, Int.reduceAdd, Int.reduceSub, Int.reduceNeg, Int.reduceToNat, reduceCtorEq, reduceIte, g3]
      exact hK _ (St.ent_by [] rfl (Nat.le_of_ble_eq_true rfl) rfl (by decide) (by simp only [push_cast, Nat.reduceEqDiff, Nat.reduceAdd, reduceCtorEq, reduceIte, g3]) (by simp only [push_cast, Nat.reduceEqDiff, Nat.reduceAdd, reduceCtorEq, reduceIte, g3]))
  simp only [List.take_succ_cons, List.take_zero, List.drop_succ_cons, List.drop_zero]
  obtain ⟨y3, hy3, h⟩ := ob_some h
  refine RG_cut 4 ⟨[(1, .ls (List.map Src.av [(⟨[97, 47, 98, 46, 104], [120, 121, 122]⟩ : Src), (⟨[109, 97, 105, 110, 46, 99], [105, 110, 116]⟩ : Src)]) false), (36, .bool y3)], [], 0⟩ (fun K hK => ?_) ?_
  · refine runs_cut 1 fun K6 hK6 => ?_
    simp only [go_sem, Nat.reduceBEq, Nat.reduceLT, Nat.reduceLeDiff, Nat.reduceEqDiff, Nat.reduceAdd, Nat.reduceSub, Nat.reduceMul, Int.reduceBEq, Int.reduceBNe, Int.reduceLT, Int.reduceLE, Int.reduceEq, Int.reduceGT, Int.reduceAdd, Int.reduceSub, Int.reduceNeg, Int.reduceToNat, reduceCtorEq, reduceIte]
    refine hK6 _ ?_
    simp only [List.take_succ_cons, List.take_zero, List.drop_succ_cons, List.drop_zero]
    rcases bool_or y2 with g4 | g4
    · rw [g4, cond_true] at hy3
      obtain ⟨r3, hr3, hy3⟩ := ob_some hy3
      refine runs_call rfl (by simp only [go_sem, Nat.reduceBEq, Nat.reduceLT, Nat.reduceLeDiff, Nat.reduceEqDiff, Nat.reduceAdd, Nat.reduceSub, Nat.reduceMul, Int.reduceBEq, Int.reduceBNe, Int.reduceLT, Int.reduceLE, Int.reduceEq, Int.reduceGT, Int.reduceAdd, Int.reduceSub, Int.reduceNeg, Int.reduceToNat, reduceCtorEq, reduceIte, g4]) (CallP.wk (CallP_of [] _ _ (.of Tryd.func10 (by kernel_rfl)) (ok_beside hr3) (by simp only [go_sem, Nat.reduceBEq, Nat.reduceLT, Nat.reduceLeDiff, Nat.reduceEqDiff, Nat.reduceAdd, Nat.reduceSub, Nat.reduceMul, Int.reduceBEq, Int.reduceBNe, Int.reduceLT, Int.reduceLE, Int.reduceEq, Int.reduceGT, Int.reduceAdd, Int.reduceSub, Int.reduceNeg, Int.reduceToNat, reduceCtorEq, reduceIte, g4]) (by simp only [push_cast, Nat.reduceEqDiff, Nat.reduceAdd, reduceCtorEq, reduceIte, entStore, g4]) rfl (by decide) ?_ (by rintro _ _ _ ⟨hv, _⟩; cases hv)))
      rintro _ _ _ ⟨hv, rfl, rfl⟩
      cases hv
      have hy := Option.some.inj hy3
      subst hy
      simp only [go_sem, Nat.reduceBEq, Nat.reduceLT, Nat.reduceLeDiff, Nat.reduceEqDiff, Nat.reduceAdd, Nat.reduceSub, Nat.reduceMul, Int.reduceBEq, Int.reduceBNe, Int.reduceLT, Int.reduceLE, Int.reduceEq, Int.reduceGT, Int.reduceAdd, Int.reduceSub, Int.reduceNeg, Int.reduceToNat, reduceCtorEq, reduceIte, g4]
      exact hK _ (St.ent_by [] rfl (Nat.le_of_ble_eq_true rfl) rfl (by decide) (by simp only [push_cast, Nat.reduceEqDiff, Nat.reduceAdd, reduceCtorEq, reduceIte, g4]) (by simp only [push_cast, Nat.reduceEqDiff, Nat.reduceAdd, reduceCtorEq, reduceIte, g4]))
    · rw [g4, cond_false] at hy3
      have hy := Option.some.inj hy3
      subst hy
      simp only [go_sem, Nat.reduceBEq, Nat.reduceLT, Nat.reduceLeDiff, Nat.reduceEqDiff, Nat.reduceAdd, Nat.reduceSub, Nat.reduceMul, Int.reduceBEq, Int.reduceBNe, Int.reduceLT, Int.reduceLE, Int.reduceEq, Int.reduceGT, Int.reduceAdd, Int.reduceSub, Int.reduceNeg, Int.reduceToNat, reduceCtorEq, reduceIte, g4]
      exact hK _ (St.ent_by [] rfl (Nat.le_of_ble_eq_true rfl) rfl (by decide) (by simp only [push_cast, Nat.reduceEqDiff, Nat.reduceAdd, reduceCtorEq, reduceIte, g4]) (by simp only [push_cast, Nat.reduceEqDiff, Nat.reduceAdd, reduceCtorEq, reduceIte, g4]))
  simp only [List.take_succ_cons, List.take_zero, List.drop_succ_cons, List.drop_zero]
  obtain ⟨y4, hy4, h⟩ := ob_some h
  refine RG_cut 5 ⟨[(1, .ls (List.map Src.av [(⟨[97, 47, 98, 46, 104], [120, 121, 122]⟩ : Src), (⟨[109, 97, 105, 110, 46, 99], [105, 110, 116]⟩ : Src)]) false), (41, .bool y4)], [], 0⟩ (fun K hK => ?_) ?_
  · refine runs_cut 1 fun K7 hK7 => ?_
    simp only [go_sem, Nat.reduceBEq, Nat.reduceLT, Nat.reduceLeDiff, Nat.reduceEqDiff, Nat.reduceAdd, Nat.reduceSub, Nat.reduceMul, Int.reduceBEq, Int.reduceBNe, Int.reduceLT, Int.reduceLE, Int.reduceEq, Int.reduceGT, Int.reduceAdd, Int.reduceSub, Int.reduceNeg, Int.reduceToNat, reduceCtorEq, reduceIte]
    refine hK7 _ ?_
    simp only [List.take_succ_cons, List.take_zero, List.drop_succ_cons, List.drop_zero]
    rcases bool_or y3 with g5 | g5
    · rw [g5, cond_true] at hy4
      obtain ⟨r4, hr4, hy4⟩ := ob_some hy4
      refine runs_cut 1 fun K8 hK8 => ?_
      simp only [go_sem, Nat.reduceBEq, Nat.reduceLT, Nat.reduceLeDiff, Nat.reduceEqDiff, Nat.reduceAdd, Nat.reduceSub, Nat.reduceMul, Int.reduceBEq, Int.reduceBNe, Int.reduceLT, Int.reduceLE, Int.reduceEq, Int.reduceGT, Int.reduceAdd, Int.reduceSub, Int.reduceNeg, Int.reduceToNat, reduceCtorEq, reduceIte, g5]
      refine hK8 _ ?_
      simp only [List.take_succ_cons, List.take_zero, List.drop_succ_cons, List.drop_zero]
      refine runs_call rfl (by simp only [go_sem, Nat.reduceBEq, Nat.reduceLT, Nat.reduceLeDiff, Nat.reduceEqDiff, Nat.reduceAdd, Nat.reduceSub, Nat.reduceMul, Int.reduceBEq, Int.reduceBNe, Int.reduceLT, Int.reduceLE, Int.reduceEq, Int.reduceGT, Int.reduceAdd, Int.reduceSub, Int.reduceNeg, Int.reduceToNat, reduceCtorEq, reduceIte, g5]) (CallP.wk (CallP_of [] _ _ (.of Tryd.func12 (by kernel_rfl)) (ok_inclF hr4) (by simp only [go_sem, Nat.reduceBEq, Nat.reduceLT, Nat.reduceLeDiff, Nat.reduceEqDiff, Nat.reduceAdd, Nat.reduceSub, Nat.reduceMul, Int.reduceBEq, Int.reduceBNe, Int.reduceLT, Int.reduceLE, Int.reduceEq, Int.reduceGT, Int.reduceAdd, Int.reduceSub, Int.reduceNeg, Int.reduceToNat, reduceCtorEq, reduceIte, g5]) (by simp only [push_cast, Nat.reduceEqDiff, Nat.reduceAdd, reduceCtorEq, reduceIte, entStore, g5]) rfl (by decide) ?_ (by rintro _ _ _ ⟨hv, _⟩; cases hv)))
      rintro _ _ _ ⟨hv, rfl, rfl⟩
      cases hv
      have hy := Option.some.inj hy4
      subst hy
      simp only [go_sem, Nat.reduceBEq, Nat.reduceLT, Nat.reduceLeDiff, Nat.reduceEqDiff, Nat.reduceAdd, Nat.reduceSub, Nat.reduceMul, Int.reduceBEq, Int.reduceBNe, Int.reduceLT, Int.reduceLE, Int.reduceEq, Int.reduceGT, Int.reduceAdd, Int.reduceSub, Int.reduceNeg, Int.reduceToNat, reduceCtorEq, reduceIte, g5]
      exact hK _ (St.ent_by [] rfl (Nat.le_of_ble_eq_true rfl) rfl (by decide) (by simp only [push_cast, Nat.reduceEqDiff, Nat.reduceAdd, reduceCtorEq, reduceIte, g5]) (by simp only [push_cast, Nat.reduceEqDiff, Nat.reduceAdd, reduceCtorEq, reduceIte, g5]))
    · rw [g5, cond_false] at hy4
      have hy := Option.some.inj hy4
      subst hy
      simp only [go_sem, Nat.reduceBEq, Nat.reduceLT, Nat.reduceLeDiff, Nat.reduceEqDiff, Nat.reduceAdd, Nat.reduceSub, Nat.reduceMul, Int.reduceBEq, Int.reduceBNe, Int.reduceLT, Int.reduceLE, Int.reduceEq, Int.reduceGT, Int.reduceAdd, Int.reduceSub, Int.reduceNeg, Int.reduceToNat, reduceCtorEq, reduceIte, g5]
      exact hK _ (St.ent_by [] rfl (Nat.le_of_ble_eq_true rfl) rfl (by decide) (by simp only [push_cast, Nat.reduceEqDiff, Nat.reduceAdd, reduceCtorEq, reduceIte, g5]) (by simp only [push_cast, Nat.reduceEqDiff, Nat.reduceAdd, reduceCtorEq, reduceIte, g5]))
  simp only [List.take_succ_cons, List.take_zero, List.drop_succ_cons, List.drop_zero]
  obtain ⟨y5, hy5, h⟩ := ob_some h
  refine RG_cut 3 ⟨[(1, .ls (List.map Src.av [(⟨[97, 47, 98, 46, 104], [120, 121, 122]⟩ : Src), (⟨[109, 97, 105, 110, 46, 99], [105, 110, 116]⟩ : Src)]) false), (44, .bool y5)], [], 0⟩ (fun K hK => ?_) ?_
  · refine runs_cut 1 fun K9 hK9 => ?_
    simp only [go_sem, Nat.reduceBEq, Nat.reduceLT, Nat.reduceLeDiff, Nat.reduceEqDiff, Nat.reduceAdd, Nat.reduceSub, Nat.reduceMul, Int.reduceBEq, Int.reduceBNe, Int.reduceLT, Int.reduceLE, Int.reduceEq, Int.reduceGT, Int.reduceAdd, Int.reduceSub, Int.reduceNeg, Int.reduceToNat, reduceCtorEq, reduceIte]
    refine hK9 _ ?_
    simp only [List.take_succ_cons, List.take_zero, List.drop_succ_cons, List.drop_zero]
    rcases bool_or y4 with g6 | g6
    · rw [g6, cond_true] at hy5
      obtain ⟨r5, hr5, hy5⟩ := ob_some hy5
      refine runs_call rfl (by simp only [go_sem, Nat.reduceBEq, Nat.reduceLT, Nat.reduceLeDiff, Nat.reduceEqDiff, Nat.reduceAdd, Nat.reduceSub, Nat.reduceMul, Int.reduceBEq, Int.reduceBNe, Int.reduceLT, Int.reduceLE, Int.reduceEq, Int.reduceGT, Int.reduceAdd, Int.reduceSub, Int.reduceNeg, Int.reduceToNat, reduceCtorEq, reduceIte, g6]) (CallP.wk (CallP_of [] _ _ (.of Tryd.func11 (by kernel_rfl)) (ok_clean hr5) (by simp only [go_sem, Nat.reduceBEq, Nat.reduceLT, Nat.reduceLeDiff, Nat.reduceEqDiff, Nat.reduceAdd, Nat.reduceSub, Nat.reduceMul, Int.reduceBEq, Int.reduceBNe, Int.reduceLT, Int.reduceLE, Int.reduceEq, Int.reduceGT, Int.reduceAdd, Int.reduceSub, Int.reduceNeg, Int.reduceToNat, reduceCtorEq, reduceIte, g6]) (by simp only [push_cast, Nat.reduceEqDiff, Nat.reduceAdd, reduceCtorEq, reduceIte, entStore, g6]) rfl (by decide) ?_ (by rintro _ _ _ ⟨hv, _⟩; cases hv)))
      rintro _ _ _ ⟨hv, rfl, rfl⟩
      cases hv
      have hy := Option.some.inj hy5
      subst hy
      simp only [go_sem, Nat.reduceBEq, Nat.reduceLT, Nat.reduceLeDiff, Nat.reduceEqDiff, Nat.reduceAdd, Nat.reduceSub, Nat.reduceMul, Int.reduceBEq, Int.reduceBNe, Int.reduceLT, Int.reduceLE, Int.reduceEq, Int.reduceGT, Int.reduceAdd, Int.reduceSub, Int.reduceNeg, Int.reduceToNat, reduceCtorEq, reduceIte, g6]
      exact hK _ (St.ent_by [] rfl (Nat.le_of_ble_eq_true rfl) rfl (by decide) (by simp only [push_cast, Nat.reduceEqDiff, Nat.reduceAdd, reduceCtorEq, reduceIte, g6]) (by simp only [push_cast, Nat.reduceEqDiff, Nat.reduceAdd, reduceCtorEq, reduceIte, g6]))
    · rw [g6, cond_false] at hy5
      have hy := Option.some.inj hy5
      subst hy
      simp only [go_sem, Nat.reduceBEq, Nat.reduceLT, Nat.reduceLeDiff, Nat.reduceEqDiff, Nat.reduceAdd, Nat.reduceSub, Nat.reduceMul, Int.reduceBEq, Int.reduceBNe, Int.reduceLT, Int.reduceLE, Int.reduceEq, Int.reduceGT, Int.reduceAdd, Int.reduceSub, Int.reduceNeg, Int.reduceToNat, reduceCtorEq, reduceIte, g6]
      exact hK _ (St.ent_by [] rfl (Nat.le_of_ble_eq_true rfl) rfl (by decide) (by simp only [push_cast, Nat.reduceEqDiff, Nat.reduceAdd, reduceCtorEq, reduceIte, g6]) (by simp only [push_cast, Nat.reduceEqDiff, Nat.reduceAdd, reduceCtorEq, reduceIte, g6]))
  simp only [List.take_succ_cons, List.take_zero, List.drop_succ_cons, List.drop_zero]
  obtain ⟨y6, hy6, h⟩ := ob_some h
  refine RG_cut 6 ⟨[(50, .bool y6)], [], 0⟩ (fun K hK => ?_) ?_
  · refine runs_cut 1 fun K10 hK10 => ?_
    simp only [go_sem, Nat.reduceBEq, Nat.reduceLT, Nat.reduceLeDiff, Nat.reduceEqDiff, Nat.reduceAdd, Nat.reduceSub, Nat.reduceMul, Int.reduceBEq, Int.reduceBNe, Int.reduceLT, Int.reduceLE, Int.reduceEq, Int.reduceGT, Int.reduceAdd, Int.reduceSub, Int.reduceNeg, Int.reduceToNat, reduceCtorEq, reduceIte]
    refine hK10 _ ?_
    simp only [List.take_succ_cons, List.take_zero, List.drop_succ_cons, List.drop_zero]
    rcases bool_or y5 with g7 | g7
    · rw [g7, cond_true] at hy6
      obtain ⟨r6, hr6, hy6⟩ := ob_some hy6
      refine runs_cut 1 fun K11 hK11 => ?_
      simp only [go_sem, Nat.reduceBEq, Nat.reduceLT, Nat.reduceLeDiff, Nat.reduceEqDiff, Nat.reduceAdd, Nat.reduceSub, Nat.reduceMul, Int.reduceBEq, Int.reduceBNe, Int.reduceLT, Int.reduceLE, Int.reduceEq, Int.reduceGT, Int.reduceAdd, Int.reduceSub, Int.reduceNeg, Int.reduceToNat, reduceCtorEq, reduceIte, g7]
      refine hK11 _ ?_
      simp only [List.take_succ_cons, List.take_zero, List.drop_succ_cons, List.drop_zero]
      refine runs_call rfl (by simp only [go_sem, Nat.reduceBEq, Nat.reduceLT, Nat.reduceLeDiff, Nat.reduceEqDiff, Nat.reduceAdd, Nat.reduceSub, Nat.reduceMul, Int.reduceBEq, Int.reduceBNe, Int.reduceLT, Int.reduceLE, Int.reduceEq, Int.reduceGT, Int.reduceAdd, Int.reduceSub, Int.reduceNeg, Int.reduceToNat, reduceCtorEq, reduceIte, g7]) (CallP.wk (CallP_of [] _ _ (.of Tryd.func9 (by kernel_rfl)) (ok_wrong hr6) (by simp only [go_sem, Nat.reduceBEq, Nat.reduceLT, Nat.reduceLeDiff, Nat.reduceEqDiff, Nat.reduceAdd, Nat.reduceSub, Nat.reduceMul, Int.reduceBEq, Int.reduceBNe, Int.reduceLT, Int.reduceLE, Int.reduceEq, Int.reduceGT, Int.reduceAdd, Int.reduceSub, Int.reduceNeg, Int.reduceToNat, reduceCtorEq, reduceIte, g7]) (by simp only [push_cast, Nat.reduceEqDiff, Nat.reduceAdd, reduceCtorEq, reduceIte, entStore, g7]) rfl (by decide) ?_ (by rintro _ _ _ ⟨hv, _⟩; cases hv)))
      rintro _ _ _ ⟨hv, rfl, rfl⟩
      cases hv
      have hy := Option.some.inj hy6
      subst hy
      simp only [go_sem, Nat.reduceBEq, Nat.reduceLT, Nat.reduceLeDiff, Nat.reduceEqDiff, Nat.reduceAdd, Nat.reduceSub, Nat.reduceMul, Int.reduceBEq, Int.reduceBNe, Int.reduceLT, Int.reduceLE, Int.reduceEq, Int.reduceGT, Int.reduceAdd, Int.reduceSub, Int.reduceNeg, Int.reduceToNat, reduceCtorEq, reduceIte, g7]
      exact hK _ (St.ent_by [] rfl (Nat.le_of_ble_eq_true rfl) rfl (by decide) (by simp only [push_cast, Nat.reduceEqDiff, Nat.reduceAdd, reduceCtorEq, reduceIte, g7]) (by simp only [push_cast, Nat.reduceEqDiff, Nat.reduceAdd, reduceCtorEq, reduceIte, g7]))
    · rw [g7, cond_false] at hy6
      have hy := Option.some.inj hy6
      subst hy
      simp only [go_sem, Nat.reduceBEq, Nat.reduceLT, Nat.reduceLeDiff, Nat.reduceEqDiff, Nat.reduceAdd, Nat.reduceSub, Nat.reduceMul, Int.reduceBEq, Int.reduceBNe, Int.reduceLT, Int.reduceLE, Int.reduceEq, Int.reduceGT, Int.reduceAdd, Int.reduceSub, Int.reduceNeg, Int.reduceToNat, reduceCtorEq, reduceIte, g7]
      exact hK _ (St.ent_by [] rfl (Nat.le_of_ble_eq_true rfl) rfl (by decide) (by simp only [push_cast, Nat.reduceEqDiff, Nat.reduceAdd, reduceCtorEq, reduceIte, g7]) (by simp only [push_cast, Nat.reduceEqDiff, Nat.reduceAdd, reduceCtorEq, reduceIte, g7]))
  simp only [List.take_succ_cons, List.take_zero, List.drop_succ_cons, List.drop_zero]
  refine RG_end ⟨[(0, .bool y6)], [], 0⟩ (fun K hK => ?_) (fun s hs => ?_)
  · simp only [go_sem, Nat.reduceBEq, Nat.reduceLT, Nat.reduceLeDiff, Nat.reduceEqDiff, Nat.reduceAdd, Nat.reduceSub, Nat.reduceMul, Int.reduceBEq, Int.reduceBNe, Int.reduceLT, Int.reduceLE, Int.reduceEq, Int.reduceGT, Int.reduceAdd, Int.reduceSub, Int.reduceNeg, Int.reduceToNat, reduceCtorEq, reduceIte]
    exact hK _ (St.ent_by [] rfl (Nat.le_of_ble_eq_true rfl) rfl (by decide) (by simp only [push_cast, Nat.reduceEqDiff, Nat.reduceAdd, reduceCtorEq, reduceIte]) (by simp only [push_cast, Nat.reduceEqDiff, Nat.reduceAdd, reduceCtorEq, reduceIte]))
  refine dN_seq hR4 (XA_ent hs ?_)
  refine XA_ret ?_
  refine hR0 _ _ ⟨_, St.ent_self, EndPost_ret (v := .bool y6) (by simp only [go_sem, Nat.reduceBEq, Nat.reduceLT, Nat.reduceLeDiff, Nat.reduceEqDiff, Nat.reduceAdd, Nat.reduceSub, Nat.reduceMul, Int.reduceBEq, Int.reduceBNe, Int.reduceLT, Int.reduceLE, Int.reduceEq, Int.reduceGT, Int.reduceAdd, Int.reduceSub, Int.reduceNeg, Int.reduceToNat, reduceCtorEq, reduceIte]) ?_⟩
  have h := Option.some.inj h; subst h
  exact (St.ent_by [] rfl (Nat.le_of_ble_eq_true rfl) rfl (by decide) (by simp only [push_cast, Nat.reduceEqDiff, Nat.reduceAdd, reduceCtorEq, reduceIte]) (by simp only [push_cast, Nat.reduceEqDiff, Nat.reduceAdd, reduceCtorEq, reduceIte]))
end Go.Proofs
