/-
  Pure functions, and that the code does what they do: by program.
-/
import Derived.Test.YtbldikkinholnaaDoorF2
import Derived.Test.YtbldikkinholnaaDoorG3
namespace Go.Proofs
open Go Go.Ab
set_option linter.unusedSimpArgs false
set_option linter.unusedVariables false
set_option maxHeartbeats 8000000
def cleanRounds (fuel : Nat) : List (List UInt8) → Option Bool
  | [] => some true
  | p :: ps => ob (cleanBody fuel p) fun b => cond b (cleanRounds fuel ps) (some false)
def clean (fuel : Nat) (s : List UInt8) : Option Bool := cond (decide ((s.length : Int) > 40)) (some false) (cleanRounds fuel (pieces 47 s))

theorem cleanRounds_at {fuel : Nat} : ∀ {l : List (List UInt8)} {k : Nat} {x : List UInt8} {r : Bool}, l[k]? = some x → cleanRounds fuel (l.drop k) = some r → ∃ b, cleanBody fuel x = some b ∧ cond b (cleanRounds fuel (l.drop (k + 1))) (some false) = some r := by
  intro l k x r hx h
  have hk : k < l.length := by
    rcases Nat.lt_or_ge k l.length with h' | h'
    · exact h'
    · simp [List.getElem?_eq_none h'] at hx
  rw [List.drop_eq_getElem_cons hk] at h
  have : l[k] = x := by rw [List.getElem?_eq_getElem hk] at hx; simpa using hx
  rw [this] at h
  exact ob_some h

theorem ok_clean {fuel : Nat} {s : List UInt8} {r : Bool} (h : clean fuel s = some r) : FnOk Tryd.prog 11 [.str s] [] 0 (fun q s k => q = .ret (.bool r) ∧ s = [] ∧ k = 0) := by
  refine FnOk.to (Fn_of_XMA Tryd.func11 Tryd.ntmps11 Tryd.cc11 (by simp) (rs := [.cell 2 1 false]) (by kernel_rfl) ?_)
  unfold clean at h
  unfold Tryd.ac11
  refine XMA_seq (XMA_of_xs mix ?_)
  simp only [go_sem, Nat.reduceBEq, Nat.reduceLT, Nat.reduceLeDiff, Nat.reduceEqDiff, Nat.reduceAdd, Nat.reduceSub, Nat.reduceMul, Int.reduceBEq, Int.reduceBNe, Int.reduceLT, Int.reduceLE, Int.reduceEq, Int.reduceGT, Int.reduceAdd, Int.reduceSub, Int.reduceNeg, Int.reduceToNat, reduceCtorEq, reduceIte, xs, AMthen]
  refine XMA_seq (XMA_of_xs mix ?_)
  refine xs_post fun R hR => ?_
  refine xs_seq_step fun K1 hK1 => ?_
  simp only [go_sem, Nat.reduceBEq, Nat.reduceLT, Nat.reduceLeDiff, Nat.reduceEqDiff, Nat.reduceAdd, Nat.reduceSub, Nat.reduceMul, Int.reduceBEq, Int.reduceBNe, Int.reduceLT, Int.reduceLE, Int.reduceEq, Int.reduceGT, Int.reduceAdd, Int.reduceSub, Int.reduceNeg, Int.reduceToNat, reduceCtorEq, reduceIte, xs]
  refine hK1 _ ?_
  simp only [go_sem, Nat.reduceBEq, Nat.reduceLT, Nat.reduceLeDiff, Nat.reduceEqDiff, Nat.reduceAdd, Nat.reduceSub, Nat.reduceMul, Int.reduceBEq, Int.reduceBNe, Int.reduceLT, Int.reduceLE, Int.reduceEq, Int.reduceGT, Int.reduceAdd, Int.reduceSub, Int.reduceNeg, Int.reduceToNat, reduceCtorEq, reduceIte, xs]
  refine ⟨fun hb => ?_, fun hb => ?_⟩
  · rw [hb, cond_true] at h
    have h := Option.some.inj h; subst h
    refine hR _ _ ?_
    simp only [AMthen, FnPostM, FnPost, go_sem, Nat.reduceBEq, Nat.reduceLT, Nat.reduceLeDiff, Nat.reduceEqDiff, Nat.reduceAdd, Nat.reduceSub, Nat.reduceMul, Int.reduceBEq, Int.reduceBNe, Int.reduceLT, Int.reduceLE, Int.reduceEq, Int.reduceGT, Int.reduceAdd, Int.reduceSub, Int.reduceNeg, Int.reduceToNat, reduceCtorEq, reduceIte]
    exact ⟨_, _, _, _, rfl, (St.ent_by (t := ⟨[(0, .bool false)], [], 0⟩) [] rfl (Nat.le_of_ble_eq_true rfl) rfl (by decide) (by simp only [push_cast, Nat.reduceEqDiff, Nat.reduceAdd, reduceCtorEq, reduceIte]) (by simp only [push_cast, Nat.reduceEqDiff, Nat.reduceAdd, reduceCtorEq, reduceIte])), rfl, rfl, rfl⟩
  · rw [hb, cond_false] at h
    refine hR _ _ ?_
    simp only [AMthen]
    refine XMA_seq ?_
    refine XMA_seq (XMA_of_xs mix ?_)
    simp only [go_sem, Nat.reduceBEq, Nat.reduceLT, Nat.reduceLeDiff, Nat.reduceEqDiff, Nat.reduceAdd, Nat.reduceSub, Nat.reduceMul, Int.reduceBEq, Int.reduceBNe, Int.reduceLT, Int.reduceLE, Int.reduceEq, Int.reduceGT, Int.reduceAdd, Int.reduceSub, Int.reduceNeg, Int.reduceToNat, reduceCtorEq, reduceIte, xs]
    refine CallP_of [] [.str s, .str [47]] [] (.of Tryd.func19 (by kernel_rfl)) (ok_SplitSeq s [47]) rfl trivial rfl List.nodup_nil ?_ (by rintro v σ' nx' ⟨h, _⟩; cases h)
    rintro v σ' nx' ⟨hv, rfl, rfl⟩
    cases hv
    simp only [AMthen, go_sem, Nat.reduceBEq, Nat.reduceLT, Nat.reduceLeDiff, Nat.reduceEqDiff, Nat.reduceAdd, Nat.reduceSub, Nat.reduceMul, Int.reduceBEq, Int.reduceBNe, Int.reduceLT, Int.reduceLE, Int.reduceEq, Int.reduceGT, Int.reduceAdd, Int.reduceSub, Int.reduceNeg, Int.reduceToNat, reduceCtorEq, reduceIte]
    refine XMA_block ?_
    refine XMA_range [1, 2, 3] (fun k σ nx => σ = [(0, .var [.bool false])] ∧ nx = 4 ∧ cleanRounds fuel ((pieces 47 s).drop k) = some r) (fun ex σ nx => ex = .ret ∧ σ = [(0, .var [.bool false])] ∧ nx = 4 ∧ r = false) rfl (.of Tryd.func37 (by kernel_rfl)) (it_split s (by simp at hb; omega)) rfl ?_ (by decide) (by decide) ?_ ?_ ?_ ?_
    · simp [entStore, rho, Store.get, Obj.rn, AV.rn, AV.rns]
    · exact ⟨rfl, rfl, h⟩
    · rintro k σ nx x ⟨rfl, rfl, hok⟩ hx
      obtain ⟨b, hb1, hb2⟩ := cleanRounds_at hx hok
      refine xs_sound mix _ _ _ ?_
      simp only [go_sem, Nat.reduceBEq, Nat.reduceLT, Nat.reduceLeDiff, Nat.reduceEqDiff, Nat.reduceAdd, Nat.reduceSub, Nat.reduceMul, Int.reduceBEq, Int.reduceBNe, Int.reduceLT, Int.reduceLE, Int.reduceEq, Int.reduceGT, Int.reduceAdd, Int.reduceSub, Int.reduceNeg, Int.reduceToNat, reduceCtorEq, reduceIte, xs, AExit.andThen]
      refine XA_post_ent ?_
      refine XA_ent (t := ⟨[(2, .ptr 0 0), (3, .str x)], [(0, .var [.bool false])], 4⟩) (St.ent_by [0, 1, 2, 3] rfl (Nat.le_of_ble_eq_true rfl) rfl (by decide) (by simp only [push_cast, Nat.reduceEqDiff, Nat.reduceAdd, reduceCtorEq, reduceIte]) (by simp only [push_cast, Nat.reduceEqDiff, Nat.reduceAdd, reduceCtorEq, reduceIte])) ?_
      refine ok_cleanBody hb1 (fun e s hs => ?_) (fun e s hs => ?_)
      · subst e
        refine .inr ⟨fun _ e => (by cases e), _, hs, ?_⟩
        exact ⟨rfl, rfl, hb2⟩
      · subst e
        refine .inr ⟨fun _ e => (by cases e), _, hs, ?_⟩
        have e : false = r := Option.some.inj hb2
        subst e
        simp
    · rintro Dm σ nx ⟨rfl, rfl, hok⟩
      rw [List.drop_length] at hok
      have hok := Option.some.inj hok; subst hok
      simp only [AMblock, AMthen]
      refine XMA_of_xs mix ?_
      simp only [FnPostM, FnPost, xs, AExit.andThen, go_sem, Nat.reduceBEq, Nat.reduceLT, Nat.reduceLeDiff, Nat.reduceEqDiff, Nat.reduceAdd, Nat.reduceSub, Nat.reduceMul, Int.reduceBEq, Int.reduceBNe, Int.reduceLT, Int.reduceLE, Int.reduceEq, Int.reduceGT, Int.reduceAdd, Int.reduceSub, Int.reduceNeg, Int.reduceToNat, reduceCtorEq, reduceIte]
      exact ⟨_, _, _, _, rfl, (St.ent_by (t := ⟨[(0, .bool true)], [], 0⟩) [] rfl (Nat.le_of_ble_eq_true rfl) rfl (by decide) (by simp only [push_cast, Nat.reduceEqDiff, Nat.reduceAdd, reduceCtorEq, reduceIte]) (by simp only [push_cast, Nat.reduceEqDiff, Nat.reduceAdd, reduceCtorEq, reduceIte])), rfl, rfl, rfl⟩
    · rintro Dm ex σ nx ⟨rfl, rfl, rfl, rfl⟩ _
      simp only [AMblock, AMthen, FnPostM, FnPost, go_sem, Nat.reduceBEq, Nat.reduceLT, Nat.reduceLeDiff, Nat.reduceEqDiff, Nat.reduceAdd, Nat.reduceSub, Nat.reduceMul, Int.reduceBEq, Int.reduceBNe, Int.reduceLT, Int.reduceLE, Int.reduceEq, Int.reduceGT, Int.reduceAdd, Int.reduceSub, Int.reduceNeg, Int.reduceToNat, reduceCtorEq, reduceIte]
      exact ⟨_, _, _, _, rfl, (St.ent_by (t := ⟨[(0, .bool false)], [], 0⟩) [] rfl (Nat.le_of_ble_eq_true rfl) rfl (by decide) (by simp only [push_cast, Nat.reduceEqDiff, Nat.reduceAdd, reduceCtorEq, reduceIte]) (by simp only [push_cast, Nat.reduceEqDiff, Nat.reduceAdd, reduceCtorEq, reduceIte])), rfl, rfl, rfl⟩

end Go.Proofs
