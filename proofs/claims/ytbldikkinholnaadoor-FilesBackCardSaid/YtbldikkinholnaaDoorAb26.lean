/-
  What the library's contracts say of a callee, taken over; small facts of states.
-/
import Derived.Test.YtbldikkinholnaaDoorAb25
import Derived.Below
namespace Go.Ab
open Go.RowKit
set_option linter.unusedVariables false
set_option linter.unusedSimpArgs false

theorem HasBody.of {P : Program} {f : FuncId} {fn : Func} (h : P.funcs[f]? = some fn) (h2 : (fn.name != "runtime.NumGoroutine" && fn.body.isSome) = true) : HasBody P f := by
  simp only [Bool.and_eq_true, bne_iff_ne, ne_eq] at h2
  exact ⟨fn, h, h2.1, h2.2⟩

theorem below_same {w w' : World} (h : Below w.heap.size w w') : Same w w' := ⟨h.size, h.block⟩

theorem Ext.below {C : Ctx} {φ : Phi} {F : Frz} {σ : Store} {w w' : World} (E : Ext C φ F σ w) (h : Below w.heap.size w w') : Ext C φ F σ w' := by
  refine ⟨h.os.trans E.os, h.tape.trans E.tape, h.output.trans E.output, Nat.le_trans E.size h.size, fun b hb hS => ?_, E.own, E.F0, E.Fnew⟩
  have := E.size
  rw [h.block b (by omega)]
  exact E.kept b hb hS

/-- a callee that hands back a plain value and leaves all as it was -/
theorem CallP_kit {P : Program} {f : FuncId} {args : List AV} {σ : Store} {nx : Nat} {v : AV} {K : Res → Prop} {Kp : AV → Store → Nat → Prop} (hb : HasBody P f)
    (h : ∀ φ F (vs : List Value) w, VRels φ F vs args → HRel φ F σ nx w → Calls P f vs.toArray w fun e w' => ∃ cv, e = .returned cv ∧ FRel F cv v ∧ Below w.heap.size w w') (hk : K (v, σ, nx)) : CallP P f args σ nx K Kp := by
  intro C φ F vs w hvs H E
  rw [callFunc_run hb]
  refine (h φ F vs w hvs H).mono ?_
  rintro e w' ⟨cv, rfl, hv, hB⟩
  exact ⟨φ, F, (v, σ, nx), .refl _, .refl _, .frz hv, H.same (below_same hB), E.below hB, hk⟩

/-! step by step: what comes behind is kept out of sight -/
section
variable {P : Program} {d : Dim} {Q : APost} {st : St} {a b : ACode}
theorem xs_seq_step (h : ∀ K : St → Prop, (∀ s, xs P d b Q s → K s) → xs P d a (AExit.andThen K Q) st) : xs P d (.seq a b) Q st := h _ (fun _ h => h)
theorem xs_post {c : ACode} (h : ∀ Q' : APost, (∀ e s, Q e s → Q' e s) → xs P d c Q' st) : xs P d c Q st := h _ (fun _ _ h => h)
theorem xs_block_step {id : Nat} (h : ∀ R' : APost, (∀ e s, AExit.inBlock id Q e s → R' e s) → xs P d a R' st) : xs P d (.block id a) Q st := h _ (fun _ _ h => h)
theorem xs_reg_step {os : List AOper} (h : ∀ K : St → Prop, (∀ s, Q .normal s → K s) → runs P Q os st K) : xs P d (.reg os) Q st := h _ (fun _ h => h)
theorem runs_step {o : AOper} {os : List AOper} {k : St → Prop} (h : ∀ K : Res → Prop, (∀ r, runs P Q os (st.put o.dst r) k → K r) → runE P Q o st K) : runs P Q (o :: os) st k := h _ (fun _ h => h)
section
variable {G : Type} {S : JS G} {F0 : Frz} {n l : Nat} {Y : Yld G} {R : AExit → St → G → Prop} {g : G}
theorem xj_seq_step (h : ∀ K : St → G → Prop, (∀ s g, xj P S F0 n l Y b R s g → K s g) → xj P S F0 n l Y a (EJthen K R) st g) : xj P S F0 n l Y (.seq a b) R st g := h _ (fun _ _ h => h)
theorem xj_block_step {id : Nat} (h : ∀ R' : AExit → St → G → Prop, (∀ e s g, EJblock id R e s g → R' e s g) → xj P S F0 n l Y a R' st g) : xj P S F0 n l Y (.block id a) R st g := h _ (fun _ _ _ h => h)
theorem xj_reg_step {os : List AOper} (h : ∀ K : St → G → Prop, (∀ s g, R .normal s g → K s g) → runsJ P l Y os st g K) : xj P S F0 n l Y (.reg os) R st g := h _ (fun _ _ h => h)
theorem xj_post {c : ACode} (h : ∀ R' : AExit → St → G → Prop, (∀ e s g, R e s g → R' e s g) → xj P S F0 n l Y c R' st g) : xj P S F0 n l Y c R st g := h _ (fun _ _ _ h => h)
end
end

/-- at the end, too, a state may be taken for another one that says no more -/
theorem X_post_ent {P : Program} {d : Dim} {c : Code} {Q : APost} {st : St} (h : X P d c (fun e s => Q e s ∨ ((∀ v, e ≠ .panic v) ∧ ∃ t, St.ent d s t ∧ Q e t)) st) : X P d c Q st := by
  intro C φ F a w ro hn G
  refine wpIn_mono (h C φ F a w ro hn G) ?_
  rintro e a' w' ⟨φ', F', s, x, h1, h2, G', hx, hq | ⟨hnp, t, he, hq⟩⟩
  · exact ⟨φ', F', s, x, h1, h2, G', hx, hq⟩
  · obtain ⟨φ2, F2, k1, k2, G2⟩ := he C φ' F' a' w' hn G'
    refine ⟨φ2, F2, t, x, h1.trans (by rw [hn]; exact k1), h2.trans k2, G2, ?_, hq⟩
    cases hx with
    | normal => exact .normal
    | exit => exact .exit
    | ret => exact .ret
    | panic hv => exact absurd rfl (hnp _)

theorem XA_post_ent {P : Program} {d : Dim} {c : ACode} {Q : APost} {st : St} (h : XA P d c (fun e s => Q e s ∨ ((∀ v, e ≠ .panic v) ∧ ∃ t, St.ent d s t ∧ Q e t)) st) : XA P d c Q st := fun c' hc => X_post_ent (h c' hc)

end Go.Ab
