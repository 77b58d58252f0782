/-
  A region, one operation behind the other; calls by what functions promise.
-/
import Derived.Test.YtbldikkinholnaaDoorAb11
import Derived.Orders
import Derived.CallsIn
namespace Go.Ab
set_option linter.unusedVariables false
set_option linter.unusedSimpArgs false

/-- whether an operation is wanted -/
def guardF (e : Env) : Option (Nat × Bool) → Option Bool
  | none => some true
  | some (s, b) => match e.get s with
    | .bool t => some (t == b)
    | .tup [] => some false
    | _ => none

def St.put (st : St) (d : Option Nat) (r : Res) : St :=
  ⟨st.env.putd d r.1, r.2.1, r.2.2⟩

def CUpon (P : Program) (K : Value → World → Prop) (Kp : List PanicEntry → World → Prop) : Result Next → Prop
  | .ok (.value v) w' => K v w'
  | .ok (.enter f args) w' => Calls P f args w' fun
      | .returned v, w'' => K v w''
      | .panicked ch, w'' => Kp ch w''
      | .outgrown, _ => False
  | _ => False

/-- a call: what comes back -/
def CallP (P : Program) (f : FuncId) (args : List AV) (σ : Store) (nx : Nat) (K : Res → Prop) (Kp : AV → Store → Nat → Prop) : Prop :=
  ∀ C φ F (vs : List Value) w, VRels φ F vs args → HRel φ F σ nx w → Ext C φ F σ w →
    CUpon P (fun v w' => ∃ φ' F' r, Phi.le φ φ' ∧ Frz.le F F' ∧ VRel φ' F' v r.1 ∧ HRel φ' F' r.2.1 r.2.2 w' ∧ Ext C φ' F' r.2.1 w' ∧ K r)
      (fun ch w' => ∃ φ' F' v x σ' nx', ch = [{ v, recovered := false }] ∧ Phi.le φ φ' ∧ Frz.le F F' ∧ VRel φ' F' v x ∧ HRel φ' F' σ' nx' w' ∧ Ext C φ' F' σ' w' ∧ Kp x σ' nx')
      ((callFunc f vs.toArray).run P w)

/-- against nil: which answer -/
def NilAns (m : Nat) (y : AV) (K : Bool → Prop) : Prop := match m, y with
  | 0, .ls es _ => (es ≠ [] → K false) ∧ (es = [] → ∀ b, K b)
  | 0, .os _ _ n => (n ≠ 0 → K false) ∧ (n = 0 → ∀ b, K b)
  | 1, .nilp => K true
  | 1, .ptr _ _ => K false
  | 1, .pel _ _ _ => K false
  | 1, .pf _ => K false
  | 2, .nilf => K true
  | 2, .fn _ _ => K false
  | 2, .raw _ => K false
  | 3, .nili => K true
  | 3, .ifc _ _ => K false
  | _, _ => False

/-- one operation: what it leaves -/
def runE (P : Program) (Q : APost) (o : AOper) (st : St) (k : Res → Prop) : Prop :=
  match guardF st.env o.guard with
  | none => False
  | some false => k (.tup [], st.σ, st.nx)
  | some true =>
    match o.op with
    | .call f args => CallP P f (args.map fun x => x.ev st.env) st.σ st.nx k (fun v σ' nx' => Q (.panic v) ⟨[], σ', nx'⟩)
    | .callv f args => match f.ev st.env with
      | .fn f cs => CallP P f ((args.map fun x => x.ev st.env) ++ cs) st.σ st.nx k (fun v σ' nx' => Q (.panic v) ⟨[], σ', nx'⟩)
      | _ => False
    | .panic x => match x.ev st.env with
      | .ifc t v => Q (.panic (.ifc t v)) ⟨[], st.σ, st.nx⟩
      | _ => False
    | .op op => match opF op st.env st.σ st.nx with
      | some r => k r
      | none => False
    | .nilq m neg x => NilAns m (x.ev st.env) fun b => k (.bool (if neg then !b else b), st.σ, st.nx)

/-- operations in turn -/
def runs (P : Program) (Q : APost) : List AOper → St → (St → Prop) → Prop
  | [], st, k => k st
  | o :: os, st, k => runE P Q o st (fun r => runs P Q os (st.put o.dst r) k)

section
variable {P : Program} {d : Dim} {n : Nat} {Q : APost} {st : St} {C : Ctx} {φ : Phi} {F : Frz} {a : Act} {w : World}

theorem cOper_inv {ops : Array Oper} {o : Oper} {ao : AOper} (h : cOper P n ops o = some ao) :
    cStep P o = some ao.op ∧ ao.dst = o.dst ∧ (∀ t, o.dst = some t → t < n) ∧
      ((o.guard = none ∧ ao.guard = none) ∨ ∃ j b p s, o.guard = some (j, b) ∧ ops[j]? = some p ∧ p.dst = some s ∧ s < n ∧ ao.guard = some (s, b)) := by
  unfold cOper at h
  simp only [Option.bind_eq_bind, Option.bind_eq_some_iff] at h
  obtain ⟨x, hx, g, hg, h⟩ := h
  split at h
  · rename_i hd
    cases h
    refine ⟨hx, rfl, fun t ht => ?_, ?_⟩
    · rw [ht] at hd; simpa [dstOk] using hd
    · unfold cGuard at hg
      split at hg
      · rename_i e; cases hg; exact .inl ⟨e, rfl⟩
      · rename_i j b e
        simp only [Option.bind_eq_bind, Option.bind_eq_some_iff] at hg
        obtain ⟨p, hp, s, hs, hg⟩ := hg
        split at hg
        · rename_i hlt; cases hg; exact .inr ⟨j, b, p, s, e, hp, hs, hlt, rfl⟩
        · cases hg
  · cases h

theorem guard_ok (G : Gam C φ F st a w) (hn : C.d.n = n) {ops : Array Oper} {o : Oper} {ao : AOper} (h : cOper P n ops o = some ao) {t : Bool} (hg : guardF st.env ao.guard = some t) :
    Region.wanted o (yielded ops a.tmps) = t := by
  obtain ⟨_, _, _, ⟨h1, h2⟩ | ⟨j, b, p, s, h1, h2, h3, h4, h5⟩⟩ := cOper_inv h
  · rw [h2] at hg
    cases hg
    simp [Region.wanted, h1]
  · rw [h5] at hg
    simp only [guardF] at hg
    split at hg
    · rename_i u hu
      cases hg
      have he := G.env s
      rw [hu] at he
      have hb := he.bool_inv
      have hlt : s < a.tmps.size := by rw [G.size, hn]; exact h4
      have : a.tmps[s]? = some (.bool u) := by
        rw [Array.getD_eq_getD_getElem?, Array.getElem?_eq_getElem hlt] at hb
        simp at hb
        rw [Array.getElem?_eq_getElem hlt, hb]
      simp [Region.wanted, h1, yielded, h2, h3, this]
    · rename_i hu
      cases hg
      have he := G.env s
      rw [hu] at he
      obtain ⟨xs, hxs, hr⟩ := he.tup_inv
      have hx : xs = #[] := by
        have := hr.length
        exact Array.eq_empty_of_size_eq_zero (by simpa using this)
      subst hx
      have hlt : s < a.tmps.size := by rw [G.size, hn]; exact h4
      have : a.tmps[s]? = some (.tuple #[]) := by
        rw [Array.getD_eq_getD_getElem?, Array.getElem?_eq_getElem hlt] at hxs
        simp at hxs
        rw [Array.getElem?_eq_getElem hlt, hxs]
      simp [Region.wanted, h1, yielded, h2, h3, this]
    · cases hg

theorem upon_call {o : Oper} {next : Act → World → Prop} {Q' : Exit → Act → World → Prop} {r : Result Next} {K : Value → World → Prop} {Kp : List PanicEntry → World → Prop}
    (h : CUpon P K Kp r) (h1 : ∀ v w', K v w' → next (a.put o.dst v) w') (h2 : ∀ ch w', Kp ch w' → Q' (.panic ch) a w') : o.upon P a next Q' r := by
  unfold CUpon at h
  split at h
  · exact h1 _ _ h
  · refine Calls.mono h ?_
    intro e w' he
    cases e with
    | returned v => exact h1 _ _ he
    | panicked ch => exact h2 _ _ he
    | outgrown => exact he.elim
  · exact h.elim

theorem callValue_run {ρ : Operand → Value} {x : Operand} {args : Array Operand} {tys : Array TypeId} {dst : Option Tmp} {type : TypeId} {pos : String} {after : Array Edge} {guard : Option (Nat × Bool)} {f : FuncId} {caps : Array Value}
    (hx : ρ x = .func (.func f) #[] caps) : (execOp ρ ⟨dst, .call ⟨.value x, args, tys⟩, type, pos, after, guard⟩).run P w = (callFunc f (args.map ρ ++ caps)).run P w := by
  simp only [execOp, resolve, hx, Deferred.ofValue, Sem.run_bind, Sem.run_pure, Result.andThen_ok, invoke]
  simp

theorem cNil_inv {o : Oper} {s : AStep} (h : cNil P o = some s) : ∃ op t x v ty m x', o.op = .binOp op t x (.const v) ty ∧ (op = .eql ∨ op = .neq) ∧ s = .nilq m (op = .neq) x' ∧ compOpd x = some x' ∧
    ((m = 0 ∧ (∃ e a b, P.underlying t = some (.slice e) ∧ v = .slice none a b)) ∨ (m = 1 ∧ (∃ e, P.underlying t = some (.pointer e) ∧ v = .pointer none)) ∨
     (m = 2 ∧ (∃ p q r, P.underlying t = some (.func p q r) ∧ v = .nilFunc)) ∨ (m = 3 ∧ (∃ e, P.underlying t = some (.interface e) ∧ v = .nilIface))) := by
  unfold cNil at h
  split at h
  · rename_i op t x v ty e
    split at h
    · rename_i ho
      split at h
      all_goals first | (cases h; done) | skip
      all_goals (simp only [Option.map_eq_some_iff] at h; obtain ⟨x', hx, h⟩ := h; subst h; rename_i hu)
      · exact ⟨op, t, x, _, ty, 0, x', e, ho, rfl, hx, .inl ⟨rfl, _, _, _, hu, rfl⟩⟩
      · exact ⟨op, t, x, _, ty, 1, x', e, ho, rfl, hx, .inr (.inl ⟨rfl, _, hu, rfl⟩)⟩
      · exact ⟨op, t, x, _, ty, 2, x', e, ho, rfl, hx, .inr (.inr (.inl ⟨rfl, _, _, _, hu, rfl⟩))⟩
      · exact ⟨op, t, x, _, ty, 3, x', e, ho, rfl, hx, .inr (.inr (.inr ⟨rfl, _, hu, rfl⟩))⟩
    · cases h
  · cases h

theorem cStep_call {o : Oper} {f : FuncId} {args : List Opd} (h : cStep P o = some (.call f args)) :
    ∃ as tys, o.op = .call ⟨.value (.func f), as, tys⟩ ∧ cOpds as = some args := by
  unfold cStep at h
  split at h
  · rename_i s hs
    obtain ⟨op, t, x, v, ty, m, x', _, _, e, _⟩ := cNil_inv hs
    subst e; cases h
  split at h
  · rename_i g as tys e
    simp only [Option.map_eq_some_iff] at h
    obtain ⟨y, hy, h⟩ := h
    cases h
    exact ⟨_, _, e, hy⟩
  · simp [Option.bind_eq_some_iff] at h
  · simp [Option.map_eq_some_iff] at h
  · simp [Option.map_eq_some_iff] at h

theorem cStep_callv {o : Oper} {f : Opd} {args : List Opd} (h : cStep P o = some (.callv f args)) :
    ∃ x as tys, o.op = .call ⟨.value x, as, tys⟩ ∧ compOpd x = some f ∧ cOpds as = some args := by
  unfold cStep at h
  split at h
  · rename_i s hs
    obtain ⟨op, t, x, v, ty, m, x', _, _, e, _⟩ := cNil_inv hs
    subst e; cases h
  split at h
  · simp [Option.map_eq_some_iff] at h
  · rename_i x as tys _ e
    simp only [Option.pure_def, Option.bind_eq_bind, Option.bind_eq_some_iff] at h
    obtain ⟨f', hf, as', has, h⟩ := h
    cases h
    exact ⟨_, _, _, e, hf, has⟩
  · simp [Option.map_eq_some_iff] at h
  · simp [Option.map_eq_some_iff] at h

theorem cStep_panic {o : Oper} {x : Opd} (h : cStep P o = some (.panic x)) : ∃ y, o.op = .panic y ∧ compOpd y = some x := by
  unfold cStep at h
  split at h
  · rename_i s hs
    obtain ⟨op, t, x, v, ty, m, x', _, _, e, _⟩ := cNil_inv hs
    subst e; cases h
  split at h
  · simp [Option.map_eq_some_iff] at h
  · simp [Option.bind_eq_some_iff] at h
  · rename_i y e
    simp only [Option.map_eq_some_iff] at h
    obtain ⟨y', hy, h⟩ := h
    cases h
    exact ⟨_, e, hy⟩
  · simp [Option.map_eq_some_iff] at h

theorem cStep_op {o : Oper} {x : AOp} (h : cStep P o = some (.op x)) : cOp P o = some x := by
  unfold cStep at h
  split at h
  · rename_i s hs
    obtain ⟨op, t, x, v, ty, m, x', _, _, e, _⟩ := cNil_inv hs
    subst e; cases h
  split at h
  · simp [Option.map_eq_some_iff] at h
  · simp [Option.bind_eq_some_iff] at h
  · simp [Option.map_eq_some_iff] at h
  · simp only [Option.map_eq_some_iff] at h
    obtain ⟨y, hy, h⟩ := h
    cases h
    exact hy

theorem cStep_nil {o : Oper} {m : Nat} {neg : Bool} {x : Opd} (h : cStep P o = some (.nilq m neg x)) : cNil P o = some (.nilq m neg x) := by
  unfold cStep at h
  split at h
  · rename_i s hs; cases h; exact hs
  split at h
  · simp [Option.map_eq_some_iff] at h
  · simp [Option.bind_eq_some_iff] at h
  · simp [Option.map_eq_some_iff] at h
  · simp [Option.map_eq_some_iff] at h

theorem binOp_nil {op : BinOp} {t : TypeId} {y v : Value} (hv : (∃ p q, v = .slice none p q) ∨ v = .pointer none ∨ v = .nilFunc ∨ v = .nilIface) (ho : op = .eql ∨ op = .neq) {b : Bool}
    (h : (Op.equal t y v).run P w = .ok b w) : (binOp op t y v).run P w = .ok (.bool (if op = .neq then !b else b)) w := by
  rcases ho with rfl | rfl <;> rcases hv with ⟨p, q, rfl⟩ | rfl | rfl | rfl <;> cases y <;> simp [binOp, Sem.run_map, h]

theorem equalIn_slice {t e : TypeId} (hu : P.underlying t = some (.slice e)) (d : Nat) (A : Option Addr) (c k p q : Nat) : (Op.equalIn (d + 1) t (.slice A c k) (.slice none p q)).run P w = .ok A.isNone w := by
  simp only [Op.equalIn, Sem.run_bind, run_underlying hu, Result.andThen_ok]
  cases A <;> rfl
theorem equalIn_ptr {t e : TypeId} (hu : P.underlying t = some (.pointer e)) (d : Nat) (A : Option Addr) : (Op.equalIn (d + 1) t (.pointer A) (.pointer none)).run P w = .ok A.isNone w := by
  simp only [Op.equalIn, Sem.run_bind, run_underlying hu, Result.andThen_ok]
  cases A <;> rfl
theorem equalIn_fn {t : TypeId} {p q r} (hu : P.underlying t = some (.func p q r)) (d : Nat) (f : Fn) (x y : Array Value) : (Op.equalIn (d + 1) t (.func f x y) .nilFunc).run P w = .ok false w := by
  simp only [Op.equalIn, Sem.run_bind, run_underlying hu, Result.andThen_ok]; rfl
theorem equalIn_nilf {t : TypeId} {p q r} (hu : P.underlying t = some (.func p q r)) (d : Nat) : (Op.equalIn (d + 1) t .nilFunc .nilFunc).run P w = .ok true w := by
  simp only [Op.equalIn, Sem.run_bind, run_underlying hu, Result.andThen_ok]; rfl
theorem equalIn_ifc {t : TypeId} {e} (hu : P.underlying t = some (.interface e)) (d : Nat) (k : TypeId) (v : Value) : (Op.equalIn (d + 1) t (.iface k v) .nilIface).run P w = .ok false w := by
  simp only [Op.equalIn, Sem.run_bind, run_underlying hu, Result.andThen_ok]; rfl
theorem equalIn_nili {t : TypeId} {e} (hu : P.underlying t = some (.interface e)) (d : Nat) : (Op.equalIn (d + 1) t .nilIface .nilIface).run P w = .ok true w := by
  simp only [Op.equalIn, Sem.run_bind, run_underlying hu, Result.andThen_ok]; rfl

theorem guard_slice {op : BinOp} {t : TypeId} {x y : Operand} {A c k p q} : (eqGuard op t x y (.slice A c k) (.slice none p q)).run P w = .ok () w := by cases op <;> simp [eqGuard]
theorem guard_ptr {op : BinOp} {t : TypeId} {x y : Operand} {A} : (eqGuard op t x y (.pointer A) (.pointer none)).run P w = .ok () w := by cases op <;> simp [eqGuard]
theorem guard_fn {op : BinOp} {t : TypeId} {x y : Operand} {f a b} : (eqGuard op t x y (.func f a b) .nilFunc).run P w = .ok () w := by cases op <;> simp [eqGuard]
theorem guard_nilf {op : BinOp} {t : TypeId} {x y : Operand} : (eqGuard op t x y .nilFunc .nilFunc).run P w = .ok () w := by cases op <;> simp [eqGuard]
theorem guard_ifc {op : BinOp} {t : TypeId} {x y : Operand} {k v} : (eqGuard op t x y (.iface k v) .nilIface).run P w = .ok () w := by cases op <;> simp [eqGuard]
theorem guard_nili {op : BinOp} {t : TypeId} {x : Operand} {v : Value} : (eqGuard op t x (.const v) .nilIface .nilIface).run P w = .ok () w := by cases op <;> simp [eqGuard]

theorem nilAns_ok {op : BinOp} {t : TypeId} {x : Operand} {X v : Value} {y : AV} {m : Nat} {K : Bool → Prop} (hv : VRel φ F X y) (h : NilAns m y K)
    (hcase : (m = 0 ∧ (∃ e a b, P.underlying t = some (.slice e) ∧ v = .slice none a b)) ∨ (m = 1 ∧ (∃ e, P.underlying t = some (.pointer e) ∧ v = .pointer none)) ∨
     (m = 2 ∧ (∃ p q r, P.underlying t = some (.func p q r) ∧ v = .nilFunc)) ∨ (m = 3 ∧ (∃ e, P.underlying t = some (.interface e) ∧ v = .nilIface))) :
    ∃ b, (Op.equal t X v).run P w = .ok b w ∧ (eqGuard op t x (.const v) X v).run P w = .ok () w ∧ K b := by
  rcases hcase with ⟨rfl, el, p, q, hu, rfl⟩ | ⟨rfl, el, hu, rfl⟩ | ⟨rfl, p, q, r, hu, rfl⟩ | ⟨rfl, el, hu, rfl⟩
  · cases y <;> simp only [NilAns] at h
    · rename_i es fl
      obtain ⟨A, cap, rfl, hle, hfl, hne⟩ := hv.ls_inv
      refine ⟨_, by rw [equal_succ]; exact equalIn_slice hu _ _ _ _ _ _, guard_slice, ?_⟩
      by_cases he : es = []
      · exact h.2 he _
      · obtain ⟨b, off, c, sz', rfl, g1, g2, g3⟩ := hne he
        exact h.1 he
    · rename_i l off n
      rcases hv.os_inv with ⟨_, h0, A, rfl⟩ | ⟨b, base, n', sz, cap, ad, _, _, _, rfl⟩
      · exact ⟨_, by rw [equal_succ]; exact equalIn_slice hu _ _ _ _ _ _, guard_slice, h.2 h0 _⟩
      · refine ⟨_, by rw [equal_succ]; exact equalIn_slice hu _ _ _ _ _ _, guard_slice, ?_⟩
        by_cases h0 : n = 0
        · exact h.2 h0 _
        · exact h.1 h0
  · cases y <;> simp only [NilAns] at h
    · cases hv with | frz hv => cases hv; exact ⟨_, by rw [equal_succ]; exact equalIn_ptr hu _ _, guard_ptr, h⟩
    · obtain ⟨b, base, n, sz, _, rfl⟩ := hv.ptr_inv
      exact ⟨_, by rw [equal_succ]; exact equalIn_ptr hu _ _, guard_ptr, h⟩
    · obtain ⟨b, base, n, sz, _, rfl⟩ := hv.pel_inv
      exact ⟨_, by rw [equal_succ]; exact equalIn_ptr hu _ _, guard_ptr, h⟩
    · obtain ⟨b, off, c, _, _, rfl⟩ := hv.pf_inv
      exact ⟨_, by rw [equal_succ]; exact equalIn_ptr hu _ _, guard_ptr, h⟩
  · cases y <;> simp only [NilAns] at h
    · obtain ⟨xs, rfl, _⟩ := hv.fn_inv
      exact ⟨_, by rw [equal_succ]; exact equalIn_fn hu _ _ _ _, guard_fn, h⟩
    · cases hv with | frz hv => cases hv; exact ⟨_, by rw [equal_succ]; exact equalIn_nilf hu _, guard_nilf, h⟩
    · cases hv with | frz hv => cases hv; exact ⟨_, by rw [equal_succ]; exact equalIn_fn hu _ _ _ _, guard_fn, h⟩
  · cases y <;> simp only [NilAns] at h
    · obtain ⟨z, rfl, _⟩ := hv.ifc_inv
      exact ⟨_, by rw [equal_succ]; exact equalIn_ifc hu _ _ _, guard_ifc, h⟩
    · cases hv with | frz hv => cases hv; exact ⟨_, by rw [equal_succ]; exact equalIn_nili hu _, guard_nili, h⟩

theorem nil_run {o : Oper} {op : BinOp} {t ty : TypeId} {x : Operand} {v : Value} {b : Bool} (e : o.op = .binOp op t x (.const v) ty) (ho : op = .eql ∨ op = .neq)
    (hv : (∃ p q, v = .slice none p q) ∨ v = .pointer none ∨ v = .nilFunc ∨ v = .nilIface)
    (h : (Op.equal t (a.eval x) v).run P w = .ok b w) (hg : (eqGuard op t x (.const v) (a.eval x) v).run P w = .ok () w) : (execOp a.eval o).run P w = .ok (.value (.bool (if op = .neq then !b else b))) w := by
  have hev : a.eval (.const v) = v := rfl
  have := binOp_nil hv ho h
  simp only [execOp, e, hev, hg, this, Sem.run_bind, Result.andThen_ok, Sem.run_pure]

/-- the step that is a call -/
theorem step_call (G : Gam C φ F st a w) {o : Oper} {f : FuncId} {vs : List Value} {args : List AV} (hv : VRels φ F vs args) (hrun : (execOp a.eval o).run P w = (callFunc f vs.toArray).run P w) (hd : ∀ t, o.dst = some t → t < C.d.n)
    {k : Res → Prop} (h : CallP P f args st.σ st.nx k (fun v σ' nx' => Q (.panic v) ⟨[], σ', nx'⟩)) {next : Act → World → Prop}
    (hnext : ∀ φ' F' r a' w', Phi.le φ φ' → Frz.le F F' → Gam C φ' F' (st.put o.dst r) a' w' → k r → next a' w') : o.wp P a w next (Lift C φ F Q) := by
  have h := h C φ F vs w hv G.heap G.ext
  unfold Oper.wp
  rw [hrun]
  refine upon_call h ?_ ?_
  · rintro v w' ⟨φ', F', r, h1, h2, h3, h4, h5, h6⟩
    exact hnext φ' F' r _ w' h1 h2 (G.put h1 h2 h4 h5 hd h3) h6
  · rintro ch w' ⟨φ', F', v, x, σ', nx', rfl, h1, h2, h3, h4, h5, h6⟩
    exact ⟨φ', F', ⟨[], σ', nx'⟩, _, h1.toN, h2, ⟨G.size, G.defers, fun t => .frz .any, h4, h5⟩, .panic h3, h6⟩

/-- one operation, in the machine -/
theorem runE_sound {ops : Array Oper} (hn : C.d.n = n) {i : Nat} {o : Oper} (ho : ops[i]? = some o) {ao : AOper} (hao : cOper P n ops o = some ao) (G : Gam C φ F st a w) {k : Res → Prop} (h : runE P Q ao st k)
    {next : Act → World → Prop} (hnext : ∀ φ' F' r a' w', Phi.le φ φ' → Frz.le F F' → Gam C φ' F' (st.put ao.dst r) a' w' → k r → next a' w') : wpOp P ops (Lift C φ F Q) i next a w := by
  obtain ⟨hcop, hdst, hdn, hguard⟩ := cOper_inv hao
  have hd : ∀ t, o.dst = some t → t < C.d.n := by rw [hn]; exact hdn
  simp only [wpOp, ho]
  rw [hdst] at hnext
  simp only [runE] at h
  split at h
  · exact h.elim
  · rename_i hg
    rw [if_neg (by rw [guard_ok G hn hao hg]; simp)]
    exact hnext φ F (.tup [], st.σ, st.nx) _ w (.refl _) (.refl _) (G.put (.refl _) (.refl _) G.heap G.ext hd (v := undef) (av := .tup []) (.frz (.tup .nil))) h
  · rename_i hg
    rw [if_pos (guard_ok G hn hao hg)]
    refine .inl ?_
    split at h
    · rename_i f args hop
      rw [hop] at hcop
      obtain ⟨as, tys, e, has⟩ := cStep_call hcop
      obtain ⟨dst, op, type, pos, after, guard⟩ := o
      simp only at e
      subst e
      have hv := opds_ok G has
      refine step_call G hv ?_ hd h hnext
      rw [callValue_run (x := .func f) (caps := #[]) rfl]
      congr 1
      have : (as.map a.eval ++ #[]) = (as.toList.map a.eval).toArray := Array.toList_inj.1 (by simp)
      rw [this]
    · rename_i f args hop
      rw [hop] at hcop
      obtain ⟨x, as, tys, e, hx, has⟩ := cStep_callv hcop
      obtain ⟨dst, op, type, pos, after, guard⟩ := o
      simp only at e
      subst e
      have hv := opds_ok G has
      split at h
      · rename_i g cs hg'
        have hfv := opd_ok G hx
        rw [hg'] at hfv
        obtain ⟨caps, hcaps, hcr⟩ := hfv.fn_inv
        refine step_call G (hv.append hcr) ?_ hd h hnext
        rw [callValue_run (x := x) (caps := caps) hcaps]
        congr 1
        have : (as.map a.eval ++ caps) = (as.toList.map a.eval ++ caps.toList).toArray := Array.toList_inj.1 (by simp)
        rw [this]
      · exact h.elim
    · rename_i x hop
      rw [hop] at hcop
      obtain ⟨y, e, hy⟩ := cStep_panic hcop
      split at h
      · rename_i t v hv
        have h1 := opd_ok G hy
        rw [hv] at h1
        obtain ⟨u, hu, hur⟩ := h1.ifc_inv
        unfold Oper.wp
        have : (execOp a.eval o).run P w = .halt (.panic (.iface t u)) w := by
          simp [execOp, e, Instr.panic, hu]
        rw [this]
        exact ⟨φ, F, ⟨[], st.σ, st.nx⟩, _, .refl _ _, .refl _, ⟨G.size, G.defers, fun t => .frz .any, G.heap, G.ext⟩, .panic (.ifc hur), h⟩
      · exact h.elim
    · rename_i op hop
      rw [hop] at hcop
      split at h
      · rename_i r hr
        obtain ⟨nxt, cv, w', φ', F', hrun, hcase, h1, h2, h3, h4, h5⟩ := op_sound G (cStep_op hcop) hr
        have hg' := G.put h1 h2 h4 h5 hd h3
        unfold Oper.wp
        rw [hrun]
        rcases hcase with rfl | ⟨rfl, rfl⟩
        · exact hnext φ' F' r _ w' h1 h2 hg' h
        · exact hnext φ' F' r _ w' h1 h2 hg' h
      · exact h.elim
    · rename_i m neg x hop
      rw [hop] at hcop
      obtain ⟨op, t, y, v, ty, m', x', e, hor, e2, hx, hcase⟩ := cNil_inv (cStep_nil hcop)
      simp only [AStep.nilq.injEq] at e2
      obtain ⟨rfl, rfl, rfl⟩ := e2
      have hv := opd_ok G hx
      have hvn : (∃ p q, v = .slice none p q) ∨ v = .pointer none ∨ v = .nilFunc ∨ v = .nilIface := by
        rcases hcase with ⟨_, _, p, q, _, h⟩ | ⟨_, _, _, h⟩ | ⟨_, _, _, _, _, h⟩ | ⟨_, _, _, h⟩
        · exact .inl ⟨p, q, h⟩
        · exact .inr (.inl h)
        · exact .inr (.inr (.inl h))
        · exact .inr (.inr (.inr h))
      obtain ⟨b, h1, h2, h3⟩ := nilAns_ok (op := op) (x := y) (w := w) hv h hcase
      unfold Oper.wp
      rw [nil_run e hor hvn h1 h2]
      have hb : (if decide (op = .neq) = true then !b else b) = (if op = .neq then !b else b) := by simp
      rw [hb] at h3
      exact hnext φ F (.bool (if op = .neq then !b else b), st.σ, st.nx) _ w (.refl _) (.refl _) (G.put (.refl _) (.refl _) G.heap G.ext hd (v := .bool _) (av := .bool _) (.frz .bool)) h3

theorem wpOps_mono {ops : Array Oper} {Q Q' : Exit → Act → World → Prop} (hq : ∀ e a w, Q e a w → Q' e a w) : ∀ (l : List Nat) (a : Act) (w : World), wpOps P ops Q l a w → wpOps P ops Q' l a w := by
  intro l
  induction l with
  | nil => intro a w h; exact hq _ _ _ h
  | cons i l ih =>
    intro a w h
    simp only [wpOps] at h ⊢
    split
    · rename_i e; simp only [e] at h; exact ih _ _ h
    · rename_i o e
      simp only [e] at h
      split
      · rename_i hw
        rw [if_pos hw] at h
        rcases h with h | ⟨h, a', w', h'⟩
        · refine .inl ?_
          unfold Oper.wp at h ⊢
          generalize (execOp a.eval o).run P w = r at h ⊢
          unfold Oper.upon at h ⊢
          split <;> simp only at h
          · exact ih _ _ h
          · exact ih _ _ h
          · exact ih _ _ h
          · refine h.mono fun e w' hh => ?_
            cases e with
            | returned v => exact ih _ _ hh
            | panicked ch => exact hq _ _ _ hh
            | outgrown => obtain ⟨a', w', hh⟩ := hh; exact ⟨a', w', hq _ _ _ hh⟩
          · exact h.mono fun v w' hh => ih _ _ hh
          · exact hq _ _ _ h
        · exact .inr ⟨h, a', w', hq _ _ _ h'⟩
      · rename_i hw
        rw [if_neg hw] at h
        exact ih _ _ h

theorem runs_sound {ops : Array Oper} (hn : C.d.n = n) : ∀ (l : List AOper) (k : Nat) (st : St) (φ : Phi) (F : Frz) (a : Act) (w : World) (K : St → Prop),
    (ops.toList.drop k).mapM (cOper P n ops) = some l → Gam C φ F st a w → (∀ s, K s → Q .normal s) → runs P Q l st K →
      wpOps P ops (Lift C φ F Q) (List.range' k l.length) a w := by
  intro l
  induction l with
  | nil =>
    intro k st φ F a w K hl G hK h
    exact ⟨φ, F, st, _, .refl _ _, .refl _, G, .normal, hK _ h⟩
  | cons ao l ih =>
    intro k st φ F a w K hl G hK h
    have hlt : k < ops.toList.length := by
      rcases Nat.lt_or_ge k ops.toList.length with h | h
      · exact h
      · rw [List.drop_of_length_le h] at hl; simp at hl
    rw [List.drop_eq_getElem_cons hlt] at hl
    simp only [List.mapM_cons, Option.pure_def, Option.bind_eq_bind, Option.bind_eq_some_iff] at hl
    obtain ⟨ao', hao, l', hl', hl⟩ := hl
    cases hl
    generalize ho : ops.toList[k] = o at hao
    have ho' : ops[k]? = some o := by
      have : ops.toList[k]? = some o := by rw [List.getElem?_eq_getElem hlt, ho]
      simpa using this
    rw [List.length_cons, List.range'_succ, wpOps_cons]
    refine runE_sound hn ho' hao G h ?_
    intro φ' F' r a' w' h1 h2 G' hr
    exact wpOps_mono (fun _ _ _ h => h.weak h1.toN h2) _ _ _ (ih (k + 1) _ φ' F' a' w' K hl' G' hK hr)

theorem callsIn_fen {ro : Option Nat} {f : FuncId} {args : Array Value} {w : World} {R : Ending → World → Prop} (h : Calls P f args w R) : CallsIn (fen ro) 0 P f args w R :=
  (callsIn_wide (n := 0)).2 h

theorem no_letsOut {C : Ctx} {φ : Phi} {F : Frz} {Q : APost} (h : LetsOut (Lift C φ F Q)) : False := by
  obtain ⟨a, w, φ', F', st, x, _, _, _, hx, _⟩ := h
  cases hx

theorem rowsIn_fen {ro : Option Nat} {row : String} {args : Array Value} {w : World} {R : Value → World → Prop} (h : Rows P row args w R) : RowsIn (fen ro) 0 P row args w R := by
  intro c cs _
  obtain ⟨v, w', hR, hs⟩ := h c cs
  exact ⟨v, w', hR, stepsIn_wide.2 hs⟩

/-- in a round or not: operations that defer nothing do alike -/
theorem wpOps_fen {ro : Option Nat} {ops : Array Oper} {Q' : Exit → Act → World → Prop} (hQ : ¬ LetsOut Q') (hd : ∀ (i : Nat) o c, ops[i]? = some o → o.op ≠ .defer c) : ∀ (l : List Nat) (a : Act) (w : World), wpOps P ops Q' l a w → wpOpsIn (fen ro) 0 P ops Q' l a w := by
  intro l
  induction l with
  | nil => intro a w h; exact h
  | cons i l ih =>
    intro a w h
    simp only [wpOps, wpOpsIn] at h ⊢
    split
    · rename_i e; simp only [e] at h; exact ih _ _ h
    · rename_i o e
      simp only [e] at h
      split
      · rename_i hw
        rw [if_pos hw] at h
        rcases h with h | ⟨h, a', w', h'⟩
        · refine ⟨fun _ _ => trivial, ?_⟩
          unfold Oper.wp at h
          rw [Oper.semAt_eq _ _ _ (fun c => hd i o c e)]
          generalize (execOp a.eval o).run P w = r at h ⊢
          unfold Oper.upon at h
          unfold Oper.uponIn
          split at h
          · exact ih _ _ h
          · exact ih _ _ h
          · exact ih _ _ h
          · refine ⟨fun h => (by cases h), callsIn_fen (h.mono fun e w' hh => ?_)⟩
            cases e with
            | returned v => exact ih _ _ hh
            | panicked ch => exact hh
            | outgrown => exact hh
          · exact ⟨fun h => (by cases h), rowsIn_fen (h.mono fun v w' hh => ih _ _ hh)⟩
          · exact h
          · exact h.elim
        · exact absurd ⟨a', w', h'⟩ hQ
      · rename_i hw
        rw [if_neg hw] at h
        exact ⟨fun _ _ => trivial, ih _ _ h⟩

theorem cStep_nodefer {o : Oper} {x : AStep} (h : cStep P o = some x) (c : Call) : o.op ≠ .defer c := by
  intro e
  unfold cStep at h
  split at h
  · rename_i s hs
    obtain ⟨op, t, x, v, ty, m, x', e', _⟩ := cNil_inv hs
    rw [e] at e'; cases e'
  rw [e] at h
  simp only [Option.map_eq_some_iff] at h
  obtain ⟨y, hy, _⟩ := h
  unfold cOp at hy
  rw [e] at hy
  simp at hy

theorem cOpers_nodefer {ops : Array Oper} {l : List AOper} (hc : ops.toList.mapM (cOper P n ops) = some l) (i : Nat) (o : Oper) (c : Call) (ho : ops[i]? = some o) : o.op ≠ .defer c := by
  have key : ∀ (xs : List Oper) (ys : List AOper), xs.mapM (cOper P n ops) = some ys → ∀ x ∈ xs, ∃ y, cOper P n ops x = some y := by
    intro xs
    induction xs with
    | nil => intro ys _ x hx; cases hx
    | cons a xs ih =>
      intro ys h x hx
      simp only [List.mapM_cons, Option.pure_def, Option.bind_eq_bind, Option.bind_eq_some_iff] at h
      obtain ⟨y, hy, ys', hys, h⟩ := h
      rcases List.mem_cons.1 hx with rfl | hx
      · exact ⟨y, hy⟩
      · exact ih _ hys x hx
  obtain ⟨hi, e⟩ := Array.getElem?_eq_some_iff.1 ho
  obtain ⟨y, hy⟩ := key _ _ hc o (by rw [← e]; simp)
  exact cStep_nodefer (cOper_inv hy).1 c

theorem X_region {ops : Array Oper} {id : Nat} {l : List AOper} (hc : ops.toList.mapM (cOper P d.n ops) = some l) (h : runs P Q l st (Q .normal)) : X P d (.region id ops false) Q st := by
  intro C φ F a w ro hn' G
  have hn : C.d.n = d.n := by rw [hn']
  refine wpIn_region (wpOps_fen no_letsOut (cOpers_nodefer hc) _ _ _ ?_)
  have hl : l.length = ops.size := by
    have : ∀ (xs : List Oper) (ys : List AOper), xs.mapM (cOper P d.n ops) = some ys → ys.length = xs.length := by
      intro xs
      induction xs with
      | nil => intro ys h; simp at h; subst h; rfl
      | cons x xs ih =>
        intro ys h
        simp only [List.mapM_cons, Option.pure_def, Option.bind_eq_bind, Option.bind_eq_some_iff] at h
        obtain ⟨y, _, ys', h', h⟩ := h
        cases h
        simp [ih _ h']
    simpa using this _ _ hc
  have := runs_sound hn l 0 st φ F a w (Q .normal) (by simpa using hc) G (fun _ h => h) h
  rw [hl, ← List.range_eq_range'] at this
  exact this


/-! calls by what functions promise -/

/-- a Go function: one with a body -/
def HasBody (P : Program) (f : FuncId) : Prop := ∃ fn, P.funcs[f]? = some fn ∧ fn.name ≠ "runtime.NumGoroutine" ∧ fn.body.isSome = true

theorem callFunc_run {f : FuncId} (h : HasBody P f) (args : Array Value) : (callFunc f args).run P w = .ok (.enter f args) w := by
  obtain ⟨fn, h1, h2, h3⟩ := h
  have h4 : fn.body.isNone = false := by
    cases hb : fn.body with
    | none => rw [hb] at h3; cases h3
    | some b => rfl
  have h5 : fn.body ≠ none := by intro e; rw [e] at h3; cases h3
  simp [callFunc, h1, h2, h5]

theorem Blocks_nil {φ : Phi} {b : Nat} : ¬ Blocks φ [] b := by
  rintro ⟨l, o, _, _, _, h, _⟩
  simp [Store.get] at h

/-- names from a number on forgotten -/
def Phi.below (φ : Phi) (n : Nat) : Phi := fun l => if l < n then φ l else none

/-- a function that names nothing: the caller's names stay -/
theorem CallP_pure {f : FuncId} {args : List AV} {σ : Store} {nx : Nat} {v : AV} {K : Res → Prop} {Kp : AV → Store → Nat → Prop} (hb : HasBody P f)
    (h : FnOk P f args [] 0 (fun r σ' _ => r = .ret v)) (hargs : ∀ φ F vs, VRels φ F vs args → FRels F vs args) (hv : ∀ φ F cv, VRel φ F cv v → FRel F cv v) (hk : K (v, σ, nx)) : CallP P f args σ nx K Kp := by
  intro C φ F vs w hvs H E
  rw [callFunc_run hb]
  have hfr := hargs _ _ _ hvs
  have H0 : HRel (fun _ => none) F [] 0 w := ⟨H.frz, fun l o h => by simp [Store.get] at h, fun l l' o o' b n s z m t y h => by simp [Store.get] at h, fun _ _ => rfl⟩
  refine (h w (fun _ => none) F vs hfr.toV H0).mono ?_
  rintro e w' ⟨φ', F', r, σ', nx', h1, h2, H', E', hr, rfl⟩
  cases hr with
  | ret hcv =>
    have hsame : Same w w' := ⟨E'.size, fun b hb => E'.kept b hb Blocks_nil⟩
    have hF0 : ∀ b, F b = none → b < w.heap.size → F' b = none := by
      intro b hb hlt
      cases hf : F' b with
      | none => rfl
      | some c =>
        rcases E'.Fnew b c hf with h | h | h
        · simp only at h; rw [hb] at h; cases h
        · exact absurd h Blocks_nil
        · simp only at h; omega
    refine ⟨φ, F', (v, σ, nx), .refl _, h2, .frz (hv _ _ _ hcv), ?_, ?_, hk⟩
    · refine ⟨fun b c hf => H'.frz b c hf, fun l o hl => ?_, H.inj, H.fresh⟩
      cases H.obj l o hl with
      | virt e1 e2 => exact .virt e1 e2
      | blk e1 e2 e3 e4 => exact .blk e1 (hF0 _ e2 e3.lt) (e3.same hsame) (e4.mono (.refl _) h2)
    · refine ⟨E'.os.trans E.os, E'.tape.trans E.tape, E'.output.trans E.output, Nat.le_trans E.size E'.size, fun b hb hS => ?_, E.own, E.F0.trans h2, fun b c hf => ?_⟩
      · have := E.size
        rw [hsame.2 b (by omega)]
        exact E.kept b hb hS
      · rcases E'.Fnew b c hf with h | h | h
        · exact E.Fnew b c h
        · exact absurd h Blocks_nil
        · have := E.size; exact .inr (.inr (by simp only at h; omega))

end
end Go.Ab
