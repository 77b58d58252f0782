/-
  Code, abstractly: what it comes to, rule by rule; functions by what they promise.
-/
import Derived.Test.YtbldikkinholnaaDoorAb10
import Derived.CallsIn
namespace Go.Ab
set_option linter.unusedVariables false
set_option linter.unusedSimpArgs false

inductive AExit where
  | normal
  | exit (id : Nat)
  | ret
  | panic (v : AV)

inductive ERel (φ : Phi) (F : Frz) : Exit → AExit → Prop
  | normal : ERel φ F .normal .normal
  | exit {id : Nat} : ERel φ F (.exit id) (.exit id)
  | ret : ERel φ F .ret .ret
  | panic {v : Value} {x : AV} : VRel φ F v x → ERel φ F (.panic [{ v, recovered := false }]) (.panic x)

abbrev APost := AExit → St → Prop

/-- the caller's names stay -/
def Phi.leN (N : Nat) (φ φ' : Phi) : Prop := ∀ l b, l < N → φ l = some b → φ' l = some b
theorem Phi.leN.refl (N : Nat) (φ : Phi) : Phi.leN N φ φ := fun _ _ _ h => h
theorem Phi.leN.trans {N : Nat} {a b c : Phi} (h : Phi.leN N a b) (k : Phi.leN N b c) : Phi.leN N a c := fun _ _ hl e => k _ _ hl (h _ _ hl e)
theorem Phi.le.toN {N : Nat} {a b : Phi} (h : Phi.le a b) : Phi.leN N a b := fun _ _ _ e => h _ _ e

def Lift (C : Ctx) (φ : Phi) (F : Frz) (Q : APost) : Exit → Act → World → Prop := fun e a w =>
  ∃ φ' F' st x, Phi.leN C.d.N φ φ' ∧ Frz.le F F' ∧ Gam C φ' F' st a w ∧ ERel φ' F' e x ∧ Q x st

theorem Lift.weak {C : Ctx} {φ φ' : Phi} {F F' : Frz} {Q : APost} (hφ : Phi.leN C.d.N φ φ') (hF : Frz.le F F') {e : Exit} {a : Act} {w : World} (h : Lift C φ' F' Q e a w) : Lift C φ F Q e a w := by
  obtain ⟨φ'', F'', st, x, h1, h2, h3⟩ := h
  exact ⟨φ'', F'', st, x, hφ.trans h1, hF.trans h2, h3⟩

/-- no fence; in a round, or not -/
def fen (ro : Option Nat) : Fence := { Fence.wide with round := ro }

/-- what code comes to, from a state -/
def X (P : Program) (d : Dim) (c : Code) (Q : APost) (st : St) : Prop :=
  ∀ C φ F a w ro, C.d = d → Gam C φ F st a w → c.wpIn (fen ro) 0 P (Lift C φ F Q) a w

section
variable {P : Program} {d : Dim} {Q : APost} {st : St}

theorem X.mono {c : Code} {Q' : APost} (h : X P d c Q st) (hq : ∀ e s, Q e s → Q' e s) : X P d c Q' st :=
  fun C φ F a w ro hn G => wpIn_mono (h C φ F a w ro hn G) fun e a' w' ⟨φ', F', s, x, h1, h2, h3, h4, h5⟩ => ⟨φ', F', s, x, h1, h2, h3, h4, hq _ _ h5⟩

theorem X_skip (h : Q .normal st) : X P d .skip Q st :=
  fun C φ F a w ro hn G => wpIn_skip ⟨φ, F, st, _, .refl _ _, .refl _, G, .normal, h⟩

theorem X_ret (h : Q .ret st) : X P d .ret Q st :=
  fun C φ F a w ro hn G => wpIn_ret ⟨φ, F, st, _, .refl _ _, .refl _, G, .ret, h⟩

theorem X_exit {id : Nat} (h : Q (.exit id) st) : X P d (.exit id) Q st :=
  fun C φ F a w ro hn G => wpIn_exit ⟨φ, F, st, _, .refl _ _, .refl _, G, .exit, h⟩

def AExit.andThen (k : St → Prop) (Q : APost) : APost
  | .normal, s => k s
  | e, s => Q e s

theorem X_seq {x y : Code} (h : X P d x (AExit.andThen (X P d y Q) Q) st) : X P d (.seq x y) Q st := by
  intro C φ F a w ro hn G
  refine wpIn_seq (wpIn_mono (h C φ F a w ro hn G) ?_)
  rintro e a' w' ⟨φ', F', s, x', h1, h2, h3, h4, h5⟩
  cases h4 with
  | normal => exact wpIn_mono (h5 C φ' F' a' w' ro hn h3) fun _ _ _ h => h.weak h1 h2
  | exit => exact ⟨φ', F', s, _, h1, h2, h3, .exit, h5⟩
  | ret => exact ⟨φ', F', s, _, h1, h2, h3, .ret, h5⟩
  | panic hv => exact ⟨φ', F', s, _, h1, h2, h3, .panic hv, h5⟩

theorem X_cond {c : Operand} {x y : Code} {y' : Opd} {b : Bool} (hc : compOpd c = some y') (hd : y'.ev st.env = .bool b) (h : X P d (if b then x else y) Q st) : X P d (.cond c x y) Q st := by
  intro C φ F a w ro hn G
  have h1 := opd_ok G hc
  rw [hd] at h1
  exact wpIn_cond h1.bool_inv (h C φ F a w ro hn G)

def AExit.inBlock (id : Nat) (Q : APost) : APost
  | .exit j, s => if j = id then Q .normal s else Q (.exit j) s
  | e, s => Q e s

theorem X_block {id : Nat} {c : Code} (h : X P d c (AExit.inBlock id Q) st) : X P d (.block id c) Q st := by
  intro C φ F a w ro hn G
  refine wpIn_block (wpIn_mono (h C φ F a w ro hn G) ?_)
  rintro e a' w' ⟨φ', F', s, x', h1, h2, h3, h4, h5⟩
  cases h4 with
  | normal => exact ⟨φ', F', s, _, h1, h2, h3, .normal, h5⟩
  | exit =>
    simp only [AExit.inBlock] at h5
    simp only [Exit.inBlock]
    split at h5
    · rename_i e; rw [if_pos e]; exact ⟨φ', F', s, _, h1, h2, h3, .normal, h5⟩
    · rename_i e; rw [if_neg e]; exact ⟨φ', F', s, _, h1, h2, h3, .exit, h5⟩
  | ret => exact ⟨φ', F', s, _, h1, h2, h3, .ret, h5⟩
  | panic hv => exact ⟨φ', F', s, _, h1, h2, h3, .panic hv, h5⟩

theorem wp_loop_ix {ro : Option Nat} {c : Code} {Q : Exit → Act → World → Prop} (I : Nat → Act → World → Prop) {m : Nat} {a : Act} {w : World} (h₀ : I m a w)
    (round : ∀ m a w, I m a w → c.wpIn (fen ro) 0 P (Exit.then (fun a' w' => ∃ m', m' < m ∧ I m' a' w') Q) a w) : (Code.loop c).wpIn (fen ro) 0 P Q a w := by
  intro b k cs hro hb hr
  have key : ∀ m a w, I m a w → ∃ e a' w', Q e a' w' ∧ ArrivesIn (Machine.fenced P (fen ro)) P (lone (b.atR a (.code c :: .inLoop c :: k)) cs w) b k cs e a' w' := by
    intro m
    induction m using Nat.strongRecOn with
    | _ m ih =>
      intro a w hI
      obtain ⟨e, a₁, w₁, hq, harr⟩ := round m a w hI b (.inLoop c :: k) cs hro hb hr
      cases e with
      | normal =>
        obtain ⟨m', hlt, hI₁⟩ := hq
        obtain ⟨e₂, a₂, w₂, hq₂, harr₂⟩ := ih m' hlt a₁ w₁ hI₁
        exact ⟨e₂, a₂, w₂, hq₂, .of_steps (StepsIn.trans harr (.one (fenced_calm hb hr rfl) stepR_inLoop)) harr₂⟩
      | exit id => exact ⟨_, a₁, w₁, hq, .pass (x := .inLoop c) rfl (fun _ _ => .inl (by simp)) harr⟩
      | goto l => exact ⟨_, a₁, w₁, hq, .pass (x := .inLoop c) rfl (fun _ _ => .inl (by simp)) harr⟩
      | ret => exact ⟨_, a₁, w₁, hq, .pass (x := .inLoop c) rfl (fun _ _ => .inl (by simp)) harr⟩
      | panic ch => exact ⟨_, a₁, w₁, hq, .pass (x := .inLoop c) rfl (fun _ _ => .inl (by simp)) harr⟩
      | outgrown => exact ⟨_, a₁, w₁, hq, .pass (x := .inLoop c) rfl (fun _ _ => .inl (by simp)) harr⟩
  obtain ⟨e, a', w', hq, harr⟩ := key m a w h₀
  exact ⟨e, a', w', hq, .of_steps (.one (fenced_calm hb hr rfl) stepR_loop) harr⟩

/-- a loop: what holds at each round's head, with a number that falls -/
theorem X_loop {c : Code} (I : Nat → St → Prop) {m : Nat} (h0 : I m st) (round : ∀ m s, I m s → X P d c (AExit.andThen (fun s' => ∃ m', m' < m ∧ I m' s') Q) s) : X P d (.loop c) Q st := by
  intro C φ F a w ro hn G
  refine wp_loop_ix (fun m a' w' => ∃ φ' F' s, Phi.leN C.d.N φ φ' ∧ Frz.le F F' ∧ Gam C φ' F' s a' w' ∧ I m s) (m := m) ⟨φ, F, st, .refl _ _, .refl _, G, h0⟩ ?_
  rintro m a' w' ⟨φ', F', s, h1, h2, G', hI⟩
  refine wpIn_mono (round m s hI C φ' F' a' w' ro hn G') ?_
  rintro e a'' w'' ⟨φ'', F'', s'', x, g1, g2, g3, g4, g5⟩
  cases g4 with
  | normal =>
    obtain ⟨m', hm, hI'⟩ := g5
    exact ⟨m', hm, φ'', F'', s'', h1.trans g1, h2.trans g2, g3, hI'⟩
  | exit => exact ⟨φ'', F'', s'', _, h1.trans g1, h2.trans g2, g3, .exit, g5⟩
  | ret => exact ⟨φ'', F'', s'', _, h1.trans g1, h2.trans g2, g3, .ret, g5⟩
  | panic hv => exact ⟨φ'', F'', s'', _, h1.trans g1, h2.trans g2, g3, .panic hv, g5⟩

/-! what a state may be taken for -/

/-- another state that says no more -/
def St.ent (d : Dim) (s t : St) : Prop := ∀ C φ F a w, C.d = d → Gam C φ F s a w → ∃ φ' F', Phi.leN d.N φ φ' ∧ Frz.le F F' ∧ Gam C φ' F' t a w

theorem X_ent {c : Code} {t : St} (h : St.ent d st t) (k : X P d c Q t) : X P d c Q st := by
  intro C φ F a w ro hn G
  obtain ⟨φ', F', h1, h2, G'⟩ := h C φ F a w hn G
  exact wpIn_mono (k C φ' F' a w ro hn G') fun _ _ _ h => h.weak (by rw [hn]; exact h1) h2

/-! functions -/

inductive ARes where
  | ret (v : AV)
  | panic (v : AV)

inductive RRel (φ : Phi) (F : Frz) : Ending → ARes → Prop
  | ret {v : Value} {x : AV} : VRel φ F v x → RRel φ F (.returned v) (.ret x)
  | panic {v : Value} {x : AV} : VRel φ F v x → RRel φ F (.panicked [{ v, recovered := false }]) (.panic x)

/-- the blocks that names have -/
def Blocks (φ : Phi) (σ : Store) : Nat → Prop := fun b => ∃ l o base n sz, σ.get l = some o ∧ φ l = some (.blk b base n sz)

/-- what a function promises: of arguments, and of what they name -/
def FnOk (P : Program) (f : FuncId) (args : List AV) (σ : Store) (nx : Nat) (R : ARes → Store → Nat → Prop) : Prop :=
  ∀ (w : World) (φ : Phi) (F : Frz) (vs : List Value), VRels φ F vs args → HRel φ F σ nx w →
    Calls P f vs.toArray w fun e w' => ∃ φ' F' r σ' nx', Phi.leN nx φ φ' ∧ Frz.le F F' ∧ HRel φ' F' σ' nx' w' ∧ Ext ⟨w, Blocks φ σ, F, ⟨0, 0⟩, []⟩ φ' F' σ' w' ∧ RRel φ' F' e r ∧ R r σ' nx'

theorem FnOk.mono {f : FuncId} {args : List AV} {σ : Store} {nx : Nat} {R R' : ARes → Store → Nat → Prop} (h : FnOk P f args σ nx R) (hr : ∀ r s k, R r s k → R' r s k) : FnOk P f args σ nx R' :=
  fun w φ F vs h1 h2 => (h w φ F vs h1 h2).mono fun e w' ⟨φ', F', r, σ', nx', g1, g2, g3, g4, g5, g6⟩ => ⟨φ', F', r, σ', nx', g1, g2, g3, g4, g5, hr _ _ _ g6⟩

/-- the frame of a call: its arguments in the first slots -/
def argEnv : Nat → List AV → Env
  | _, [] => []
  | i, a :: as => (i, a) :: argEnv (i + 1) as

theorem argEnv_get (as : List AV) : ∀ i t, (argEnv i as).get t = if i ≤ t then (as[t - i]?).getD .any else .any := by
  induction as with
  | nil => intro i t; simp [argEnv, Env.get]
  | cons a as ih =>
    intro i t
    simp only [argEnv, Env.get, ih]
    by_cases h : i = t
    · subst h; simp
    · rw [if_neg h]
      by_cases h2 : i ≤ t
      · rw [if_pos (by omega), if_pos h2, show t - i = (t - (i + 1)) + 1 from by omega]; simp
      · rw [if_neg (by omega), if_neg h2]

/-- a function's results -/
inductive ARV where
  | tmp (t : Nat)
  | cell (a sz : Nat) (agg : Bool)
def cRV (P : Program) : ResultVar → Option ARV
  | .tmp t => some (.tmp t)
  | .cell a t => do
    let d ← P.underlying t
    let i ← P.info? t
    if (isAggD d ∨ i.size = 1) ∧ 0 < i.size then some (.cell a i.size (isAggD d)) else none
def resOneF (st : St) : ARV → Option AV
  | .tmp t => some (st.env.get t)
  | .cell a sz agg => match cellsAt st.σ (st.env.get a) with
    | some cs => if sz ≤ cs.length then bundle agg (cs.take sz) else none
    | none => none
def resAll (st : St) : List ARV → Option (List AV)
  | [] => some []
  | r :: rs => match resOneF st r, resAll st rs with
    | some v, some vs => some (v :: vs)
    | _, _ => none
def resF (rs : List ARV) (st : St) : Option AV :=
  match resAll st rs with
  | some [v] => some v
  | some vs => some (.tup vs)
  | none => none

def resOne (tmps : Array Value) : ResultVar → Sem Value
  | .tmp t => pure (tmps.getD t undef)
  | .cell a t => do loadVar t (← asAddr (tmps.getD a undef))
theorem results_eq (fn : Func) (tmps : Array Value) : results fn tmps = (do let vs ← fn.results.mapM (resOne tmps); pure (if h : vs.size = 1 then vs[0] else .tuple vs)) := by
  unfold results
  congr 1

theorem resAll_ok {C : Ctx} {φ : Phi} {F : Frz} {st : St} {a : Act} {w : World} (G : Gam C φ F st a w) : ∀ (rs : List ResultVar) (ars : List ARV) (vs : List AV), rs.mapM (cRV P) = some ars → resAll st ars = some vs →
    ∃ cvs : List Value, (rs.mapM (resOne a.tmps)).run P w = .ok cvs w ∧ VRels φ F cvs vs := by
  intro rs
  induction rs with
  | nil => intro ars vs h1 h; simp at h1; subst h1; cases h; exact ⟨[], by simp, .nil⟩
  | cons r rs ih =>
    intro ars vs h1 h
    simp only [List.mapM_cons, Option.pure_def, Option.bind_eq_bind, Option.bind_eq_some_iff] at h1
    obtain ⟨ar, har, ars', hars, h1⟩ := h1
    cases h1
    simp only [resAll] at h
    split at h
    · rename_i v vs' hv hvs
      cases h
      obtain ⟨cvs, g1, g2⟩ := ih ars' vs' hars hvs
      have one : ∃ cv, (resOne a.tmps r).run P w = .ok cv w ∧ VRel φ F cv v := by
        cases r with
        | tmp t => cases har; cases hv; exact ⟨_, rfl, G.env t⟩
        | cell k t =>
          simp only [cRV, Option.bind_eq_bind, Option.bind_eq_some_iff] at har
          obtain ⟨d, hd, i, hi, har⟩ := har
          split at har
          · rename_i hcond
            cases har
            simp only [resOneF] at hv
            split at hv
            · rename_i cs hcs
              split at hv
              · rename_i hle
                obtain ⟨b, off, c, e1, e2, e3, e4⟩ := cells_ok G (G.env k) hcs
                obtain ⟨cv, hrun, hrel⟩ := run_loadVar (P := P) (φ := φ) (F := F) hd hi (by simpa using hcond.1) hcond.2 e2 (e3 (by omega)) hle e4 hv
                exact ⟨cv, by simp [resOne, e1, asAddr, hrun], hrel⟩
              · cases hv
            · cases hv
          · cases har
      obtain ⟨cv, k1, k2⟩ := one
      exact ⟨cv :: cvs, by simp only [List.mapM_cons, Sem.run_bind, k1, Result.andThen_ok, g1, Sem.run_pure], .cons k2 g2⟩
    · cases h

theorem Fn_of_X {f : FuncId} {fn : Func} {c : Code} {args : List AV} {σ : Store} {nx : Nat} {R : ARes → Store → Nat → Prop} {rs : List ARV} (hf : P.funcs[f]? = some fn) (hb : fn.body = some c) (hlen : args.length ≤ fn.ntmps)
    (hrs : fn.results.toList.mapM (cRV P) = some rs)
    (h : X P ⟨fn.ntmps, nx⟩ c (fun e s => match e with
      | .normal | .ret => ∃ v, resF rs s = some v ∧ R (.ret v) s.σ s.nx
      | .panic v => R (.panic v) s.σ s.nx
      | .exit _ => False) ⟨argEnv 0 args, σ, nx⟩) : FnOk P f args σ nx R := by
  intro w φ F vs hv H
  have hvl := hv.length
  refine calls_of_wp hf hb (wpIn_wide.1 (wpIn_mono (h ⟨w, Blocks φ σ, F, ⟨fn.ntmps, nx⟩, []⟩ φ F _ w none rfl ?_) ?_))
  · refine ⟨by simp; omega, rfl, fun t => ?_, H, ⟨rfl, rfl, rfl, Nat.le_refl _, fun _ _ _ => rfl, fun l o b base n sz h1 h2 => .inl ⟨l, o, base, n, sz, h1, h2⟩, .refl _, fun _ _ h => .inl h⟩⟩
    rw [argEnv_get]
    simp only [Nat.zero_le, if_true, Nat.sub_zero]
    cases ht : args[t]? with
    | none => exact .frz .any
    | some x =>
      obtain ⟨v, hv1, hv2⟩ := hv.get' ht
      have : (vs.toArray ++ Array.replicate (fn.ntmps - vs.toArray.size) undef).getD t undef = v := by
        have hlt : t < vs.length := by
          rcases Nat.lt_or_ge t vs.length with h | h
          · exact h
          · simp [List.getElem?_eq_none h] at hv1
        rw [Array.getD_eq_getD_getElem?, Array.getElem?_append_left (by simpa using hlt)]
        simp [hv1]
      rw [this]; exact hv2
  · rintro e a' w' ⟨φ', F', s, x, h1, h2, G, h4, h5⟩
    have E : Ext ⟨w, Blocks φ σ, F, ⟨0, 0⟩, []⟩ φ' F' s.σ w' := ⟨G.ext.os, G.ext.tape, G.ext.output, G.ext.size, G.ext.kept, G.ext.own, G.ext.F0, G.ext.Fnew⟩
    have fin : ∀ v, resF rs s = some v → ∃ cv, (results fn a'.tmps).run P w' = .ok cv w' ∧ VRel φ' F' cv v := by
      intro v hr
      have hm : ∀ cvs : List Value, (fn.results.toList.mapM (resOne a'.tmps)).run P w' = .ok cvs w' → (results fn a'.tmps).run P w' = .ok (if h : cvs.toArray.size = 1 then cvs.toArray[0] else .tuple cvs.toArray) w' := by
        intro cvs h
        rw [results_eq, Sem.run_bind, Array.mapM_eq_mapM_toList, Sem.run_map, h]
        simp
      unfold resF at hr
      split at hr
      · rename_i v' hvs
        cases hr
        obtain ⟨cvs, g1, g2⟩ := resAll_ok G _ _ _ hrs hvs
        have := hm cvs g1
        cases g2 with | cons q1 q2 =>
        cases q2
        exact ⟨_, this, by simpa using q1⟩
      · rename_i vs' hne hvs
        cases hr
        obtain ⟨cvs, g1, g2⟩ := resAll_ok G _ _ _ hrs hvs
        have := hm cvs g1
        have hl1 := g2.length
        have hn1 : ¬ cvs.toArray.size = 1 := by
          intro h
          have h1 : vs'.length = 1 := by simp at h; omega
          obtain ⟨r, hr⟩ := List.length_eq_one_iff.1 h1
          exact hne r hr
        rw [dif_neg hn1] at this
        exact ⟨_, this, .tup (by simpa using g2)⟩
      · cases hr
    cases h4 with
    | normal =>
      obtain ⟨v, hr, hR⟩ := h5
      obtain ⟨cv, k1, k2⟩ := fin v hr
      exact ⟨G.defers, cv, k1, φ', F', .ret v, s.σ, s.nx, h1, h2, G.heap, E, .ret k2, hR⟩
    | ret =>
      obtain ⟨v, hr, hR⟩ := h5
      obtain ⟨cv, k1, k2⟩ := fin v hr
      exact ⟨G.defers, cv, k1, φ', F', .ret v, s.σ, s.nx, h1, h2, G.heap, E, .ret k2, hR⟩
    | exit => exact h5.elim
    | panic hv => exact ⟨G.defers, φ', F', .panic _, s.σ, s.nx, h1, h2, G.heap, E, .panic hv, h5⟩

end
end Go.Ab
