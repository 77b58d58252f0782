/-
  Steps of code between states that are written out; pure functions that may fail, and what they tell.
-/
import Derived.Test.YtbldikkinholnaaDoorAb27
namespace Go.Ab
set_option linter.unusedVariables false
set_option linter.unusedSimpArgs false

section
variable {P : Program} {d : Dim} {Q R : APost} {st : St} {a b : ACode}

theorem XA_seq_st (h : ∀ R : APost, (∀ e s, AExit.andThen (fun s => XA P d b Q s) Q e s → R e s) → XA P d a R st) : XA P d (.seq a b) Q st := XA_seq (h _ (fun _ _ h => h))
theorem XA_block_st {id : Nat} (h : ∀ R : APost, (∀ e s, AExit.inBlock id Q e s → R e s) → XA P d a R st) : XA P d (.block id a) Q st := XA_block (h _ (fun _ _ h => h))

theorem XA_skip (h : Q .normal st) : XA P d .skip Q st := by
  intro c' hc
  cases c' with
  | skip => exact X_skip h
  | region id ops dr => cases dr <;> simp [cCode, Option.bind_eq_some_iff] at hc
  | _ => simp [cCode, Option.bind_eq_some_iff] at hc
theorem XA_ret (h : Q .ret st) : XA P d .ret Q st := by
  intro c' hc
  cases c' with
  | ret => exact X_ret h
  | region id ops dr => cases dr <;> simp [cCode, Option.bind_eq_some_iff] at hc
  | _ => simp [cCode, Option.bind_eq_some_iff] at hc
theorem XA_exit {id : Nat} (h : Q (.exit id) st) : XA P d (.exit id) Q st := by
  intro c' hc
  cases c' with
  | exit id' => simp [cCode] at hc; subst hc; exact X_exit h
  | region id ops dr => cases dr <;> simp [cCode, Option.bind_eq_some_iff] at hc
  | _ => simp [cCode, Option.bind_eq_some_iff] at hc

theorem XA_reg_to {os : List AOper} (t : St) (h1 : ∀ K : St → Prop, (∀ s, St.ent d s t → K s) → runs P R os st K) (h2 : ∀ s, St.ent d s t → R .normal s) : XA P d (.reg os) R st :=
  XA_reg (h1 _ h2)
theorem XA_regd_to {os : List DI} (hm : P.follows .mixedOrders = true) (t : St) (h1 : ∀ K : St → Prop, (∀ s, St.ent d s t → K s) → runsD P R os st K) (h2 : ∀ s, St.ent d s t → R .normal s) : XA P d (.regd os) R st :=
  XA_regd hm (h1 _ h2)

/-- the same, where a question is open -/
theorem XA_reg_any {ι : Type} {os : List AOper} (t : ι → St) (p : ι → Prop) (h1 : ∀ K : St → Prop, (∀ i, p i → ∀ s, St.ent d s (t i) → K s) → runs P R os st K) (h2 : ∀ i, p i → ∀ s, St.ent d s (t i) → R .normal s) : XA P d (.reg os) R st :=
  XA_reg (h1 _ h2)

/-- what is left of a region -/
def RG (P : Program) (d : Dim) (Q : APost) (l : List AOper) (st : St) : Prop :=
  ∀ C φ F a w (ops : Array Oper) (k : Nat), C.d = d → (ops.toList.drop k).mapM (cOper P d.n ops) = some l → Gam C φ F st a w → wpOps P ops (Lift C φ F Q) (List.range' k l.length) a w

theorem RG_runs : ∀ (l1 : List AOper) (st : St) {l2 : List AOper}, runs P Q l1 st (fun s => RG P d Q l2 s) → RG P d Q (l1 ++ l2) st := by
  intro l1
  induction l1 with
  | nil => intro st l2 h; exact h
  | cons ao l ih =>
    intro st l2 h C φ F a w ops k hd hl G
    have hn : C.d.n = d.n := by rw [hd]
    have hlt : k < ops.toList.length := by
      rcases Nat.lt_or_ge k ops.toList.length with h | h
      · exact h
      · rw [List.drop_of_length_le h] at hl; simp at hl
    rw [List.drop_eq_getElem_cons hlt] at hl
    simp only [List.mapM_cons, Option.pure_def, Option.bind_eq_bind, Option.bind_eq_some_iff] at hl
    obtain ⟨ao', hao, l', hl', hl⟩ := hl
    cases hl
    generalize ho : ops.toList[k] = o at hao
    have ho' : ops[k]? = some o := by
      have : ops.toList[k]? = some o := by rw [List.getElem?_eq_getElem hlt, ho]
      simpa using this
    rw [List.cons_append, List.length_cons, List.range'_succ, wpOps_cons]
    refine runE_sound hn ho' hao G h ?_
    intro φ' F' r a' w' h1 h2 G' hr
    exact wpOps_mono (fun _ _ _ h => h.weak h1.toN h2) _ _ _ (ih _ hr C φ' F' a' w' ops (k + 1) hd hl' G')

theorem RG_ent {l : List AOper} {t : St} (h : St.ent d st t) (k : RG P d Q l t) : RG P d Q l st := by
  intro C φ F a w ops i hd hl G
  obtain ⟨φ', F', h1, h2, G'⟩ := h C φ F a w hd G
  exact wpOps_mono (fun _ _ _ h => h.weak (by rw [hd]; exact h1) h2) _ _ _ (k C φ' F' a w ops i hd hl G')

theorem RG_cut (n : Nat) (t : St) {os : List AOper} (h1 : ∀ K : St → Prop, (∀ s, St.ent d s t → K s) → runs P R (os.take n) st K) (h2 : RG P d R (os.drop n) t) : RG P d R os st := by
  rw [← List.take_append_drop n os]
  exact RG_runs _ _ (h1 _ (fun s hs => RG_ent hs h2))

theorem RG_end (t : St) {os : List AOper} (h1 : ∀ K : St → Prop, (∀ s, St.ent d s t → K s) → runs P R os st K) (h2 : ∀ s, St.ent d s t → R .normal s) : RG P d R os st := by
  have := RG_runs (d := d) (l2 := []) os st (h1 _ (fun s hs => fun C φ F a w ops k hd hl G => by
    exact ⟨φ, F, s, _, .refl _ _, .refl _, G, .normal, h2 s hs⟩))
  rwa [List.append_nil] at this

theorem RG_any {ι : Type} {os : List AOper} (t : ι → St) (p : ι → Prop) (h1 : ∀ K : St → Prop, (∀ i, p i → ∀ s, St.ent d s (t i) → K s) → runs P R os st K) (h2 : ∀ i, p i → ∀ s, St.ent d s (t i) → R .normal s) : RG P d R os st := by
  have := RG_runs (d := d) (l2 := []) os st (h1 _ (fun i hi s hs => fun C φ F a w ops k hd hl G => by
    exact ⟨φ, F, s, _, .refl _ _, .refl _, G, .normal, h2 i hi s hs⟩))
  rwa [List.append_nil] at this

theorem XA_reg_g {os : List AOper} (h : RG P d R os st) : XA P d (.reg os) R st := by
  intro c' hc
  cases c' with
  | region id ops dr =>
    cases dr
    · simp only [cCode, Option.pure_def, Option.bind_eq_bind, Option.bind_eq_some_iff] at hc
      obtain ⟨l', hl, hc⟩ := hc
      cases hc
      intro C φ F a w ro hn' G
      refine wpIn_region (wpOps_fen no_letsOut (cOpers_nodefer hl) _ _ _ ?_)
      have hlen : os.length = ops.size := by
        have : ∀ (xs : List Oper) (ys : List AOper), xs.mapM (cOper P d.n ops) = some ys → ys.length = xs.length := by
          intro xs
          induction xs with
          | nil => intro ys h; simp at h; subst h; rfl
          | cons x xs ih =>
            intro ys h
            simp only [List.mapM_cons, Option.pure_def, Option.bind_eq_bind, Option.bind_eq_some_iff] at h
            obtain ⟨y, _, ys', h', h⟩ := h
            cases h
            simp [ih _ h']
        simpa using this _ _ hl
      have := h C φ F a w ops 0 hn' (by simpa using hl) G
      rw [hlen, ← List.range_eq_range'] at this
      exact this
    · simp [cCode, Option.bind_eq_some_iff] at hc
  | _ => simp [cCode, Option.bind_eq_some_iff] at hc

/-! what is handed on -/
theorem dN_seq {k : St → Prop} {s : St} (h : ∀ e s, AExit.andThen k Q e s → R e s) (x : k s) : R .normal s := h .normal s x
theorem dX_seq {k : St → Prop} {s : St} {id : Nat} (h : ∀ e s, AExit.andThen k Q e s → R e s) (x : Q (.exit id) s) : R (.exit id) s := h _ s x
theorem dR_seq {k : St → Prop} {s : St} (h : ∀ e s, AExit.andThen k Q e s → R e s) (x : Q .ret s) : R .ret s := h _ s x
theorem dP_seq {k : St → Prop} {s : St} {v : AV} (h : ∀ e s, AExit.andThen k Q e s → R e s) (x : Q (.panic v) s) : R (.panic v) s := h _ s x
theorem dN_block {id : Nat} {s : St} (h : ∀ e s, AExit.inBlock id Q e s → R e s) (x : Q .normal s) : R .normal s := h .normal s x
theorem dE_block {id : Nat} {s : St} (h : ∀ e s, AExit.inBlock id Q e s → R e s) (x : Q .normal s) : R (.exit id) s := h _ s (by simp only [AExit.inBlock, if_true]; exact x)
theorem dX_block {id j : Nat} {s : St} (hn : j ≠ id) (h : ∀ e s, AExit.inBlock id Q e s → R e s) (x : Q (.exit j) s) : R (.exit j) s := h _ s (by simp only [AExit.inBlock, if_neg hn]; exact x)
theorem dR_block {id : Nat} {s : St} (h : ∀ e s, AExit.inBlock id Q e s → R e s) (x : Q .ret s) : R .ret s := h _ s x
theorem dP_block {id : Nat} {s : St} {v : AV} (h : ∀ e s, AExit.inBlock id Q e s → R e s) (x : Q (.panic v) s) : R (.panic v) s := h _ s x

theorem runs_append {l m : List AOper} {K : St → Prop} : ∀ {st : St}, runs P R (l ++ m) st K = runs P R l st (fun s => runs P R m s K) := by
  induction l with
  | nil => intro st; rfl
  | cons o os ih => intro st; simp only [List.cons_append, runs, ih]
theorem runs_cut (n : Nat) {os : List AOper} {K : St → Prop} (h : ∀ K' : St → Prop, (∀ s, runs P R (os.drop n) s K → K' s) → runs P R (os.take n) st K') : runs P R os st K := by
  rw [← List.take_append_drop n os, runs_append]
  exact h _ (fun _ h => h)
theorem runsD_append {l m : List DI} {K : St → Prop} : ∀ {st : St}, runsD P R (l ++ m) st K = runsD P R l st (fun s => runsD P R m s K) := by
  induction l with
  | nil => intro st; rfl
  | cons o os ih => intro st; simp only [List.cons_append, runsD, ih]
theorem runsD_cut (n : Nat) {os : List DI} {K : St → Prop} (h : ∀ K' : St → Prop, (∀ s, runsD P R (os.drop n) s K → K' s) → runsD P R (os.take n) st K') : runsD P R os st K := by
  rw [← List.take_append_drop n os, runsD_append]
  exact h _ (fun _ h => h)

/-- a call in a region -/
theorem runs_call {o : AOper} {f : FuncId} {args : List Opd} {os : List AOper} {K : St → Prop} (ho : o.op = .call f args) (hg : guardF st.env o.guard = some true)
    (h : CallP P f (args.map fun x => x.ev st.env) st.σ st.nx (fun r => runs P R os (st.put o.dst r) K) (fun v σ' nx' => R (.panic v) ⟨[], σ', nx'⟩)) : runs P R (o :: os) st K := by
  simp only [runs, runE, hg, ho]; exact h
theorem runs_callv {o : AOper} {f : FuncId} {cs : List AV} {g : Opd} {args : List Opd} {os : List AOper} {K : St → Prop} (ho : o.op = .callv g args) (hg : guardF st.env o.guard = some true) (hf : g.ev st.env = .fn f cs)
    (h : CallP P f ((args.map fun x => x.ev st.env) ++ cs) st.σ st.nx (fun r => runs P R os (st.put o.dst r) K) (fun v σ' nx' => R (.panic v) ⟨[], σ', nx'⟩)) : runs P R (o :: os) st K := by
  simp only [runs, runE, hg, ho, hf]; exact h
theorem runsD_call {i : DI} {f : FuncId} {args : List Opd} {os : List DI} {K : St → Prop} (he : i.eff = true) (ho : i.op.op = .call f args) (hg : guardF st.env i.op.guard = some true)
    (h : CallP P f (args.map fun x => x.ev st.env) st.σ st.nx (fun r => rechk i.chk (st.put i.op.dst r) ∧ runsD P R os (st.put i.op.dst r) K) (fun v σ' nx' => R (.panic v) ⟨[], σ', nx'⟩)) : runsD P R (i :: os) st K := by
  simp only [runsD, runE, hg, ho, he]; exact h
theorem runsD_callv {i : DI} {f : FuncId} {cs : List AV} {g : Opd} {args : List Opd} {os : List DI} {K : St → Prop} (he : i.eff = true) (ho : i.op.op = .callv g args) (hg : guardF st.env i.op.guard = some true) (hf : g.ev st.env = .fn f cs)
    (h : CallP P f ((args.map fun x => x.ev st.env) ++ cs) st.σ st.nx (fun r => rechk i.chk (st.put i.op.dst r) ∧ runsD P R os (st.put i.op.dst r) K) (fun v σ' nx' => R (.panic v) ⟨[], σ', nx'⟩)) : runsD P R (i :: os) st K := by
  simp only [runsD, runE, hg, ho, he, hf]; exact h

/-- what is known less of is passed on, too -/
theorem CallP.wk {f : FuncId} {args : List AV} {σ : Store} {nx : Nat} {K : Res → Prop} {Kp : AV → Store → Nat → Prop} (h : CallP P f (AV.wks args) σ nx K Kp) : CallP P f args σ nx K Kp :=
  fun C φ F vs w hv H E => h C φ F vs w hv.wk H E

/-! pure functions that may fail -/
end

def ob {α β : Type} (x : Option α) (f : α → Option β) : Option β := match x with
  | some a => f a
  | none => none
theorem ob_some {α β : Type} {x : Option α} {f : α → Option β} {r : β} (h : ob x f = some r) : ∃ a, x = some a ∧ f a = some r := by
  cases x with
  | none => cases h
  | some a => exact ⟨a, rfl, h⟩
def ck {β : Type} (b : Bool) (x : Option β) : Option β := cond b x none
theorem ck_some {β : Type} {b : Bool} {x : Option β} {r : β} (h : ck b x = some r) : b = true ∧ x = some r := by
  cases b with
  | false => cases h
  | true => exact ⟨rfl, h⟩
theorem bool_or (b : Bool) : b = true ∨ b = false := by cases b <;> simp

/-- a list's element -/
def rd {α : Type} (l : List α) (i : Int) : Option α := cond (inB i l.length) l[i.toNat]? none
theorem rd_in {α : Type} {l : List α} {i : Int} {x : α} (h : rd l i = some x) : inB i l.length = true := by
  unfold rd at h
  cases hb : inB i l.length with
  | true => rfl
  | false => simp [hb] at h
theorem rd_get {α : Type} {l : List α} {i : Int} {x : α} (h : rd l i = some x) : l[i.toNat]? = some x := by
  have := rd_in h
  simpa [rd, this] using h
theorem rd_of {α : Type} {l : List α} {i : Nat} {x : α} (h : l[i]? = some x) : rd l (i : Int) = some x := by
  have hi : i < l.length := by
    rcases Nat.lt_or_ge i l.length with h' | h'
    · exact h'
    · simp [List.getElem?_eq_none h'] at h
  have : l[i] = x := by rw [List.getElem?_eq_getElem hi] at h; simpa using h
  simp [rd, inB, hi, this]

def loopF {α β : Type} (body : (α → Option β) → α → Option β) : Nat → α → Option β
  | 0, _ => none
  | n + 1, a => body (loopF body n) a

theorem loopF_ind {α β : Type} {body : (α → Option β) → α → Option β} {Q : α → β → Prop} (h : ∀ again v r, (∀ v' r', again v' = some r' → Q v' r') → body again v = some r → Q v r) :
    ∀ n v r, loopF body n v = some r → Q v r
  | 0, _, _, e => by cases e
  | n + 1, v, r, e => h (loopF body n) v r (loopF_ind h n) e

section
variable {P : Program} {d : Dim} {Q R : APost} {st : St} {a b : ACode}
/-- a loop does what a pure one does -/
theorem XA_loop_by {α β : Type} {body : (α → Option β) → α → Option β} {r : β} (T : α → St) {fuel : Nat} {v0 : α} (hv : loopF body fuel v0 = some r) (h0 : St.ent d st (T v0))
    (round : ∀ (again : α → Option β) (v : α), body again v = some r → ∀ R : APost, (∀ e s, AExit.andThen (fun s' => ∃ v', St.ent d s' (T v') ∧ again v' = some r) Q e s → R e s) → XA P d a R (T v)) : XA P d (.loop a) Q st := by
  refine XA_loop (fun m st => ∃ v, St.ent d st (T v) ∧ loopF body m v = some r) (m := fuel) ⟨v0, h0, hv⟩ ?_
  rintro m s ⟨v, he, hm⟩
  cases m with
  | zero => cases hm
  | succ m =>
    refine XA_ent he (round (loopF body m) v hm _ ?_)
    intro e s' hs'
    cases e with
    | normal =>
      obtain ⟨v', h1, h2⟩ := hs'
      exact ⟨m, Nat.lt_succ_self _, v', h1, h2⟩
    | _ => exact hs'

/-! a function's end -/
def EndPost (rs : List ARV) (N : Nat) (v0 : AV) (σ0 : Store) (k0 : Nat) : APost
  | .normal, s | .ret, s => ∃ v, resF rs s = some v ∧ St.ent ⟨1, N⟩ ⟨[(0, v)], s.σ, s.nx⟩ ⟨[(0, v0)], σ0, k0⟩
  | _, _ => False

theorem FnOk.to {f : FuncId} {args : List AV} {σ : Store} {N : Nat} {K : ARes → Store → Nat → Prop}
    (h : FnOk P f args σ N (fun r s k => ∃ v v0 s0 k0, r = .ret v ∧ St.ent ⟨1, N⟩ ⟨[(0, v)], s, k⟩ ⟨[(0, v0)], s0, k0⟩ ∧ K (.ret v0) s0 k0)) : FnOk P f args σ N K := by
  intro w φ F vs hv H
  refine (h w φ F vs hv H).mono ?_
  rintro e w' ⟨φ', F', r, σ', nx', h1, h2, h3, h4, h5, v, v0, s0, k0, rfl, hent, hK⟩
  cases h5 with | ret hvr =>
  rename_i cv
  obtain ⟨φ2, F2, g1, g2, G⟩ := hent ⟨w, Blocks φ σ, F, ⟨1, N⟩, []⟩ φ' F' ⟨#[cv], []⟩ w' rfl
    ⟨rfl, rfl, fun t => by
      cases t with
      | zero => simpa [Env.get] using hvr
      | succ t => simpa [Env.get] using VRel.frz .any, h3, ⟨h4.os, h4.tape, h4.output, h4.size, h4.kept, h4.own, h4.F0, h4.Fnew⟩⟩
  refine ⟨φ2, F2, .ret v0, s0, k0, h1.trans g1, h2.trans g2, G.heap, ⟨G.ext.os, G.ext.tape, G.ext.output, G.ext.size, G.ext.kept, G.ext.own, G.ext.F0, G.ext.Fnew⟩, .ret ?_, hK⟩
  have := G.env 0
  simpa [Env.get] using this

theorem St.ent_self {d : Dim} {s : St} : St.ent d s s := fun C φ F a w hd G => ⟨φ, F, .refl _ _, .refl _, G⟩

theorem EndPost_ret {rs : List ARV} {N : Nat} {v v0 : AV} {σ0 : Store} {k0 : Nat} {s : St} (h1 : resF rs s = some v) (h2 : St.ent ⟨1, N⟩ ⟨[(0, v)], s.σ, s.nx⟩ ⟨[(0, v0)], σ0, k0⟩) : EndPost rs N v0 σ0 k0 .ret s := ⟨v, h1, h2⟩
theorem EndPost_normal {rs : List ARV} {N : Nat} {v v0 : AV} {σ0 : Store} {k0 : Nat} {s : St} (h1 : resF rs s = some v) (h2 : St.ent ⟨1, N⟩ ⟨[(0, v)], s.σ, s.nx⟩ ⟨[(0, v0)], σ0, k0⟩) : EndPost rs N v0 σ0 k0 .normal s := ⟨v, h1, h2⟩

theorem Fn_by {f : FuncId} {fn : Func} {ac : ACode} {n : Nat} {args : List AV} {σ : Store} {N : Nat} {rs : List ARV} {v0 : AV} {σ0 : Store} {k0 : Nat} (hf : P.funcs[f]? = some fn) (hn : fn.ntmps = n)
    (hb : fn.body.bind (cCode P n) = some ac) (hlen : args.length ≤ n) (hrs : fn.results.toList.mapM (cRV P) = some rs)
    (h : ∀ R : APost, (∀ e s, (∃ t, St.ent ⟨n, N⟩ s t ∧ EndPost rs N v0 σ0 k0 e t) → R e s) → XA P ⟨n, N⟩ ac R ⟨argEnv 0 args, σ, N⟩) : FnOk P f args σ N (fun r s k => r = .ret v0 ∧ s = σ0 ∧ k = k0) := by
  refine FnOk.to (Fn_of_XA hf hn hb hlen hrs (XA_post_ent ((h _ (fun _ _ h => h)).mono ?_)))
  rintro e s ⟨t, ht, hs⟩
  cases e with
  | normal =>
    obtain ⟨v, h1, h2⟩ := hs
    refine .inr ⟨fun _ e => (by cases e), t, ht, ?_⟩
    simp only [FnPost, h1]
    exact ⟨v, v0, σ0, k0, rfl, h2, rfl, rfl, rfl⟩
  | ret =>
    obtain ⟨v, h1, h2⟩ := hs
    refine .inr ⟨fun _ e => (by cases e), t, ht, ?_⟩
    simp only [FnPost, h1]
    exact ⟨v, v0, σ0, k0, rfl, h2, rfl, rfl, rfl⟩
  | exit => exact hs.elim
  | panic => exact hs.elim
end

/-! lists of a kind -/
class Flat {α : Type} (F : α → AV) (n : outParam Nat) : Prop where
  rn : ∀ ρ x, (F x).rn ρ = F x
  wk : ∀ x, (F x).wk = F x
  len : ∀ x, (F x).cells.length = n
  sca : ∀ x, (F x).cells.all AV.scalar = true
  pla : ∀ x, (F x).plain = true
  fz : ∀ l o x, (F x).fz l o = F x
section
variable {α : Type} {F : α → AV}
theorem rns_map {ρ : Nat → Nat} {n : Nat} [Flat F n] : ∀ (l : List α), AV.rns ρ (List.map F l) = List.map F l
  | [] => rfl
  | a :: as => by simp only [List.map_cons, AV.rns, rns_map as, Flat.rn]
theorem wks_map {n : Nat} [Flat F n] : ∀ (l : List α), AV.wks (List.map F l) = List.map F l
  | [] => rfl
  | a :: as => by simp only [List.map_cons, AV.wks, wks_map as, Flat.wk]
theorem fzs_map {k : Nat} {o : Obj} {n : Nat} [Flat F n] : ∀ (l : List α), AV.fzs k o (List.map F l) = List.map F l
  | [] => rfl
  | a :: as => by simp only [List.map_cons, AV.fzs, fzs_map as, Flat.fz]
theorem plains_map {n : Nat} [Flat F n] : ∀ (l : List α), AV.plains (List.map F l) = true
  | [] => rfl
  | a :: as => by simp only [List.map_cons, AV.plains, plains_map as, Flat.pla, Bool.and_true]
theorem all_sized {n : Nat} [Flat F n] (l : List α) : (List.map F l).all (AV.sized n) = true := by
  simp only [List.all_map, List.all_eq_true]
  intro x _
  simp [AV.sized, Flat.len]
theorem all_fits {n : Nat} [Flat F n] (l : List α) : (List.map F l).all (AV.fits n) = true := by
  simp only [List.all_map, List.all_eq_true]
  intro x _
  have h1 := Flat.len (F := F) x
  have h2 := Flat.sca (F := F) x
  simp only [Function.comp, AV.fits, h1, h2, beq_self_eq_true, Bool.and_true]
end
instance : Flat AV.str 1 := ⟨fun _ _ => rfl, fun _ => rfl, fun _ => rfl, fun _ => rfl, fun _ => rfl, fun _ _ _ => rfl⟩
instance : Flat AV.bool 1 := ⟨fun _ _ => rfl, fun _ => rfl, fun _ => rfl, fun _ => rfl, fun _ => rfl, fun _ _ _ => rfl⟩
instance {k : IntKind} : Flat (AV.int k) 1 := ⟨fun _ _ => rfl, fun _ => rfl, fun _ => rfl, fun _ => rfl, fun _ => rfl, fun _ _ _ => rfl⟩
def byteAV (b : UInt8) : AV := .int .u8 b.toNat
theorem byteAV_map (l : List UInt8) : List.map (fun b : UInt8 => AV.int .u8 b.toNat) l = List.map byteAV l := rfl
instance : Flat byteAV 1 := ⟨fun _ _ => rfl, fun _ => rfl, fun _ => rfl, fun _ => rfl, fun _ => rfl, fun _ _ _ => rfl⟩
def lsAV {α : Type} (F : α → AV) (l : List α) : AV := .ls (l.map F) false
instance {α : Type} {F : α → AV} {n : Nat} [Flat F n] : Flat (lsAV F) 1 := ⟨fun _ _ => rfl, fun x => by simp only [lsAV, AV.wk, wks_map], fun _ => rfl, fun _ => rfl, fun _ => rfl, fun _ _ _ => rfl⟩

theorem rns_set {ρ : Nat → Nat} : ∀ (l : List AV) (i : Nat) (a : AV), AV.rns ρ (l.set i a) = (AV.rns ρ l).set i (a.rn ρ)
  | [], _, _ => rfl
  | x :: xs, 0, a => rfl
  | x :: xs, i + 1, a => by simp only [List.set_cons_succ, AV.rns, rns_set xs]
theorem rns_take {ρ : Nat → Nat} : ∀ (l : List AV) (i : Nat), AV.rns ρ (l.take i) = (AV.rns ρ l).take i
  | [], i => by simp [AV.rns]
  | x :: xs, 0 => rfl
  | x :: xs, i + 1 => by simp only [List.take_succ_cons, AV.rns, rns_take xs]
theorem rns_drop {ρ : Nat → Nat} : ∀ (l : List AV) (i : Nat), AV.rns ρ (l.drop i) = (AV.rns ρ l).drop i
  | [], i => by simp [AV.rns]
  | x :: xs, 0 => rfl
  | x :: xs, i + 1 => by simp only [List.drop_succ_cons, AV.rns, rns_drop xs]

theorem rns_replicate {ρ : Nat → Nat} {a : AV} : ∀ (n : Nat), AV.rns ρ (List.replicate n a) = List.replicate n (a.rn ρ)
  | 0 => rfl
  | n + 1 => by simp only [List.replicate_succ, AV.rns, rns_replicate n]
theorem wks_replicate {a : AV} : ∀ (n : Nat), AV.wks (List.replicate n a) = List.replicate n a.wk
  | 0 => rfl
  | n + 1 => by simp only [List.replicate_succ, AV.wks, wks_replicate n]
theorem wks_set : ∀ (l : List AV) (i : Nat) (a : AV), AV.wks (l.set i a) = (AV.wks l).set i a.wk
  | [], _, _ => rfl
  | x :: xs, 0, a => rfl
  | x :: xs, i + 1, a => by simp only [List.set_cons_succ, AV.wks, wks_set xs]

theorem VRels.setv {φ : Phi} {F : Frz} {vs : List Value} {as : List AV} (h : VRels φ F vs as) {i : Nat} {x y : AV} (hx : as[i]? = some x) (hv : ∀ v, VRel φ F v x → VRel φ F v y) : VRels φ F vs (as.set i y) := by
  induction vs generalizing as i with
  | nil => cases h; exact .nil
  | cons v vs ih =>
    cases h with | cons h1 h2 =>
    cases i with
    | zero => simp at hx; subst hx; exact .cons (hv _ h1) h2
    | succ i => exact .cons h1 (ih h2 (by simpa using hx))

/-- the same, of a cell -/
theorem St.ent_virtc {d : Dim} {s : St} {l i sz : Nat} {cs : List AV} (h : s.σ.get l = some (.var cs)) (hi : cs[i]? = some (.ls [] true)) (hN : d.N ≤ s.nx) :
    St.ent d s ⟨s.env, (s.nx, .arr sz []) :: s.σ.set l (.var (cs.set i (.os s.nx 0 0))), s.nx + 1⟩ := by
  intro C φ F a w hd G
  have hfr : φ s.nx = none := G.heap.fresh _ (Nat.le_refl _)
  have hle : Phi.le φ (φ.upd s.nx .virt) := Phi.le_upd hfr
  have key : ∀ k o, (s.σ.set l (.var (cs.set i (.os s.nx 0 0)))).get k = some o → ∃ o', s.σ.get k = some o' ∧ ORel (φ.upd s.nx .virt) F w k o := by
    intro k o hk
    rw [Store.get_set] at hk
    split at hk
    · rename_i e
      subst e
      rw [h] at hk
      simp at hk
      subst hk
      refine ⟨_, h, ?_⟩
      cases G.heap.obj _ _ h with
      | virt e1 e2 => cases e2
      | blk e1 e2 e3 e4 =>
        refine .blk (hle _ _ e1) e2 e3 ?_
        cases e4 with | var q1 q2 =>
        refine .var (by simpa using q1) ?_
        rw [List.length_set]
        refine (q2.mono hle (.refl _)).setv hi (fun v hv => ?_)
        obtain ⟨A, cap, hA, hle', hfl, _⟩ := hv.ls_inv
        have : cap = 0 := hfl rfl
        subst this
        rw [hA]
        exact .osv (Phi.upd_self ..)
    · refine ⟨o, hk, ?_⟩
      cases G.heap.obj _ _ hk with
      | virt e1 e2 => exact .virt (hle _ _ e1) e2
      | blk e1 e2 e3 e4 => exact .blk (hle _ _ e1) e2 e3 (e4.mono hle (.refl _))
  refine ⟨φ.upd s.nx .virt, F, hle.toN, .refl _, ⟨G.size, G.defers, fun u => (G.env u).mono hle (.refl _), ⟨G.heap.frz, fun k o hl => ?_, ?_, fun k hl => ?_⟩, ?_⟩⟩
  · simp only [Store.get] at hl
    split at hl
    · rename_i e; subst e; cases hl; exact .virt (Phi.upd_self ..) rfl
    · obtain ⟨_, _, q⟩ := key _ _ hl
      exact q
  · intro k k' o o' b n s' z m t' y g1 g2 g3 g4
    by_cases h1 : k = s.nx
    · subst h1; rw [Phi.upd_self] at g3; cases g3
    · by_cases h2 : k' = s.nx
      · subst h2; rw [Phi.upd_self] at g4; cases g4
      · rw [Phi.upd_ne _ _ h1] at g3
        rw [Phi.upd_ne _ _ h2] at g4
        simp only [Store.get, if_neg (Ne.symm h1)] at g1
        simp only [Store.get, if_neg (Ne.symm h2)] at g2
        obtain ⟨_, g1', _⟩ := key _ _ g1
        obtain ⟨_, g2', _⟩ := key _ _ g2
        exact G.heap.inj _ _ _ _ _ _ _ _ _ _ _ g1' g2' g3 g4
  · simp only at hl
    rw [Phi.upd_ne _ _ (by omega)]
    exact G.heap.fresh _ (by omega)
  · refine ⟨G.ext.os, G.ext.tape, G.ext.output, G.ext.size, G.ext.kept, fun k o b base n sz g1 g2 => ?_, G.ext.F0, G.ext.Fnew⟩
    by_cases h1 : k = s.nx
    · subst h1; rw [Phi.upd_self] at g2; cases g2
    · rw [Phi.upd_ne _ _ h1] at g2
      simp only [Store.get, if_neg (Ne.symm h1)] at g1
      obtain ⟨_, g1', _⟩ := key _ _ g1
      exact G.ext.own _ _ _ _ _ _ g1' g2

theorem VRels.front {φ : Phi} {F : Frz} {sz : Nat} : ∀ (es : List AV) (m : Nat) (vs : List Value), (∀ e ∈ es, e.cells.length = sz) → VRels φ F (vs.take (es.length * sz)) (es.flatMap AV.cells) →
    VRels φ F (vs.take ((es.take m).length * sz)) ((es.take m).flatMap AV.cells)
  | [], m, vs, _, h => by simpa using h
  | e :: es, 0, vs, _, _ => by simpa using VRels.nil
  | e :: es, m + 1, vs, hs, h => by
    have he := hs e (by simp)
    simp only [List.take_succ_cons, List.length_cons, List.flatMap_cons, Nat.succ_mul] at h ⊢
    have h1 := h.take sz
    have h2 := h.drop sz
    rw [List.take_take, List.take_left' he] at h1
    rw [List.drop_left' he] at h2
    rw [show min sz (es.length * sz + sz) = sz from by omega] at h1
    have e2 : (vs.take (es.length * sz + sz)).drop sz = (vs.drop sz).take (es.length * sz) := by
      rw [List.drop_take]; congr 1; omega
    rw [e2] at h2
    have h3 := VRels.front es m (vs.drop sz) (fun x hx => hs x (by simp [hx])) h2
    have := h1.append h3
    rw [show vs.take ((es.take m).length * sz + sz) = vs.take sz ++ (vs.drop sz).take ((es.take m).length * sz) from by
      rw [Nat.add_comm, List.take_add]]
    exact this

/-- an array's end forgotten -/
theorem St.ent_trim {d : Dim} {s : St} {l sz : Nat} {es : List AV} (m : Nat) (h : s.σ.get l = some (.arr sz es)) : St.ent d s ⟨s.env, s.σ.set l (.arr sz (es.take m)), s.nx⟩ := by
  intro C φ F a w hd G
  have key : ∀ k o, (s.σ.set l (.arr sz (es.take m))).get k = some o → ∃ o', s.σ.get k = some o' ∧ ORel φ F w k o := by
    intro k o hk
    rw [Store.get_set] at hk
    split at hk
    · rename_i e
      subst e
      rw [h] at hk
      simp at hk
      subst hk
      refine ⟨_, h, ?_⟩
      cases G.heap.obj _ _ h with
      | virt e1 e2 =>
        cases e2
        exact .virt (sz := sz) e1 (by simp)
      | blk e1 e2 e3 e4 =>
        refine .blk e1 e2 e3 ?_
        cases e4 with | arr q1 q2 q3 =>
        have hle : (es.take m).length * sz ≤ es.length * sz := Nat.mul_le_mul_right _ (by simp; omega)
        exact .arr (fun e he => q1 e (List.mem_of_mem_take he)) (by omega) (VRels.front es m _ (fun e he => (q1 e he).1) q3)
    · exact ⟨o, hk, G.heap.obj _ _ hk⟩
  refine ⟨φ, F, .refl _ _, .refl _, ⟨G.size, G.defers, G.env, ⟨G.heap.frz, fun k o hl => ?_, ?_, G.heap.fresh⟩, ?_⟩⟩
  · obtain ⟨_, _, q⟩ := key _ _ hl
    exact q
  · intro k k' o o' b n s' z m' t' y g1 g2 g3 g4
    obtain ⟨_, g1', _⟩ := key _ _ g1
    obtain ⟨_, g2', _⟩ := key _ _ g2
    exact G.heap.inj _ _ _ _ _ _ _ _ _ _ _ g1' g2' g3 g4
  · refine ⟨G.ext.os, G.ext.tape, G.ext.output, G.ext.size, G.ext.kept, fun k o b base n sz g1 g2 => ?_, G.ext.F0, G.ext.Fnew⟩
    obtain ⟨_, g1', _⟩ := key _ _ g1
    exact G.ext.own _ _ _ _ _ _ g1' g2

theorem upB_leN {i : Int} {n : Nat} (h : upB i n = true) : i.toNat ≤ n := by simp [upB] at h; omega
theorem upB_take {α : Type} {l : List α} {i : Int} (h : upB i l.length = true) : (l.take i.toNat).length = i.toNat := by
  have := upB_leN h
  simp; omega

end Go.Ab
