/-
  Code without types, and what it comes to, computed.
-/
import Derived.Test.YtbldikkinholnaaDoorAb18
namespace Go.Ab
set_option linter.unusedVariables false
set_option linter.unusedSimpArgs false

inductive ACode where
  | skip
  | reg (ops : List AOper)
  | regd (ops : List DI)
  | seq (a b : ACode)
  | cond (c : Opd) (a b : ACode)
  | block (id : Nat) (a : ACode)
  | loop (a : ACode)
  | exit (id : Nat)
  | ret
  | raw (c : Code)
  | range (g : Opd) (p : Nat) (assign body : ACode)

def cRange : Option Opd → List Nat → Option ACode → Option ACode → Option ACode
  | some g, [p], some a, some b => some (.range g p a b)
  | _, _, _, _ => none

theorem cRange_inv {g : Option Opd} {l : List Nat} {a b : Option ACode} {x : ACode} (h : cRange g l a b = some x) : ∃ g' p a' b', g = some g' ∧ l = [p] ∧ a = some a' ∧ b = some b' ∧ x = .range g' p a' b' := by
  unfold cRange at h
  split at h
  · cases h; exact ⟨_, _, _, _, rfl, rfl, rfl, rfl, rfl⟩
  · cases h

def cCode (P : Program) (n : Nat) : Code → Option ACode
  | .skip => some .skip
  | .region _ ops false => do pure (.reg (← ops.toList.mapM (cOper P n ops)))
  | .region _ ops true => do pure (.regd (← cDraw P n ops))
  | .seq a b => do pure (.seq (← cCode P n a) (← cCode P n b))
  | .cond c a b => do pure (.cond (← compOpd c) (← cCode P n a) (← cCode P n b))
  | .block id a => do pure (.block id (← cCode P n a))
  | .loop a => do pure (.loop (← cCode P n a))
  | .exit id => some (.exit id)
  | .ret => some .ret
  | .rangeFunc g ps a b => cRange (compOpd g) ps.toList (cCode P n a) (cCode P n b)
  | c => some (.raw c)

@[simp] theorem cRange_skip {g : Option Opd} {l : List Nat} {a b : Option ACode}  : (cRange g l a b = some .skip) = False := by
  simp only [eq_iff_iff, iff_false]; intro h; obtain ⟨_, _, _, _, _, _, _, _, e⟩ := cRange_inv h; cases e
@[simp] theorem cRange_reg {g : Option Opd} {l : List Nat} {a b : Option ACode} {o : List AOper} : (cRange g l a b = some (.reg o)) = False := by
  simp only [eq_iff_iff, iff_false]; intro h; obtain ⟨_, _, _, _, _, _, _, _, e⟩ := cRange_inv h; cases e
@[simp] theorem cRange_regd {g : Option Opd} {l : List Nat} {a b : Option ACode} {d : List DI} : (cRange g l a b = some (.regd d)) = False := by
  simp only [eq_iff_iff, iff_false]; intro h; obtain ⟨_, _, _, _, _, _, _, _, e⟩ := cRange_inv h; cases e
@[simp] theorem cRange_seq {g : Option Opd} {l : List Nat} {a b : Option ACode} {p q : ACode} : (cRange g l a b = some (.seq p q)) = False := by
  simp only [eq_iff_iff, iff_false]; intro h; obtain ⟨_, _, _, _, _, _, _, _, e⟩ := cRange_inv h; cases e
@[simp] theorem cRange_cond {g : Option Opd} {l : List Nat} {a b : Option ACode} {c : Opd} {p q : ACode} : (cRange g l a b = some (.cond c p q)) = False := by
  simp only [eq_iff_iff, iff_false]; intro h; obtain ⟨_, _, _, _, _, _, _, _, e⟩ := cRange_inv h; cases e
@[simp] theorem cRange_block {g : Option Opd} {l : List Nat} {a b : Option ACode} {i : Nat} {p : ACode} : (cRange g l a b = some (.block i p)) = False := by
  simp only [eq_iff_iff, iff_false]; intro h; obtain ⟨_, _, _, _, _, _, _, _, e⟩ := cRange_inv h; cases e
@[simp] theorem cRange_loop {g : Option Opd} {l : List Nat} {a b : Option ACode} {p : ACode} : (cRange g l a b = some (.loop p)) = False := by
  simp only [eq_iff_iff, iff_false]; intro h; obtain ⟨_, _, _, _, _, _, _, _, e⟩ := cRange_inv h; cases e
@[simp] theorem cRange_exit {g : Option Opd} {l : List Nat} {a b : Option ACode} {i : Nat} : (cRange g l a b = some (.exit i)) = False := by
  simp only [eq_iff_iff, iff_false]; intro h; obtain ⟨_, _, _, _, _, _, _, _, e⟩ := cRange_inv h; cases e
@[simp] theorem cRange_ret {g : Option Opd} {l : List Nat} {a b : Option ACode}  : (cRange g l a b = some .ret) = False := by
  simp only [eq_iff_iff, iff_false]; intro h; obtain ⟨_, _, _, _, _, _, _, _, e⟩ := cRange_inv h; cases e
@[simp] theorem cRange_raw {g : Option Opd} {l : List Nat} {a b : Option ACode} {r : Code} : (cRange g l a b = some (.raw r)) = False := by
  simp only [eq_iff_iff, iff_false]; intro h; obtain ⟨_, _, _, _, _, _, _, _, e⟩ := cRange_inv h; cases e

/-- what such code comes to -/
def XA (P : Program) (d : Dim) (c : ACode) (Q : APost) (st : St) : Prop := ∀ c', cCode P d.n c' = some c → X P d c' Q st

/-- what it comes to, reckoned: loops and what is left are asked as such -/
def xs (P : Program) (d : Dim) : ACode → APost → St → Prop
  | .skip, Q, st => Q .normal st
  | .reg ops, Q, st => runs P Q ops st (Q .normal)
  | .regd ops, Q, st => runsD P Q ops st (Q .normal)
  | .seq a b, Q, st => xs P d a (AExit.andThen (fun s => xs P d b Q s) Q) st
  | .cond c a b, Q, st => match c.ev st.env with
    | .bool t => (t = true → xs P d a Q st) ∧ (t = false → xs P d b Q st)
    | _ => False
  | .block id a, Q, st => xs P d a (AExit.inBlock id Q) st
  | .loop a, Q, st => XA P d (.loop a) Q st
  | .exit id, Q, st => Q (.exit id) st
  | .ret, Q, st => Q .ret st
  | .raw c, Q, st => X P d c Q st
  | .range g p a b, Q, st => XA P d (.range g p a b) Q st

section
variable {P : Program} {d : Dim} {Q : APost} {st : St}

theorem XA.mono {c : ACode} {Q' : APost} (h : XA P d c Q st) (hq : ∀ e s, Q e s → Q' e s) : XA P d c Q' st := fun c' hc => (h c' hc).mono hq

theorem XA_seq {a b : ACode} (h : XA P d a (AExit.andThen (fun s => XA P d b Q s) Q) st) : XA P d (.seq a b) Q st := by
  intro c hc
  cases c with
  | seq x y =>
    simp only [cCode, Option.pure_def, Option.bind_eq_bind, Option.bind_eq_some_iff] at hc
    obtain ⟨a', ha, b', hb, hc⟩ := hc
    cases hc
    refine X_seq ((h x ha).mono ?_)
    intro e s hs
    cases e with
    | normal => exact hs y hb
    | _ => exact hs
  | region id ops dr => cases dr <;> simp [cCode, Option.bind_eq_some_iff] at hc
  | _ => simp [cCode, Option.bind_eq_some_iff] at hc

theorem XA_cond {c : Opd} {a b : ACode} {t : Bool} (hd : c.ev st.env = .bool t) (h1 : t = true → XA P d a Q st) (h2 : t = false → XA P d b Q st) : XA P d (.cond c a b) Q st := by
  intro c' hc
  cases c' with
  | cond e x y =>
    simp only [cCode, Option.pure_def, Option.bind_eq_bind, Option.bind_eq_some_iff] at hc
    obtain ⟨d', hd', a', ha, b', hb, hc⟩ := hc
    cases hc
    refine X_cond hd' hd ?_
    cases t with
    | true => exact h1 rfl x ha
    | false => exact h2 rfl y hb
  | region id ops dr => cases dr <;> simp [cCode, Option.bind_eq_some_iff] at hc
  | _ => simp [cCode, Option.bind_eq_some_iff] at hc

theorem XA_block {id : Nat} {a : ACode} (h : XA P d a (AExit.inBlock id Q) st) : XA P d (.block id a) Q st := by
  intro c' hc
  cases c' with
  | block id' x =>
    simp only [cCode, Option.pure_def, Option.bind_eq_bind, Option.bind_eq_some_iff] at hc
    obtain ⟨a', ha, hc⟩ := hc
    cases hc
    exact X_block (h x ha)
  | region id ops dr => cases dr <;> simp [cCode, Option.bind_eq_some_iff] at hc
  | _ => simp [cCode, Option.bind_eq_some_iff] at hc

/-- a loop: what holds at each round's head, with a number that falls -/
theorem XA_loop {a : ACode} (I : Nat → St → Prop) {m : Nat} (h0 : I m st) (round : ∀ m s, I m s → XA P d a (AExit.andThen (fun s' => ∃ m', m' < m ∧ I m' s') Q) s) : XA P d (.loop a) Q st := by
  intro c' hc
  cases c' with
  | loop x =>
    simp only [cCode, Option.pure_def, Option.bind_eq_bind, Option.bind_eq_some_iff] at hc
    obtain ⟨a', ha, hc⟩ := hc
    cases hc
    exact X_loop I h0 (fun m s hs => round m s hs x ha)
  | region id ops dr => cases dr <;> simp [cCode, Option.bind_eq_some_iff] at hc
  | _ => simp [cCode, Option.bind_eq_some_iff] at hc

theorem XA_reg {l : List AOper} (h : runs P Q l st (Q .normal)) : XA P d (.reg l) Q st := by
  intro c' hc
  cases c' with
  | region id ops dr =>
    cases dr
    · simp only [cCode, Option.pure_def, Option.bind_eq_bind, Option.bind_eq_some_iff] at hc
      obtain ⟨l', hl, hc⟩ := hc
      cases hc
      exact X_region hl h
    · simp [cCode, Option.bind_eq_some_iff] at hc
  | _ => simp [cCode, Option.bind_eq_some_iff] at hc

theorem XA_regd {l : List DI} (hm : P.follows .mixedOrders = true) (h : runsD P Q l st (Q .normal)) : XA P d (.regd l) Q st := by
  intro c' hc
  cases c' with
  | region id ops dr =>
    cases dr
    · simp [cCode, Option.bind_eq_some_iff] at hc
    · simp only [cCode, Option.pure_def, Option.bind_eq_bind, Option.bind_eq_some_iff] at hc
      obtain ⟨l', hl, hc⟩ := hc
      cases hc
      exact X_regionD hm hl h
  | _ => simp [cCode, Option.bind_eq_some_iff] at hc

theorem XA_ent {c : ACode} {t : St} (h : St.ent d st t) (k : XA P d c Q t) : XA P d c Q st := fun c' hc => X_ent h (k c' hc)

theorem xs_sound (hm : P.follows .mixedOrders = true) : ∀ (c : ACode) (Q : APost) (st : St), xs P d c Q st → XA P d c Q st := by
  intro c
  induction c with
  | skip =>
    intro Q st h c' hc
    cases c' with
    | skip => exact X_skip h
    | region id ops dr => cases dr <;> simp [cCode, Option.bind_eq_some_iff] at hc
    | _ => simp [cCode, Option.bind_eq_some_iff] at hc
  | reg l => intro Q st h; exact XA_reg h
  | regd l => intro Q st h; exact XA_regd hm h
  | seq a b iha ihb =>
    intro Q st h
    refine XA_seq ((iha _ _ h).mono ?_)
    intro e s hs
    cases e with
    | normal => exact ihb _ _ hs
    | _ => exact hs
  | cond c a b iha ihb =>
    intro Q st h
    simp only [xs] at h
    split at h
    · rename_i t ht
      exact XA_cond ht (fun e => iha _ _ (h.1 e)) (fun e => ihb _ _ (h.2 e))
    · exact h.elim
  | block id a ih => intro Q st h; exact XA_block (ih _ _ h)
  | loop a ih => intro Q st h; exact h
  | exit id =>
    intro Q st h c' hc
    cases c' with
    | exit id' => simp [cCode] at hc; subst hc; exact X_exit h
    | region id ops dr => cases dr <;> simp [cCode, Option.bind_eq_some_iff] at hc
    | _ => simp [cCode, Option.bind_eq_some_iff] at hc
  | ret =>
    intro Q st h c' hc
    cases c' with
    | ret => exact X_ret h
    | region id ops dr => cases dr <;> simp [cCode, Option.bind_eq_some_iff] at hc
    | _ => simp [cCode, Option.bind_eq_some_iff] at hc
  | raw c =>
    intro Q st h c' hc
    have : c' = c := by
      cases c' with
      | region id ops dr => cases dr <;> simp [cCode, Option.bind_eq_some_iff] at hc
      | _ => first | (simp [cCode, Option.bind_eq_some_iff] at hc; done) | (simp [cCode] at hc; exact hc)
    subst this
    exact h
  | range g p a b _ _ => intro Q st h; exact h

end

/-! what a function's body comes to -/

def FnPost (rs : List ARV) (R : ARes → Store → Nat → Prop) : APost
  | .normal, s | .ret, s => match resF rs s with
    | some v => R (.ret v) s.σ s.nx
    | none => False
  | .panic v, s => R (.panic v) s.σ s.nx
  | .exit _, _ => False

theorem Fn_of_XA {P : Program} {f : FuncId} {fn : Func} {ac : ACode} {n : Nat} {args : List AV} {σ : Store} {nx : Nat} {R : ARes → Store → Nat → Prop} {rs : List ARV} (hf : P.funcs[f]? = some fn) (hn : fn.ntmps = n)
    (hb : fn.body.bind (cCode P n) = some ac) (hlen : args.length ≤ n) (hrs : fn.results.toList.mapM (cRV P) = some rs) (h : XA P ⟨n, nx⟩ ac (FnPost rs R) ⟨argEnv 0 args, σ, nx⟩) : FnOk P f args σ nx R := by
  simp only [Option.bind_eq_some_iff] at hb
  obtain ⟨c, hc, hac⟩ := hb
  subst hn
  refine Fn_of_X hf hc hlen hrs ((h c hac).mono ?_)
  intro e s hs
  cases e with
  | normal =>
    simp only [FnPost] at hs
    split at hs
    · exact ⟨_, by assumption, hs⟩
    · exact hs.elim
  | ret =>
    simp only [FnPost] at hs
    split at hs
    · exact ⟨_, by assumption, hs⟩
    · exact hs.elim
  | panic v => exact hs
  | exit id => exact hs.elim

end Go.Ab
