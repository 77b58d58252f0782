/-
  Iterators by their code; what an iterator promises.
-/
import Derived.Test.YtbldikkinholnaaDoorAb21
namespace Go.Ab
set_option linter.unusedVariables false
set_option linter.unusedSimpArgs false

section
variable {G : Type} {S : JS G} {P : Program} {F0 : Frz} {n : Nat} {D : List Deferred} {Q : AExit → St → G → Prop} {st : St} {g : G}

def XJA (P : Program) (S : JS G) (F0 : Frz) (n : Nat) (c : ACode) (Q : AExit → St → G → Prop) (st : St) (g : G) : Prop := ∀ c', cCode P n c' = some c → XJ P S F0 n c' Q st g

def xj (P : Program) (S : JS G) (F0 : Frz) (n : Nat) (l : Nat) (Y : Yld G) : ACode → (AExit → St → G → Prop) → St → G → Prop
  | .skip, Q, st, g => Q .normal st g
  | .reg ops, Q, st, g => runsJ P l Y ops st g (Q .normal)
  | .regd ops, Q, st, g => runsD P (fun _ _ => False) ops st (fun s => Q .normal s g)
  | .seq a b, Q, st, g => xj P S F0 n l Y a (EJthen (fun s g => xj P S F0 n l Y b Q s g) Q) st g
  | .cond c a b, Q, st, g => match c.ev st.env with
    | .bool t => (t = true → xj P S F0 n l Y a Q st g) ∧ (t = false → xj P S F0 n l Y b Q st g)
    | _ => False
  | .block id a, Q, st, g => xj P S F0 n l Y a (EJblock id Q) st g
  | .loop a, Q, st, g => XJA P S F0 n (.loop a) Q st g
  | .exit id, Q, st, g => Q (.exit id) st g
  | .ret, Q, st, g => Q .ret st g
  | .raw c, Q, st, g => False
  | .range _ _ _ _, Q, st, g => False

theorem XJ_ent {c : Code} {t : St} {N : Nat} (h : St.ent ⟨n, N⟩ st t) (k : XJ P S F0 n c Q t g) : XJ P S F0 n c Q st g := by
  intro D φ F B a w H
  obtain ⟨φ', F', h1, h2, G'⟩ := h _ φ F a w rfl (H.gam N)
  exact k D φ' F' _ a w (H.of_gam G')

theorem XJA_ent {c : ACode} {t : St} {N : Nat} (h : St.ent ⟨n, N⟩ st t) (k : XJA P S F0 n c Q t g) : XJA P S F0 n c Q st g := fun c' hc => XJ_ent h (k c' hc)
theorem XJA.mono {c : ACode} {Q' : AExit → St → G → Prop} (h : XJA P S F0 n c Q st g) (hq : ∀ e s g, Q e s g → Q' e s g) : XJA P S F0 n c Q' st g := fun c' hc => (h c' hc).mono hq

theorem XJA_loop {a : ACode} (I : Nat → St → G → Prop) {m : Nat} (h0 : I m st g) (round : ∀ m s g, I m s g → XJA P S F0 n a (EJthen (fun s' g' => ∃ m', m' < m ∧ I m' s' g') Q) s g) : XJA P S F0 n (.loop a) Q st g := by
  intro c' hc
  cases c' with
  | loop x =>
    simp only [cCode, Option.pure_def, Option.bind_eq_bind, Option.bind_eq_some_iff] at hc
    obtain ⟨a', ha, hc⟩ := hc
    cases hc
    exact XJ_loop I h0 (fun m s g hs => round m s g hs x ha)
  | region id ops dr => cases dr <;> simp [cCode, Option.bind_eq_some_iff] at hc
  | _ => simp [cCode, Option.bind_eq_some_iff] at hc

theorem xj_sound {l : Nat} {Y : Yld G} (hm : P.follows .mixedOrders = true) (hY : YOk P S F0 l Y) : ∀ (c : ACode) (Q : AExit → St → G → Prop) (st : St) (g : G), xj P S F0 n l Y c Q st g → XJA P S F0 n c Q st g := by
  intro c
  induction c with
  | skip =>
    intro Q st g h c' hc
    cases c' with
    | skip => exact XJ_skip h
    | region id ops dr => cases dr <;> simp [cCode, Option.bind_eq_some_iff] at hc
    | _ => simp [cCode, Option.bind_eq_some_iff] at hc
  | reg os =>
    intro Q st g h c' hc
    cases c' with
    | region id ops dr =>
      cases dr
      · simp only [cCode, Option.pure_def, Option.bind_eq_bind, Option.bind_eq_some_iff] at hc
        obtain ⟨l', hl, hc⟩ := hc
        cases hc
        exact XJ_region hY hl h
      · simp [cCode, Option.bind_eq_some_iff] at hc
    | _ => simp [cCode, Option.bind_eq_some_iff] at hc
  | regd os =>
    intro Q st g h c' hc
    cases c' with
    | region id ops dr =>
      cases dr
      · simp [cCode, Option.bind_eq_some_iff] at hc
      · simp only [cCode, Option.pure_def, Option.bind_eq_bind, Option.bind_eq_some_iff] at hc
        obtain ⟨l', hl, hc⟩ := hc
        cases hc
        refine XJ_of_X (N := 0) ((X_regionD (Q := fun e s => (match e with | .panic _ => False | .normal => Q .normal s g | _ => False)) hm hl ?_).mono ?_)
        · have : ∀ (di : List DI) (st : St) (K : St → Prop), runsD P (fun _ _ => False) di st K → runsD P (fun e s => (match e with | .panic _ => False | .normal => Q .normal s g | _ => False)) di st K := by
            intro di
            induction di with
            | nil => intro st K h; exact h
            | cons i is ih =>
              intro st K h
              simp only [runsD] at h ⊢
              cases he : i.eff with
              | true =>
                rw [he] at h
                simp only at h ⊢
                have hrun : ∀ {k k' : Res → Prop}, (∀ r, k r → k' r) → runE P (fun _ _ => False) i.op st k → runE P (fun e s => (match e with | .panic _ => False | .normal => Q .normal s g | _ => False)) i.op st k' := by
                  intro k k' hk hr
                  simp only [runE] at hr ⊢
                  split
                  · rename_i hg; rw [hg] at hr; exact hr
                  · rename_i hg; rw [hg] at hr; exact hk _ hr
                  · rename_i hg
                    rw [hg] at hr
                    simp only at hr
                    have hcp : ∀ {f args σ nx}, CallP P f args σ nx k (fun v σ' nx' => False) → CallP P f args σ nx k' (fun v σ' nx' => False) := by
                      intro f args σ nx h C φ F vs w a1 a2 a3
                      have := h C φ F vs w a1 a2 a3
                      unfold CUpon at this ⊢
                      split
                      · rename_i v w' e; rw [e] at this
                        obtain ⟨φ', F', r, q1, q2, q3, q4, q5, q6⟩ := this
                        exact ⟨φ', F', r, q1, q2, q3, q4, q5, hk _ q6⟩
                      · rename_i f' args' w' e; rw [e] at this
                        refine this.mono fun e w'' hh => ?_
                        cases e with
                        | returned v =>
                          obtain ⟨φ', F', r, q1, q2, q3, q4, q5, q6⟩ := hh
                          exact ⟨φ', F', r, q1, q2, q3, q4, q5, hk _ q6⟩
                        | panicked ch =>
                          obtain ⟨_, _, _, _, _, _, _, _, _, _, _, _, q⟩ := hh
                          exact q.elim
                        | outgrown => exact hh
                      · rename_i e1 e2
                        split at this
                        · rename_i e; exact absurd e (e1 _ _)
                        · rename_i e; exact absurd e (e2 _ _ _)
                        · exact this
                    split
                    · rename_i hop; simp only [hop] at hr; exact hcp hr
                    · rename_i hop
                      simp only [hop] at hr
                      split
                      · rename_i e; rw [e] at hr; exact hcp hr
                      · rename_i e1; split at hr <;> first | exact hr | (rename_i e; exact absurd e (e1 _ _))
                    · rename_i hop
                      simp only [hop] at hr
                      split
                      · rename_i e; rw [e] at hr; exact hr
                      · rename_i e1; split at hr <;> first | exact hr | (rename_i e; exact absurd e (e1 _ _))
                    · rename_i hop
                      simp only [hop] at hr
                      split
                      · rename_i e; rw [e] at hr; exact hk _ hr
                      · rename_i e; rw [e] at hr; exact hr
                    · rename_i m neg x hop
                      simp only [hop] at hr
                      revert hr
                      generalize x.ev st.env = y
                      intro hr
                      unfold NilAns at hr ⊢
                      split <;> simp_all
                refine hrun ?_ h
                rintro r ⟨h1, h2⟩
                exact ⟨h1, ih _ _ h2⟩
              | false =>
                rw [he] at h
                simp only at h ⊢
                split
                · rename_i e; rw [e] at h; exact ih _ _ h
                · rename_i e; rw [e] at h; exact h
          exact this _ _ _ h
        · intro e s hs
          cases e with
          | normal => exact ⟨trivial, hs⟩
          | _ => exact hs.elim
    | _ => simp [cCode, Option.bind_eq_some_iff] at hc
  | seq a b iha ihb =>
    intro Q st g h c' hc
    cases c' with
    | seq x y =>
      simp only [cCode, Option.pure_def, Option.bind_eq_bind, Option.bind_eq_some_iff] at hc
      obtain ⟨a', ha, b', hb, hc⟩ := hc
      cases hc
      refine XJ_seq ((iha _ _ _ h x ha).mono ?_)
      intro e s g hs
      cases e with
      | normal => exact ihb _ _ _ hs y hb
      | _ => exact hs
    | region id ops dr => cases dr <;> simp [cCode, Option.bind_eq_some_iff] at hc
    | _ => simp [cCode, Option.bind_eq_some_iff] at hc
  | cond c a b iha ihb =>
    intro Q st g h c' hc
    cases c' with
    | cond e x y =>
      simp only [cCode, Option.pure_def, Option.bind_eq_bind, Option.bind_eq_some_iff] at hc
      obtain ⟨d', hd', a', ha, b', hb, hc⟩ := hc
      cases hc
      simp only [xj] at h
      split at h
      · rename_i t ht
        refine XJ_cond hd' ht ?_
        cases t with
        | true => exact iha _ _ _ (h.1 rfl) x ha
        | false => exact ihb _ _ _ (h.2 rfl) y hb
      · exact h.elim
    | region id ops dr => cases dr <;> simp [cCode, Option.bind_eq_some_iff] at hc
    | _ => simp [cCode, Option.bind_eq_some_iff] at hc
  | block id a ih =>
    intro Q st g h c' hc
    cases c' with
    | block id' x =>
      simp only [cCode, Option.pure_def, Option.bind_eq_bind, Option.bind_eq_some_iff] at hc
      obtain ⟨a', ha, hc⟩ := hc
      cases hc
      exact XJ_block (ih _ _ _ h x ha)
    | region id ops dr => cases dr <;> simp [cCode, Option.bind_eq_some_iff] at hc
    | _ => simp [cCode, Option.bind_eq_some_iff] at hc
  | loop a ih => intro Q st g h; exact h
  | exit id =>
    intro Q st g h c' hc
    cases c' with
    | exit id' => simp [cCode] at hc; subst hc; exact XJ_exit h
    | region id ops dr => cases dr <;> simp [cCode, Option.bind_eq_some_iff] at hc
    | _ => simp [cCode, Option.bind_eq_some_iff] at hc
  | ret =>
    intro Q st g h c' hc
    cases c' with
    | ret => exact XJ_ret h
    | region id ops dr => cases dr <;> simp [cCode, Option.bind_eq_some_iff] at hc
    | _ => simp [cCode, Option.bind_eq_some_iff] at hc
  | raw c => intro Q st g h; exact h.elim
  | range _ _ _ _ _ _ => intro Q st g h; exact h.elim

theorem callsIn_iter {f : FuncId} {fn : Func} {ac : ACode} {args : List AV} {σ : Store} {nx : Nat} {Qf : G → Prop} (hf : P.funcs[f]? = some fn) (hn : fn.ntmps = n)
    (hb : fn.body.bind (cCode P n) = some ac) (hlen : args.length ≤ n) (hres : fn.results = #[]) (h : XJA P S F0 n ac (fun e s g => (e = .normal ∨ e = .ret) ∧ Qf g) ⟨argEnv 0 args, σ, nx⟩ g)
    {φ : Phi} {F : Frz} {B : Nat → Prop} {w : World} {vs : List Value} (hv : VRels φ F vs args) (H : HRel φ F σ nx w) (hB : ∀ b, Blocks φ σ b → B b) (hF0 : Frz.le F0 F) (hFn : ∀ b c, F b = some c → F0 b = some c ∨ B b)
    (hBlt : ∀ b, B b → b < w.heap.size) (hJ : S.J g B w) : CallsIn (fen none) 0 P f vs.toArray w fun e w' => ∃ v g' B', e = .returned v ∧ S.J g' B' w' ∧ Qf g' := by
  simp only [Option.bind_eq_some_iff] at hb
  obtain ⟨c, hc, hac⟩ := hb
  subst hn
  have hvl := hv.length
  refine callsIn_of_wp hf hc trivial (wpIn_mono (h c hac [] φ F B _ w ⟨by simp; omega, rfl, fun t => ?_, H, hB, hF0, hFn, hBlt, hJ⟩) ?_)
  · rw [argEnv_get]
    simp only [Nat.zero_le, if_true, Nat.sub_zero]
    cases ht : args[t]? with
    | none => exact .frz .any
    | some x =>
      obtain ⟨v, hv1, hv2⟩ := hv.get' ht
      have : (vs.toArray ++ Array.replicate (fn.ntmps - vs.toArray.size) undef).getD t undef = v := by
        have hlt : t < vs.length := by
          rcases Nat.lt_or_ge t vs.length with h | h
          · exact h
          · simp [List.getElem?_eq_none h] at hv1
        rw [Array.getD_eq_getD_getElem?, Array.getElem?_append_left (by simpa using hlt)]
        simp [hv1]
      rw [this]; exact hv2
  · rintro e a' w' ⟨g', φ', F', B', s, x, H', hx, hq, hQ⟩
    have hr : ∃ v, (results fn a'.tmps).run P w' = .ok v w' := by
      rw [results_eq, hres]
      exact ⟨.tuple #[], by simp⟩
    obtain ⟨v, hr⟩ := hr
    cases hx with
    | normal => exact ⟨H'.defers, v, hr, v, g', B', rfl, H'.j, hQ⟩
    | ret => exact ⟨H'.defers, v, hr, v, g', B', rfl, H'.j, hQ⟩
    | exit => rcases hq with h | h <;> cases h

end

/-- what an iterator promises: that it hands over those, in turn, till it is told to stop -/
def ItOk (P : Program) (f : FuncId) (A0 : List AV) (σ : Store) (nx : Nat) (xs : List (List UInt8)) : Prop :=
  ∀ (l : Nat) (G : Type) (S : JS G) (F0 : Frz) (Y : Yld G) (I : Nat → G → Prop) (E : G → Prop) (g : G), YOk P S F0 l Y → (∀ g x (K K' : Bool → G → Prop), (∀ b g', K b g' → K' b g') → Y g x K → Y g x K') → I 0 g →
    (∀ k g x, I k g → xs[k]? = some x → Y g x fun b g' => (b = true → I (k + 1) g') ∧ (b = false → E g')) →
    ∀ (φ : Phi) (F : Frz) (B : Nat → Prop) (w : World) (vs : List Value), VRels φ F vs A0 → HRel φ F σ nx w → (∀ b, Blocks φ σ b → B b) → Frz.le F0 F → (∀ b c, F b = some c → F0 b = some c ∨ B b) → (∀ b, B b → b < w.heap.size) → S.J g B w →
      CallsIn (fen none) 0 P f (#[.func (.yield l) #[] #[]] ++ vs.toArray) w fun e w' => ∃ v g' B', e = .returned v ∧ S.J g' B' w' ∧ (I xs.length g' ∨ E g')

end Go.Ab
