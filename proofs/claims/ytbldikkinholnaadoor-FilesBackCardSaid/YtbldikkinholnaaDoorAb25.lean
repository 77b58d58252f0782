/-
  Functions that hold loops over iterators: by code without types. Names given for nil.
-/
import Derived.Test.YtbldikkinholnaaDoorAb24
namespace Go.Ab
set_option linter.unusedVariables false
set_option linter.unusedSimpArgs false

section
variable {P : Program} {d : Dim} {Q : MPost} {st : St} {ms : List Nat}

def XMA (P : Program) (d : Dim) (c : ACode) (Q : MPost) (st : St) (ms : List Nat) : Prop := ∀ c', cCode P d.n c' = some c → XM P d c' Q st ms

theorem XMA_of_xs {c : ACode} (hm : P.follows .mixedOrders = true) (h : xs P d c (fun e s => Q e s ms) st) : XMA P d c Q st ms := fun c' hc => XM_of_X (xs_sound hm c _ _ h c' hc)

theorem XMA.mono {c : ACode} {Q' : MPost} (h : XMA P d c Q st ms) (hq : ∀ e s m, Q e s m → Q' e s m) : XMA P d c Q' st ms := fun c' hc => (h c' hc).mono hq

theorem XMA_seq {a b : ACode} (h : XMA P d a (AMthen (fun s m => XMA P d b Q s m) Q) st ms) : XMA P d (.seq a b) Q st ms := by
  intro c' hc
  cases c' with
  | seq x y =>
    simp only [cCode, Option.pure_def, Option.bind_eq_bind, Option.bind_eq_some_iff] at hc
    obtain ⟨a', ha, b', hb, hc⟩ := hc
    cases hc
    refine XM_seq ((h x ha).mono ?_)
    intro e s m hs
    cases e with
    | normal => exact hs y hb
    | _ => exact hs
  | region id ops dr => cases dr <;> simp [cCode, Option.bind_eq_some_iff] at hc
  | _ => simp [cCode, Option.bind_eq_some_iff] at hc

theorem XMA_block {id : Nat} {a : ACode} (h : XMA P d a (AMblock id Q) st ms) : XMA P d (.block id a) Q st ms := by
  intro c' hc
  cases c' with
  | block id' x =>
    simp only [cCode, Option.pure_def, Option.bind_eq_bind, Option.bind_eq_some_iff] at hc
    obtain ⟨a', ha, hc⟩ := hc
    cases hc
    exact XM_block (h x ha)
  | region id ops dr => cases dr <;> simp [cCode, Option.bind_eq_some_iff] at hc
  | _ => simp [cCode, Option.bind_eq_some_iff] at hc

theorem XMA_range {og : Opd} {p : Nat} {ca cb : ACode} {gf : FuncId} {caps A0 : List AV} {σ0 : Store} {xs : List (List UInt8)} (li : List Nat)
    (Inv : Nat → Store → Nat → Prop) (Ev : AExit → Store → Nat → Prop) (hev : og.ev st.env = .fn gf caps) (hb : HasBody P gf) (hit : ItOk P gf A0 σ0 li.length xs)
    (ha : caps = AV.rns (rho li st.nx) A0) (hs : entStore (rho li st.nx) st.σ σ0) (hnd : li.Nodup) (hp : p < d.n)
    (h0 : Inv 0 (Store.less li st.σ) st.nx)
    (hround : ∀ k σ nx x, Inv k σ nx → xs[k]? = some x → XA P ⟨d.n, nx⟩ ca (AExit.andThen (fun s1 => XA P ⟨d.n, nx⟩ cb (fun ex s2 => match ex with
      | .normal => Inv (k + 1) s2.σ s2.nx
      | .ret => Ev .ret s2.σ s2.nx
      | .exit id => Ev (.exit id) s2.σ s2.nx
      | .panic _ => False) s1) (fun _ _ => False)) ⟨st.env.put p (.str x), σ, nx⟩)
    (hdone : ∀ Dm σ nx, Inv xs.length σ nx → Q .normal ⟨st.env, σ, nx⟩ (Dm :: ms))
    (hstop : ∀ Dm ex σ nx, Ev ex σ nx → (ex = .ret ∨ ∃ id, ex = .exit id) → Q ex ⟨st.env, σ, nx⟩ (Dm :: ms)) :
    XMA P d (.range og p ca cb) Q st ms := by
  intro c' hc
  cases c' with
  | rangeFunc g ps a b =>
    simp only [cCode] at hc
    obtain ⟨g', p', a', b', e1, e2, e3, e4, e5⟩ := cRange_inv hc
    cases e5
    have hps : ps = #[p] := Array.toList_inj.1 (by simpa using e2)
    subst hps
    refine XM_range (n := d.n) li Inv (fun c σ nx => (c = .ret ∧ Ev .ret σ nx) ∨ ∃ id, c = .exit id ∧ Ev (.exit id) σ nx) rfl e1 hev hb hit ha hs hnd hp h0 ?_ hdone ?_
    · intro k σ nx x hI hx
      unfold Yr
      dsimp only
      refine (hround k σ nx x hI hx a e3).mono ?_
      intro ex s1 h1
      cases ex with
      | normal =>
        refine X.mono (h1 b e4) ?_
        intro ex s2 h2
        cases ex with
        | normal => exact fun _ => h2
        | ret => exact fun _ => .inl ⟨rfl, h2⟩
        | exit id => exact fun _ => .inr ⟨id, rfl, h2⟩
        | panic v => exact h2
      | _ => exact h1
    · rintro Dm c σ nx (⟨rfl, h⟩ | ⟨id, rfl, h⟩)
      · exact .inl ⟨rfl, hstop _ _ _ _ h (.inl rfl)⟩
      · exact .inr ⟨id, rfl, hstop _ _ _ _ h (.inr ⟨id, rfl⟩)⟩
  | region id ops dr => cases dr <;> simp [cCode, Option.bind_eq_some_iff] at hc
  | _ => simp [cCode, Option.bind_eq_some_iff] at hc

theorem Fn_of_XMA {f : FuncId} {fn : Func} {ac : ACode} {n : Nat} {args : List AV} {σ : Store} {nx : Nat} {R : ARes → Store → Nat → Prop} {rs : List ARV} (hf : P.funcs[f]? = some fn) (hn : fn.ntmps = n)
    (hb : fn.body.bind (cCode P n) = some ac) (hlen : args.length ≤ n) (hrs : fn.results.toList.mapM (cRV P) = some rs) (h : XMA P ⟨n, nx⟩ ac (FnPostM rs R) ⟨argEnv 0 args, σ, nx⟩ []) : FnOk P f args σ nx R := by
  simp only [Option.bind_eq_some_iff] at hb
  obtain ⟨c, hc, hac⟩ := hb
  subst hn
  exact Fn_of_XM hf hc hlen hrs (h c hac)

end

/-- a nil slice, taken for an array of our own that holds nothing -/
theorem St.ent_virt {d : Dim} {s : St} {t sz : Nat} (h : s.env.get t = .ls [] true) (hN : d.N ≤ s.nx) : St.ent d s ⟨s.env.put t (.os s.nx 0 0), (s.nx, .arr sz []) :: s.σ, s.nx + 1⟩ := by
  intro C φ F a w hd G
  have hfr : φ s.nx = none := G.heap.fresh _ (Nat.le_refl _)
  have hle : Phi.le φ (φ.upd s.nx .virt) := Phi.le_upd hfr
  refine ⟨φ.upd s.nx .virt, F, hle.toN, .refl _, ⟨G.size, G.defers, fun u => ?_, ⟨G.heap.frz, fun l o hl => ?_, ?_, fun l hl => ?_⟩, ?_⟩⟩
  · rw [Env.get_put]
    split
    · rename_i e
      subst e
      have := G.env t
      rw [h] at this
      obtain ⟨A, cap, hA, hle', hfl, _⟩ := this.ls_inv
      have : cap = 0 := hfl rfl
      subst this
      rw [hA]
      exact .osv (Phi.upd_self ..)
    · exact (G.env u).mono hle (.refl _)
  · simp only [Store.get] at hl
    split at hl
    · rename_i e; subst e; cases hl; exact .virt (Phi.upd_self ..) rfl
    · cases G.heap.obj _ _ hl with
      | virt e1 e2 => exact .virt (hle _ _ e1) e2
      | blk e1 e2 e3 e4 => exact .blk (hle _ _ e1) e2 e3 (e4.mono hle (.refl _))
  · intro l l' o o' b n s' z m t' y g1 g2 g3 g4
    by_cases h1 : l = s.nx
    · subst h1; rw [Phi.upd_self] at g3; cases g3
    · by_cases h2 : l' = s.nx
      · subst h2; rw [Phi.upd_self] at g4; cases g4
      · rw [Phi.upd_ne _ _ h1] at g3
        rw [Phi.upd_ne _ _ h2] at g4
        simp only [Store.get, if_neg (Ne.symm h1)] at g1
        simp only [Store.get, if_neg (Ne.symm h2)] at g2
        exact G.heap.inj _ _ _ _ _ _ _ _ _ _ _ g1 g2 g3 g4
  · simp only at hl
    rw [Phi.upd_ne _ _ (by omega)]
    exact G.heap.fresh _ (by omega)
  · refine ⟨G.ext.os, G.ext.tape, G.ext.output, G.ext.size, G.ext.kept, fun l o b base n sz g1 g2 => ?_, G.ext.F0, G.ext.Fnew⟩
    by_cases h1 : l = s.nx
    · subst h1; rw [Phi.upd_self] at g2; cases g2
    · rw [Phi.upd_ne _ _ h1] at g2
      simp only [Store.get, if_neg (Ne.symm h1)] at g1
      exact G.ext.own _ _ _ _ _ _ g1 g2

end Go.Ab
