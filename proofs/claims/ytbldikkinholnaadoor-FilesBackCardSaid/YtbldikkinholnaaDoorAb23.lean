/-
  A loop over what an iterator hands over; functions that hold such loops.
-/
import Derived.Test.YtbldikkinholnaaDoorAb22
import Derived.RangeFuncLeaves
namespace Go.Ab
set_option linter.unusedVariables false
set_option linter.unusedSimpArgs false

def marks (ms : List Nat) : List Deferred := ms.map fun m => { target := .collected m, args := #[] }

def Ctx.mk' (C : Ctx) (ms : List Nat) : Ctx := { C with D := marks ms ++ C.D }

def MarksOk (C : Ctx) (ms : List Nat) (w : World) : Prop := ms.Nodup ∧ ∀ m ∈ ms, w.heap[m]? = some (.deferred (some [])) ∧ C.w0.heap.size ≤ m

theorem Ext.comp {C : Ctx} {φ φ' : Phi} {F F' : Frz} {σ σ' : Store} {w w' : World} {d : Dim} {D : List Deferred} (E : Ext C φ F σ w) (E' : Ext ⟨w, Blocks φ σ, F, d, D⟩ φ' F' σ' w') : Ext C φ' F' σ' w' := by
  have hs := E.size
  have hs' := E'.size
  simp only at hs'
  have hB : ∀ b, Blocks φ σ b → C.S b ∨ C.w0.heap.size ≤ b := by
    rintro b ⟨l, o, base, n, sz, h1, h2⟩
    exact E.own _ _ _ _ _ _ h1 h2
  refine ⟨E'.os.trans E.os, E'.tape.trans E.tape, E'.output.trans E.output, Nat.le_trans hs hs', fun b hb hS => ?_, fun l o b base n sz h1 h2 => ?_, E.F0.trans E'.F0, fun b c hf => ?_⟩
  · rw [E'.kept b (show b < w.heap.size by omega) ?_]
    · exact E.kept b hb hS
    · intro h
      rcases hB b h with h | h
      · exact hS h
      · omega
  · rcases E'.own _ _ _ _ _ _ h1 h2 with h | h
    · exact hB b h
    · simp only at h; exact .inr (by omega)
  · rcases E'.Fnew b c hf with h | h | h
    · exact E.Fnew b c h
    · exact .inr (hB b h)
    · simp only at h; exact .inr (.inr (by omega))

section
variable {P : Program} {d : Dim}

abbrev MPost := AExit → St → List Nat → Prop

def LiftM (C : Ctx) (φ : Phi) (F : Frz) (Q : MPost) : Exit → Act → World → Prop := fun e a w =>
  ∃ φ' F' st x ms, Phi.leN C.d.N φ φ' ∧ Frz.le F F' ∧ Gam (C.mk' ms) φ' F' st a w ∧ MarksOk C ms w ∧ ERel φ' F' e x ∧ Q x st ms

/-- what code comes to, with the marks of loops among the deferred calls -/
def XM (P : Program) (d : Dim) (c : Code) (Q : MPost) (st : St) (ms : List Nat) : Prop :=
  ∀ C φ F a w, C.d = d → Gam (C.mk' ms) φ F st a w → MarksOk C ms w → c.wpIn (fen none) 0 P (LiftM C φ F Q) a w

variable {Q : MPost} {st : St} {ms : List Nat}

theorem LiftM.weak {C : Ctx} {φ φ' : Phi} {F F' : Frz} (hφ : Phi.leN C.d.N φ φ') (hF : Frz.le F F') {e : Exit} {a : Act} {w : World} (h : LiftM C φ' F' Q e a w) : LiftM C φ F Q e a w := by
  obtain ⟨φ'', F'', st, x, ms, h1, h2, h3⟩ := h
  exact ⟨φ'', F'', st, x, ms, hφ.trans h1, hF.trans h2, h3⟩

theorem XM_of_X {c : Code} (h : X P d c (fun e s => Q e s ms) st) : XM P d c Q st ms := by
  intro C φ F a w hd G hm
  have E := G.ext
  have G1 : Gam ⟨w, Blocks φ st.σ, F, d, marks ms ++ C.D⟩ φ F st a w :=
    ⟨by rw [← hd]; exact G.size, G.defers, G.env, G.heap, ⟨rfl, rfl, rfl, Nat.le_refl _, fun _ _ _ => rfl, fun l o b base n sz h1 h2 => .inl ⟨l, o, base, n, sz, h1, h2⟩, .refl _, fun _ _ h => .inl h⟩⟩
  refine wpIn_mono (h _ φ F a w none rfl G1) ?_
  rintro e a' w' ⟨φ', F', s, x, h1, h2, G', hx, hq⟩
  refine ⟨φ', F', s, x, ms, by rw [hd]; exact h1, h2, ⟨by rw [show (C.mk' ms).d = d from hd]; exact G'.size, G'.defers, G'.env, G'.heap, ?_⟩, ⟨hm.1, fun m hmm => ?_⟩, hx, hq⟩
  · have Ec : Ext C φ F st.σ w := ⟨E.os, E.tape, E.output, E.size, E.kept, E.own, E.F0, E.Fnew⟩
    have := Ec.comp G'.ext
    exact ⟨this.os, this.tape, this.output, this.size, this.kept, this.own, this.F0, this.Fnew⟩
  · obtain ⟨q1, q2⟩ := hm.2 m hmm
    have hlt : m < w.heap.size := (Array.getElem?_eq_some_iff.1 q1).1
    refine ⟨?_, q2⟩
    rw [G'.ext.kept m hlt]
    · exact q1
    · rintro ⟨l, o, base, n, sz, k1, k2⟩
      cases G.heap.obj _ _ k1 with
      | virt e1 e2 => rw [e1] at k2; cases k2
      | blk e1 e2 e3 e4 =>
        rw [e1] at k2; cases k2
        obtain ⟨_, ty, lo, hi, k3, _⟩ := e3
        rw [q1] at k3; cases k3

theorem XM.mono {c : Code} {Q' : MPost} (h : XM P d c Q st ms) (hq : ∀ e s m, Q e s m → Q' e s m) : XM P d c Q' st ms :=
  fun C φ F a w hd G hm => wpIn_mono (h C φ F a w hd G hm) fun e a' w' ⟨φ', F', s, x, m, h1, h2, h3, h4, h5, h6⟩ => ⟨φ', F', s, x, m, h1, h2, h3, h4, h5, hq _ _ _ h6⟩

def AMthen (k : St → List Nat → Prop) (Q : MPost) : MPost
  | .normal, s, m => k s m
  | e, s, m => Q e s m
def AMblock (id : Nat) (Q : MPost) : MPost
  | .exit j, s, m => if j = id then Q .normal s m else Q (.exit j) s m
  | e, s, m => Q e s m

theorem XM_seq {x y : Code} (h : XM P d x (AMthen (XM P d y Q) Q) st ms) : XM P d (.seq x y) Q st ms := by
  intro C φ F a w hn G hm
  refine wpIn_seq (wpIn_mono (h C φ F a w hn G hm) ?_)
  rintro e a' w' ⟨φ', F', s, x', m, h1, h2, h3, h4, h5, h6⟩
  cases h5 with
  | normal => exact wpIn_mono (h6 C φ' F' a' w' hn h3 h4) fun _ _ _ h => h.weak h1 h2
  | exit => exact ⟨φ', F', s, _, m, h1, h2, h3, h4, .exit, h6⟩
  | ret => exact ⟨φ', F', s, _, m, h1, h2, h3, h4, .ret, h6⟩
  | panic hv => exact ⟨φ', F', s, _, m, h1, h2, h3, h4, .panic hv, h6⟩

theorem XM_block {id : Nat} {c : Code} (h : XM P d c (AMblock id Q) st ms) : XM P d (.block id c) Q st ms := by
  intro C φ F a w hn G hm
  refine wpIn_block (wpIn_mono (h C φ F a w hn G hm) ?_)
  rintro e a' w' ⟨φ', F', s, x', m, h1, h2, h3, h4, h5, h6⟩
  cases h5 with
  | normal => exact ⟨φ', F', s, _, m, h1, h2, h3, h4, .normal, h6⟩
  | exit =>
    simp only [AMblock] at h6
    simp only [Exit.inBlock]
    split at h6
    · rename_i e; rw [if_pos e]; exact ⟨φ', F', s, _, m, h1, h2, h3, h4, .normal, h6⟩
    · rename_i e; rw [if_neg e]; exact ⟨φ', F', s, _, m, h1, h2, h3, h4, .exit, h6⟩
  | ret => exact ⟨φ', F', s, _, m, h1, h2, h3, h4, .ret, h6⟩
  | panic hv => exact ⟨φ', F', s, _, m, h1, h2, h3, h4, .panic hv, h6⟩

theorem XM_cond {c : Operand} {x y : Code} {y' : Opd} {b : Bool} (hc : compOpd c = some y') (hd : y'.ev st.env = .bool b) (h : XM P d (if b then x else y) Q st ms) : XM P d (.cond c x y) Q st ms := by
  intro C φ F a w hn G hm
  have h1 := opd_ok G hc
  rw [hd] at h1
  exact wpIn_cond h1.bool_inv (h C φ F a w hn G hm)

/-! a function that holds such loops -/

theorem leavesM {fn : Func} {tmps : Array Value} {R : Ending → World → Prop} {u : FrameMode} (hu : u ≠ .run) : ∀ (ms : List Nat) (w : World), ms.Nodup → (∀ m ∈ ms, w.heap[m]? = some (.deferred (some []))) →
    (∀ w', w'.heap.size = w.heap.size → (∀ b, b ∉ ms → w'.heap[b]? = w.heap[b]?) → w'.os = w.os → w'.tape = w.tape → w'.output = w.output → LeavesInM (fen none) 0 P fn tmps R [] u w') →
      LeavesInM (fen none) 0 P fn tmps R (marks ms) u w := by
  intro ms
  induction ms with
  | nil => intro w _ _ h; exact h w rfl (fun _ _ => rfl) rfl rfl rfl
  | cons m ms ih =>
    intro w hnd hm h
    have hmm := hm m (by simp)
    have hnd' := List.nodup_cons.1 hnd
    have hlt : m < w.heap.size := (Array.getElem?_eq_some_iff.1 hmm).1
    refine ⟨hu, .inl ⟨m, _, rfl, run_takeDeferred hmm, ih _ hnd'.2 (fun k hk => ?_) ?_⟩⟩
    · have hne : m ≠ k := by rintro rfl; exact hnd'.1 hk
      rw [World.putObj_heap_other hne.symm]
      exact hm k (by simp [hk])
    · intro w' g1 g2 g3 g4 g5
      refine h w' (by rw [g1]; simp [World.putObj]) (fun b hb => ?_) g3 g4 g5
      rw [g2 b (fun hk => hb (by simp [hk]))]
      exact World.putObj_heap_other (by rintro rfl; exact hb (by simp))


theorem resF_ok {C : Ctx} {φ : Phi} {F : Frz} {s : St} {a : Act} {w : World} {fn : Func} {rs : List ARV} {v : AV} (G : Gam C φ F s a w) (hrs : fn.results.toList.mapM (cRV P) = some rs) (hr : resF rs s = some v) :
    ∃ cv, (results fn a.tmps).run P w = .ok cv w ∧ VRel φ F cv v := by
  have hm : ∀ cvs : List Value, (fn.results.toList.mapM (resOne a.tmps)).run P w = .ok cvs w → (results fn a.tmps).run P w = .ok (if h : cvs.toArray.size = 1 then cvs.toArray[0] else .tuple cvs.toArray) w := by
    intro cvs h
    rw [results_eq, Sem.run_bind, Array.mapM_eq_mapM_toList, Sem.run_map, h]
    simp
  unfold resF at hr
  split at hr
  · rename_i v' hvs
    cases hr
    obtain ⟨cvs, g1, g2⟩ := resAll_ok G _ _ _ hrs hvs
    have := hm cvs g1
    cases g2 with | cons q1 q2 =>
    cases q2
    exact ⟨_, this, by simpa using q1⟩
  · rename_i vs' hne hvs
    cases hr
    obtain ⟨cvs, g1, g2⟩ := resAll_ok G _ _ _ hrs hvs
    have := hm cvs g1
    have hl1 := g2.length
    have hn1 : ¬ cvs.toArray.size = 1 := by
      intro h
      have h1 : vs'.length = 1 := by simp at h; omega
      obtain ⟨r, hr⟩ := List.length_eq_one_iff.1 h1
      exact hne r hr
    rw [dif_neg hn1] at this
    exact ⟨_, this, .tup (by simpa using g2)⟩
  · cases hr

/-- blocks that hold no cells have turned, no more -/
structure Beside (ms : List Nat) (w w' : World) : Prop where
  size : w'.heap.size = w.heap.size
  kept : ∀ b, b ∉ ms → w'.heap[b]? = w.heap[b]?
  os : w'.os = w.os
  tape : w'.tape = w.tape
  output : w'.output = w.output

theorem HRel.beside {φ : Phi} {F : Frz} {σ : Store} {nx : Nat} {w w' : World} {ms : List Nat} (H : HRel φ F σ nx w) (h : Beside ms w w') (hno : ∀ m ∈ ms, ∀ c ty fz, w.heap[m]? ≠ some (.cells c ty fz)) : HRel φ F σ nx w' := by
  refine ⟨fun b c hf => ?_, fun l o ho => ?_, H.inj, H.fresh⟩
  · obtain ⟨ty, fz, e⟩ := H.frz b c hf
    exact ⟨ty, fz, by rw [h.kept b (fun hb => hno b hb _ _ _ e)]; exact e⟩
  · cases H.obj _ _ ho with
    | virt e1 e2 => exact .virt e1 e2
    | blk e1 e2 e3 e4 =>
      refine .blk e1 e2 ?_ e4
      obtain ⟨q1, ty, lo, hi, q2, q3⟩ := e3
      exact ⟨q1, ty, lo, hi, by rw [h.kept _ (fun hb => hno _ hb _ _ _ q2)]; exact q2, q3⟩

theorem Ext.beside {C : Ctx} {φ : Phi} {F : Frz} {σ : Store} {w w' : World} {ms : List Nat} (E : Ext C φ F σ w) (h : Beside ms w w') (hlow : ∀ m ∈ ms, C.w0.heap.size ≤ m) : Ext C φ F σ w' := by
  refine ⟨h.os.trans E.os, h.tape.trans E.tape, h.output.trans E.output, by rw [h.size]; exact E.size, fun b hb hS => ?_, E.own, E.F0, E.Fnew⟩
  rw [h.kept b (fun hm => by have := hlow b hm; omega)]
  exact E.kept b hb hS

def FnPostM (rs : List ARV) (R : ARes → Store → Nat → Prop) : MPost := fun e s _ => FnPost rs R e s

theorem Fn_of_XM {f : FuncId} {fn : Func} {c : Code} {args : List AV} {σ : Store} {nx : Nat} {R : ARes → Store → Nat → Prop} {rs : List ARV} (hf : P.funcs[f]? = some fn) (hb : fn.body = some c) (hlen : args.length ≤ fn.ntmps)
    (hrs : fn.results.toList.mapM (cRV P) = some rs) (h : XM P ⟨fn.ntmps, nx⟩ c (FnPostM rs R) ⟨argEnv 0 args, σ, nx⟩ []) : FnOk P f args σ nx R := by
  intro w φ F vs hv H
  have hvl := hv.length
  refine (callsIn_wide (n := 0)).1 (callsIn_of_wp_marks hf hb trivial (wpIn_mono (h ⟨w, Blocks φ σ, F, ⟨fn.ntmps, nx⟩, []⟩ φ F _ w rfl ?_ ⟨List.nodup_nil, fun m hm => by cases hm⟩) ?_) rfl)
  · refine ⟨by simp [Ctx.mk']; omega, rfl, fun t => ?_, H, ⟨rfl, rfl, rfl, Nat.le_refl _, fun _ _ _ => rfl, fun l o b base n sz h1 h2 => .inl ⟨l, o, base, n, sz, h1, h2⟩, .refl _, fun _ _ h => .inl h⟩⟩
    rw [argEnv_get]
    simp only [Nat.zero_le, if_true, Nat.sub_zero]
    cases ht : args[t]? with
    | none => exact .frz .any
    | some x =>
      obtain ⟨v, hv1, hv2⟩ := hv.get' ht
      have : (vs.toArray ++ Array.replicate (fn.ntmps - vs.toArray.size) undef).getD t undef = v := by
        have hlt : t < vs.length := by
          rcases Nat.lt_or_ge t vs.length with h | h
          · exact h
          · simp [List.getElem?_eq_none h] at hv1
        rw [Array.getD_eq_getD_getElem?, Array.getElem?_append_left (by simpa using hlt)]
        simp [hv1]
      rw [this]; exact hv2
  · rintro e a' w' ⟨φ', F', s, x, ms, h1, h2, G, hm, h4, h5⟩
    have hno : ∀ m ∈ ms, ∀ c ty fz, w'.heap[m]? ≠ some (.cells c ty fz) := by
      intro m hmm c ty fz e
      rw [(hm.2 m hmm).1] at e; cases e
    have hdef : a'.defers = marks ms := by have := G.defers; simpa [Ctx.mk'] using this
    have E0 : Ext ⟨w, Blocks φ σ, F, ⟨0, 0⟩, []⟩ φ' F' s.σ w' := ⟨G.ext.os, G.ext.tape, G.ext.output, G.ext.size, G.ext.kept, G.ext.own, G.ext.F0, G.ext.Fnew⟩
    have fin : ∀ (u : FrameMode), u ≠ .run → (∀ w'', Beside ms w' w'' → HRel φ' F' s.σ s.nx w'' → Ext ⟨w, Blocks φ σ, F, ⟨0, 0⟩, []⟩ φ' F' s.σ w'' → LeavesIn (fen none) 0 P fn a'.tmps (fun e w' => ∃ φ' F' r σ' nx', Phi.leN nx φ φ' ∧ Frz.le F F' ∧ HRel φ' F' σ' nx' w' ∧ Ext ⟨w, Blocks φ σ, F, ⟨0, 0⟩, []⟩ φ' F' σ' w' ∧ RRel φ' F' e r ∧ R r σ' nx') [] u w'') →
        LeavesInM (fen none) 0 P fn a'.tmps (fun e w' => ∃ φ' F' r σ' nx', Phi.leN nx φ φ' ∧ Frz.le F F' ∧ HRel φ' F' σ' nx' w' ∧ Ext ⟨w, Blocks φ σ, F, ⟨0, 0⟩, []⟩ φ' F' σ' w' ∧ RRel φ' F' e r ∧ R r σ' nx') a'.defers u w' := by
      intro u hu hk
      rw [hdef]
      refine leavesM hu ms w' hm.1 (fun m hmm => (hm.2 m hmm).1) ?_
      intro w'' g1 g2 g3 g4 g5
      have hb : Beside ms w' w'' := ⟨g1, g2, g3, g4, g5⟩
      exact hk w'' hb (G.heap.beside hb hno) (E0.beside hb (fun m hmm => (hm.2 m hmm).2))
    have ret : FnPost rs R .ret s → LeavesInM (fen none) 0 P fn a'.tmps (fun e w' => ∃ φ' F' r σ' nx', Phi.leN nx φ φ' ∧ Frz.le F F' ∧ HRel φ' F' σ' nx' w' ∧ Ext ⟨w, Blocks φ σ, F, ⟨0, 0⟩, []⟩ φ' F' σ' w' ∧ RRel φ' F' e r ∧ R r σ' nx') a'.defers .returning w' := by
      intro h5
      refine fin .returning (by simp) fun w'' hb H'' E'' => ?_
      simp only [FnPost] at h5
      split at h5
      · rename_i v hv
        have G'' : Gam ⟨w'', Blocks φ' s.σ, F', ⟨fn.ntmps, nx⟩, marks ms⟩ φ' F' s a' w'' := ⟨G.size, hdef, G.env, H'', ⟨rfl, rfl, rfl, Nat.le_refl _, fun _ _ _ => rfl, fun l o b base n sz h1 h2 => .inl ⟨l, o, base, n, sz, h1, h2⟩, .refl _, fun _ _ h => .inl h⟩⟩
        obtain ⟨cv, k1, k2⟩ := resF_ok G'' hrs hv
        exact ⟨cv, k1, φ', F', .ret v, s.σ, s.nx, h1, h2, H'', E'', .ret k2, h5⟩
      · exact h5.elim
    cases h4 with
    | normal => exact ret h5
    | ret => exact ret h5
    | exit => exact h5.elim
    | panic hv => exact fin _ (by simp) fun w'' hb H'' E'' => ⟨φ', F', .panic _, s.σ, s.nx, h1, h2, H'', E'', .panic hv, h5⟩

end
end Go.Ab
