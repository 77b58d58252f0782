/-
  The loop over what an iterator hands over: the rule.
-/
import Derived.Test.YtbldikkinholnaaDoorAb23
import Derived.Below
namespace Go.Ab
set_option linter.unusedVariables false
set_option linter.unusedSimpArgs false

inductive GG where
  | go (σ : Store) (nx : Nat)
  | st (c : Code) (σ : Store) (nx : Nat)

theorem HRel.off {φ : Phi} {F : Frz} {σ : Store} {nx : Nat} {w w' : World} {B : Nat → Prop} (H : HRel φ F σ nx w) (h : Off B w w') (h1 : ∀ b, Blocks φ σ b → ¬B b) (h2 : ∀ b c, F b = some c → ¬B b) : HRel φ F σ nx w' := by
  refine ⟨fun b c hf => ?_, fun l o ho => ?_, H.inj, H.fresh⟩
  · obtain ⟨ty, fz, e⟩ := H.frz b c hf
    exact ⟨ty, fz, by rw [h.kept b (H.frz_lt hf) (h2 b c hf)]; exact e⟩
  · cases H.obj _ _ ho with
    | virt e1 e2 => exact .virt e1 e2
    | blk e1 e2 e3 e4 =>
      refine .blk e1 e2 ?_ e4
      have hlt := e3.lt
      obtain ⟨q1, ty, lo, hi, q2, q3⟩ := e3
      exact ⟨q1, ty, lo, hi, by rw [h.kept _ hlt (h1 _ ⟨_, _, _, _, _, ho, e1⟩)]; exact q2, q3⟩

theorem HRel.blocks_lt {φ : Phi} {F : Frz} {σ : Store} {nx : Nat} {w : World} (H : HRel φ F σ nx w) {b : Nat} (h : Blocks φ σ b) : b < w.heap.size ∧ F b = none ∧ ∃ c ty fz, w.heap[b]? = some (.cells c ty fz) := by
  obtain ⟨l, o, base, n, sz, h1, h2⟩ := h
  cases H.obj _ _ h1 with
  | virt e1 e2 => rw [e1] at h2; cases h2
  | blk e1 e2 e3 e4 =>
    rw [e1] at h2; cases h2
    refine ⟨e3.lt, e2, ?_⟩
    obtain ⟨q1, ty, lo, hi, q2, q3⟩ := e3
    exact ⟨_, _, _, q2⟩

/-- the loop's maker, between two rounds -/
structure Core (C : Ctx) (φ : Phi) (F : Frz) (a : Act) (e : Env) (ms : List Nat) (l : Nat) (σ : Store) (nx : Nat) (B : Nat → Prop) (w : World) (L : Loop) (φ' : Phi) (F' : Frz) : Prop where
  le : Phi.leN C.d.N φ φ'
  leF : Frz.le F F'
  env : ∀ t, VRel φ' F' (a.tmps.getD t undef) (e.get t)
  heap : HRel φ' F' σ nx w
  own : ∀ b, Blocks φ' σ b → ¬B b
  frz : ∀ b c, F' b = some c → ¬B b
  ext : Ext C φ' F' σ w
  B0 : ∀ b, B b → C.S b ∨ C.w0.heap.size ≤ b
  recd : w.heap[l]? = some (.loop L)
  low : C.w0.heap.size ≤ l
  Bl : ¬B l
  mks : MarksOk C ms w
  Bm : ∀ m ∈ ms, ¬B m

def JG (C : Ctx) (φ : Phi) (F : Frz) (a : Act) (e : Env) (ms : List Nat) (l : Nat) (L : LoopState → Option Code → Loop) : JS GG where
  J g B w := match g with
    | .go σ nx => ∃ φ' F', Core C φ F a e ms l σ nx B w (L .ready none) φ' F'
    | .st c σ nx => ∃ φ' F', Core C φ F a e ms l σ nx B w (L .done (some c)) φ' F'
  mv := by
    have key : ∀ {σ nx B B' w w' L φ' F'}, Core C φ F a e ms l σ nx B w L φ' F' → Off B w w' → (∀ b, B' b → B b ∨ (w.heap.size ≤ b ∧ b < w'.heap.size)) → Core C φ F a e ms l σ nx B' w' L φ' F' := by
      intro σ nx B B' w w' L φ' F' K h hB
      have hl : l < w.heap.size := (Array.getElem?_eq_some_iff.1 K.recd).1
      have hm : ∀ m ∈ ms, m < w.heap.size := fun m hm => (Array.getElem?_eq_some_iff.1 (K.mks.2 m hm).1).1
      have E := K.ext
      refine ⟨K.le, K.leF, K.env, K.heap.off h K.own K.frz, fun b hb hB' => ?_, fun b c hf hB' => ?_, ⟨h.os.trans E.os, h.tape.trans E.tape, h.output.trans E.output, Nat.le_trans E.size h.size, fun b hb hS => ?_, E.own, E.F0, E.Fnew⟩,
        fun b hb => ?_, by rw [h.kept l hl K.Bl]; exact K.recd, K.low, fun hb => ?_, ⟨K.mks.1, fun m hmm => ⟨by rw [h.kept m (hm m hmm) (K.Bm m hmm)]; exact (K.mks.2 m hmm).1, (K.mks.2 m hmm).2⟩⟩, fun m hmm hb => ?_⟩
      · rcases hB b hB' with h' | h'
        · exact K.own b hb h'
        · have := (K.heap.blocks_lt hb).1; omega
      · rcases hB b hB' with h' | h'
        · exact K.frz b c hf h'
        · have := K.heap.frz_lt hf; omega
      · have hs := E.size
        rw [h.kept b (by omega) (fun hb' => by rcases K.B0 b hb' with h | h; exact hS h; omega)]
        exact E.kept b hb hS
      · rcases hB b hb with h' | h'
        · exact K.B0 b h'
        · have := E.size; exact .inr (by omega)
      · rcases hB l hb with h' | h'
        · exact K.Bl h'
        · omega
      · rcases hB m hb with h' | h'
        · exact K.Bm m hmm h'
        · have := hm m hmm; omega
    intro g B B' w w' hJ h hB
    cases g with
    | go σ nx => obtain ⟨φ', F', K⟩ := hJ; exact ⟨φ', F', key K h hB⟩
    | st c σ nx => obtain ⟨φ', F', K⟩ := hJ; exact ⟨φ', F', key K h hB⟩

/-- one round, in words of states -/
def Yr (P : Program) (n p : Nat) (e : Env) (assign body : Code) : Yld GG := fun g s K => match g with
  | .go σ nx => X P ⟨n, nx⟩ assign (fun ex s1 => match ex with
    | .normal => X P ⟨n, nx⟩ body (fun ex s2 => match ex with
      | .normal => K true (.go s2.σ s2.nx)
      | .ret => K false (.st .ret s2.σ s2.nx)
      | .exit id => K false (.st (.exit id) s2.σ s2.nx)
      | .panic _ => False) s1
    | _ => False) ⟨e.put p (.str s), σ, nx⟩
  | .st _ _ _ => False

theorem yr_mono {P : Program} {n p : Nat} {e : Env} {assign body : Code} (g : GG) (x : List UInt8) (K K' : Bool → GG → Prop) (h : ∀ b g', K b g' → K' b g') (hy : Yr P n p e assign body g x K) : Yr P n p e assign body g x K' := by
  cases g with
  | st c σ nx => exact hy
  | go σ nx =>
    unfold Yr at hy ⊢
    dsimp only at hy ⊢
    refine hy.mono ?_
    intro ex s1 h1
    cases ex with
    | normal =>
      refine X.mono h1 ?_
      intro ex s2 h2
      cases ex with
      | normal => exact h _ _ h2
      | ret => exact h _ _ h2
      | exit id => exact h _ _ h2
      | panic v => exact h2
    | _ => exact h1

section
variable {P : Program} {C : Ctx} {φ : Phi} {F : Frz} {a : Act} {e : Env} {ms : List Nat} {l : Nat} {n p : Nat} {assign body : Code}

theorem yr_ok {fn : FuncId} {Dm : Nat} (hsz : a.tmps.size = n) (hp : p < n) :
    YOk P (JG C φ F a e ms l (fun s pe => { state := s, pending := pe, fn, tmps := a.tmps, params := #[p], assign, body, defers := Dm })) F l (Yr P n p e assign body) := by
  intro g s K B w v hY hJ hBlt hrow hv
  cases g with
  | st c σ nx => exact hY.elim
  | go σ nx =>
    obtain ⟨φ1, F1, K1⟩ := hJ
    simp only [Yr] at hY
    have hl : l < w.heap.size := (Array.getElem?_eq_some_iff.1 K1.recd).1
    have hy := run_yield (P := P) (args := #[.string v]) K1.recd rfl
    refine ⟨fn, _, assign, body, hy, roundIn_of_wpIn trivial ?_⟩
    -- the assignment
    have G1 : Gam ⟨w, Blocks φ1 σ, F1, ⟨n, nx⟩, []⟩ φ1 F1 ⟨e.put p (.str s), σ, nx⟩ { tmps := (#[p].zip #[.string v]).foldl (fun tmps (t, a) => tmps.setIfInBounds t a) a.tmps, defers := [] } w := by
      refine ⟨by simp [hsz], rfl, fun t => ?_, K1.heap, ⟨rfl, rfl, rfl, Nat.le_refl _, fun _ _ _ => rfl, fun l o b base n sz h1 h2 => .inl ⟨l, o, base, n, sz, h1, h2⟩, .refl _, fun _ _ h => .inl h⟩⟩
      have : (#[p].zip #[.string v]).foldl (fun tmps (x : Tmp × Value) => tmps.setIfInBounds x.1 x.2) a.tmps = a.tmps.setIfInBounds p (.string v) := by simp
      show VRel φ1 F1 (((#[p].zip #[.string v]).foldl (fun tmps (x : Tmp × Value) => tmps.setIfInBounds x.1 x.2) a.tmps).getD t undef) ((e.put p (.str s)).get t)
      rw [this, Env.get_put]
      by_cases ht : p = t
      · subst ht
        rw [if_pos rfl]
        have : (a.tmps.setIfInBounds p (.string v)).getD p undef = .string v := by simp [hsz, hp]
        rw [this]; exact .frz (.str hv)
      · rw [if_neg ht]
        have : (a.tmps.setIfInBounds p (.string v)).getD t undef = a.tmps.getD t undef := by simp [Array.getElem?_setIfInBounds_ne ht]
        rw [this]; exact K1.env t
    refine wpIn_mono (hY _ φ1 F1 _ w (some l) rfl G1) ?_
    rintro ex a2 w2 ⟨φ2, F2, s2, x2, q1, q2, G2, hx, hq⟩
    cases hx with
    | exit => exact hq.elim
    | ret => exact hq.elim
    | panic => exact hq.elim
    | normal =>
    -- what the assignment has left
    have hnB1 : ∀ b, b < w.heap.size → (∀ c ty fz, w.heap[b]? ≠ some (.cells c ty fz)) → ¬ Blocks φ1 σ b := by
      intro b _ hc hB
      obtain ⟨_, _, c, ty, fz, h⟩ := K1.heap.blocks_lt hB
      exact hc _ _ _ h
    have hrec2 : w2.heap[l]? = some (.loop { state := .ready, pending := none, fn, tmps := a.tmps, params := #[p], assign, body, defers := Dm }) := by
      rw [G2.ext.kept l hl (hnB1 l hl (by rw [K1.recd]; simp))]; exact K1.recd
    refine ⟨_, run_beginRound hrec2 rfl, ?_⟩
    have hb2 : Beside [l] w2 (w2.putObj l (.loop { state := .busy, pending := none, fn, tmps := a.tmps, params := #[p], assign, body, defers := Dm })) :=
      ⟨by simp, fun b hb => World.putObj_heap_other (by simpa using hb), rfl, rfl, rfl⟩
    generalize hw3 : w2.putObj l (.loop { state := .busy, pending := none, fn, tmps := a.tmps, params := #[p], assign, body, defers := Dm }) = w3 at hb2
    have hl2 : l < w2.heap.size := (Array.getElem?_eq_some_iff.1 hrec2).1
    have hrec3 : w3.heap[l]? = some (.loop { state := .busy, pending := none, fn, tmps := a.tmps, params := #[p], assign, body, defers := Dm }) := by
      rw [← hw3]; exact World.putObj_heap_same hl2
    have H3 : HRel φ2 F2 s2.σ s2.nx w3 := G2.heap.beside hb2 (fun m hm c ty fz h => by simp at hm; subst hm; rw [hrec2] at h; cases h)
    have G3 : Gam ⟨w3, Blocks φ2 s2.σ, F2, ⟨n, nx⟩, []⟩ φ2 F2 s2 a2 w3 :=
      ⟨G2.size, G2.defers, G2.env, H3, ⟨rfl, rfl, rfl, Nat.le_refl _, fun _ _ _ => rfl, fun l o b base n sz h1 h2 => .inl ⟨l, o, base, n, sz, h1, h2⟩, .refl _, fun _ _ h => .inl h⟩⟩
    refine wpIn_mono (hq _ φ2 F2 _ w3 (some l) rfl G3) ?_
    rintro ex a4 w4 ⟨φ4, F4, s4, x4, r1, r2, G4, hx4, hq4⟩
    -- the round's end, however it ends
    have hs12 := G2.ext.size
    have hs34 := G4.ext.size
    simp only at hs12 hs34
    have hs23 := hb2.size
    have hnB3 : ∀ b, (∀ c ty fz, w3.heap[b]? ≠ some (.cells c ty fz)) → ¬ Blocks φ2 s2.σ b := by
      intro b hc hB
      obtain ⟨_, _, c, ty, fz, h⟩ := H3.blocks_lt hB
      exact hc _ _ _ h
    have hrec4 : w4.heap[l]? = some (.loop { state := .busy, pending := none, fn, tmps := a.tmps, params := #[p], assign, body, defers := Dm }) := by
      rw [G4.ext.kept l (by simp only; omega) (hnB3 l (by rw [hrec3]; simp))]; exact hrec3
    have hle1 : Phi.le φ1 φ4 := by
      intro k b hk
      have : k < nx := by
        rcases Nat.lt_or_ge k nx with h | h
        · exact h
        · rw [K1.heap.fresh k h] at hk; cases hk
      exact r1 k b this (q1 k b this hk)
    have hleF : Frz.le F1 F4 := q2.trans r2
    have hBl : ∀ b, Blocks φ4 s4.σ b → Blocks φ1 σ b ∨ w.heap.size ≤ b := by
      rintro b ⟨k, o, base, m, sz, h1, h2⟩
      rcases G4.ext.own _ _ _ _ _ _ h1 h2 with h | h
      · obtain ⟨k', o', base', m', sz', h1', h2'⟩ := h
        rcases G2.ext.own _ _ _ _ _ _ h1' h2' with h | h
        · exact .inl h
        · exact .inr h
      · simp only at h; exact .inr (by omega)
    have hFl : ∀ b c, F4 b = some c → F1 b = some c ∨ Blocks φ1 σ b ∨ w.heap.size ≤ b := by
      intro b c hf
      rcases G4.ext.Fnew b c hf with h | h | h
      · exact G2.ext.Fnew b c h
      · obtain ⟨k', o', base', m', sz', h1', h2'⟩ := h
        exact .inr (G2.ext.own _ _ _ _ _ _ h1' h2')
      · simp only at h; exact .inr (.inr (by omega))
    have hkeep : ∀ b, b < w.heap.size → b ≠ l → ¬ Blocks φ1 σ b → w4.heap[b]? = w.heap[b]? := by
      intro b hb hbl hnb
      rw [G4.ext.kept b (by simp only; omega) ?_, hb2.kept b (by simpa using hbl), G2.ext.kept b hb hnb]
      rintro ⟨k', o', base', m', sz', h1', h2'⟩
      rcases G2.ext.own _ _ _ _ _ _ h1' h2' with h | h
      · exact hnb h
      · simp only at h; omega
    have fin : ∀ (ls : LoopState) (pe : Option Code), (∀ g', (JG C φ F a e ms l (fun s pe => { state := s, pending := pe, fn, tmps := a.tmps, params := #[p], assign, body, defers := Dm })).J g' B (w4.putObj l (.loop { state := ls, pending := pe, fn, tmps := a.tmps, params := #[p], assign, body, defers := Dm })) ↔
        (match g' with
         | .go σ nx => ∃ φ' F', Core C φ F a e ms l σ nx B (w4.putObj l (.loop { state := ls, pending := pe, fn, tmps := a.tmps, params := #[p], assign, body, defers := Dm })) { state := .ready, pending := none, fn, tmps := a.tmps, params := #[p], assign, body, defers := Dm } φ' F'
         | .st c σ nx => ∃ φ' F', Core C φ F a e ms l σ nx B (w4.putObj l (.loop { state := ls, pending := pe, fn, tmps := a.tmps, params := #[p], assign, body, defers := Dm })) { state := .done, pending := some c, fn, tmps := a.tmps, params := #[p], assign, body, defers := Dm } φ' F')) := fun _ _ g' => by cases g' <;> exact Iff.rfl
    have hcore : ∀ (ls : LoopState) (pe : Option Code), Core C φ F a e ms l s4.σ s4.nx B (w4.putObj l (.loop { state := ls, pending := pe, fn, tmps := a.tmps, params := #[p], assign, body, defers := Dm })) { state := ls, pending := pe, fn, tmps := a.tmps, params := #[p], assign, body, defers := Dm } φ4 F4 ∧
        w.heap.size ≤ (w4.putObj l (.loop { state := ls, pending := pe, fn, tmps := a.tmps, params := #[p], assign, body, defers := Dm })).heap.size ∧
        (∀ b, b < w.heap.size → (B b ∨ F b ≠ none) → (w4.putObj l (.loop { state := ls, pending := pe, fn, tmps := a.tmps, params := #[p], assign, body, defers := Dm })).heap[b]? = w.heap[b]?) := by
      intro ls pe
      have hb4 : Beside [l] w4 (w4.putObj l (.loop { state := ls, pending := pe, fn, tmps := a.tmps, params := #[p], assign, body, defers := Dm })) :=
        ⟨by simp, fun b hb => World.putObj_heap_other (by simpa using hb), rfl, rfl, rfl⟩
      have hl4 : l < w4.heap.size := (Array.getElem?_eq_some_iff.1 hrec4).1
      have hrec5 : (w4.putObj l (.loop { state := ls, pending := pe, fn, tmps := a.tmps, params := #[p], assign, body, defers := Dm })).heap[l]? = some (.loop { state := ls, pending := pe, fn, tmps := a.tmps, params := #[p], assign, body, defers := Dm }) := World.putObj_heap_same hl4
      generalize w4.putObj l (.loop { state := ls, pending := pe, fn, tmps := a.tmps, params := #[p], assign, body, defers := Dm }) = w5 at hb4 hrec5
      have Ea : Ext C φ2 F2 s2.σ w2 := K1.ext.comp G2.ext
      have Eb : Ext C φ2 F2 s2.σ w3 := Ea.beside hb2 (fun m hm => by simp at hm; subst hm; exact K1.low)
      have Ec : Ext C φ4 F4 s4.σ w4 := Eb.comp G4.ext
      have Ed : Ext C φ4 F4 s4.σ w5 := Ec.beside hb4 (fun m hm => by simp at hm; subst hm; exact K1.low)
      have hsz5 := hb4.size
      have hkeep5 : ∀ b, b < w.heap.size → b ≠ l → ¬ Blocks φ1 σ b → w5.heap[b]? = w.heap[b]? := by
        intro b h1 h2 h3
        rw [hb4.kept b (by simpa using h2)]; exact hkeep b h1 h2 h3
      refine ⟨⟨K1.le.trans hle1.toN, K1.leF.trans hleF, fun t => (K1.env t).mono hle1 hleF, G4.heap.beside hb4 (fun m hm c ty fz h => by simp at hm; subst hm; rw [hrec4] at h; cases h), fun b hb hB => ?_, fun b c hf hB => ?_, Ed, K1.B0, hrec5, K1.low, K1.Bl, ⟨K1.mks.1, fun m hm => ?_⟩, K1.Bm⟩, by omega, fun b hb hor => ?_⟩
      · rcases hBl b hb with h | h
        · exact K1.own b h hB
        · have := hBlt b hB; omega
      · rcases hFl b c hf with h | h | h
        · exact K1.frz b c h hB
        · exact K1.own b h hB
        · have := hBlt b hB; omega
      · obtain ⟨h1, h2⟩ := K1.mks.2 m hm
        refine ⟨?_, h2⟩
        have hlt : m < w.heap.size := (Array.getElem?_eq_some_iff.1 h1).1
        rw [hkeep5 m hlt (by rintro rfl; have hq := K1.recd; rw [h1] at hq; cases hq) (hnB1 m hlt (by rw [h1]; simp))]
        exact h1
      · have hnb : ¬ Blocks φ1 σ b := by
          intro hB
          rcases hor with h | h
          · exact K1.own b hB h
          · have := (K1.heap.blocks_lt hB).2.1
            cases hf : F b with
            | none => exact h hf
            | some c => rw [K1.leF b c hf] at this; cases this
        refine hkeep5 b hb ?_ hnb
        rintro rfl
        rcases hor with h | h
        · exact K1.Bl h
        · cases hf : F b with
          | none => exact h hf
          | some c =>
            obtain ⟨ty, fz, hr⟩ := hrow b c hf
            rw [K1.recd] at hr; cases hr
    cases hx4 with
    | normal =>
      obtain ⟨c1, c2, c3⟩ := hcore .ready none
      exact ⟨_, _, run_endRound none hrec4, true, .go s4.σ s4.nx, rfl, hq4, ⟨φ4, F4, c1⟩, c2, c3⟩
    | ret =>
      obtain ⟨c1, c2, c3⟩ := hcore .done (some .ret)
      exact ⟨_, _, run_endRound (some .ret) hrec4, false, .st .ret s4.σ s4.nx, rfl, hq4, ⟨φ4, F4, c1⟩, c2, c3⟩
    | exit =>
      rename_i id
      obtain ⟨c1, c2, c3⟩ := hcore .done (some (.exit id))
      exact ⟨_, _, run_endRound (some (.exit id)) hrec4, false, .st (.exit id) s4.σ s4.nx, rfl, hq4, ⟨φ4, F4, c1⟩, c2, c3⟩
    | panic => exact hq4.elim


/-- names given to another are none of ours -/
theorem rest_own {σ σ0 : Store} {nx : Nat} {w : World} {li : List Nat} (H : HRel φ F σ nx w) (hs : entStore (rho li nx) σ σ0) {b : Nat} (h1 : Blocks φ (Store.less li σ) b) (h2 : Blocks (fun k => φ (rho li nx k)) σ0 b) : False := by
  obtain ⟨m, o, base, n, sz, g1, g2⟩ := h1
  obtain ⟨k, o', base', n', sz', k1, k2⟩ := h2
  obtain ⟨g3, g4⟩ := get_less g1
  have hk := entStore_get hs k1
  have := H.inj _ _ _ _ _ _ _ _ _ _ _ g4 hk g2 k2
  apply g3
  rw [this]
  have : k < li.length := by
    rcases Nat.lt_or_ge k li.length with h | h
    · exact h
    · simp only [rho, List.getElem?_eq_none h, Option.getD_none] at k2
      rw [H.fresh nx (Nat.le_refl _)] at k2; cases k2
  rw [rho_mem this]
  exact List.getElem_mem this

theorem HRel.less {σ : Store} {nx : Nat} {w : World} {li : List Nat} (H : HRel φ F σ nx w) : HRel φ F (Store.less li σ) nx w :=
  ⟨H.frz, fun l o h => H.obj l o (get_less h).2, fun l l' o o' b n s z m t y g1 g2 g3 g4 => H.inj _ _ _ _ _ _ _ _ _ _ _ (get_less g1).2 (get_less g2).2 g3 g4, H.fresh⟩

/-- the store that a callee is handed, under its own names -/
theorem HRel.sub {σ σ0 : Store} {nx : Nat} {w : World} {li : List Nat} (H : HRel φ F σ nx w) (hs : entStore (rho li nx) σ σ0) (hnd : li.Nodup) : HRel (fun k => φ (rho li nx k)) F σ0 li.length w := by
  have hfr : φ nx = none := H.fresh _ (Nat.le_refl _)
  have hout : ∀ k, li.length ≤ k → rho li nx k = nx := by
    intro k hk; simp [rho, List.getElem?_eq_none hk]
  have hlt : ∀ k b, φ (rho li nx k) = some b → k < li.length := by
    intro k b hk
    rcases Nat.lt_or_ge k li.length with h | h
    · exact h
    · rw [hout k h, hfr] at hk; cases hk
  refine ⟨H.frz, fun k o ho => ?_, ?_, fun k hk => ?_⟩
  · have hs' := entStore_get hs ho
    cases H.obj _ _ hs' with
    | virt e1 e2 =>
      cases o with
      | var cs => simp [Obj.rn] at e2
      | arr sz es =>
        simp only [Obj.rn, Obj.arr.injEq] at e2
        obtain ⟨rfl, e2⟩ := e2
        have : es = [] := by
          cases es with
          | nil => rfl
          | cons a as => simp [AV.rns] at e2
        subst this
        exact .virt e1 rfl
    | blk e1 e2 e3 e4 =>
      refine .blk e1 e2 e3 ?_
      cases o with
      | var cs =>
        simp only [Obj.rn] at e4
        cases e4 with | var q1 q2 =>
        rw [rns_length] at q1 q2
        exact .var q1 (VRels.unrn (fun _ _ h => h) _ q2)
      | arr sz es =>
        simp only [Obj.rn] at e4
        cases e4 with | arr q1 q2 q3 =>
        rw [rns_length] at q2 q3
        rw [rns_flat] at q3
        refine .arr (fun x hx => ?_) q2 (VRels.unrn (fun _ _ h => h) _ q3)
        have := q1 _ (rns_mem hx)
        rw [rn_cells, rns_length] at this
        exact ⟨this.1, rn_any this.2⟩
  · intro k k' o o' b n s z m t y g1 g2 g3 g4
    have := H.inj _ _ _ _ _ _ _ _ _ _ _ (entStore_get hs g1) (entStore_get hs g2) g3 g4
    have h1 := hlt k _ g3
    have h2 := hlt k' _ g4
    rw [rho_mem h1, rho_mem h2] at this
    exact (List.getElem_inj hnd).1 this
  · show φ (rho li nx k) = none
    rw [hout k hk]; exact hfr

theorem XM_range {d : Dim} {st : St} {Q : MPost} {gop : Operand} {og : Opd} {gf : FuncId} {caps A0 : List AV} {σ0 : Store} {xs : List (List UInt8)} (li : List Nat)
    (Inv : Nat → Store → Nat → Prop) (Ev : Code → Store → Nat → Prop) (hd : d.n = n) (hop : compOpd gop = some og) (hev : og.ev st.env = .fn gf caps) (hb : HasBody P gf) (hit : ItOk P gf A0 σ0 li.length xs)
    (ha : caps = AV.rns (rho li st.nx) A0) (hs : entStore (rho li st.nx) st.σ σ0) (hnd : li.Nodup) (hp : p < n)
    (h0 : Inv 0 (Store.less li st.σ) st.nx)
    (hround : ∀ k σ nx x, Inv k σ nx → xs[k]? = some x → Yr P n p st.env assign body (.go σ nx) x fun b g' => match g' with
      | .go σ' nx' => b = true → Inv (k + 1) σ' nx'
      | .st c σ' nx' => b = false → Ev c σ' nx')
    (hdone : ∀ Dm σ nx, Inv xs.length σ nx → Q .normal ⟨st.env, σ, nx⟩ (Dm :: ms))
    (hstop : ∀ Dm c σ nx, Ev c σ nx → (c = .ret ∧ Q .ret ⟨st.env, σ, nx⟩ (Dm :: ms)) ∨ ∃ id, c = .exit id ∧ Q (.exit id) ⟨st.env, σ, nx⟩ (Dm :: ms)) :
    XM P d (.rangeFunc gop #[p] assign body) Q st ms := by
  intro C φ F a w hCd G hm
  refine wpIn_rangeFunc ?_
  intro fn _
  have hgv := opd_ok G hop
  rw [hev] at hgv
  obtain ⟨lb, hlb, hlr⟩ := hgv.fn_inv
  have hsz : a.tmps.size = n := by rw [G.size, show (C.mk' ms).d = d from hCd, hd]
  let L : LoopState → Option Code → Loop := fun s pe => { state := s, pending := pe, fn, tmps := a.tmps, params := #[p], assign, body, defers := w.heap.size }
  obtain ⟨W1, hW1⟩ : ∃ W1, (w.alloc (.deferred (some []))).alloc (.loop (L .ready none)) = W1 := ⟨_, rfl⟩
  have hL1 : W1.heap[w.heap.size + 1]? = some (.loop (L .ready none)) := by
    rw [← hW1]; have := World.alloc_heap_new (w.alloc (.deferred (some []))) (.loop (L .ready none)); rwa [World.size_alloc] at this
  have hK1 : W1.heap[w.heap.size]? = some (.deferred (some [])) := by
    rw [← hW1]
    exact (Go.RowKit.Below.heap_alloc _ _ _ (by simp)).trans (World.alloc_heap_new w _)
  have hsame : Same w W1 := by
    rw [← hW1]
    refine ⟨by simp only [World.size_alloc]; omega, fun b hb => ?_⟩
    exact (Go.RowKit.Below.heap_alloc _ _ _ (by simp only [World.size_alloc]; omega)).trans (Go.RowKit.Below.heap_alloc _ _ _ hb)
  have hos1 : W1.os = w.os ∧ W1.tape = w.tape ∧ W1.output = w.output := by rw [← hW1]; exact ⟨rfl, rfl, rfl⟩
  have E := G.ext
  have EC : Ext C φ F st.σ w := ⟨E.os, E.tape, E.output, E.size, E.kept, E.own, E.F0, E.Fnew⟩
  have hCs := EC.size
  have hsW := hsame.1
  -- the iterator's share
  have H0 := (G.heap.sub hs hnd).same hsame
  have Hr := (G.heap.less (li := li)).same hsame
  have hBsub : ∀ b, Blocks (fun k => φ (rho li st.nx k)) σ0 b → Blocks φ st.σ b := by
    rintro b ⟨k, o, base, m, sz, k1, k2⟩
    exact ⟨_, _, base, m, sz, entStore_get hs k1, k2⟩
  have hnotc : ∀ b, (∀ c ty fz, W1.heap[b]? ≠ some (.cells c ty fz)) → ¬ Blocks (fun k => φ (rho li st.nx k)) σ0 b := by
    intro b hc hB
    obtain ⟨_, _, c, ty, fz, h⟩ := H0.blocks_lt hB
    exact hc _ _ _ h
  have hJ : (JG C φ F a st.env (w.heap.size :: ms) (w.heap.size + 1) L).J (.go (Store.less li st.σ) st.nx) (Blocks (fun k => φ (rho li st.nx k)) σ0) W1 := by
    refine ⟨φ, F, .refl _ _, .refl _, G.env, Hr, fun b h1 h2 => rest_own G.heap hs h1 h2, fun b c hf hB => ?_, ?_, fun b hB => ?_, hL1, by omega, hnotc _ (by rw [hL1]; simp), ⟨List.nodup_cons.2 ⟨fun hmm => ?_, hm.1⟩, fun m hmm => ?_⟩, fun m hmm => ?_⟩
    · have := (H0.blocks_lt hB).2.1
      rw [hf] at this; cases this
    · refine ⟨hos1.1.trans EC.os, hos1.2.1.trans EC.tape, hos1.2.2.trans EC.output, by omega, fun b hb hS => ?_, fun k o base b n sz h1 h2 => EC.own _ _ _ _ _ _ (get_less h1).2 h2, EC.F0, EC.Fnew⟩
      rw [hsame.2 b (by omega)]; exact EC.kept b hb hS
    · obtain ⟨k, o, base, m, sz, h1, h2⟩ := hBsub b hB
      exact EC.own _ _ _ _ _ _ h1 h2
    · have := (Array.getElem?_eq_some_iff.1 (hm.2 _ hmm).1).1; omega
    · rcases List.mem_cons.1 hmm with rfl | hmm
      · exact ⟨hK1, hCs⟩
      · have h1 := hm.2 m hmm
        exact ⟨by rw [hsame.2 m (Array.getElem?_eq_some_iff.1 h1.1).1]; exact h1.1, h1.2⟩
    · rcases List.mem_cons.1 hmm with rfl | hmm
      · exact hnotc _ (by rw [hK1]; simp)
      · have h1 := hm.2 m hmm
        exact hnotc _ (by rw [hsame.2 m (Array.getElem?_eq_some_iff.1 h1.1).1, h1.1]; simp)
  refine ⟨w.heap.size + 1, [{ target := .collected w.heap.size, args := #[] }], W1, { target := .fn (.func gf) lb, args := #[.func (.yield (w.heap.size + 1)) #[] #[]] }, W1, gf,
    #[.func (.yield (w.heap.size + 1)) #[] #[]] ++ lb, W1, ?_, ?_, fun _ _ => trivial, ?_, fun h => (by cases h), ?_⟩
  · rw [← hW1]; exact run_enterLoop_outer _ _ _ _ _
  · simp [resolve, hlb, Deferred.ofValue]
    rfl
  · simp [invoke, callFunc_run hb]
  · have hvs : VRels (fun k => φ (rho li st.nx k)) F lb.toList A0 := VRels.unrn (fun _ _ h => h) _ (by rw [← ha]; exact hlr)
    have := hit (w.heap.size + 1) GG (JG C φ F a st.env (w.heap.size :: ms) (w.heap.size + 1) L) F (Yr P n p st.env assign body)
      (fun k g => ∃ σ nx, g = .go σ nx ∧ Inv k σ nx) (fun g => ∃ c σ nx, g = .st c σ nx ∧ Ev c σ nx) (.go (Store.less li st.σ) st.nx) (yr_ok hsz hp) yr_mono ⟨_, _, rfl, h0⟩ ?_ _ F _ W1 lb.toList hvs H0 (fun _ h => h) (.refl _) (fun _ _ h => .inl h) (fun b hB => (H0.blocks_lt hB).1) hJ
    · simp only [Array.toArray_toList] at this
      refine this.mono ?_
      rintro e w3 ⟨v, g', B', rfl, hJ3, hor⟩
      have aft : ∀ {σ nx L3 φ3 F3}, Core C φ F a st.env (w.heap.size :: ms) (w.heap.size + 1) σ nx B' w3 L3 φ3 F3 → ∀ (pe : Option Code), Gam (C.mk' (w.heap.size :: ms)) φ3 F3 ⟨st.env, σ, nx⟩ { tmps := a.tmps, defers := [{ target := .collected w.heap.size, args := #[] }] ++ a.defers } (w3.putObj (w.heap.size + 1) (.loop (L .exhausted pe))) ∧
          MarksOk C (w.heap.size :: ms) (w3.putObj (w.heap.size + 1) (.loop (L .exhausted pe))) ∧ Phi.leN C.d.N φ φ3 ∧ Frz.le F F3 := by
        intro σ nx L3 φ3 F3 K pe
        have hb3 : Beside [w.heap.size + 1] w3 (w3.putObj (w.heap.size + 1) (.loop (L .exhausted pe))) := ⟨by simp, fun b hb => World.putObj_heap_other (by simpa using hb), rfl, rfl, rfl⟩
        have E3 := K.ext.beside hb3 (fun m hmm => by simp at hmm; subst hmm; omega)
        refine ⟨⟨by rw [show (C.mk' (w.heap.size :: ms)).d = d from hCd, hd]; exact hsz, by simp [Ctx.mk', marks, G.defers], K.env, K.heap.beside hb3 (fun m hmm c ty fz h => by simp at hmm; subst hmm; rw [K.recd] at h; cases h), ⟨E3.os, E3.tape, E3.output, E3.size, E3.kept, E3.own, E3.F0, E3.Fnew⟩⟩, ⟨K.mks.1, fun m hmm => ?_⟩, K.le, K.leF⟩
        have h1 := K.mks.2 m hmm
        refine ⟨?_, h1.2⟩
        rw [hb3.kept m (by intro h; simp at h; subst h; have := K.recd; rw [h1.1] at this; cases this)]
        exact h1.1
      rcases hor with ⟨σ, nx, rfl, hI⟩ | ⟨c, σ, nx, rfl, hE⟩
      · obtain ⟨φ3, F3, K⟩ := hJ3
        obtain ⟨g1, g2, g3, g4⟩ := aft K none
        exact ⟨none, _, run_endLoop K.recd (by simp [L]), φ3, F3, _, _, _, g3, g4, g1, g2, .normal, hdone _ _ _ hI⟩
      · obtain ⟨φ3, F3, K⟩ := hJ3
        obtain ⟨g1, g2, g3, g4⟩ := aft K (some c)
        refine ⟨some c, _, run_endLoop K.recd (by simp [L]), ?_⟩
        rcases hstop w.heap.size _ _ _ hE with ⟨rfl, hq⟩ | ⟨id, rfl, hq⟩
        · exact wpIn_ret ⟨φ3, F3, _, _, _, g3, g4, g1, g2, .ret, hq⟩
        · exact wpIn_exit ⟨φ3, F3, _, _, _, g3, g4, g1, g2, .exit, hq⟩
    · rintro k g x ⟨σ, nx, rfl, hI⟩ hx
      have hy := hround k σ nx x hI hx
      simp only [Yr] at hy ⊢
      refine hy.mono ?_
      intro ex s1 h1
      cases ex with
      | normal =>
        refine X.mono h1 ?_
        intro ex s2 h2
        cases ex with
        | normal => exact ⟨fun hb => ⟨_, _, rfl, h2 hb⟩, fun hb => by cases hb⟩
        | ret => exact ⟨fun hb => (by cases hb), fun hb => ⟨_, _, _, rfl, h2 hb⟩⟩
        | exit id => exact ⟨fun hb => (by cases hb), fun hb => ⟨_, _, _, rfl, h2 hb⟩⟩
        | panic v => exact h2
      | _ => exact h1

end
end Go.Ab
