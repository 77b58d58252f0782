/-
  How names keep standing to blocks: a new block, a block written, a name struck, a draw.
-/
import Derived.Test.YtbldikkinholnaaDoorAb4
namespace Go.Ab

def Phi.upd (φ : Phi) (l : Nat) (x : Blk) : Phi := fun k => if k = l then some x else φ k
theorem Phi.upd_self (φ : Phi) (l : Nat) (x : Blk) : φ.upd l x l = some x := by simp [Phi.upd]
theorem Phi.upd_ne (φ : Phi) {l k : Nat} (x : Blk) (h : k ≠ l) : φ.upd l x k = φ k := by simp [Phi.upd, h]
theorem Phi.le_upd {φ : Phi} {l : Nat} {x : Blk} (h : φ l = none) : Phi.le φ (φ.upd l x) := by
  intro k b hk
  have : k ≠ l := by intro e; subst e; rw [h] at hk; cases hk
  rw [Phi.upd_ne _ _ this]; exact hk

theorem HRel.dom {φ : Phi} {F : Frz} {σ : Store} {nx : Nat} {w : World} (H : HRel φ F σ nx w) {l : Nat} {o : Obj} (h : σ.get l = some o) : l < nx := by
  rcases Nat.lt_or_ge l nx with h' | h'
  · exact h'
  · have := H.fresh l h'
    cases H.obj l o h with
    | virt e => rw [this] at e; cases e
    | blk e => rw [this] at e; cases e

theorem HRel.frz_lt {φ : Phi} {F : Frz} {σ : Store} {nx : Nat} {w : World} (H : HRel φ F σ nx w) {b : Nat} {c : Array Value} (h : F b = some c) : b < w.heap.size := by
  obtain ⟨ty, fz, e⟩ := H.frz b c h
  rcases Nat.lt_or_ge b w.heap.size with h' | h'
  · exact h'
  · simp [Array.getElem?_eq_none h'] at e

theorem HRel.frz_new {φ : Phi} {F : Frz} {σ : Store} {nx : Nat} {w : World} (H : HRel φ F σ nx w) : F w.heap.size = none := by
  cases h : F w.heap.size with
  | none => rfl
  | some c => have := H.frz_lt h; omega

theorem Free.lt {w : World} {b base n : Nat} {c : Array Value} (h : Free w b base n c) : b < w.heap.size := by
  obtain ⟨_, ty, lo, hi, e, _⟩ := h
  rcases Nat.lt_or_ge b w.heap.size with h' | h'
  · exact h'
  · simp [Array.getElem?_eq_none h'] at e

theorem Free.row {w : World} {b base n : Nat} {c : Array Value} (h : Free w b base n c) : Row w b c := by
  obtain ⟨_, ty, lo, hi, e, _⟩ := h
  exact ⟨ty, _, e⟩

theorem OCont.mono {φ φ' : Phi} {F F' : Frz} (hφ : Phi.le φ φ') (hF : Frz.le F F') {base n sz : Nat} {c : Array Value} {o : Obj} (h : OCont φ F base n sz c o) : OCont φ' F' base n sz c o := by
  cases h with
  | var h1 h2 => exact .var h1 (h2.mono hφ hF)
  | arr h1 h2 h3 => exact .arr h1 h2 (h3.mono hφ hF)

/-- worlds that agree on the old blocks -/
def Same (w w' : World) : Prop := w.heap.size ≤ w'.heap.size ∧ ∀ b, b < w.heap.size → w'.heap[b]? = w.heap[b]?

theorem Free.same {w w' : World} (h : Same w w') {b base n : Nat} {c : Array Value} (k : Free w b base n c) : Free w' b base n c := by
  have hlt := k.lt
  obtain ⟨e, ty, lo, hi, e1, e2⟩ := k
  exact ⟨e, ty, lo, hi, by rw [h.2 b hlt]; exact e1, e2⟩

theorem ORel.same {φ φ' : Phi} {F F' : Frz} (hφ : Phi.le φ φ') (hF : Frz.le F F') (hF0 : ∀ b, F b = none → ∀ l o c base n sz, φ l = some (.blk b base n sz) → OCont φ F base n sz c o → F' b = none)
    {w w' : World} (h : Same w w') {l : Nat} {o : Obj} (k : ORel φ F w l o) : ORel φ' F' w' l o := by
  cases k with
  | virt e1 e2 => exact .virt (hφ _ _ e1) e2
  | blk e1 e2 e3 e4 => exact .blk (hφ _ _ e1) (hF0 _ e2 _ _ _ _ _ _ e1 e4) (e3.same h) (e4.mono hφ hF)

/-- a draw, or whatever leaves the blocks -/
theorem HRel.same {φ : Phi} {F : Frz} {σ : Store} {nx : Nat} {w w' : World} (H : HRel φ F σ nx w) (h : Same w w') : HRel φ F σ nx w' := by
  refine ⟨fun b c e => ?_, fun l o e => ?_, H.inj, H.fresh⟩
  · have hlt := H.frz_lt e
    obtain ⟨ty, fz, e⟩ := H.frz b c e
    exact ⟨ty, fz, by rw [h.2 b hlt]; exact e⟩
  · exact (H.obj l o e).same (Phi.le.refl _) (Frz.le.refl _) (fun _ e _ _ _ _ _ _ _ _ => e) h

theorem HRel.push {φ : Phi} {F : Frz} {σ : Store} {nx : Nat} {w : World} (H : HRel φ F σ nx w) {c : Array Value} {t : TypeId} {base sz : Nat} {o : Obj}
    (ho : OCont φ F base c.size sz c o) :
    HRel (φ.upd nx (.blk w.heap.size base c.size sz)) F ((nx, o) :: σ) (nx + 1) { w with heap := w.heap.push (.cells c t) } := by
  have hs : Same w { w with heap := w.heap.push (.cells c t) } := by
    refine ⟨by simp, fun b hb => ?_⟩
    show (w.heap.push _)[b]? = _
    rw [Array.getElem?_push, if_neg (by omega)]
  have hφ : Phi.le φ (φ.upd nx (.blk w.heap.size base c.size sz)) := Phi.le_upd (H.fresh nx (Nat.le_refl _))
  have hnew : Free { w with heap := w.heap.push (.cells c t) } w.heap.size base c.size c := by
    refine ⟨rfl, t, 0, 0, ?_, fun i _ _ h => by omega⟩
    show (w.heap.push _)[w.heap.size]? = _
    simp
  refine ⟨fun b c e => (H.same hs).frz b c e, fun l x e => ?_, ?_, fun l hl => ?_⟩
  · simp only [Store.get] at e
    split at e
    · next h => subst h; cases e; exact .blk (Phi.upd_self ..) H.frz_new hnew (ho.mono hφ (Frz.le.refl _))
    · exact (H.obj l x e).same hφ (Frz.le.refl _) (fun _ e _ _ _ _ _ _ _ _ => e) hs
  · intro l l' x x' b n s z m t' y e e' h h'
    have key : ∀ l x b n s z, σ.get l = some x → φ.upd nx (.blk w.heap.size base c.size sz) l = some (.blk b n s z) → φ l = some (.blk b n s z) ∧ b < w.heap.size := by
      intro l x b n s z e h
      have hne : l ≠ nx := by have := H.dom e; omega
      rw [Phi.upd_ne _ _ hne] at h
      refine ⟨h, ?_⟩
      cases H.obj l x e with
      | virt e => rw [h] at e; cases e
      | blk e1 e2 e3 => rw [h] at e1; cases e1; exact e3.lt
    simp only [Store.get] at e e'
    split at e <;> split at e'
    · omega
    · next h1 h2 =>
      subst h1
      rw [Phi.upd_self] at h; cases h
      have := (key _ _ _ _ _ _ e' h').2; omega
    · next h1 h2 =>
      subst h2
      rw [Phi.upd_self] at h'; cases h'
      have := (key _ _ _ _ _ _ e h).2; omega
    · exact H.inj _ _ _ _ _ _ _ _ _ _ _ e e' (key _ _ _ _ _ _ e h).1 (key _ _ _ _ _ _ e' h').1
  · rw [Phi.upd_ne _ _ (by omega)]; exact H.fresh l (by omega)

theorem HRel.virt {φ : Phi} {F : Frz} {σ : Store} {nx : Nat} {w : World} (H : HRel φ F σ nx w) {sz : Nat} : HRel (φ.upd nx .virt) F ((nx, .arr sz []) :: σ) (nx + 1) w := by
  have hφ : Phi.le φ (φ.upd nx .virt) := Phi.le_upd (H.fresh nx (Nat.le_refl _))
  have hs : Same w w := ⟨Nat.le_refl _, fun _ _ => rfl⟩
  refine ⟨H.frz, fun l x e => ?_, ?_, fun l hl => ?_⟩
  · simp only [Store.get] at e
    split at e
    · next h => subst h; cases e; exact .virt (Phi.upd_self ..) rfl
    · exact (H.obj l x e).same hφ (Frz.le.refl _) (fun _ e _ _ _ _ _ _ _ _ => e) hs
  · intro l l' x x' b n s z m t' y e e' h h'
    simp only [Store.get] at e e'
    split at e
    · next h1 => subst h1; rw [Phi.upd_self] at h; cases h
    · split at e'
      · next h1 => subst h1; rw [Phi.upd_self] at h'; cases h'
      · next h1 h2 =>
        rw [Phi.upd_ne _ _ (Ne.symm h1)] at h
        rw [Phi.upd_ne _ _ (Ne.symm h2)] at h'
        exact H.inj _ _ _ _ _ _ _ _ _ _ _ e e' h h'
  · rw [Phi.upd_ne _ _ (by omega)]; exact H.fresh l (by omega)

theorem HRel.del {φ : Phi} {F : Frz} {σ : Store} {nx : Nat} {w : World} (H : HRel φ F σ nx w) (l : Nat) : HRel φ F (σ.del l) nx w := by
  have key : ∀ k o, (σ.del l).get k = some o → σ.get k = some o := by
    intro k o h
    rw [Store.get_del] at h
    split at h
    · cases h
    · exact h
  exact ⟨H.frz, fun k o h => H.obj k o (key _ _ h), fun k k' o o' b n s z m t y h h' => H.inj k k' o o' b n s z m t y (key _ _ h) (key _ _ h'), H.fresh⟩

/-- the block of a name is written: the name holds something else -/
theorem HRel.upd {φ : Phi} {F : Frz} {σ : Store} {nx : Nat} {w w' : World} (H : HRel φ F σ nx w) {l b base n sz : Nat} {o o' : Obj} {c c' : Array Value}
    (hl : σ.get l = some o) (hb : φ l = some (.blk b base n sz)) (hf : Free w b base n c) (hu : Upd w b c c' w') (ho : OCont φ F base n sz c' o') : HRel φ F (σ.set l o') nx w' := by
  have hFb : F b = none := by
    cases H.obj l o hl with
    | virt e => rw [hb] at e; cases e
    | blk e1 e2 _ _ => rw [hb] at e1; cases e1; exact e2
  have key : ∀ k x, (σ.set l o').get k = some x → (k = l ∧ x = o') ∨ (k ≠ l ∧ σ.get k = some x) := by
    intro k x h
    rw [Store.get_set] at h
    split at h
    · next e => subst e; rw [hl] at h; cases h; exact .inl ⟨rfl, rfl⟩
    · next e => exact .inr ⟨Ne.symm e, h⟩
  have key2 : ∀ k x, (σ.set l o').get k = some x → ∃ y, σ.get k = some y := by
    intro k x h
    rcases key k x h with ⟨rfl, _⟩ | ⟨_, h⟩
    · exact ⟨_, hl⟩
    · exact ⟨_, h⟩
  refine ⟨fun k d e => ?_, fun k x e => ?_, ?_, H.fresh⟩
  · have hne : k ≠ b := by intro h; subst h; rw [hFb] at e; cases e
    obtain ⟨ty, fz, e⟩ := H.frz k d e
    exact ⟨ty, fz, by rw [hu.other k hne]; exact e⟩
  · rcases key k x e with ⟨rfl, rfl⟩ | ⟨hne, e⟩
    · obtain ⟨e1, ty, lo, hi, e2, e3⟩ := hf
      exact .blk hb hFb ⟨by rw [hu.csize]; exact e1, ty, lo, hi, hu.row _ _ e2, e3⟩ ho
    · cases H.obj k x e with
      | virt e1 e2 => exact .virt e1 e2
      | blk e1 e2 e3 e4 =>
        rename_i b' base' n' sz' c2
        have hne' : b' ≠ b := by
          intro h; subst h
          exact hne (H.inj _ _ _ _ _ _ _ _ _ _ _ e hl e1 hb)
        obtain ⟨g1, ty, lo, hi, g2, g3⟩ := e3
        exact .blk e1 e2 ⟨g1, ty, lo, hi, by rw [hu.other _ hne']; exact g2, g3⟩ e4
  · intro k k' x x' b1 n1 s z m t y e e' h h'
    obtain ⟨_, e⟩ := key2 _ _ e
    obtain ⟨_, e'⟩ := key2 _ _ e'
    exact H.inj _ _ _ _ _ _ _ _ _ _ _ e e' h h'

/-! what the call may change -/

theorem Ext.push {C : Ctx} {φ : Phi} {F : Frz} {σ : Store} {w : World} (E : Ext C φ F σ w) {nx base n sz : Nat} {o : Obj} {c : Array Value} {t : TypeId} :
    Ext C (φ.upd nx (.blk w.heap.size base n sz)) F ((nx, o) :: σ) { w with heap := w.heap.push (.cells c t) } := by
  refine ⟨E.os, E.tape, E.output, ?_, fun b hb hS => ?_, fun l x b m s z e h => ?_, E.F0, E.Fnew⟩
  · have := E.size; simp; omega
  · rw [← E.kept b hb hS]
    have := E.size
    show (w.heap.push _)[b]? = _
    rw [Array.getElem?_push, if_neg (by omega)]
  · simp only [Store.get] at e
    split at e
    · next h1 => subst h1; rw [Phi.upd_self] at h; cases h; exact .inr E.size
    · next h1 => rw [Phi.upd_ne _ _ (Ne.symm h1)] at h; exact E.own _ _ _ _ _ _ e h

theorem Ext.virt {C : Ctx} {φ : Phi} {F : Frz} {σ : Store} {w : World} (E : Ext C φ F σ w) {nx sz : Nat} :
    Ext C (φ.upd nx .virt) F ((nx, .arr sz []) :: σ) w := by
  refine ⟨E.os, E.tape, E.output, E.size, E.kept, fun l x b m s z e h => ?_, E.F0, E.Fnew⟩
  simp only [Store.get] at e
  split at e
  · next h1 => subst h1; rw [Phi.upd_self] at h; cases h
  · next h1 => rw [Phi.upd_ne _ _ (Ne.symm h1)] at h; exact E.own _ _ _ _ _ _ e h

theorem Ext.del {C : Ctx} {φ : Phi} {F : Frz} {σ : Store} {w : World} (E : Ext C φ F σ w) (l : Nat) : Ext C φ F (σ.del l) w := by
  refine ⟨E.os, E.tape, E.output, E.size, E.kept, fun k x b m s z e h => ?_, E.F0, E.Fnew⟩
  rw [Store.get_del] at e
  split at e
  · cases e
  · exact E.own _ _ _ _ _ _ e h

theorem Ext.upd {C : Ctx} {φ : Phi} {F : Frz} {σ : Store} {w w' : World} (E : Ext C φ F σ w) {l b base n sz : Nat} {o o' : Obj} {c c' : Array Value}
    (hl : σ.get l = some o) (hb : φ l = some (.blk b base n sz)) (hu : Upd w b c c' w') : Ext C φ F (σ.set l o') w' := by
  refine ⟨hu.os.trans E.os, hu.tape.trans E.tape, hu.output.trans E.output, by rw [hu.size]; exact E.size, fun k hk hS => ?_, fun k x b' m s z e h => ?_, E.F0, E.Fnew⟩
  · rw [← E.kept k hk hS]
    refine hu.other k ?_
    intro e; subst e
    rcases E.own _ _ _ _ _ _ hl hb with h | h
    · exact hS h
    · omega
  · rw [Store.get_set] at e
    split at e
    · next e1 => subst e1; exact E.own _ _ _ _ _ _ hl h
    · exact E.own _ _ _ _ _ _ e h

/-- a draw -/
theorem Ext.drew {C : Ctx} {φ : Phi} {F : Frz} {σ : Store} {w : World} (E : Ext C φ F σ w) (k : Nat) : Ext C φ F σ { w with drawn := k } :=
  ⟨E.os, E.tape, E.output, E.size, E.kept, E.own, E.F0, E.Fnew⟩
theorem HRel.drew {φ : Phi} {F : Frz} {σ : Store} {nx : Nat} {w : World} (H : HRel φ F σ nx w) (k : Nat) : HRel φ F σ nx { w with drawn := k } :=
  H.same ⟨Nat.le_refl _, fun _ _ => rfl⟩
theorem Gam.drew {C : Ctx} {φ : Phi} {F : Frz} {st : St} {a : Act} {w : World} (G : Gam C φ F st a w) (k : Nat) : Gam C φ F st a { w with drawn := k } :=
  ⟨G.size, G.defers, G.env, G.heap.drew k, G.ext.drew k⟩

end Go.Ab
