/-
  States that say no more: slots forgotten, names called otherwise.
-/
import Derived.Test.YtbldikkinholnaaDoorAb12
namespace Go.Ab
set_option linter.unusedVariables false
set_option linter.unusedSimpArgs false

mutual
def AV.rn (ρ : Nat → Nat) : AV → AV
  | .ptr l o => .ptr (ρ l) o
  | .pel l i o => .pel (ρ l) i o
  | .os l o n => .os (ρ l) o n
  | .agg cs => .agg (AV.rns ρ cs)
  | .tup cs => .tup (AV.rns ρ cs)
  | .fn f cs => .fn f (AV.rns ρ cs)
  | .ifc t v => .ifc t (v.rn ρ)
  | .any => .any
  | .bool b => .bool b
  | .int k n => .int k n
  | .str s => .str s
  | .nilp => .nilp
  | .pf cs => .pf cs
  | .ls es fl => .ls es fl
  | .nilf => .nilf
  | .nili => .nili
  | .raw v => .raw v
def AV.rns (ρ : Nat → Nat) : List AV → List AV
  | [] => []
  | a :: as => a.rn ρ :: AV.rns ρ as
end

def Obj.rn (ρ : Nat → Nat) : Obj → Obj
  | .var cs => .var (AV.rns ρ cs)
  | .arr sz es => .arr sz (AV.rns ρ es)

mutual
theorem FRel.unrn {F : Frz} {ρ : Nat → Nat} : ∀ (a : AV) {v : Value}, FRel F v (a.rn ρ) → FRel F v a
  | .ptr l o, _, h => by simp only [AV.rn] at h; cases h
  | .pel l i o, _, h => by simp only [AV.rn] at h; cases h
  | .os l o n, _, h => by simp only [AV.rn] at h; cases h
  | .agg cs, _, h => by simp only [AV.rn] at h; cases h with | agg h => exact .agg (FRels.unrn cs h)
  | .tup cs, _, h => by simp only [AV.rn] at h; cases h with | tup h => exact .tup (FRels.unrn cs h)
  | .fn f cs, _, h => by simp only [AV.rn] at h; cases h with | fn h => exact .fn (FRels.unrn cs h)
  | .ifc t v, _, h => by simp only [AV.rn] at h; cases h with | ifc h => exact .ifc (FRel.unrn v h)
  | .any, _, h => .any
  | .bool b, _, h => by simpa only [AV.rn] using h
  | .int k n, _, h => by simpa only [AV.rn] using h
  | .str s, _, h => by simpa only [AV.rn] using h
  | .nilp, _, h => by simpa only [AV.rn] using h
  | .pf cs, _, h => by simpa only [AV.rn] using h
  | .ls es fl, _, h => by simpa only [AV.rn] using h
  | .nilf, _, h => by simpa only [AV.rn] using h
  | .nili, _, h => by simpa only [AV.rn] using h
  | .raw v, _, h => by simpa only [AV.rn] using h
theorem FRels.unrn {F : Frz} {ρ : Nat → Nat} : ∀ (as : List AV) {vs : List Value}, FRels F vs (AV.rns ρ as) → FRels F vs as
  | [], _, h => by simpa only [AV.rns] using h
  | a :: as, _, h => by simp only [AV.rns] at h; cases h with | cons h1 h2 => exact .cons (FRel.unrn a h1) (FRels.unrn as h2)
end

mutual
theorem VRel.unrn {φ φ' : Phi} {F : Frz} {ρ : Nat → Nat} (hφ : ∀ l b, φ (ρ l) = some b → φ' l = some b) : ∀ (a : AV) {v : Value}, VRel φ F v (a.rn ρ) → VRel φ' F v a
  | .ptr l o, _, h => by
    simp only [AV.rn] at h
    cases h with
    | frz h => cases h
    | ptr h => exact .ptr (hφ _ _ h)
  | .pel l i o, _, h => by
    simp only [AV.rn] at h
    cases h with
    | frz h => cases h
    | pel h => exact .pel (hφ _ _ h)
  | .os l o n, _, h => by
    simp only [AV.rn] at h
    cases h with
    | frz h => cases h
    | osv h => exact .osv (hφ _ _ h)
    | os h h1 h2 => exact .os (hφ _ _ h) h1 h2
  | .agg cs, _, h => by
    simp only [AV.rn] at h
    cases h with
    | frz h => cases h with | agg h => exact .frz (.agg (FRels.unrn cs h))
    | agg h => exact .agg (VRels.unrn hφ cs h)
  | .tup cs, _, h => by
    simp only [AV.rn] at h
    cases h with
    | frz h => cases h with | tup h => exact .frz (.tup (FRels.unrn cs h))
    | tup h => exact .tup (VRels.unrn hφ cs h)
  | .fn f cs, _, h => by
    simp only [AV.rn] at h
    cases h with
    | frz h => cases h with | fn h => exact .frz (.fn (FRels.unrn cs h))
    | fn h => exact .fn (VRels.unrn hφ cs h)
  | .ifc t v, _, h => by
    simp only [AV.rn] at h
    cases h with
    | frz h => cases h with | ifc h => exact .frz (.ifc (FRel.unrn v h))
    | ifc h => exact .ifc (VRel.unrn hφ v h)
  | .any, _, h => .frz .any
  | .bool b, _, h => by simp only [AV.rn] at h; cases h with | frz h => exact .frz h
  | .int k n, _, h => by simp only [AV.rn] at h; cases h with | frz h => exact .frz h
  | .str s, _, h => by simp only [AV.rn] at h; cases h with | frz h => exact .frz h
  | .nilp, _, h => by simp only [AV.rn] at h; cases h with | frz h => exact .frz h
  | .pf cs, _, h => by simp only [AV.rn] at h; cases h with | frz h => exact .frz h
  | .ls es fl, _, h => by simp only [AV.rn] at h; cases h with | frz h => exact .frz h
  | .nilf, _, h => by simp only [AV.rn] at h; cases h with | frz h => exact .frz h
  | .nili, _, h => by simp only [AV.rn] at h; cases h with | frz h => exact .frz h
  | .raw v, _, h => by simp only [AV.rn] at h; cases h with | frz h => exact .frz h
theorem VRels.unrn {φ φ' : Phi} {F : Frz} {ρ : Nat → Nat} (hφ : ∀ l b, φ (ρ l) = some b → φ' l = some b) : ∀ (as : List AV) {vs : List Value}, VRels φ F vs (AV.rns ρ as) → VRels φ' F vs as
  | [], _, h => by simp only [AV.rns] at h; cases h; exact .nil
  | a :: as, _, h => by simp only [AV.rns] at h; cases h with | cons h1 h2 => exact .cons (VRel.unrn hφ a h1) (VRels.unrn hφ as h2)
end

theorem rn_cells {ρ : Nat → Nat} : ∀ (a : AV), (a.rn ρ).cells = AV.rns ρ a.cells := by
  intro a
  cases a <;> simp [AV.rn, AV.cells, AV.rns]
theorem rns_append {ρ : Nat → Nat} : ∀ (as bs : List AV), AV.rns ρ (as ++ bs) = AV.rns ρ as ++ AV.rns ρ bs := by
  intro as bs
  induction as with
  | nil => simp [AV.rns]
  | cons a as ih => simp [AV.rns, ih]
theorem rns_flat {ρ : Nat → Nat} : ∀ (es : List AV), (AV.rns ρ es).flatMap AV.cells = AV.rns ρ (es.flatMap AV.cells) := by
  intro es
  induction es with
  | nil => simp [AV.rns]
  | cons a as ih => simp only [AV.rns, List.flatMap_cons, ih, rns_append, rn_cells]
theorem rns_length {ρ : Nat → Nat} : ∀ (as : List AV), (AV.rns ρ as).length = as.length := by
  intro as
  induction as with
  | nil => rfl
  | cons a as ih => simp [AV.rns, ih]
theorem rns_mem {ρ : Nat → Nat} {x : AV} : ∀ {as : List AV}, x ∈ as → x.rn ρ ∈ AV.rns ρ as := by
  intro as h
  induction as with
  | nil => cases h
  | cons a as ih =>
    simp only [AV.rns]
    cases List.mem_cons.1 h with
    | inl e => subst e; exact List.mem_cons_self ..
    | inr e => exact List.mem_cons_of_mem _ (ih e)
theorem rn_any {ρ : Nat → Nat} {a : AV} (h : a.rn ρ ≠ .any) : a ≠ .any := by
  intro e; subst e; exact h rfl

/-- names of the new state, in the old one -/
def rho (l : List Nat) (nx : Nat) : Nat → Nat := fun k => (l[k]?).getD nx

def entEnv (ρ : Nat → Nat) (e : Env) : Env → Prop
  | [] => True
  | (t, v) :: r => e.get t = v.rn ρ ∧ entEnv ρ e r
def entStore (ρ : Nat → Nat) (s : Store) : Store → Prop
  | [] => True
  | (l, o) :: r => s.get (ρ l) = some (o.rn ρ) ∧ entStore ρ s r

theorem entEnv_get {ρ : Nat → Nat} {e e' : Env} (h : entEnv ρ e e') (t : Nat) : e'.get t = .any ∨ e.get t = (e'.get t).rn ρ := by
  induction e' with
  | nil => exact .inl rfl
  | cons x r ih =>
    obtain ⟨k, v⟩ := x
    simp only [entEnv] at h
    simp only [Env.get]
    split
    · rename_i hk; subst hk; exact .inr h.1
    · exact ih h.2

theorem entStore_get {ρ : Nat → Nat} {s s' : Store} (h : entStore ρ s s') {l : Nat} {o : Obj} (ho : s'.get l = some o) : s.get (ρ l) = some (o.rn ρ) := by
  induction s' with
  | nil => cases ho
  | cons x r ih =>
    obtain ⟨k, v⟩ := x
    simp only [entStore] at h
    simp only [Store.get] at ho
    split at ho
    · rename_i hk; subst hk; cases ho; exact h.1
    · exact ih h.2 ho

/-- slots forgotten, names called otherwise: 'l' says how each new name was called (what the caller knows keeps its name) -/
theorem St.ent_of {d : Dim} {s t : St} (l : List Nat) (hl : l.length = t.nx) (hN : d.N ≤ t.nx) (hlow : l.take d.N = List.range d.N) (hnd : l.Nodup) (h1 : entEnv (rho l s.nx) s.env t.env) (h2 : entStore (rho l s.nx) s.σ t.σ) : St.ent d s t := by
  intro C φ F a w hd G
  have hfr : φ s.nx = none := G.heap.fresh _ (Nat.le_refl _)
  have hρ : ∀ k, t.nx ≤ k → rho l s.nx k = s.nx := by
    intro k hk
    simp [rho, List.getElem?_eq_none (show l.length ≤ k by omega)]
  have hinj : ∀ k k' b, φ (rho l s.nx k) = some b → rho l s.nx k = rho l s.nx k' → k = k' := by
    intro k k' b hb he
    have hk : k < l.length := by
      rcases Nat.lt_or_ge k l.length with h | h
      · exact h
      · rw [hρ k (by omega), hfr] at hb; cases hb
    have hk' : k' < l.length := by
      rcases Nat.lt_or_ge k' l.length with h | h
      · exact h
      · rw [he, hρ k' (by omega), hfr] at hb; cases hb
    simp only [rho, List.getElem?_eq_getElem hk, List.getElem?_eq_getElem hk', Option.getD_some] at he
    exact (List.getElem_inj hnd).1 he
  refine ⟨fun k => φ (rho l s.nx k), F, ?_, .refl _, ⟨G.size, G.defers, fun u => ?_, ⟨G.heap.frz, fun k o ho => ?_, ?_, fun k hk => ?_⟩, ?_⟩⟩
  · intro k b hk hb
    have hkl : k < l.length := by omega
    have e : l[k]? = some k := by
      have := congrArg (fun x => x[k]?) hlow
      simp only [List.getElem?_take, hk, if_true, List.getElem?_range hk] at this
      exact this
    show φ (rho l s.nx k) = some b
    simp only [rho, e, Option.getD_some]; exact hb
  · rcases entEnv_get h1 u with e | e
    · rw [e]; exact .frz .any
    · have := G.env u
      rw [e] at this
      exact VRel.unrn (fun _ _ h => h) _ this
  · have hs := entStore_get h2 ho
    cases G.heap.obj _ _ hs with
    | virt e1 e2 =>
      cases o with
      | var cs => simp [Obj.rn] at e2
      | arr sz es =>
        simp only [Obj.rn, Obj.arr.injEq] at e2
        obtain ⟨rfl, e2⟩ := e2
        have : es = [] := by
          cases es with
          | nil => rfl
          | cons a as => simp [AV.rns] at e2
        subst this
        exact .virt e1 rfl
    | blk e1 e2 e3 e4 =>
      refine .blk e1 e2 e3 ?_
      cases o with
      | var cs =>
        simp only [Obj.rn] at e4
        cases e4 with | var q1 q2 =>
        rw [rns_length] at q1 q2
        exact .var q1 (VRels.unrn (fun _ _ h => h) _ q2)
      | arr sz es =>
        simp only [Obj.rn] at e4
        cases e4 with | arr q1 q2 q3 =>
        rw [rns_length] at q2 q3
        rw [rns_flat] at q3
        refine .arr (fun x hx => ?_) q2 (VRels.unrn (fun _ _ h => h) _ q3)
        have := q1 _ (rns_mem hx)
        rw [rn_cells, rns_length] at this
        exact ⟨this.1, rn_any this.2⟩
  · intro k k' o o' b n s' z m t' y g1 g2 g3 g4
    have := G.heap.inj _ _ _ _ _ _ _ _ _ _ _ (entStore_get h2 g1) (entStore_get h2 g2) g3 g4
    exact hinj k k' _ g3 this
  · show φ (rho l s.nx k) = none
    rw [hρ k hk]; exact hfr
  · exact ⟨G.ext.os, G.ext.tape, G.ext.output, G.ext.size, G.ext.kept, fun k o b base n sz g1 g2 => G.ext.own _ _ _ _ _ _ (entStore_get h2 g1) g2, G.ext.F0, G.ext.Fnew⟩

end Go.Ab
