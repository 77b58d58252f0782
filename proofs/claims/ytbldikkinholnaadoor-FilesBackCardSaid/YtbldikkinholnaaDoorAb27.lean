/-
  What is known of spare room, forgotten; states that say no more, by that too; steps of code between states that are written out.
-/
import Derived.Test.YtbldikkinholnaaDoorAb26
namespace Go.Ab
set_option linter.unusedVariables false
set_option linter.unusedSimpArgs false

mutual
def AV.wk : AV → AV
  | .ls es _ => .ls (AV.wks es) false
  | .pf cs => .pf (AV.wks cs)
  | .agg cs => .agg (AV.wks cs)
  | .tup cs => .tup (AV.wks cs)
  | .fn f cs => .fn f (AV.wks cs)
  | .ifc t v => .ifc t v.wk
  | .any => .any
  | .bool b => .bool b
  | .int k n => .int k n
  | .str s => .str s
  | .nilp => .nilp
  | .ptr l o => .ptr l o
  | .pel l i o => .pel l i o
  | .os l o n => .os l o n
  | .nilf => .nilf
  | .nili => .nili
  | .raw v => .raw v
def AV.wks : List AV → List AV
  | [] => []
  | a :: as => a.wk :: AV.wks as
end

def Obj.wk : Obj → Obj
  | .var cs => .var (AV.wks cs)
  | .arr sz es => .arr sz (AV.wks es)

theorem wks_eq : ∀ (l : List AV), AV.wks l = l.map AV.wk
  | [] => rfl
  | a :: as => by simp [AV.wks, wks_eq as]
theorem wks_length (l : List AV) : (AV.wks l).length = l.length := by rw [wks_eq]; simp
theorem wks_append (l m : List AV) : AV.wks (l ++ m) = AV.wks l ++ AV.wks m := by simp [wks_eq]
theorem wk_cells (a : AV) : a.wk.cells = AV.wks a.cells := by cases a <;> simp [AV.wk, AV.cells, AV.wks]
theorem wks_flat : ∀ (l : List AV), (AV.wks l).flatMap AV.cells = AV.wks (l.flatMap AV.cells)
  | [] => rfl
  | a :: as => by simp [AV.wks, wks_append, wk_cells, wks_flat as]
theorem wk_any {a : AV} : a.wk = .any ↔ a = .any := by cases a <;> simp [AV.wk]

theorem FRel.wk {F : Frz} {v : Value} {a : AV} (h : FRel F v a) : FRel F v a.wk := by
  refine FRel.rec (motive_1 := fun v a _ => FRel F v a.wk) (motive_2 := fun vs as _ => FRels F vs (AV.wks as)) ?_ ?_ ?_ ?_ ?_ ?_ ?_ ?_ ?_ ?_ ?_ ?_ ?_ ?_ ?_ ?_ ?_ h
  · exact .any
  · exact .bool
  · exact .int
  · exact fun h => .str h
  · exact .nilp
  · intro b off cs c h _ ih
    exact .pf h (by rw [wks_length]; exact ih)
  · exact fun _ ih => .agg ih
  · exact fun _ ih => .tup ih
  · exact fun h => .lsnil (fun e => by cases e)
  · intro b off len cap sz fl es c h h1 h2 h3 h4 _ ih
    refine .ls h (by rw [wks_length]; exact h1) h2 (fun e => by cases e) (fun e he => ?_) (by rw [wks_flat]; exact ih)
    rw [wks_eq] at he
    obtain ⟨x, hx, rfl⟩ := List.mem_map.1 he
    rw [wk_cells, wks_length]; exact h4 x hx
  · exact fun _ ih => .fn ih
  · exact .nilf
  · exact fun _ ih => .ifc ih
  · exact .nili
  · exact .raw
  · exact .nil
  · exact fun _ _ h1 h2 => .cons h1 h2

theorem VRel.wk {φ : Phi} {F : Frz} {v : Value} {a : AV} (h : VRel φ F v a) : VRel φ F v a.wk := by
  refine VRel.rec (motive_1 := fun v a _ => VRel φ F v a.wk) (motive_2 := fun vs as _ => VRels φ F vs (AV.wks as)) ?_ ?_ ?_ ?_ ?_ ?_ ?_ ?_ ?_ ?_ ?_ h
  · exact fun h => .frz h.wk
  · exact fun h => .ptr h
  · exact fun h => .pel h
  · exact fun h => .osv h
  · exact fun h h1 h2 => .os h h1 h2
  · exact fun _ ih => .agg ih
  · exact fun _ ih => .tup ih
  · exact fun _ ih => .fn ih
  · exact fun _ ih => .ifc ih
  · exact .nil
  · exact fun _ _ h1 h2 => .cons h1 h2

theorem VRels.wk {φ : Phi} {F : Frz} {vs : List Value} {as : List AV} (h : VRels φ F vs as) : VRels φ F vs (AV.wks as) := by
  induction vs generalizing as with
  | nil => cases h; exact .nil
  | cons v vs ih => cases h with | cons h1 h2 => exact .cons h1.wk (ih h2)

theorem ORel.wk {φ : Phi} {F : Frz} {w : World} {l : Nat} {o : Obj} (h : ORel φ F w l o) : ORel φ F w l o.wk := by
  cases h with
  | virt e1 e2 => subst e2; exact .virt e1 rfl
  | blk e1 e2 e3 e4 =>
    refine .blk e1 e2 e3 ?_
    cases e4 with
    | var q1 q2 => exact .var (by rw [wks_length]; exact q1) (by rw [wks_length]; exact q2.wk)
    | arr q1 q2 q3 =>
      refine .arr (fun x hx => ?_) (by rw [wks_length]; exact q2) (by rw [wks_length, wks_flat]; exact q3.wk)
      rw [wks_eq] at hx
      obtain ⟨y, hy, rfl⟩ := List.mem_map.1 hx
      obtain ⟨g1, g2⟩ := q1 y hy
      exact ⟨by rw [wk_cells, wks_length]; exact g1, fun e => g2 (wk_any.1 e)⟩

/-! states that say no more -/

def ent1 (ρ : Nat → Nat) (a b : AV) : Prop := a = b.rn ρ ∨ a.wk = b.rn ρ
def entO1 (ρ : Nat → Nat) (a : Option Obj) (b : Obj) : Prop := a = some (b.rn ρ) ∨ a.map Obj.wk = some (b.rn ρ)
def entE (ρ : Nat → Nat) (e : Env) : Env → Prop
  | [] => True
  | (t, v) :: r => ent1 ρ (e.get t) v ∧ entE ρ e r
def entS (ρ : Nat → Nat) (s : Store) : Store → Prop
  | [] => True
  | (l, o) :: r => entO1 ρ (s.get (ρ l)) o ∧ entS ρ s r

theorem entE_get {ρ : Nat → Nat} {e e' : Env} (h : entE ρ e e') (t : Nat) : e'.get t = .any ∨ ent1 ρ (e.get t) (e'.get t) := by
  induction e' with
  | nil => exact .inl rfl
  | cons x r ih =>
    obtain ⟨k, v⟩ := x
    simp only [entE] at h
    simp only [Env.get]
    split
    · rename_i hk; subst hk; exact .inr h.1
    · exact ih h.2

theorem entS_get {ρ : Nat → Nat} {s s' : Store} (h : entS ρ s s') {l : Nat} {o : Obj} (ho : s'.get l = some o) : ∃ o1, s.get (ρ l) = some o1 ∧ (o1 = o.rn ρ ∨ o1.wk = o.rn ρ) := by
  induction s' with
  | nil => cases ho
  | cons x r ih =>
    obtain ⟨k, v⟩ := x
    simp only [entS] at h
    simp only [Store.get] at ho
    split at ho
    · rename_i hk; subst hk; cases ho
      rcases h.1 with e | e
      · exact ⟨_, e, .inl rfl⟩
      · simp only [Option.map_eq_some_iff] at e
        obtain ⟨o1, e1, e2⟩ := e
        exact ⟨o1, e1, .inr e2⟩
    · exact ih h.2 ho

theorem ORel.of_ent {φ : Phi} {F : Frz} {w : World} {l : Nat} {o1 o : Obj} {ρ : Nat → Nat} (h : ORel φ F w l o1) (he : o1 = o.rn ρ ∨ o1.wk = o.rn ρ) : ORel φ F w l (o.rn ρ) := by
  rcases he with e | e
  · rw [← e]; exact h
  · rw [← e]; exact h.wk

/-- slots forgotten, names called otherwise, spare room forgotten -/
theorem St.ent_by {d : Dim} {s t : St} (l : List Nat) (hl : l.length = t.nx) (hN : d.N ≤ t.nx) (hlow : l.take d.N = List.range d.N) (hnd : l.Nodup) (h1 : entE (rho l s.nx) s.env t.env) (h2 : entS (rho l s.nx) s.σ t.σ) : St.ent d s t := by
  intro C φ F a w hd G
  have hfr : φ s.nx = none := G.heap.fresh _ (Nat.le_refl _)
  have hρ : ∀ k, t.nx ≤ k → rho l s.nx k = s.nx := by
    intro k hk
    simp [rho, List.getElem?_eq_none (show l.length ≤ k by omega)]
  have hinj : ∀ k k' b, φ (rho l s.nx k) = some b → rho l s.nx k = rho l s.nx k' → k = k' := by
    intro k k' b hb he
    have hk : k < l.length := by
      rcases Nat.lt_or_ge k l.length with h | h
      · exact h
      · rw [hρ k (by omega), hfr] at hb; cases hb
    have hk' : k' < l.length := by
      rcases Nat.lt_or_ge k' l.length with h | h
      · exact h
      · rw [he, hρ k' (by omega), hfr] at hb; cases hb
    simp only [rho, List.getElem?_eq_getElem hk, List.getElem?_eq_getElem hk', Option.getD_some] at he
    exact (List.getElem_inj hnd).1 he
  refine ⟨fun k => φ (rho l s.nx k), F, ?_, .refl _, ⟨G.size, G.defers, fun u => ?_, ⟨G.heap.frz, fun k o ho => ?_, ?_, fun k hk => ?_⟩, ?_⟩⟩
  · intro k b hk hb
    have hkl : k < l.length := by omega
    have e : l[k]? = some k := by
      have := congrArg (fun x => x[k]?) hlow
      simp only [List.getElem?_take, hk, if_true, List.getElem?_range hk] at this
      exact this
    show φ (rho l s.nx k) = some b
    simp only [rho, e, Option.getD_some]; exact hb
  · rcases entE_get h1 u with e | e | e
    · rw [e]; exact .frz .any
    · have := G.env u
      rw [e] at this
      exact VRel.unrn (fun _ _ h => h) _ this
    · have := (G.env u).wk
      rw [e] at this
      exact VRel.unrn (fun _ _ h => h) _ this
  · obtain ⟨o1, hs, ho1⟩ := entS_get h2 ho
    cases (G.heap.obj _ _ hs).of_ent ho1 with
    | virt e1 e2 =>
      cases o with
      | var cs => simp [Obj.rn] at e2
      | arr sz es =>
        simp only [Obj.rn, Obj.arr.injEq] at e2
        obtain ⟨rfl, e2⟩ := e2
        have : es = [] := by
          cases es with
          | nil => rfl
          | cons a as => simp [AV.rns] at e2
        subst this
        exact .virt e1 rfl
    | blk e1 e2 e3 e4 =>
      refine .blk e1 e2 e3 ?_
      cases o with
      | var cs =>
        simp only [Obj.rn] at e4
        cases e4 with | var q1 q2 =>
        rw [rns_length] at q1 q2
        exact .var q1 (VRels.unrn (fun _ _ h => h) _ q2)
      | arr sz es =>
        simp only [Obj.rn] at e4
        cases e4 with | arr q1 q2 q3 =>
        rw [rns_length] at q2 q3
        rw [rns_flat] at q3
        refine .arr (fun x hx => ?_) q2 (VRels.unrn (fun _ _ h => h) _ q3)
        have := q1 _ (rns_mem hx)
        rw [rn_cells, rns_length] at this
        exact ⟨this.1, rn_any this.2⟩
  · intro k k' o o' b n s' z m t' y g1 g2 g3 g4
    obtain ⟨_, g1', _⟩ := entS_get h2 g1
    obtain ⟨_, g2', _⟩ := entS_get h2 g2
    have := G.heap.inj _ _ _ _ _ _ _ _ _ _ _ g1' g2' g3 g4
    exact hinj k k' _ g3 this
  · show φ (rho l s.nx k) = none
    rw [hρ k hk]; exact hfr
  · refine ⟨G.ext.os, G.ext.tape, G.ext.output, G.ext.size, G.ext.kept, fun k o b base n sz g1 g2 => ?_, G.ext.F0, G.ext.Fnew⟩
    obtain ⟨_, g1', _⟩ := entS_get h2 g1
    exact G.ext.own _ _ _ _ _ _ g1' g2

end Go.Ab
