/-
  What is written no more: an array, or a variable, whose name is given up, by value.
-/
import Derived.Test.YtbldikkinholnaaDoorAb19
namespace Go.Ab
set_option linter.unusedVariables false
set_option linter.unusedSimpArgs false

theorem St.ent.trans {d : Dim} {s t u : St} (h : St.ent d s t) (k : St.ent d t u) : St.ent d s u := by
  intro C φ F a w hd G
  obtain ⟨φ1, F1, a1, a2, G1⟩ := h C φ F a w hd G
  obtain ⟨φ2, F2, b1, b2, G2⟩ := k C φ1 F1 a w hd G1
  exact ⟨φ2, F2, a1.trans b1, a2.trans b2, G2⟩

/-! values without names -/
mutual
def AV.plain : AV → Bool
  | .ptr _ _ => false
  | .pel _ _ _ => false
  | .os _ _ _ => false
  | .agg cs => AV.plains cs
  | .tup cs => AV.plains cs
  | .fn _ cs => AV.plains cs
  | .ifc _ v => v.plain
  | _ => true
def AV.plains : List AV → Bool
  | [] => true
  | a :: as => a.plain && AV.plains as
end

mutual
theorem VRel.toF {φ : Phi} {F : Frz} : ∀ (a : AV) {v : Value}, a.plain = true → VRel φ F v a → FRel F v a
  | .ptr l o, _, h, _ => by simp [AV.plain] at h
  | .pel l i o, _, h, _ => by simp [AV.plain] at h
  | .os l o n, _, h, _ => by simp [AV.plain] at h
  | .agg cs, _, h, k => by
    simp only [AV.plain] at h
    cases k with
    | frz k => exact k
    | agg k => exact .agg (VRels.toF cs h k)
  | .tup cs, _, h, k => by
    simp only [AV.plain] at h
    cases k with
    | frz k => exact k
    | tup k => exact .tup (VRels.toF cs h k)
  | .fn f cs, _, h, k => by
    simp only [AV.plain] at h
    cases k with
    | frz k => exact k
    | fn k => exact .fn (VRels.toF cs h k)
  | .ifc t v, _, h, k => by
    simp only [AV.plain] at h
    cases k with
    | frz k => exact k
    | ifc k => exact .ifc (VRel.toF v h k)
  | .any, _, _, _ => .any
  | .bool b, _, _, k => by cases k with | frz k => exact k
  | .int _ n, _, _, k => by cases k with | frz k => exact k
  | .str s, _, _, k => by cases k with | frz k => exact k
  | .nilp, _, _, k => by cases k with | frz k => exact k
  | .pf cs, _, _, k => by cases k with | frz k => exact k
  | .ls es fl, _, _, k => by cases k with | frz k => exact k
  | .nilf, _, _, k => by cases k with | frz k => exact k
  | .nili, _, _, k => by cases k with | frz k => exact k
  | .raw v, _, _, k => by cases k with | frz k => exact k
theorem VRels.toF {φ : Phi} {F : Frz} : ∀ (as : List AV) {vs : List Value}, AV.plains as = true → VRels φ F vs as → FRels F vs as
  | [], _, _, h => by cases h; exact .nil
  | a :: as, _, h, k => by
    simp only [AV.plains, Bool.and_eq_true] at h
    cases k with | cons k1 k2 => exact .cons (VRel.toF a h.1 k1) (VRels.toF as h.2 k2)
end

theorem plains_mem {as : List AV} (h : AV.plains as = true) {a : AV} (ha : a ∈ as) : a.plain = true := by
  induction as with
  | nil => cases ha
  | cons x as ih =>
    simp only [AV.plains, Bool.and_eq_true] at h
    rcases List.mem_cons.1 ha with rfl | ha
    · exact h.1
    · exact ih h.2 ha
theorem plains_of {as : List AV} (h : ∀ a ∈ as, a.plain = true) : AV.plains as = true := by
  induction as with
  | nil => rfl
  | cons x as ih => simp [AV.plains, h x (by simp), ih fun a ha => h a (by simp [ha])]
theorem plains_append {as bs : List AV} : AV.plains (as ++ bs) = (AV.plains as && AV.plains bs) := by
  induction as with
  | nil => simp [AV.plains]
  | cons x as ih => simp [AV.plains, ih, Bool.and_assoc]
theorem plain_cells {a : AV} : AV.plains a.cells = a.plain := by
  cases a <;> simp [AV.cells, AV.plain, AV.plains]
theorem plains_flat {es : List AV} : AV.plains (es.flatMap AV.cells) = AV.plains es := by
  induction es with
  | nil => rfl
  | cons x es ih => simp [plains_append, ih, plain_cells, AV.plains]

def Obj.plain : Obj → Bool
  | .var cs => AV.plains cs
  | .arr _ es => AV.plains es

mutual
def AV.fz (l : Nat) (o : Obj) : AV → AV
  | .ptr k off => if k = l then (match o with
    | .var cs => if off ≤ cs.length then .pf (cs.drop off) else .ptr k off
    | .arr _ _ => .ptr k off) else .ptr k off
  | .pel k i off => .pel k i off
  | .os k off len => if k = l then (match o with
    | .arr _ es => if off + len ≤ es.length then .ls ((es.take (off + len)).drop off) false else .os k off len
    | .var _ => .os k off len) else .os k off len
  | .agg cs => .agg (AV.fzs l o cs)
  | .tup cs => .tup (AV.fzs l o cs)
  | .fn f cs => .fn f (AV.fzs l o cs)
  | .ifc t v => .ifc t (v.fz l o)
  | .any => .any
  | .bool b => .bool b
  | .int k n => .int k n
  | .str s => .str s
  | .nilp => .nilp
  | .pf cs => .pf cs
  | .ls es fl => .ls es fl
  | .nilf => .nilf
  | .nili => .nili
  | .raw v => .raw v
def AV.fzs (l : Nat) (o : Obj) : List AV → List AV
  | [] => []
  | a :: as => a.fz l o :: AV.fzs l o as
end

def Obj.fz (l : Nat) (o : Obj) : Obj → Obj
  | .var cs => .var (AV.fzs l o cs)
  | .arr sz es => .arr sz (AV.fzs l o es)
def Env.fz (l : Nat) (o : Obj) : Env → Env
  | [] => []
  | (t, v) :: r => (t, v.fz l o) :: Env.fz l o r
def Store.fz (l : Nat) (o : Obj) : Store → Store
  | [] => []
  | (t, v) :: r => if t = l then Store.fz l o r else (t, Obj.fz l o v) :: Store.fz l o r

theorem Env.get_fz {l : Nat} {o : Obj} {e : Env} {t : Nat} : (e.fz l o).get t = (e.get t).fz l o := by
  induction e with
  | nil => simp [Env.fz, Env.get, AV.fz]
  | cons x r ih =>
    obtain ⟨k, v⟩ := x
    simp only [Env.fz, Env.get]
    split
    · rfl
    · exact ih
theorem Store.get_fz {l : Nat} {o : Obj} {s : Store} {t : Nat} {x : Obj} (h : (s.fz l o).get t = some x) : t ≠ l ∧ ∃ y, s.get t = some y ∧ x = Obj.fz l o y := by
  induction s with
  | nil => simp [Store.fz, Store.get] at h
  | cons z r ih =>
    obtain ⟨k, v⟩ := z
    simp only [Store.fz] at h
    split at h
    · rename_i e
      subst e
      obtain ⟨h1, y, h2, h3⟩ := ih h
      exact ⟨h1, y, by simp only [Store.get, if_neg (Ne.symm h1)]; exact h2, h3⟩
    · rename_i e
      simp only [Store.get] at h ⊢
      split at h
      · rename_i e'; subst e'; cases h; exact ⟨e, v, by simp, rfl⟩
      · rename_i e'
        obtain ⟨h1, y, h2, h3⟩ := ih h
        exact ⟨h1, y, by rw [if_neg e']; exact h2, h3⟩

theorem fzs_length {l : Nat} {o : Obj} : ∀ (as : List AV), (AV.fzs l o as).length = as.length := by
  intro as
  induction as with
  | nil => rfl
  | cons a as ih => simp [AV.fzs, ih]
theorem fzs_append {l : Nat} {o : Obj} : ∀ (as bs : List AV), AV.fzs l o (as ++ bs) = AV.fzs l o as ++ AV.fzs l o bs := by
  intro as bs
  induction as with
  | nil => simp [AV.fzs]
  | cons a as ih => simp [AV.fzs, ih]
theorem fz_cells {l : Nat} {o : Obj} : ∀ (a : AV), (a.fz l o).cells = AV.fzs l o a.cells := by
  intro a
  cases a <;> (try (simp only [AV.fz, AV.cells, AV.fzs]; done)) <;> (simp only [AV.fz]; (repeat' split) <;> simp_all [AV.cells, AV.fzs, AV.fz])
theorem fzs_flat {l : Nat} {o : Obj} : ∀ (es : List AV), (AV.fzs l o es).flatMap AV.cells = AV.fzs l o (es.flatMap AV.cells) := by
  intro es
  induction es with
  | nil => simp [AV.fzs]
  | cons a as ih => simp only [AV.fzs, List.flatMap_cons, ih, fzs_append, fz_cells]
theorem fzs_mem {l : Nat} {o : Obj} {x : AV} : ∀ {as : List AV}, x ∈ AV.fzs l o as → ∃ y ∈ as, x = y.fz l o := by
  intro as h
  induction as with
  | nil => simp [AV.fzs] at h
  | cons a as ih =>
    simp only [AV.fzs] at h
    rcases List.mem_cons.1 h with e | e
    · exact ⟨a, by simp, e⟩
    · obtain ⟨y, h1, h2⟩ := ih e; exact ⟨y, by simp [h1], h2⟩
theorem fz_nany {l : Nat} {o : Obj} {a : AV} (h : a ≠ .any) : a.fz l o ≠ .any := by
  cases a <;> simp only [AV.fz] <;> (repeat' split) <;> first | exact h | (intro e; cases e)

/-- what the name stood for, by value -/
inductive Fzn (φ : Phi) (F : Frz) (l : Nat) : Obj → Prop
  | virt {sz : Nat} : φ l = some .virt → Fzn φ F l (.arr sz [])
  | var {b base n sz : Nat} {c : Array Value} {cs : List AV} : φ l = some (.blk b base n sz) → F b = some c → FRels F ((c.toList.drop base).take cs.length) cs → Fzn φ F l (.var cs)
  | arr {b base n sz : Nat} {c : Array Value} {es : List AV} : φ l = some (.blk b base n sz) → F b = some c → (∀ e ∈ es, e.cells.length = sz) → FRels F ((c.toList.drop base).take (es.length * sz)) (es.flatMap AV.cells) → Fzn φ F l (.arr sz es)

theorem os_takeF {F : Frz} {es : List AV} {sz off len : Nat} {vs : List Value} (hs : ∀ x ∈ es, x.cells.length = sz) (h : FRels F vs (es.flatMap AV.cells)) (hle : off + len ≤ es.length) :
    FRels F ((vs.drop (off * sz)).take (len * sz)) (((es.take (off + len)).drop off).flatMap AV.cells) := by
  have := (h.drop (off * sz)).take (len * sz)
  have e := flat_part hs (l := off) (h := off + len) (by omega) hle
  rw [show off + len - off = len from by omega] at e
  rw [e] at this; exact this

section
variable {φ : Phi} {F F' : Frz} {l : Nat} {o : Obj}

theorem fz_ptr (Z : Fzn φ F' l o) {v : Value} {k off : Nat} (h : VRel φ F' v (.ptr k off)) : VRel φ F' v ((AV.ptr k off).fz l o) := by
  simp only [AV.fz]
  split
  · rename_i e
    subst e
    cases Z with
    | virt q => exact h
    | arr q => exact h
    | var q1 q2 q3 =>
      simp only
      split
      · rename_i hle
        cases h with
        | frz h => cases h
        | ptr h =>
          rw [q1] at h; cases h
          refine .frz (.pf q2 ?_)
          have := q3.drop off
          rw [List.drop_take, List.drop_drop] at this
          simpa [List.length_drop] using this
      · exact h
  · exact h

theorem fz_os (Z : Fzn φ F' l o) {v : Value} {k off len : Nat} (h : VRel φ F' v (.os k off len)) : VRel φ F' v ((AV.os k off len).fz l o) := by
  simp only [AV.fz]
  split
  · rename_i e
    subst e
    cases Z with
    | var q1 q2 q3 => exact h
    | virt q =>
      simp only
      split
      · rename_i hle
        cases h with
        | frz h => cases h
        | osv h => exact .frz (by simpa using FRel.lsnil (fl := false) (by simp))
        | os h => rw [q] at h; cases h
      · exact h
    | @arr b base n sz c es q1 q2 q3 q4 =>
      simp only
      split
      · rename_i hle
        cases h with
        | frz h => cases h
        | osv h => rw [q1] at h; cases h
        | os h h1 h2 =>
          rw [q1] at h; cases h
          by_cases h0 : len = 0
          · subst h0
            exact .frz (by simpa using FRel.lsnil (fl := false) (by simp))
          · obtain ⟨rfl, h3⟩ := h2 (by omega)
            have hlen : ((es.take (off + len)).drop off).length = len := by simp; omega
            refine .frz (.ls q2 hlen h1 (by simp) (fun e he => q3 e (List.mem_of_mem_take (List.mem_of_mem_drop he))) ?_)
            have := os_takeF q3 q4 hle
            rw [List.drop_take, List.drop_drop, List.take_take] at this
            have hm := Nat.mul_le_mul_right sz hle
            rw [Nat.min_eq_left (by rw [Nat.add_mul] at hm; omega)] at this
            exact this
      · exact h
  · exact h

mutual
theorem VRel.fz (hF : Frz.le F F') (Z : Fzn φ F' l o) : ∀ (a : AV) {v : Value}, VRel φ F v a → VRel φ F' v (a.fz l o)
  | .ptr k off, _, h => fz_ptr Z (h.mono (.refl _) hF)
  | .pel k i off, _, h => by simp only [AV.fz]; exact h.mono (.refl _) hF
  | .os k off n, _, h => fz_os Z (h.mono (.refl _) hF)
  | .agg cs, _, h => by
    simp only [AV.fz]
    cases h with
    | frz h => cases h with | agg h => exact .agg (VRels.fz hF Z cs h.toV)
    | agg h => exact .agg (VRels.fz hF Z cs h)
  | .tup cs, _, h => by
    simp only [AV.fz]
    cases h with
    | frz h => cases h with | tup h => exact .tup (VRels.fz hF Z cs h.toV)
    | tup h => exact .tup (VRels.fz hF Z cs h)
  | .fn f cs, _, h => by
    simp only [AV.fz]
    cases h with
    | frz h => cases h with | fn h => exact .fn (VRels.fz hF Z cs h.toV)
    | fn h => exact .fn (VRels.fz hF Z cs h)
  | .ifc t v, _, h => by
    simp only [AV.fz]
    cases h with
    | frz h => cases h with | ifc h => exact .ifc (VRel.fz hF Z v (.frz h))
    | ifc h => exact .ifc (VRel.fz hF Z v h)
  | .any, _, h => .frz .any
  | .bool b, _, h => by simp only [AV.fz]; exact h.mono (.refl _) hF
  | .int k n, _, h => by simp only [AV.fz]; exact h.mono (.refl _) hF
  | .str s, _, h => by simp only [AV.fz]; exact h.mono (.refl _) hF
  | .nilp, _, h => by simp only [AV.fz]; exact h.mono (.refl _) hF
  | .pf cs, _, h => by simp only [AV.fz]; exact h.mono (.refl _) hF
  | .ls es fl, _, h => by simp only [AV.fz]; exact h.mono (.refl _) hF
  | .nilf, _, h => by simp only [AV.fz]; exact h.mono (.refl _) hF
  | .nili, _, h => by simp only [AV.fz]; exact h.mono (.refl _) hF
  | .raw v, _, h => by simp only [AV.fz]; exact h.mono (.refl _) hF
theorem VRels.fz (hF : Frz.le F F') (Z : Fzn φ F' l o) : ∀ (as : List AV) {vs : List Value}, VRels φ F vs as → VRels φ F' vs (AV.fzs l o as)
  | [], _, h => by cases h; exact .nil
  | a :: as, _, h => by cases h with | cons h1 h2 => exact .cons (VRel.fz hF Z a h1) (VRels.fz hF Z as h2)
end

theorem freeze_ok {C : Ctx} {σ : Store} {nx : Nat} {w : World} (H : HRel φ F σ nx w) (E : Ext C φ F σ w) (ho : σ.get l = some o) (hp : o.plain = true) :
    ∃ F', Frz.le F F' ∧ HRel φ F' (σ.fz l o) nx w ∧ Ext C φ F' (σ.fz l o) w ∧ ∀ v a, VRel φ F v a → VRel φ F' v (a.fz l o) := by
  have key : ∃ F', Frz.le F F' ∧ Fzn φ F' l o ∧ (∀ b c, F' b = some c → Row w b c) ∧ (∀ b c, F' b = some c → F b = some c ∨ ∃ base n sz, φ l = some (.blk b base n sz)) := by
    cases H.obj _ _ ho with
    | virt e1 e2 => subst e2; exact ⟨F, .refl _, .virt e1, H.frz, fun _ _ h => .inl h⟩
    | @blk b base n sz c e1 e2 e3 e4 =>
      have hle : Frz.le F (fun x => if x = b then some c else F x) := by
        intro x y hx
        have : x ≠ b := by intro e; subst e; rw [e2] at hx; cases hx
        simp only [this, if_false]; exact hx
      refine ⟨fun x => if x = b then some c else F x, hle, ?_, fun x y hx => ?_, fun x y hx => ?_⟩
      · cases e4 with
        | var q1 q2 =>
          exact .var e1 (by simp) ((VRels.toF _ hp q2).mono hle)
        | arr q1 q2 q3 =>
          exact .arr e1 (by simp) (fun e he => (q1 e he).1) ((VRels.toF _ (by rw [plains_flat]; exact hp) q3).mono hle)
      · by_cases h : x = b
        · subst h; simp at hx; subst hx; exact e3.row
        · simp only [h, if_false] at hx; exact H.frz _ _ hx
      · by_cases h : x = b
        · subst h; exact .inr ⟨_, _, _, e1⟩
        · simp only [h, if_false] at hx; exact .inl hx
  obtain ⟨F', hle, Z, hrow, hnew⟩ := key
  refine ⟨F', hle, ⟨hrow, fun m x hm => ?_, ?_, H.fresh⟩, ⟨E.os, E.tape, E.output, E.size, E.kept, fun m x b base n sz g1 g2 => ?_, E.F0.trans hle, fun b c hf => ?_⟩, fun v a h => VRel.fz hle Z a h⟩
  · obtain ⟨h1, y, h2, rfl⟩ := Store.get_fz hm
    cases H.obj _ _ h2 with
    | virt e1 e2 => subst e2; exact .virt e1 rfl
    | blk e1 e2 e3 e4 =>
      refine .blk e1 ?_ e3 ?_
      · cases hf : F' _ with
        | none => rfl
        | some c =>
          rcases hnew _ _ hf with h | ⟨base, n, sz, h⟩
          · rw [e2] at h; cases h
          · exact absurd (H.inj _ _ _ _ _ _ _ _ _ _ _ h2 ho e1 h) h1
      · cases e4 with
        | var q1 q2 => exact .var (by rw [fzs_length]; exact q1) (by rw [fzs_length]; exact VRels.fz hle Z _ q2)
        | arr q1 q2 q3 =>
          refine .arr (fun x hx => ?_) (by rw [fzs_length]; exact q2) (by rw [fzs_length, fzs_flat]; exact VRels.fz hle Z _ q3)
          obtain ⟨y, h1, rfl⟩ := fzs_mem hx
          have := q1 y h1
          exact ⟨by rw [fz_cells, fzs_length]; exact this.1, fz_nany this.2⟩
  · intro m m' x x' b n s z mm t y g1 g2 g3 g4
    obtain ⟨_, y1, h1, _⟩ := Store.get_fz g1
    obtain ⟨_, y2, h2, _⟩ := Store.get_fz g2
    exact H.inj _ _ _ _ _ _ _ _ _ _ _ h1 h2 g3 g4
  · obtain ⟨_, y1, h1, _⟩ := Store.get_fz g1
    exact E.own _ _ _ _ _ _ h1 g2
  · rcases hnew _ _ hf with h | ⟨base, n, sz, h⟩
    · exact E.Fnew _ _ h
    · rcases E.own _ _ _ _ _ _ ho h with h | h
      · exact .inr (.inl h)
      · exact .inr (.inr h)

end

def St.fz (l : Nat) (o : Obj) (s : St) : St := ⟨s.env.fz l o, s.σ.fz l o, s.nx⟩

theorem St.ent_fz {d : Dim} {s : St} {l : Nat} {o : Obj} (ho : s.σ.get l = some o) (hp : o.plain = true) : St.ent d s (s.fz l o) := by
  intro C φ F a w hd G
  obtain ⟨F', h1, H', E', hv⟩ := freeze_ok G.heap G.ext ho hp
  exact ⟨φ, F', .refl _ _, h1, ⟨G.size, G.defers, fun t => by rw [St.fz, Env.get_fz]; exact hv _ _ (G.env t), H', E'⟩⟩

def ARes.fz (l : Nat) (o : Obj) : ARes → ARes
  | .ret v => .ret (v.fz l o)
  | .panic v => .panic (v.fz l o)

/-- what a function leaves, given up -/
theorem FnOk.fz {P : Program} {f : FuncId} {args : List AV} {σ : Store} {nx : Nat} {R : ARes → Store → Nat → Prop}
    (h : FnOk P f args σ nx (fun r s k => R r s k ∨ ∃ l o, s.get l = some o ∧ o.plain = true ∧ R (r.fz l o) (s.fz l o) k)) : FnOk P f args σ nx R := by
  intro w φ F vs h1 h2
  refine (h w φ F vs h1 h2).mono ?_
  rintro e w' ⟨φ', F', r, σ', nx', g1, g2, g3, g4, g5, g6 | ⟨l, o, k1, k2, k3⟩⟩
  · exact ⟨φ', F', r, σ', nx', g1, g2, g3, g4, g5, g6⟩
  · obtain ⟨F'', q1, H', E', hv⟩ := freeze_ok g3 g4 k1 k2
    refine ⟨φ', F'', r.fz l o, σ'.fz l o, nx', g1, g2.trans q1, H', E', ?_, k3⟩
    cases g5 with
    | ret h => exact .ret (hv _ _ h)
    | panic h => exact .panic (hv _ _ h)

end Go.Ab
