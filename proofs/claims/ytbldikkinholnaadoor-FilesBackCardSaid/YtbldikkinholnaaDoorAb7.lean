/-
  Each operation does what its abstract one does: all of them.
-/
import Derived.Test.YtbldikkinholnaaDoorAb6
import Derived.Laws.StructEq
namespace Go.Ab
set_option linter.unusedVariables false
set_option linter.unusedSimpArgs false

section
variable {P : Program} {C : Ctx} {φ : Phi} {F : Frz} {st : St} {a : Act} {w : World}

theorem opds_ok (G : Gam C φ F st a w) {xs : List Operand} {ys : List Opd} (h : xs.mapM compOpd = some ys) : VRels φ F (xs.map a.eval) (ys.map fun y => y.ev st.env) := by
  induction xs generalizing ys with
  | nil => simp at h; subst h; exact .nil
  | cons x xs ih =>
    simp only [List.mapM_cons, Option.pure_def, Option.bind_eq_bind, Option.bind_eq_some_iff] at h
    obtain ⟨y, hy, l', hl', h⟩ := h
    cases h
    exact .cons (opd_ok G hy) (ih hl')

theorem optOpd_ok (G : Gam C φ F st a w) {x : Option Operand} {y : Option Opd} (h : x.mapM compOpd = some y) :
    (x = none ∧ y = none) ∨ ∃ x' y', x = some x' ∧ y = some y' ∧ VRel φ F (a.eval x') (y'.ev st.env) := by
  cases x with
  | none => simp at h; exact .inl ⟨rfl, h.symm⟩
  | some x =>
    simp at h
    obtain ⟨y', hy, rfl⟩ := h
    exact .inr ⟨x, y', rfl, rfl, opd_ok G hy⟩

theorem intOp_ok {op : BinOp} {t : TypeId} {k : IntKind} {x y : Int} {v : AV} (h : intOp op k x y = some v) :
    ∃ cv, (binOp op t (.int k x) (.int k y)).run P w = .ok cv w ∧ VRel φ F cv v := by
  cases op <;> simp only [intOp] at h
  case quo =>
    split at h
    · cases h
    · cases h; exact ⟨.int _ _, by simp [binOp, Op.intDiv, *], .frz .int⟩
  case rem =>
    split at h
    · cases h
    · cases h; exact ⟨.int _ _, by simp [binOp, Op.intDiv, *], .frz .int⟩
  all_goals first
    | (cases h; exact ⟨.int _ _, by simp [binOp, Op.intArith, Op.intBits, Op.intCmp], .frz .int⟩)
    | (cases h; exact ⟨.bool _, by simp [binOp, Op.intArith, Op.intBits, Op.intCmp], .frz .bool⟩)
    | (cases h; done)

theorem strOp_ok {op : BinOp} {t : TypeId} {x y : ByteArray} {v : AV} (h : strOp op x.data.toList y.data.toList = some v) :
    ∃ cv, (binOp op t (.string x) (.string y)).run P w = .ok cv w ∧ VRel φ F cv v := by
  cases op <;> simp only [strOp] at h
  case add =>
    split at h
    · rename_i hr
      cases h
      have hs : x.size + y.size ≤ 68719476736 := by simpa [roomy] using hr
      refine ⟨.string (x ++ y), ?_, .frz (.str (by simp))⟩
      simp only [binOp, Op.stringOp]
      rw [if_neg (by simp [IntKind.max, IntKind.signed, IntKind.bits]; omega)]
      rfl
    · cases h
  all_goals first
    | (cases h; exact ⟨.bool _, by simp [binOp, Op.stringOp, ByteArray.toList_eq], .frz .bool⟩)
    | (cases h; done)

theorem bin_ok {op : BinOp} {t : TypeId} {ox oy : Operand} {x y : Value} {p q v : AV} (hx : VRel φ F x p) (hy : VRel φ F y q)
    (h : binF op p q = some v) :
    ∃ cv, (do eqGuard op t ox oy x y; binOp op t x y : Sem Value).run P w = .ok cv w ∧ VRel φ F cv v := by
  have key : (∃ k m k2 n, x = .int k m ∧ y = .int k2 n) ∨ (∃ s s2, x = .string s ∧ y = .string s2) → (eqGuard op t ox oy x y).run P w = .ok () w := by
    rintro (⟨k, m, k2, n, rfl, rfl⟩ | ⟨s, s2, rfl, rfl⟩) <;> cases op <;> simp [eqGuard]
  unfold binF at h
  split at h
  · have e1 := hx.int_inv
    have e2 := hy.int_inv
    subst e1; subst e2
    have := key (.inl ⟨_, _, _, _, rfl, rfl⟩)
    split at h
    · cases h
    · cases h
      exact ⟨.int _ _, by simp [this, binOp, Op.shift, *], .frz .int⟩
  · have e1 := hx.int_inv
    have e2 := hy.int_inv
    subst e1; subst e2
    have := key (.inl ⟨_, _, _, _, rfl, rfl⟩)
    split at h
    · cases h
    · cases h
      exact ⟨.int _ _, by simp [this, binOp, Op.shift, *], .frz .int⟩
  · have e1 := hx.int_inv
    have e2 := hy.int_inv
    subst e1; subst e2
    have := key (.inl ⟨_, _, _, _, rfl, rfl⟩)
    split at h
    · rename_i e; subst e
      obtain ⟨cv, h1, h2⟩ := intOp_ok (P := P) (w := w) (φ := φ) (F := F) (t := t) h
      exact ⟨cv, by simp only [Sem.run_bind, this, Result.andThen_ok, h1], h2⟩
    · cases h
  · obtain ⟨x', rfl, rfl⟩ := hx.str_inv
    obtain ⟨y', rfl, rfl⟩ := hy.str_inv
    have := key (.inr ⟨_, _, rfl, rfl⟩)
    obtain ⟨cv, h1, h2⟩ := strOp_ok (P := P) (w := w) (φ := φ) (F := F) (t := t) h
    exact ⟨cv, by simp only [Sem.run_bind, this, Result.andThen_ok, h1], h2⟩
  · cases h

theorem equalIn_bool {t : TypeId} (ht : P.underlying t = some .bool) (d : Nat) (x y : Bool) : (Op.equalIn (d + 1) t (.bool x) (.bool y)).run P w = .ok (x == y) w := by
  simp only [Op.equalIn, Sem.run_bind, run_underlying ht, Result.andThen_ok]; rfl
theorem equalIn_int {t : TypeId} {k : IntKind} (ht : P.underlying t = some (.int k)) (d : Nat) {j : IntKind} (x y : Int) : (Op.equalIn (d + 1) t (.int j x) (.int j y)).run P w = .ok (x == y) w := by
  simp only [Op.equalIn, Sem.run_bind, run_underlying ht, Result.andThen_ok]; simp
theorem equalIn_string {t : TypeId} (ht : P.underlying t = some .string) (d : Nat) (x y : ByteArray) : (Op.equalIn (d + 1) t (.string x) (.string y)).run P w = .ok (x == y) w := by
  simp only [Op.equalIn, Sem.run_bind, run_underlying ht, Result.andThen_ok]; rfl
theorem equal_succ (t : TypeId) (x y : Value) : Op.equal t x y = Op.equalIn (9999 + 1) t x y := rfl

theorem eqb_ok {op : BinOp} {t : TypeId} {ox oy : Operand} {x y : Bool} (ht : P.underlying t = some .bool) (ho : op = .eql ∨ op = .neq) :
    (do eqGuard op t ox oy (.bool x) (.bool y); binOp op t (.bool x) (.bool y) : Sem Value).run P w = .ok (.bool (xor (decide (op = .neq)) (x == y))) w := by
  rcases ho with rfl | rfl
  · simp [eqGuard, binOp, equal_succ, equalIn_bool ht]
  · simp [eqGuard, binOp, equal_succ, equalIn_bool ht]


theorem part_cell {t : TypeId} {k : CK} (ht : plainKind P t = some k) {xs : Array Value} {i : Nat} {v : Value} (h : xs[i]? = some v) : (part t xs i).run P w = .ok v w := by
  unfold plainKind at ht
  split at ht <;> rename_i hd <;> first | (cases ht; done) | (simp [part, run_isAgg hd, isAggD, h])

theorem kind_b {t : TypeId} (h : plainKind P t = some .b) : P.underlying t = some .bool := by
  unfold plainKind at h; split at h <;> first | assumption | cases h
theorem kind_s {t : TypeId} (h : plainKind P t = some .s) : P.underlying t = some .string := by
  unfold plainKind at h; split at h <;> first | assumption | cases h
theorem kind_i {t : TypeId} (h : plainKind P t = some .i) : ∃ k, P.underlying t = some (.int k) := by
  unfold plainKind at h; split at h <;> first | exact ⟨_, by assumption⟩ | cases h

theorem cellEq_ok {t : TypeId} {k : CK} (ht : plainKind P t = some k) {v u : Value} {x y : AV} (hv : VRel φ F v x) (hu : VRel φ F u y) {r : Bool} (h : cellEq k x y = some r) (d : Nat) :
    (Op.equalIn (d + 1) t v u).run P w = .ok r w := by
  unfold cellEq at h
  split at h
  · obtain ⟨k, hd⟩ := kind_i ht
    have e1 := hv.int_inv
    have e2 := hu.int_inv
    subst e1; subst e2
    split at h
    · rename_i e; subst e; cases h; exact equalIn_int hd _ _ _
    · cases h
  · have e1 := hv.bool_inv
    have e2 := hu.bool_inv
    subst e1; subst e2
    cases h; exact equalIn_bool (kind_b ht) _ _ _
  · obtain ⟨x', rfl, rfl⟩ := hv.str_inv
    obtain ⟨y', rfl, rfl⟩ := hu.str_inv
    cases h
    rw [equalIn_string (kind_s ht), beq_toListBytes, ByteArray.toList_eq, ByteArray.toList_eq]
  · cases h

theorem eqFields_ok {d : Nat} {xs ys : Array Value} : ∀ (fs : List Field) (ks : List CK) (i : Nat) (as bs : List AV) (r : Bool),
    fs.mapM (fun f => plainKind P f.type) = some ks → (∀ f ∈ fs, (f.name != "_") = true) → fs.map (·.offset) = List.range' i fs.length →
    VRels φ F (xs.toList.drop i) as → VRels φ F (ys.toList.drop i) bs → cellsEq ks as bs = some r → (Op.eqFields (d + 1) xs ys fs).run P w = .ok r w := by
  intro fs
  induction fs with
  | nil =>
    intro ks i as bs r hk _ _ ha hb h
    simp at hk; subst hk
    cases as <;> cases bs <;> simp [cellsEq] at h
    subst h
    simp [Op.eqFields]
  | cons f fs ih =>
    intro ks i as bs r hk hn ho ha hb h
    simp only [List.mapM_cons, Option.pure_def, Option.bind_eq_bind, Option.bind_eq_some_iff] at hk
    obtain ⟨k, hk1, ks', hk2, hk⟩ := hk
    cases hk
    simp only [List.map_cons, List.length_cons, List.range'_succ, List.cons.injEq] at ho
    obtain ⟨ho1, ho2⟩ := ho
    cases as with
    | nil => simp [cellsEq] at h
    | cons x as =>
    cases bs with
    | nil => simp [cellsEq] at h
    | cons y bs =>
    simp only [cellsEq] at h
    split at h
    · rename_i r1 r2 h1 h2
      cases h
      have gx : ∃ v, xs[i]? = some v ∧ VRel φ F v x ∧ VRels φ F (xs.toList.drop (i + 1)) as := by
        generalize hl : xs.toList.drop i = l at ha
        cases ha with | cons q1 q2 =>
        rename_i v vs
        have e1 : xs.toList[i]? = some v := by
          have := congrArg (fun l => l[0]?) hl; simpa using this
        have e2 : xs.toList.drop (i + 1) = vs := by
          have := congrArg (fun l => l.drop 1) hl; simpa [List.drop_drop] using this
        exact ⟨v, by simpa using e1, q1, by rw [e2]; exact q2⟩
      have gy : ∃ v, ys[i]? = some v ∧ VRel φ F v y ∧ VRels φ F (ys.toList.drop (i + 1)) bs := by
        generalize hl : ys.toList.drop i = l at hb
        cases hb with | cons q1 q2 =>
        rename_i v vs
        have e1 : ys.toList[i]? = some v := by
          have := congrArg (fun l => l[0]?) hl; simpa using this
        have e2 : ys.toList.drop (i + 1) = vs := by
          have := congrArg (fun l => l.drop 1) hl; simpa [List.drop_drop] using this
        exact ⟨v, by simpa using e1, q1, by rw [e2]; exact q2⟩
      obtain ⟨v, g1, g2, g3⟩ := gx
      obtain ⟨u, k1, k2, k3⟩ := gy
      have hname : f.name ≠ "_" := by simpa using hn f (List.mem_cons_self ..)
      simp only [Op.eqFields]
      rw [if_pos hname]
      simp only [Sem.run_bind, ho1, part_cell hk1 g1, part_cell hk1 k1, Result.andThen_ok, cellEq_ok hk1 g2 k2 h1 d]
      cases r1 with
      | false => simp
      | true =>
        simp only [Bool.not_true, Bool.false_eq_true, if_false, Bool.true_and]
        exact ih ks' (i + 1) as bs r2 hk2 (fun g hg => hn g (List.mem_cons_of_mem _ hg)) ho2 g3 k3 h2
    · cases h

theorem eqs_ok {op : BinOp} {t : TypeId} {fs : Array Field} {ks : List CK} (ht : P.underlying t = some (.struct fs)) (hk : fs.toList.mapM (fun f => plainKind P f.type) = some ks)
    (ho : op = .eql ∨ op = .neq) (hs : P.stoodInHeld t = false) (hg : P.eqGuardType P.depth t = false) (hn : fs.toList.all (fun f => f.name != "_") = true) (hof : fs.toList.map (·.offset) = List.range fs.size)
    {xs ys : Array Value} {as bs : List AV} (ha : VRels φ F xs.toList as) (hb : VRels φ F ys.toList bs) {r : Bool} (h : cellsEq ks as bs = some r) {ox oy : Operand} :
    (do eqGuard op t ox oy (.agg xs) (.agg ys); binOp op t (.agg xs) (.agg ys) : Sem Value).run P w = .ok (.bool (xor (decide (op = .neq)) r)) w := by
  have hfs : P.fieldsOf t = fs := by simp [Program.fieldsOf, ht]
  have key : (Op.equalIn 10000 t (.agg xs) (.agg ys)).run P w = .ok r w := by
    show (Op.equalIn (9999 + 1) t (.agg xs) (.agg ys)).run P w = .ok r w
    rw [run_equalIn_struct w 9999 t xs ys (by rw [hfs]; exact ht) hs, hfs]
    exact eqFields_ok (d := 9998) fs.toList ks 0 as bs r hk (fun f hf => List.all_eq_true.1 hn f hf) (by rw [hof, List.range_eq_range']; simp) (by simpa using ha) (by simpa using hb) h
  rcases ho with rfl | rfl
  · simp only [Sem.run_bind, run_eqGuard_agg w _ t ox oy xs ys hg, Result.andThen_ok, run_eql_struct, key]; simp
  · simp only [Sem.run_bind, run_eqGuard_agg w _ t ox oy xs ys hg, Result.andThen_ok, run_neq_struct, key]; simp
end
end Go.Ab
