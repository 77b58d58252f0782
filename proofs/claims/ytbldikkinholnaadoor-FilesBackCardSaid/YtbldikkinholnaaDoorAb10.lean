/-
  The soundness of the operations.
-/
import Derived.Test.YtbldikkinholnaaDoorAb9
namespace Go.Ab
set_option linter.unusedVariables false
set_option linter.unusedSimpArgs false

section
variable {P : Program} {C : Ctx} {φ : Phi} {F : Frz} {st : St} {a : Act} {w : World}

theorem run_mapM_list {α β : Type} (f : α → Sem β) (g : α → β) : ∀ (l : List α), (∀ x ∈ l, (f x).run P w = .ok (g x) w) → (l.mapM f).run P w = .ok (l.map g) w := by
  intro l
  induction l with
  | nil => intro _; simp
  | cons x l ih =>
    intro h
    simp only [List.mapM_cons, Sem.run_bind, h x (List.mem_cons_self ..), Result.andThen_ok, ih (fun y hy => h y (List.mem_cons_of_mem _ hy)), Sem.run_pure, List.map_cons]

theorem run_mapM_array {α β : Type} (f : α → Sem β) (g : α → β) (xs : Array α) (h : ∀ x ∈ xs.toList, (f x).run P w = .ok (g x) w) : (xs.mapM f).run P w = .ok (xs.map g) w := by
  have e : xs.mapM f = List.toArray <$> xs.toList.mapM f := by
    rw [← Array.mapM_eq_mapM_toList]
  rw [e, Sem.run_map, run_mapM_list f g _ h]
  simp only [Result.andThen_ok]
  congr 1
  exact Array.toList_inj.1 (by simp)

theorem ba_get? (y : ByteArray) (i : Nat) : y[i]? = y.data[i]? := by
  by_cases h : i < y.size
  · rw [getElem?_pos y i h, getElem?_pos y.data i h]; rfl
  · rw [getElem?_neg y i h, getElem?_neg y.data i h]

theorem optOf (G : Gam C φ F st a w) {x : Option Operand} {y : Option Opd} (h : x.mapM compOpd = some y) : OptRel φ F (x.map a.eval) (y.map fun z => z.ev st.env) := by
  rcases optOpd_ok G h with ⟨rfl, rfl⟩ | ⟨x', y', rfl, rfl, hv⟩
  · exact .inl ⟨rfl, rfl⟩
  · exact .inr ⟨_, _, rfl, rfl, hv⟩

theorem op_sound (G : Gam C φ F st a w) {o : Oper} {ao : AOp} (hc : cOp P o = some ao) {r : Res} (h : opF ao st.env st.σ st.nx = some r) : Does P C φ F w (execOp a.eval o) r := by
  obtain ⟨dst, op, type, pos, after, guard⟩ := o
  cases op with
  | move x =>
    simp only [cOp, Option.map_eq_some_iff] at hc
    obtain ⟨y, hy, rfl⟩ := hc
    cases h
    exact .pure G (by simp [execOp]) (opd_ok G hy)
  | assign x =>
    simp only [cOp, Option.map_eq_some_iff] at hc
    obtain ⟨y, hy, rfl⟩ := hc
    cases h
    exact .pure G (by simp [execOp]) (opd_ok G hy)
  | pick c x y =>
    simp only [cOp, Option.pure_def, Option.bind_eq_bind, Option.bind_eq_some_iff] at hc
    obtain ⟨c', hc1, x', hx, y', hy, hc⟩ := hc
    cases hc
    simp only [opF] at h
    split at h
    · rename_i t ht
      cases h
      have h1 := opd_ok G hc1
      rw [ht] at h1
      refine .pure G (cv := if t then a.eval x else a.eval y) ?_ ?_
      · simp [execOp, h1.bool_inv, asBool]
      · cases t
        · simpa using opd_ok G hy
        · simpa using opd_ok G hx
    · cases h
  | alloc t =>
    simp only [cOp, Option.pure_def, Option.bind_eq_bind, Option.bind_eq_some_iff] at hc
    obtain ⟨i, hi, z, hz, x, hx, hc⟩ := hc
    cases hc
    cases h
    obtain ⟨_, h2, _⟩ := absZ_ok (φ := φ) (F := F) hx
    refine .new G (t := t) (c := z.cells) (base := 0) (sz := 0) (cv := .pointer (some ⟨w.heap.size, 0, none⟩)) ?_ (.var ?_ ?_) (zero_add_ptr (Phi.upd_self ..))
    · simp [execOp, Instr.alloc, run_zeroValue hi hz, newVar, run_newRow]
    · have := h2.length; simp at this; omega
    · have := h2.take x.cells.length
      have hl := h2.length
      rw [List.take_of_length_le (Nat.le_refl _)] at this
      simpa using this
  | box t x =>
    simp only [cOp, Option.map_eq_some_iff] at hc
    obtain ⟨y, hy, rfl⟩ := hc
    have h1 := opd_ok G hy
    simp only [opF] at h
    have key : ∀ v, y.ev st.env = v → v ≠ .any → r = (.ptr st.nx 0, (st.nx, .var v.cells) :: st.σ, st.nx + 1) → Does P C φ F w (execOp a.eval ⟨dst, .box t x, type, pos, after, guard⟩) r := by
      intro v hv hn hr
      subst hr
      rw [hv] at h1
      have h2 := h1.cells hn
      refine .new G (t := t) (c := (a.eval x).cells) (base := 0) (sz := 0) (cv := .pointer (some ⟨w.heap.size, 0, none⟩)) ?_ (.var ?_ ?_) (zero_add_ptr (Phi.upd_self ..))
      · simp [execOp, Instr.box, newVar, run_newRow]
      · have := h2.length; simp at this; omega
      · have := h2.take v.cells.length
        have hl := h2.length
        rw [List.take_of_length_le (Nat.le_refl _)] at this
        simpa using this
    split at h
    · cases h
    · cases h
      exact key _ rfl (by assumption) rfl
  | load t x =>
    simp only [cOp, Option.pure_def, Option.bind_eq_bind, Option.bind_eq_some_iff] at hc
    obtain ⟨d, hd, i, hi, hc⟩ := hc
    split at hc
    · rename_i hcond
      simp only [Option.bind_eq_some_iff] at hc
      obtain ⟨y, hy, hc⟩ := hc
      cases hc
      simp only [opF] at h
      split at h
      · rename_i cs hcs
        split at h
        · rename_i hle
          simp only [Option.map_eq_some_iff] at h
          obtain ⟨v, hv, h⟩ := h
          cases h
          obtain ⟨b, off, c, e1, e2, e3, e4⟩ := cells_ok G (opd_ok G hy) hcs
          obtain ⟨cv, hrun, hrel⟩ := run_loadVar (P := P) (φ := φ) (F := F) hd hi (by simpa using hcond.1) hcond.2 e2 (e3 (by omega)) hle e4 hv
          refine .pure G (cv := cv) ?_ hrel
          simp [execOp, Instr.loadAt, Instr.sureAddr, e1, hrun]
        · cases h
      · cases h
    · cases hc
  | store t x y =>
    simp only [cOp, Option.pure_def, Option.bind_eq_bind, Option.bind_eq_some_iff] at hc
    obtain ⟨i, hi, hc⟩ := hc
    split at hc
    · rename_i h0
      simp only [Option.bind_eq_some_iff] at hc
      obtain ⟨x', hx, y', hy, hc⟩ := hc
      cases hc
      simp only [opF, Option.map_eq_some_iff] at h
      obtain ⟨σ', hs, h⟩ := h
      cases h
      obtain ⟨w', hrun, h1, h2⟩ := store_sound G hi h0 (opd_ok G hx) (opd_ok G hy) hs
      exact ⟨.skip, undef, w', φ, F, by simp [execOp, hrun], .inr ⟨rfl, rfl⟩, .refl _, .refl _, .frz .any, h1, h2⟩
    · cases hc
  | build t parts =>
    simp only [cOp, Option.pure_def, Option.bind_eq_bind, Option.bind_eq_some_iff] at hc
    obtain ⟨i, hi, z, hz, x, hx, d, hd, hc⟩ := hc
    split at hc
    · rename_i fs
      simp only [Option.bind_eq_some_iff] at hc
      obtain ⟨ps, hps, hc⟩ := hc
      split at hc
      case isFalse => cases hc
      rename_i hinf
      cases hc
      simp only [opF, Option.map_eq_some_iff] at h
      obtain ⟨cs, hcs, h⟩ := h
      cases h
      obtain ⟨_, h2, _⟩ := absZ_ok (φ := φ) (F := F) hx
      -- the places
      have hpl : ∃ places : Array (Nat × Nat), (fs.mapM (fun f => do pure (f.offset, ← sizeOf f.type)) : Sem (Array (Nat × Nat))).run P w = .ok places w ∧
          ∀ (k : Nat) (f : Field) (j : TypeInfo), fs[k]? = some f → P.info? f.type = some j → places[k]? = some (f.offset, j.size) := by
        have hall := List.all_eq_true.1 hinf
        refine ⟨_, run_mapM_array _ (fun f => (f.offset, ((P.info? f.type).map (·.size)).getD 0)) fs (fun f hf => ?_), fun k f j h1 h2 => ?_⟩
        · have := hall f hf
          obtain ⟨j, hj⟩ := Option.isSome_iff_exists.1 this
          simp [run_sizeOf hj, hj]
        · simp [h1, h2]
      obtain ⟨places, hrun, hplaces⟩ := hpl
      have hmap : ∀ (l : List (Nat × Operand)) (ps : List (Nat × Nat × Opd)), l.mapM (fun (p : Nat × Operand) => do
          let f ← fs[p.1]?
          let j ← P.info? f.type
          let y ← compOpd p.2
          some (f.offset, j.size, y)) = some ps → l.length = ps.length ∧ ∀ (i : Nat) (p : Nat × Value) (q : Nat × Nat × AV),
            (l.map fun (p : Nat × Operand) => (p.1, a.eval p.2))[i]? = some p → (ps.map fun (q : Nat × Nat × Opd) => (q.1, q.2.1, q.2.2.ev st.env))[i]? = some q →
            places[p.1]? = some (q.1, q.2.1) ∧ VRel φ F p.2 q.2.2 := by
        intro l
        induction l with
        | nil => intro ps h; simp at h; subst h; exact ⟨rfl, by simp⟩
        | cons p l ih =>
          intro ps h
          simp only [List.mapM_cons, Option.pure_def, Option.bind_eq_bind, Option.bind_eq_some_iff] at h
          obtain ⟨q, ⟨f, hf, j, hj, y, hy, hq⟩, ps', hps', h⟩ := h
          cases h
          cases hq
          obtain ⟨h1, h2⟩ := ih ps' hps'
          refine ⟨by simp [h1], fun i p' q' e1 e2 => ?_⟩
          cases i with
          | zero =>
            simp at e1 e2
            subst e1; subst e2
            exact ⟨hplaces _ _ _ hf hj, opd_ok G hy⟩
          | succ i =>
            simp only [List.map_cons, List.getElem?_cons_succ] at e1 e2
            exact h2 i p' q' e1 e2
      obtain ⟨g1, g2⟩ := hmap _ _ hps
      obtain ⟨c', hf1, hf2⟩ := fill_ok (φ := φ) (F := F) (place := fun k => places[k]?) (parts.toList.map fun (p : Nat × Operand) => (p.1, a.eval p.2)) (ps.map fun (q : Nat × Nat × Opd) => (q.1, q.2.1, q.2.2.ev st.env)) z.cells x.cells cs
        g2 (by simpa using g1) h2 hcs
      refine .pure G (cv := .agg c') ?_ (.agg hf2)
      simp only [execOp, Instr.build, Sem.run_bind, run_zeroValue hi hz, run_underlying hd, Result.andThen_ok, hrun]
      have e : (parts.map fun (x : Nat × Operand) => match x with | (i, x) => (i, a.eval x)).toList = parts.toList.map fun (p : Nat × Operand) => (p.1, a.eval p.2) := by simp
      rw [e, hf1]
      simp
    · cases hc
  | nilCheck x =>
    simp only [cOp, Option.map_eq_some_iff] at hc
    obtain ⟨y, hy, rfl⟩ := hc
    have h1 := opd_ok G hy
    simp only [opF] at h
    split at h
    · rename_i l o e
      rw [e] at h1
      cases h
      obtain ⟨b, base, n, sz, _, hv⟩ := h1.ptr_inv
      exact .pure G (cv := a.eval x) (by simp [execOp, hv]) h1
    · rename_i l o k e
      rw [e] at h1
      cases h
      obtain ⟨b, base, n, sz, _, hv⟩ := h1.pel_inv
      exact .pure G (cv := a.eval x) (by simp [execOp, hv]) h1
    · rename_i l e
      rw [e] at h1
      cases h
      obtain ⟨b, base, n, _, _, hv⟩ := h1.pf_inv
      exact .pure G (cv := a.eval x) (by simp [execOp, hv]) h1
    · cases h
  | binOp op t x y yt =>
    simp only [cOp, Option.pure_def, Option.bind_eq_bind, Option.bind_eq_some_iff] at hc
    obtain ⟨d, hd, hc⟩ := hc
    have plain : ∀ x' y', compOpd x = some x' → compOpd y = some y' → opF (.bin op x' y') st.env st.σ st.nx = some r → Does P C φ F w (execOp a.eval ⟨dst, .binOp op t x y yt, type, pos, after, guard⟩) r := by
      intro x' y' hx hy h
      simp only [opF, Option.map_eq_some_iff] at h
      obtain ⟨v, hv, h⟩ := h
      cases h
      obtain ⟨cv, hrun, hrel⟩ := bin_ok (P := P) (w := w) (t := t) (ox := x) (oy := y) (opd_ok G hx) (opd_ok G hy) hv
      refine .pure G (cv := cv) ?_ hrel
      simp only [Sem.run_bind] at hrun
      simp only [execOp, Sem.run_bind, hrun, Result.andThen_ok, Sem.run_pure]
    split at hc
    · simp only [Option.bind_eq_some_iff] at hc
      obtain ⟨x', hx, y', hy, hc⟩ := hc
      cases hc
      exact plain _ _ hx hy h
    · simp only [Option.bind_eq_some_iff] at hc
      obtain ⟨x', hx, y', hy, hc⟩ := hc
      cases hc
      exact plain _ _ hx hy h
    · split at hc
      · rename_i ho
        simp only [Option.bind_eq_some_iff] at hc
        obtain ⟨x', hx, y', hy, hc⟩ := hc
        cases hc
        simp only [opF] at h
        split at h
        · rename_i p q e1 e2
          cases h
          have h1 := opd_ok G hx
          have h2 := opd_ok G hy
          rw [e1] at h1
          rw [e2] at h2
          refine .pure G (cv := .bool _) ?_ (.frz .bool)
          have := eqb_ok (P := P) (w := w) (ox := x) (oy := y) (x := p) (y := q) hd ho
          simp only [Sem.run_bind] at this
          simp only [execOp, Sem.run_bind, h1.bool_inv, h2.bool_inv, this, Result.andThen_ok, Sem.run_pure]
        · cases h
      · cases hc
    · rename_i fs
      simp only [Option.bind_eq_some_iff] at hc
      obtain ⟨ks, hks, hc⟩ := hc
      split at hc
      · rename_i hcond
        simp only [Option.bind_eq_some_iff] at hc
        obtain ⟨x', hx, y', hy, hc⟩ := hc
        cases hc
        simp only [opF] at h
        split at h
        · rename_i p q e1 e2
          simp only [Option.map_eq_some_iff] at h
          obtain ⟨b, hb, h⟩ := h
          cases h
          have h1 := opd_ok G hx
          have h2 := opd_ok G hy
          rw [e1] at h1
          rw [e2] at h2
          obtain ⟨xs, hxs, hxr⟩ := h1.agg_inv
          obtain ⟨ys, hys, hyr⟩ := h2.agg_inv
          obtain ⟨c1, c2, c3, c4, c5⟩ := hcond
          have := eqs_ok (P := P) (w := w) (op := op) hd hks c1 c2 c3 c4 c5 hxr hyr hb (ox := x) (oy := y)
          refine .pure G (cv := .bool _) ?_ (.frz .bool)
          simp only [Sem.run_bind] at this
          simp only [execOp, Sem.run_bind, hxs, hys, this, Result.andThen_ok, Sem.run_pure]
        · cases h
      · cases hc
    · cases hc
  | unOp op t x =>
    simp only [cOp, Option.map_eq_some_iff] at hc
    obtain ⟨y, hy, rfl⟩ := hc
    have h1 := opd_ok G hy
    simp only [opF, Option.map_eq_some_iff] at h
    obtain ⟨v, hv, h⟩ := h
    cases h
    unfold unF at hv
    split at hv
    · rename_i e; rw [e] at h1; cases hv
      exact .pure G (cv := .bool _) (by simp [execOp, h1.bool_inv, Op.unary]) (.frz .bool)
    · rename_i e; rw [e] at h1; cases hv
      exact .pure G (cv := .int _ _) (by simp [execOp, h1.int_inv, Op.unary, Op.intArith]) (.frz .int)
    · cases hv
  | convert s t x =>
    simp only [cOp, Option.pure_def, Option.bind_eq_bind, Option.bind_eq_some_iff] at hc
    obtain ⟨d1, hd1, d2, hd2, hc⟩ := hc
    split at hc
    · simp only [Option.map_eq_some_iff] at hc
      obtain ⟨y, hy, rfl⟩ := hc
      have h1 := opd_ok G hy
      simp only [opF] at h
      split at h
      · rename_i e; rw [e] at h1; cases h
        exact .pure G (cv := .int _ _) (by simp [execOp, convert, run_underlying hd1, run_underlying hd2, h1.int_inv, Conv.intToInt]) (.frz .int)
      · cases h
    · simp only [Option.map_eq_some_iff] at hc
      obtain ⟨y, hy, rfl⟩ := hc
      have h1 := opd_ok G hy
      simp only [opF] at h
      split at h
      · rename_i e; rw [e] at h1; cases h
        obtain ⟨x', hx', _⟩ := h1.str_inv
        exact .pure G (cv := .string x') (by simp [execOp, convert, run_underlying hd1, run_underlying hd2, hx']) (by rw [← hx']; exact h1)
      · cases h
    · rename_i e
      simp only [Option.bind_eq_some_iff] at hc
      obtain ⟨d3, hd3, hc⟩ := hc
      split at hc
      · simp only [Option.map_eq_some_iff] at hc
        obtain ⟨y, hy, rfl⟩ := hc
        have h1 := opd_ok G hy
        simp only [opF] at h
        split at h
        · rename_i s' e'
          rw [e'] at h1
          cases h
          obtain ⟨x', hx', rfl⟩ := h1.str_inv
          exact s2b_ok G hd1 hd2 hd3 hx'
        · cases h
      · cases hc
    · cases hc
  | makeInterface t x =>
    simp only [cOp, Option.pure_def, Option.bind_eq_bind, Option.bind_eq_some_iff] at hc
    obtain ⟨d, hd, hc⟩ := hc
    split at hc
    · cases hc
    · rename_i hni
      simp only [Option.map_eq_some_iff] at hc
      obtain ⟨y, hy, rfl⟩ := hc
      cases h
      refine .pure G (cv := .iface t (a.eval x)) ?_ (.ifc (opd_ok G hy))
      simp only [execOp, Instr.makeInterface, Sem.run_bind, run_underlying hd, Result.andThen_ok]
      simp
  | makeFunc f first cs =>
    cases f with
    | func f =>
      simp only [cOp] at hc
      split at hc
      · rename_i h0
        simp only [Option.map_eq_some_iff] at hc
        obtain ⟨ys, hys, rfl⟩ := hc
        cases h
        have hfirst : first = #[] := Array.eq_empty_of_size_eq_zero h0
        refine .pure G (cv := .func (.func f) #[] (cs.map a.eval)) (by simp [execOp, Instr.makeFunc, hfirst]) (.fn ?_)
        have := opds_ok G hys
        simpa using this
      · cases hc
    | _ => simp [cOp] at hc
  | slice t x lo hi mx =>
    simp only [cOp, Option.pure_def, Option.bind_eq_bind, Option.bind_eq_some_iff] at hc
    obtain ⟨d, hd, hc⟩ := hc
    split at hc
    · split at hc
      case isFalse => cases hc
      rename_i hmn
      simp only [Option.bind_eq_some_iff] at hc
      obtain ⟨y, hy, lo', hlo, hi', hhi, hc⟩ := hc
      cases hc
      have hmx0 : mx = none := by simpa using hmn
      subst hmx0
      simp only [opF] at h
      split at h
      · rename_i s' e'
        simp only [Option.map_eq_some_iff] at h
        obtain ⟨⟨l, hh⟩, hb, h⟩ := h
        cases h
        have h1 := opd_ok G hy
        rw [e'] at h1
        obtain ⟨x', hx', rfl⟩ := h1.str_inv
        have hsz : x'.data.toList.length = x'.size := by simp
        obtain ⟨m, hrun, q1, q2, _, _⟩ := bounds_ok (P := P) (w := w) (isS := false) (len := x'.data.toList.length) (cap := x'.size) (optOf G hlo) (optOf G hhi) (.inl ⟨rfl, rfl⟩) (by omega) hb (.inl rfl)
        refine .pure G (cv := .string (x'.extract l hh)) ?_ (.frz (.str ?_))
        · rw [hsz] at hrun
          simp only [execOp, Instr.sliceAt, Instr.slice, Sem.run_bind, run_underlying hd, Result.andThen_ok, hx', Option.isSome_none, Option.map_none, Bool.false_eq_true, if_false, hrun, Sem.run_pure]
        · simp [ByteArray.data_extract, List.extract_eq_take_drop, List.drop_take]
      · cases h
    · rename_i e
      simp only [Option.bind_eq_some_iff] at hc
      obtain ⟨i, hi, y, hy, lo', hlo, hi', hhi, mx', hmx, hc⟩ := hc
      cases hc
      simp only [opF, Option.map_eq_some_iff] at h
      obtain ⟨v, hv, h⟩ := h
      cases h
      obtain ⟨cv, hrun, hrel⟩ := slice_ok G hd hi (opd_ok G hy) (optOf G hlo) (optOf G hhi) (optOf G hmx) hv
      refine .pure G (cv := cv) ?_ hrel
      simp only [execOp, Instr.sliceAt, Sem.run_bind, run_underlying hd, Result.andThen_ok, hrun, Sem.run_pure]
    · cases hc
  | fieldAddr t x k =>
    simp only [cOp, Option.pure_def, Option.bind_eq_bind, Option.bind_eq_some_iff] at hc
    obtain ⟨d, hd, hc⟩ := hc
    split at hc
    · rename_i fs
      simp only [Option.bind_eq_some_iff] at hc
      obtain ⟨f, hf, i, hi, hc⟩ := hc
      split at hc
      · cases hc
      · rename_i hsz
        simp only [Option.bind_eq_some_iff] at hc
        obtain ⟨y, hy, hc⟩ := hc
        cases hc
        have h1 := opd_ok G hy
        have key : ∀ b off, a.eval x = .pointer (some ⟨b, off, none⟩) → (execOp a.eval ⟨dst, .fieldAddr t x k, type, pos, after, guard⟩).run P w = .ok (.value (.pointer (some ⟨b, off + f.offset, none⟩))) w := by
          intro b off e
          simp [execOp, Instr.fieldAt, run_underlying hd, hf, Instr.sureAddr, e, fieldPlace, run_sizeOf hi, hsz, addr_add]
        simp only [opF] at h
        split at h
        · rename_i l o e
          rw [e] at h1
          cases h
          obtain ⟨b, base, n, sz, hφ, hv⟩ := h1.ptr_inv
          have := key _ _ hv
          exact .pure G this (by rw [Nat.add_assoc]; exact .ptr hφ)
        · rename_i l j o e
          rw [e] at h1
          cases h
          obtain ⟨b, base, n, sz, hφ, hv⟩ := h1.pel_inv
          have := key _ _ hv
          exact .pure G this (by rw [Nat.add_assoc]; exact .pel hφ)
        · rename_i cs e
          rw [e] at h1
          split at h
          · rename_i hle
            cases h
            obtain ⟨b, off, c, g1, g2, hv⟩ := h1.pf_inv
            have := key _ _ hv
            refine .pure G this (.frz (.pf g1 ?_))
            have h3 := (g2.drop f.offset).take (cs.drop f.offset).length
            rw [take_drop_of (by simp; omega), List.take_of_length_le (Nat.le_refl _)] at h3
            exact h3
          · cases h
        · cases h
    · cases hc
  | indexAddr t x ix =>
    simp only [cOp, Option.pure_def, Option.bind_eq_bind, Option.bind_eq_some_iff] at hc
    obtain ⟨d, hd, hc⟩ := hc
    split at hc
    · rename_i e
      simp only [Option.bind_eq_some_iff] at hc
      obtain ⟨j, hj, x', hx, i', hi, hc⟩ := hc
      cases hc
      have h1 := opd_ok G hx
      have h2 := opd_ok G hi
      simp only [opF] at h
      split at h
      · rename_i es fl k n e1 e2
        rw [e1] at h1
        rw [e2] at h2
        split at h
        · rename_i hb
          split at h
          · rename_i v hv
            split at h
            · rename_i hvl
              cases h
              simp only [inB, decide_eq_true_eq] at hb
              obtain ⟨ao, cap, hx1, hle, _, hne⟩ := h1.ls_inv
              have hn : es ≠ [] := by intro e; subst e; simp at hv
              obtain ⟨b, off, c, sz, rfl, g1, g2, g3⟩ := hne hn
              have hm : v ∈ es := List.mem_of_getElem? hv
              have hsz : sz = j.size := by rw [← g2 v hm]; exact hvl
              subst hsz
              have hlt : n.toNat < es.length := by omega
              refine .pure G (cv := .pointer (some ⟨b, off + n.toNat * j.size, none⟩)) ?_ (.frz (.pf g1 ?_))
              · simp only [execOp, Instr.indexAt, asIntOf, h2.int_inv, hx1, Sem.run_bind, Sem.run_pure, run_underlying hd, Result.andThen_ok]
                rw [if_pos hb]
                simp [run_sizeOf hj, addr_add]
              · have := (g3.drop (n.toNat * j.size)).take j.size
                rw [flat_get g2 hv, take_drop_of (mul_room hlt)] at this
                rw [hvl]; exact this
            · cases h
          · cases h
        · cases h
      · rename_i l off len k n e1 e2
        rw [e1] at h1
        rw [e2] at h2
        split at h
        · rename_i s es hg
          split at h
          · rename_i hs
            subst hs
            split at h
            · rename_i hb
              cases h
              simp only [inB, decide_eq_true_eq] at hb
              rcases h1.os_inv with ⟨_, rfl, _⟩ | ⟨b, base, m, sz, cap, ad, g1, g2, g3, hx1⟩
              · exfalso; have := hb.2; have := hb.1; simp at *; omega
              · obtain ⟨rfl, q2⟩ := g3 (by omega)
                cases G.heap.obj _ _ hg with
                | virt e1 e2 => rw [g1] at e1; cases e1
                | blk e1 e2 e3 e4 =>
                  rw [g1] at e1; cases e1
                  cases e4 with | arr k1 k2 k3 =>
                  refine .pure G (cv := .pointer (some ⟨b, base + (off + n.toNat) * j.size + 0, none⟩)) ?_ (.pel g1)
                  simp only [execOp, Instr.indexAt, asIntOf, h2.int_inv, hx1, Sem.run_bind, Sem.run_pure, run_underlying hd, Result.andThen_ok]
                  rw [if_pos hb]
                  simp [run_sizeOf hj, addr_add, Nat.add_mul, Nat.add_assoc]
            · cases h
          · cases h
        · cases h
      · cases h
    · cases hc
  | index t x ix =>
    simp only [cOp, Option.pure_def, Option.bind_eq_bind, Option.bind_eq_some_iff] at hc
    obtain ⟨d, hd, hc⟩ := hc
    split at hc
    · simp only [Option.bind_eq_some_iff] at hc
      obtain ⟨x', hx, i', hi, hc⟩ := hc
      cases hc
      have h1 := opd_ok G hx
      have h2 := opd_ok G hi
      simp only [opF] at h
      split at h
      · rename_i s k n e1 e2
        rw [e1] at h1
        rw [e2] at h2
        split at h
        · rename_i hb
          split at h
          · rename_i b hv
            cases h
            obtain ⟨y, hy, rfl⟩ := h1.str_inv
            simp only [inB, decide_eq_true_eq] at hb
            refine .pure G (cv := .int .u8 b.toNat) ?_ (.frz .int)
            have hget : y[n.toNat]? = some b := by
              have : y.data.toList[n.toNat]? = some b := hv
              rw [ba_get?]; simpa using this
            simp [execOp, Instr.index, asIntOf, h2.int_inv, hy, run_underlying hd, hb.1, hget]
          · cases h
        · cases h
      · cases h
    · cases hc
  | field t x k =>
    simp only [cOp, Option.pure_def, Option.bind_eq_bind, Option.bind_eq_some_iff] at hc
    obtain ⟨d, hd, hc⟩ := hc
    split at hc
    · rename_i fs
      simp only [Option.bind_eq_some_iff] at hc
      obtain ⟨f, hf, j, hj, d2, hd2, hc⟩ := hc
      split at hc
      · rename_i hcond
        simp only [Option.bind_eq_some_iff] at hc
        obtain ⟨x', hx, hc⟩ := hc
        cases hc
        have h1 := opd_ok G hx
        simp only [opF] at h
        split at h
        · rename_i cs e1
          rw [e1] at h1
          split at h
          · rename_i hle
            simp only [Option.map_eq_some_iff] at h
            obtain ⟨v, hv, h⟩ := h
            cases h
            obtain ⟨xs, hxs, hr⟩ := h1.agg_inv
            have hl := hr.length
            simp only [Array.length_toList] at hl
            cases ha : isAggD d2 with
            | true =>
              simp only [ha, bundle, if_true] at hv
              cases hv
              refine .pure G (cv := .agg (xs.extract f.offset (f.offset + j.size))) ?_ (.agg ?_)
              · simp [execOp, Instr.field, run_underlying hd, hf, hxs, asAgg, part, run_isAgg hd2, ha, run_sizeOf hj]
              · have := (hr.drop f.offset).take j.size
                simpa [List.extract_eq_take_drop, List.drop_take] using this
            | false =>
              have hj1 : j.size = 1 := by
                rcases hcond with h | h
                · rw [ha] at h; cases h
                · exact h
              simp only [ha, bundle, hj1, Bool.false_eq_true, if_false] at hv
              have hv' : cs[f.offset]? = some v := by
                rw [List.head?_eq_getElem?] at hv
                simpa using hv
              obtain ⟨cv, hcv, hrel⟩ := hr.get' hv'
              refine .pure G (cv := cv) ?_ hrel
              have : xs[f.offset]? = some cv := by simpa using hcv
              simp [execOp, Instr.field, run_underlying hd, hf, hxs, asAgg, part, run_isAgg hd2, ha, this]
          · cases h
        · cases h
      · cases hc
    · cases hc
  | typeAssert x xt t ok =>
    simp only [cOp, Option.pure_def, Option.bind_eq_bind, Option.bind_eq_some_iff] at hc
    obtain ⟨i, hi, z, hz, z', hz', d, hd, hc⟩ := hc
    split at hc
    · cases hc
    · rename_i hni
      simp only [Option.bind_eq_some_iff] at hc
      obtain ⟨x', hx, hc⟩ := hc
      cases hc
      have h1 := opd_ok G hx
      obtain ⟨hzr, _, _⟩ := absZ_ok (φ := φ) (F := F) hz'
      simp only [opF] at h
      split at h
      · rename_i u v e1
        rw [e1] at h1
        obtain ⟨y, hy, hr⟩ := h1.ifc_inv
        split at h
        · rename_i hu
          subst hu
          cases h
          cases ok with
          | true =>
            refine .pure G (cv := .tuple #[y, .bool true]) ?_ (.tup (.cons hr (.cons (.frz .bool) .nil)))
            simp [execOp, Instr.typeAssert, run_underlying hd, hy]
          | false =>
            refine .pure G (cv := y) ?_ hr
            simp [execOp, Instr.typeAssert, run_underlying hd, hy]
        · rename_i hu
          split at h
          · rename_i hok
            subst hok
            cases h
            refine .pure G (cv := .tuple #[z, .bool false]) ?_ (.tup (.cons hzr (.cons (.frz .bool) .nil)))
            simp [execOp, Instr.typeAssert, run_underlying hd, hy, hu, run_zeroValue hi hz]
          · cases h
      · rename_i e1
        rw [e1] at h1
        split at h
        · rename_i hok
          subst hok
          cases h
          refine .pure G (cv := .tuple #[z, .bool false]) ?_ (.tup (.cons hzr (.cons (.frz .bool) .nil)))
          simp [execOp, Instr.typeAssert, run_underlying hd, h1.nili_inv, run_zeroValue hi hz]
        · cases h
      · cases h
  | extract x i =>
    simp only [cOp, Option.pure_def, Option.bind_eq_bind, Option.bind_eq_some_iff] at hc
    obtain ⟨y, hy, hc⟩ := hc
    cases hc
    have h1 := opd_ok G hy
    simp only [opF] at h
    split at h
    · rename_i vs e
      rw [e] at h1
      obtain ⟨xs, hxs, hr⟩ := h1.tup_inv
      split at h
      · rename_i v hv
        cases h
        obtain ⟨cv, hcv, hrel⟩ := hr.get' hv
        refine .pure G (cv := cv) ?_ hrel
        have : xs[i]? = some cv := by simpa using hcv
        simp [execOp, Instr.extract, hxs, this]
      · cases h
    · cases h
  | makeSlice t ol oc =>
    simp only [cOp, Option.pure_def, Option.bind_eq_bind, Option.bind_eq_some_iff] at hc
    obtain ⟨d, hd, hc⟩ := hc
    split at hc
    · rename_i e
      simp only [Option.bind_eq_some_iff] at hc
      obtain ⟨i, hi, z, hz, x, hx, hc⟩ := hc
      split at hc
      · rename_i hcond
        obtain ⟨c1, c2, c3, c4⟩ := hcond
        simp only [Option.bind_eq_some_iff] at hc
        obtain ⟨x', hx', y', hy', hc⟩ := hc
        cases hc
        simp only [opF] at h
        split at h
        · rename_i l c e1 e2
          split at h
          · rename_i hb
            cases h
            simp only [upB, roomy, Bool.and_eq_true, decide_eq_true_eq] at hb
            have h1 := opd_ok G hx'
            have h2 := opd_ok G hy'
            rw [e1] at h1
            rw [e2] at h2
            exact mslice_ok G hd hi hz hx c1 c2 c3 h1.int_inv h2.int_inv hb.1.1.1 (by omega) hb.2
          · cases h
        · cases h
      · cases hc
    · cases hc
  | buildSlice t len parts =>
    simp only [cOp, Option.pure_def, Option.bind_eq_bind, Option.bind_eq_some_iff] at hc
    obtain ⟨d, hd, hc⟩ := hc
    split at hc
    · rename_i e
      simp only [Option.bind_eq_some_iff] at hc
      obtain ⟨i, hi, z, hz, x, hx, ps, hps, hc⟩ := hc
      split at hc
      · rename_i hcond
        obtain ⟨c1, c2, c3, c4⟩ := hcond
        cases hc
        simp only [opF, Option.map_eq_some_iff] at h
        obtain ⟨es, hes, h⟩ := h
        cases h
        exact bslice_ok G hd hi hz hx hps c1 c2 c3 c4 hes
      · cases hc
    · cases hc
  | call c =>
    obtain ⟨callee, args, argTypes⟩ := c
    cases callee with
    | value f => simp [cOp] at hc
    | invoke r m => simp [cOp] at hc
    | builtin b =>
      cases b <;> simp only [cOp, Option.pure_def, Option.bind_eq_bind, Option.bind_eq_some_iff] at hc <;> first | (cases hc; done) | skip
      · -- append
        obtain ⟨s, hs, x, hx, sT, hsT, d1, hd1, xT, hxT, d2, hd2, hc⟩ := hc
        have key : ∀ e, d1 = .slice e → (∀ k, d2 ≠ .int k) → ((P.info? e).bind fun j =>
            if 0 < j.size ∧ 0 < j.bytes ∧ j.bytes ≤ 256 ∧ j.zero.map (fun z => z.cells.size) = some j.size then (compOpd s).bind fun s' => (compOpd x).bind fun x' => some (AOp.app j.size s' x') else none) = some ao → 
            Does P C φ F w (execOp a.eval ⟨dst, .call ⟨.builtin .append, args, argTypes⟩, type, pos, after, guard⟩) r := by
          clear hc
          intro e he hni hc
          subst he
          simp only [Option.bind_eq_some_iff] at hc
          obtain ⟨j, hj, hc⟩ := hc
          split at hc
          · rename_i hcond
            obtain ⟨c1, c2, c3, c4⟩ := hcond
            simp only [Option.bind_eq_some_iff] at hc
            obtain ⟨s', hs', x', hx', hc⟩ := hc
            cases hc
            simp only [Option.map_eq_some_iff] at c4
            obtain ⟨z, hz, hzs⟩ := c4
            simp only [opF] at h
            split at h
            · rename_i es σ' xs hb hel
              split at h
              · rename_i hh
                simp only [Bool.and_eq_true] at hh
                cases h
                obtain ⟨cv, w', φ', hrun, h1, h2, h3, h4⟩ := append_ok (ty := type) G hd1 hd2 hni hj hz hzs c1 c2 c3 (opd_ok G hs') (opd_ok G hx') hb hel hh.1 hh.2
                refine ⟨.value cv, cv, w', φ', F, ?_, .inl rfl, h1, .refl _, h2, h3, h4⟩
                have e1 : Builtin.append_ argTypes type (args.map a.eval) = Builtin.append_ #[sT, xT] type #[a.eval s, a.eval x] := by
                  simp [Builtin.append_, hsT, hxT, hs, hx]
                simp only [execOp, resolve, invoke, builtin, Sem.run_bind, Sem.run_pure, Result.andThen_ok]
                rw [e1, hrun]
                rfl
              · cases h
            · cases h
          · cases hc
        split at hc
        · rename_i e1 e2
          exact key _ rfl (by simp) hc
        · exact key _ rfl (by simp) hc
        · cases hc
      · -- len
        obtain ⟨x, hx, t, ht, d, hd, hc⟩ := hc
        have run : ∀ n : Nat, (d = .string ∧ (∃ s, a.eval x = .string s ∧ s.size = n)) ∨ ((∃ e, d = .slice e) ∧ ∃ ao cap, a.eval x = .slice ao n cap) →
              (execOp a.eval ⟨dst, .call ⟨.builtin .len, args, argTypes⟩, type, pos, after, guard⟩).run P w = .ok (.value (.int .i64 n)) w := by
            intro n hn
            have e1 : (Builtin.len_ argTypes type (args.map a.eval)).run P w = .ok (.int .i64 n) w := by
              rcases hn with ⟨rfl, s, hs, rfl⟩ | ⟨⟨e, rfl⟩, ao, cap, hs⟩
              · simp [Builtin.len_, ht, hx, run_underlying hd, hs, goInt]
              · simp [Builtin.len_, ht, hx, run_underlying hd, hs, goInt]
            simp only [execOp, resolve, invoke, builtin, Sem.run_bind, Sem.run_pure, Result.andThen_ok, e1]
        split at hc
        · simp only [Option.map_eq_some_iff] at hc
          obtain ⟨y, hy, rfl⟩ := hc
          have h1 := opd_ok G hy
          simp only [opF] at h
          split at h
          · rename_i e1; rw [e1] at h1; cases h
            obtain ⟨x', hx', rfl⟩ := h1.str_inv
            exact .pure G (run _ (.inl ⟨rfl, x', hx', by simp⟩)) (.frz .int)
          · cases h
        · simp only [Option.map_eq_some_iff] at hc
          obtain ⟨y, hy, rfl⟩ := hc
          have h1 := opd_ok G hy
          simp only [opF] at h
          split at h
          · rename_i e1; rw [e1] at h1; cases h
            obtain ⟨ao, cap, hx', _⟩ := h1.ls_inv
            exact .pure G (run _ (.inr ⟨⟨_, rfl⟩, _, _, hx'⟩)) (.frz .int)
          · rename_i e1; rw [e1] at h1; cases h
            rcases h1.os_inv with ⟨_, rfl, a', hx'⟩ | ⟨_, _, _, _, cap', ad', _, _, _, hx'⟩
            · exact .pure G (run _ (.inr ⟨⟨_, rfl⟩, _, _, hx'⟩)) (.frz .int)
            · exact .pure G (run _ (.inr ⟨⟨_, rfl⟩, _, _, hx'⟩)) (.frz .int)
          · cases h
        · cases hc
      · -- max_
        split at hc
        · rename_i h2
          simp only [Option.bind_eq_some_iff] at hc
          obtain ⟨p, hp, x, hx, q, hq, y, hy, hc⟩ := hc
          cases hc
          simp only [opF] at h
          split at h
          · rename_i k m k2 n e1 e2
            cases h
            have h3 := opd_ok G hx
            have h4 := opd_ok G hy
            rw [e1] at h3
            rw [e2] at h4
            have ea : (args.map a.eval).toList = [.int k m, .int k2 n] := by
              have hl : args.toList = [p, q] := by
                obtain ⟨l⟩ := args
                simp at h2 hp hq
                match l, h2, hp, hq with
                | [u, v], _, hp, hq => simp at hp hq; simp [hp, hq]
              simp [Array.toList_map, hl, h3.int_inv, h4.int_inv]
            refine .pure G (cv := .int k _) ?_ (.frz .int)
            simp only [execOp, resolve, invoke, builtin, Sem.run_bind, Sem.run_pure, Result.andThen_ok, Builtin.max_, ea]
            simp [mmF, Builtin.max2, Sem.run_bind, Sem.run_pure, Result.andThen_ok]
          · cases h
        · cases hc
      · -- min_
        split at hc
        · rename_i h2
          simp only [Option.bind_eq_some_iff] at hc
          obtain ⟨p, hp, x, hx, q, hq, y, hy, hc⟩ := hc
          cases hc
          simp only [opF] at h
          split at h
          · rename_i k m k2 n e1 e2
            cases h
            have h3 := opd_ok G hx
            have h4 := opd_ok G hy
            rw [e1] at h3
            rw [e2] at h4
            have ea : (args.map a.eval).toList = [.int k m, .int k2 n] := by
              have hl : args.toList = [p, q] := by
                obtain ⟨l⟩ := args
                simp at h2 hp hq
                match l, h2, hp, hq with
                | [u, v], _, hp, hq => simp at hp hq; simp [hp, hq]
              simp [Array.toList_map, hl, h3.int_inv, h4.int_inv]
            refine .pure G (cv := .int k _) ?_ (.frz .int)
            simp only [execOp, resolve, invoke, builtin, Sem.run_bind, Sem.run_pure, Result.andThen_ok, Builtin.min_, ea]
            simp [mmF, Builtin.min2, Sem.run_bind, Sem.run_pure, Result.andThen_ok]
          · cases h
        · cases hc
  | _ => simp [cOp, Option.map_eq_some_iff] at hc; try (obtain ⟨_, _, rfl⟩ := hc; simp [opF] at h)

end
end Go.Ab
