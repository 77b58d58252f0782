/-
  Each operation does what its abstract one does.
-/
import Derived.Test.YtbldikkinholnaaDoorAb5
import Derived.Laws.Strings
namespace Go.Ab
set_option linter.unusedVariables false

/-- what an operation comes to -/
def Does (P : Program) (C : Ctx) (φ : Phi) (F : Frz) (w : World) (s : Sem Next) (r : Res) : Prop :=
  ∃ nxt cv w' φ' F', s.run P w = .ok nxt w' ∧ (nxt = .value cv ∨ (nxt = .skip ∧ cv = undef)) ∧ Phi.le φ φ' ∧ Frz.le F F' ∧ VRel φ' F' cv r.1 ∧
    HRel φ' F' r.2.1 r.2.2 w' ∧ Ext C φ' F' r.2.1 w'

section
variable {P : Program} {C : Ctx} {φ : Phi} {F : Frz} {st : St} {a : Act} {w : World}

theorem Does.pure (G : Gam C φ F st a w) {s : Sem Next} {cv : Value} {v : AV} (h : s.run P w = .ok (.value cv) w) (hv : VRel φ F cv v) : Does P C φ F w s (v, st.σ, st.nx) :=
  ⟨_, cv, w, φ, F, h, .inl rfl, .refl _, .refl _, hv, G.heap, G.ext⟩

/-! what a value is, out of what it is abstractly -/
theorem VRel.bool_inv {φ : Phi} {F : Frz} {v : Value} {b : Bool} (h : VRel φ F v (.bool b)) : v = .bool b := by
  cases h with | frz h => cases h; rfl
theorem VRel.int_inv {φ : Phi} {F : Frz} {v : Value} {k : IntKind} {n : Int} (h : VRel φ F v (.int k n)) : v = .int k n := by
  cases h with | frz h => cases h; rfl
theorem VRel.str_inv {φ : Phi} {F : Frz} {v : Value} {s : List UInt8} (h : VRel φ F v (.str s)) : ∃ x : ByteArray, v = .string x ∧ x.data.toList = s := by
  cases h with | frz h => cases h with | str h => exact ⟨_, rfl, h⟩
theorem VRel.agg_inv {φ : Phi} {F : Frz} {v : Value} {cs : List AV} (h : VRel φ F v (.agg cs)) : ∃ xs : Array Value, v = .agg xs ∧ VRels φ F xs.toList cs := by
  cases h with
  | frz h => cases h with | agg h => exact ⟨_, rfl, h.toV⟩
  | agg h => exact ⟨_, rfl, h⟩
theorem VRel.tup_inv {φ : Phi} {F : Frz} {v : Value} {cs : List AV} (h : VRel φ F v (.tup cs)) : ∃ xs : Array Value, v = .tuple xs ∧ VRels φ F xs.toList cs := by
  cases h with
  | frz h => cases h with | tup h => exact ⟨_, rfl, h.toV⟩
  | tup h => exact ⟨_, rfl, h⟩
theorem VRel.fn_inv {φ : Phi} {F : Frz} {v : Value} {f : FuncId} {cs : List AV} (h : VRel φ F v (.fn f cs)) : ∃ xs : Array Value, v = .func (.func f) #[] xs ∧ VRels φ F xs.toList cs := by
  cases h with
  | frz h => cases h with | fn h => exact ⟨_, rfl, h.toV⟩
  | fn h => exact ⟨_, rfl, h⟩
theorem VRel.ifc_inv {φ : Phi} {F : Frz} {v : Value} {t : TypeId} {x : AV} (h : VRel φ F v (.ifc t x)) : ∃ y, v = .iface t y ∧ VRel φ F y x := by
  cases h with
  | frz h => cases h with | ifc h => exact ⟨_, rfl, .frz h⟩
  | ifc h => exact ⟨_, rfl, h⟩
theorem VRel.nili_inv {φ : Phi} {F : Frz} {v : Value} (h : VRel φ F v .nili) : v = .nilIface := by
  cases h with | frz h => cases h; rfl
theorem VRel.ptr_inv {φ : Phi} {F : Frz} {v : Value} {l o : Nat} (h : VRel φ F v (.ptr l o)) : ∃ b base n sz, φ l = some (.blk b base n sz) ∧ v = .pointer (some ⟨b, base + o, none⟩) := by
  cases h with
  | frz h => cases h
  | ptr h => exact ⟨_, _, _, _, h, rfl⟩
theorem VRel.pel_inv {φ : Phi} {F : Frz} {v : Value} {l i o : Nat} (h : VRel φ F v (.pel l i o)) : ∃ b base n sz, φ l = some (.blk b base n sz) ∧ v = .pointer (some ⟨b, base + i * sz + o, none⟩) := by
  cases h with
  | frz h => cases h
  | pel h => exact ⟨_, _, _, _, h, rfl⟩
theorem VRel.pf_inv {φ : Phi} {F : Frz} {v : Value} {cs : List AV} (h : VRel φ F v (.pf cs)) : ∃ b off c, F b = some c ∧ FRels F ((c.toList.drop off).take cs.length) cs ∧ v = .pointer (some ⟨b, off, none⟩) := by
  cases h with | frz h => cases h with | pf h1 h2 => exact ⟨_, _, _, h1, h2, rfl⟩

theorem take_drop_of {α : Type} {l : List α} {base k off n : Nat} (h : off + n ≤ k) : (((l.drop base).take k).drop off).take n = (l.drop (base + off)).take n := by
  rw [List.drop_take, List.take_take, List.drop_drop, Nat.min_eq_left (by omega)]

theorem flat_get {es : List AV} {sz i : Nat} {e : AV} (hs : ∀ x ∈ es, x.cells.length = sz) (h : es[i]? = some e) : ((es.flatMap AV.cells).drop (i * sz)).take sz = e.cells := by
  induction es generalizing i with
  | nil => simp at h
  | cons x es ih =>
    have hx := hs x (List.mem_cons_self ..)
    cases i with
    | zero => simp at h; subst h; simp [hx]
    | succ i =>
      simp only [List.getElem?_cons_succ] at h
      rw [← ih (fun y hy => hs y (List.mem_cons_of_mem _ hy)) h]
      simp only [List.flatMap_cons]
      rw [show (i + 1) * sz = x.cells.length + i * sz from by rw [hx, Nat.add_mul]; omega, List.drop_append, List.drop_of_length_le (by omega)]
      simp

theorem flat_len {es : List AV} {sz : Nat} (hs : ∀ x ∈ es, x.cells.length = sz) : (es.flatMap AV.cells).length = es.length * sz := by
  induction es with
  | nil => simp
  | cons x es ih =>
    simp only [List.flatMap_cons, List.length_append, List.length_cons, ih (fun y hy => hs y (List.mem_cons_of_mem _ hy)), hs x (List.mem_cons_self ..), Nat.add_mul]
    omega

theorem mul_room {i n sz : Nat} (h : i < n) : i * sz + sz ≤ n * sz := by
  have : (i + 1) * sz ≤ n * sz := Nat.mul_le_mul_right _ h
  rw [Nat.add_mul] at this; omega

/-- what an address reads -/
theorem cells_ok (G : Gam C φ F st a w) {v : Value} {x : AV} {cs : List AV} (hv : VRel φ F v x) (hc : cellsAt st.σ x = some cs) :
    ∃ b off c, v = .pointer (some ⟨b, off, none⟩) ∧ Row w b c ∧ (0 < cs.length → off + cs.length ≤ c.size) ∧ VRels φ F ((c.toList.drop off).take cs.length) cs := by
  cases x with
  | pf ds =>
    cases hc
    obtain ⟨b, off, c, h1, h2, rfl⟩ := hv.pf_inv
    have hl := h2.length
    refine ⟨b, off, c, rfl, G.heap.frz _ _ h1, ?_, h2.toV⟩
    simp only [List.length_take, List.length_drop, Array.length_toList] at hl
    omega
  | ptr l o =>
    obtain ⟨b, base, n, sz, h1, rfl⟩ := hv.ptr_inv
    simp only [cellsAt] at hc
    split at hc
    · rename_i ds hg
      cases hc
      cases G.heap.obj _ _ hg with
      | virt e1 e2 => rw [h1] at e1; cases e1
      | blk e1 e2 e3 e4 =>
        rw [h1] at e1; cases e1
        cases e4 with | var g1 g2 =>
        refine ⟨b, base + o, _, rfl, e3.row, ?_, ?_⟩
        · intro h0
          have := e3.1
          simp only [List.length_drop] at h0 ⊢
          omega
        · have := g2.drop o
          have h3 := this.length
          have h4 := this.take (ds.drop o).length
          rw [List.take_of_length_le (Nat.le_refl _)] at h4
          rcases Nat.lt_or_ge o ds.length with hlt | hge
          · rw [take_drop_of (by simp only [List.length_drop]; omega)] at h4
            exact h4
          · rw [List.drop_of_length_le hge]
            simpa using VRels.nil
    · cases hc
  | pel l i o =>
    obtain ⟨b, base, n, sz, h1, rfl⟩ := hv.pel_inv
    simp only [cellsAt] at hc
    split at hc
    · rename_i s es hg
      simp only [Option.map_eq_some_iff] at hc
      obtain ⟨e, he, rfl⟩ := hc
      cases G.heap.obj _ _ hg with
      | virt e1 e2 => rw [h1] at e1; cases e1
      | blk e1 e2 e3 e4 =>
        rw [h1] at e1; cases e1
        cases e4 with | arr g1 g2 g3 =>
        have hi : i < es.length := by
          rcases Nat.lt_or_ge i es.length with h | h
          · exact h
          · simp [List.getElem?_eq_none h] at he
        have hm : e ∈ es := List.mem_of_getElem? he
        have hsz := (g1 e hm).1
        have hr := mul_room (sz := sz) hi
        refine ⟨b, base + i * sz + o, _, rfl, e3.row, ?_, ?_⟩
        · intro h0
          have := e3.1
          simp only [List.length_drop] at h0 ⊢
          omega
        · have h4 := (g3.drop (i * sz)).take sz
          rw [flat_get (fun x hx => (g1 x hx).1) he, take_drop_of hr] at h4
          rcases Nat.lt_or_ge o sz with hlt | hge
          · have h5 := (h4.drop o).take (e.cells.drop o).length
            rw [List.take_of_length_le (Nat.le_refl _), take_drop_of (by simp only [List.length_drop]; omega)] at h5
            exact h5
          · rw [List.drop_of_length_le (by omega)]
            simpa using VRels.nil
    · cases hc
  | _ => cases hc


theorem scalar_one {φ : Phi} {F : Frz} {v : Value} {x : AV} (h : VRel φ F v x) (hs : x.scalar = true) : v.oneCell' = true := by
  cases h with
  | frz h => cases h <;> first | rfl | (simp [AV.scalar] at hs)
  | agg h => simp [AV.scalar] at hs
  | tup h => simp [AV.scalar] at hs
  | _ => rfl

theorem fits_ok {φ : Phi} {F : Frz} {v : Value} {x : AV} {sz : Nat} (h : VRel φ F v x) (hs : x.fits sz = true) :
    VRels φ F v.cells.toList x.cells ∧ v.cells.size = sz ∧ x.cells.length = sz ∧ x ≠ .any ∧ ∀ y ∈ v.cells.toList, y.oneCell' = true := by
  simp only [AV.fits, Bool.and_eq_true, beq_iff_eq, List.all_eq_true] at hs
  have hn : x ≠ .any := by
    intro e; subst e
    have := hs.2 .any (by simp [AV.cells])
    simp [AV.scalar] at this
  have hr := h.cells hn
  have hl := hr.length
  refine ⟨hr, by simpa [hs.1] using hl, hs.1, hn, fun y hy => ?_⟩
  obtain ⟨i, hi⟩ := List.getElem?_of_mem hy
  obtain ⟨z, hz, hzr⟩ := hr.get hi
  exact scalar_one hzr (hs.2 z (List.mem_of_getElem? hz))

theorem absV_one {v : Value} {x : AV} (h : absV v = some x) : v.cells = #[v] ∧ x.cells = [x] ∧ x ≠ .any := by
  unfold absV at h
  split at h <;> first | (cases h; exact ⟨rfl, rfl, by simp⟩) | cases h

theorem absZ_ok {φ : Phi} {F : Frz} {v : Value} {x : AV} (h : absZ v = some x) : VRel φ F v x ∧ VRels φ F v.cells.toList x.cells ∧ x ≠ .any := by
  unfold absZ at h
  split at h
  · rename_i cs
    simp only [Option.map_eq_some_iff] at h
    obtain ⟨l, hl, rfl⟩ := h
    have key : ∀ (vs : List Value) (l : List AV), vs.mapM absV = some l → VRels φ F vs l := by
      intro vs
      induction vs with
      | nil => intro l h; simp at h; subst h; exact .nil
      | cons v vs ih =>
        intro l h
        simp only [List.mapM_cons, Option.pure_def, Option.bind_eq_bind, Option.bind_eq_some_iff] at h
        obtain ⟨x, hx, l', hl', h⟩ := h
        cases h
        exact .cons (absV_ok hx) (ih _ hl')
    exact ⟨.agg (key _ _ hl), key _ _ hl, by simp⟩
  · obtain ⟨h1, h2, h3⟩ := absV_one h
    refine ⟨absV_ok h, ?_, h3⟩
    rw [h1, h2]
    exact .cons (absV_ok h) .nil

theorem run_loadVar {P : Program} {w : World} {t : TypeId} {d : TypeDesc} {i : TypeInfo} (hd : P.underlying t = some d) (hi : P.info? t = some i) (h1 : isAggD d = true ∨ i.size = 1) (h0 : 0 < i.size)
    {b off : Nat} {c : Array Value} (hr : Row w b c) {cs : List AV} (hle : off + cs.length ≤ c.size) (hs : i.size ≤ cs.length) (hv : VRels φ F ((c.toList.drop off).take cs.length) cs) {x : AV}
    (hx : bundle (isAggD d) (cs.take i.size) = some x) : ∃ v, (loadVar t ⟨b, off, none⟩).run P w = .ok v w ∧ VRel φ F v x := by
  simp only [loadVar, Sem.run_bind, run_isAgg hd, Result.andThen_ok]
  have hv' := hv.take i.size
  rw [List.take_take, Nat.min_eq_left hs] at hv'
  cases ha : isAggD d with
  | true =>
    simp only [ha, bundle, if_true] at hx
    cases hx
    obtain ⟨r, hr1, hr2⟩ := run_loadCells (P := P) hr (off := off) (n := i.size) (by omega)
    refine ⟨.agg r, ?_, .agg ?_⟩
    · simp only [if_true, Sem.run_bind, run_sizeOf hi, Result.andThen_ok, hr1]
      rfl
    · rw [hr2]; exact hv'
  | false =>
    have hi1 : i.size = 1 := by
      rcases h1 with h | h
      · rw [ha] at h; cases h
      · exact h
    simp only [ha, bundle, hi1] at hx
    cases cs with
    | nil => simp at hs; omega
    | cons y ys =>
      simp at hx
      subst hx
      have hlt : off < c.size := by simp at hle; omega
      have hc : w.cell? ⟨b, off, none⟩ = some c[off] := by rw [cell_row hr]; exact Array.getElem?_eq_getElem hlt
      refine ⟨c[off], ?_, ?_⟩
      · simp [hc]
      · rw [hi1, List.drop_eq_getElem_cons (by simpa using hlt)] at hv'
        simp at hv'
        cases hv' with | cons h _ => exact h

theorem drop_take_drop {α : Type} (l : List α) (n m : Nat) (h : n ≤ m) : (l.drop n).take (m - n) ++ l.drop m = l.drop n := by
  conv => rhs; rw [← List.take_append_drop (m - n) (l.drop n)]
  rw [List.drop_drop, show n + (m - n) = m from by omega]

/-- a part of a row's cells replaced -/
theorem splice_rel {φ : Phi} {F : Frz} {c c' : List Value} {cs : List AV} {xs : List Value} {ys : List AV} {base off : Nat}
    (hv : VRels φ F ((c.drop base).take cs.length) cs) (hlen : base + cs.length ≤ c.length) (hxy : VRels φ F xs ys) (ho : off + xs.length ≤ cs.length)
    (hc : c' = c.take (base + off) ++ xs ++ c.drop (base + off + xs.length)) :
    VRels φ F ((c'.drop base).take cs.length) (cs.take off ++ ys ++ cs.drop (off + xs.length)) := by
  subst hc
  have e : ((c.take (base + off) ++ xs ++ c.drop (base + off + xs.length)).drop base).take cs.length =
      ((c.drop base).take cs.length).take off ++ xs ++ ((c.drop base).take cs.length).drop (off + xs.length) := by
    rw [List.append_assoc, List.drop_append, List.take_append]
    simp only [List.length_drop, List.length_take]
    rw [Nat.min_eq_left (by omega), show base - (base + off) = 0 from by omega, List.drop_zero, List.drop_take, show base + off - base = off from by omega,
      List.take_of_length_le (by simp only [List.length_take, List.length_drop]; omega)]
    rw [List.take_append]
    rw [List.take_take, Nat.min_eq_left (by omega), List.drop_take, List.drop_drop, List.append_assoc]
    congr 1
    rw [List.take_of_length_le (l := xs) (by omega)]
    congr 2
    · omega
    · congr 1; omega
  rw [e]
  exact ((hv.take off).append hxy).append (hv.drop _)

theorem flat_set {es : List AV} {sz k off n : Nat} {e z : AV} {ys : List AV} (hs : ∀ x ∈ es, x.cells.length = sz) (he : es[k]? = some e)
    (hz : z.cells = e.cells.take off ++ ys ++ e.cells.drop (off + n)) (hle : off + n ≤ sz) :
    (es.set k z).flatMap AV.cells = (es.flatMap AV.cells).take (k * sz + off) ++ ys ++ (es.flatMap AV.cells).drop (k * sz + off + n) := by
  induction es generalizing k with
  | nil => simp at he
  | cons x es ih =>
    have hx := hs x (List.mem_cons_self ..)
    cases k with
    | zero =>
      simp at he; subst he
      simp only [List.set_cons_zero, List.flatMap_cons, hz, Nat.zero_mul, Nat.zero_add]
      rw [List.take_append_of_le_length (by omega), List.drop_append_of_le_length (by omega)]
      simp [List.append_assoc]
    | succ k =>
      simp only [List.getElem?_cons_succ] at he
      have := ih (fun y hy => hs y (List.mem_cons_of_mem _ hy)) he
      simp only [List.set_cons_succ, List.flatMap_cons, this]
      rw [show (k + 1) * sz + off = x.cells.length + (k * sz + off) from by rw [hx, Nat.add_mul]; omega]
      rw [show x.cells.length + (k * sz + off) + n = x.cells.length + (k * sz + off + n) from by omega]
      rw [List.take_append, List.drop_append, List.take_of_length_le (l := x.cells) (by omega), List.drop_of_length_le (l := x.cells) (by omega),
        Nat.add_sub_cancel_left, Nat.add_sub_cancel_left]
      simp [List.append_assoc]

theorem store_sound (G : Gam C φ F st a w) {t : TypeId} {i : TypeInfo} (hi : P.info? t = some i) (h0 : 0 < i.size) {p v : Value} {x y : AV} (hp : VRel φ F p x) (hv : VRel φ F v y)
    {σ' : Store} (h : storeAt st.σ i.size x y = some σ') : ∃ w', (Instr.storeAt t p v).run P w = .ok () w' ∧ HRel φ F σ' st.nx w' ∧ Ext C φ F σ' w' := by
  unfold storeAt at h
  split at h
  · rename_i hfit
    obtain ⟨hcells, hsz, hyl, hny, hone⟩ := fits_ok hv hfit
    have hvl : v.cells.toList.length = i.size := by simpa using hsz
    cases x with
    | ptr l off =>
      obtain ⟨b, base, n, sz, h1, rfl⟩ := hp.ptr_inv
      simp only at h
      split at h
      · rename_i cs hg
        split at h
        · rename_i hle
          cases h
          cases G.heap.obj _ _ hg with
          | virt e1 e2 => rw [h1] at e1; cases e1
          | blk e1 e2 e3 e4 =>
            rw [h1] at e1; cases e1
            cases e4 with | var g1 g2 =>
            rename_i c
            have e3' := e3
            obtain ⟨k1, ty, lo, hi', k2, k3⟩ := e3
            obtain ⟨w', c', hrun, hu, hrow, hl⟩ := run_storeCells (P := P) (b := b) (off := base + off) v.cells.toList 0 w c k2 (by rw [hvl]; omega) (fun k q1 q2 => k3 k (by omega) (by omega)) hone
            refine ⟨w', ?_, G.heap.upd hg h1 e3' hu ?_, G.ext.upd hg h1 hu⟩
            · simp only [Instr.storeAt, Instr.sureAddr, Sem.run_bind, Sem.run_pure, Result.andThen_ok, storeVar, run_sizeOf hi, hsz]
              simpa using hrun
            · refine .var ?_ ?_
              · simp only [List.length_append, List.length_take, List.length_drop, hyl]; omega
              · have := splice_rel (c' := c'.toList) g2 (by simp; omega) hcells (off := off) (by rw [hvl]; omega) (by simpa using hl)
                rw [hvl] at this
                have e : (cs.take off ++ y.cells ++ cs.drop (off + i.size)).length = cs.length := by
                  simp only [List.length_append, List.length_take, List.length_drop, hyl]; omega
                rw [e]; exact this
        · cases h
      · cases h
    | pel l k off =>
      obtain ⟨b, base, n, sz, h1, rfl⟩ := hp.pel_inv
      simp only at h
      split at h
      · rename_i s es hg
        split at h
        · rename_i e he
          split at h
          · rename_i hle
            cases h
            cases G.heap.obj _ _ hg with
            | virt e1 e2 => rw [h1] at e1; cases e1
            | blk e1 e2 e3 e4 =>
              rw [h1] at e1; cases e1
              cases e4 with | arr g1 g2 g3 =>
              rename_i c
              have e3' := e3
              have hk : k < es.length := by
                rcases Nat.lt_or_ge k es.length with h | h
                · exact h
                · simp [List.getElem?_eq_none h] at he
              have hm : e ∈ es := List.mem_of_getElem? he
              have hes := (g1 e hm).1
              have hroom := mul_room (sz := sz) hk
              obtain ⟨k1, ty, lo, hi', k2, k3⟩ := e3
              obtain ⟨w', c', hrun, hu, hrow, hl⟩ := run_storeCells (P := P) (b := b) (off := base + k * sz + off) v.cells.toList 0 w c k2 (by rw [hvl]; omega) (fun k q1 q2 => k3 k (by omega) (by omega)) hone
              refine ⟨w', ?_, G.heap.upd hg h1 e3' hu ?_, G.ext.upd hg h1 hu⟩
              · simp only [Instr.storeAt, Instr.sureAddr, Sem.run_bind, Sem.run_pure, Result.andThen_ok, storeVar, run_sizeOf hi, hsz]
                simpa using hrun
              · have hnew : (if off = 0 ∧ i.size = e.cells.length then y else AV.agg (e.cells.take off ++ y.cells ++ e.cells.drop (off + i.size))).cells = e.cells.take off ++ y.cells ++ e.cells.drop (off + i.size) := by
                  split
                  · rename_i hh
                    obtain ⟨rfl, hh⟩ := hh
                    simp [hh]
                  · rfl
                have hany : (if off = 0 ∧ i.size = e.cells.length then y else AV.agg (e.cells.take off ++ y.cells ++ e.cells.drop (off + i.size))) ≠ .any := by
                  split
                  · exact hny
                  · simp
                generalize (if off = 0 ∧ i.size = e.cells.length then y else AV.agg (e.cells.take off ++ y.cells ++ e.cells.drop (off + i.size))) = z at hnew hany
                have hzl : z.cells.length = sz := by
                  rw [hnew]; simp only [List.length_append, List.length_take, List.length_drop, hyl]; omega
                have hall : ∀ q ∈ es.set k z, q.cells.length = sz ∧ q ≠ .any := by
                  intro q hq
                  rcases List.mem_or_eq_of_mem_set hq with hq | hq
                  · exact g1 q hq
                  · subst hq; exact ⟨hzl, hany⟩
                refine .arr hall (by simpa using g2) ?_
                have hfl := flat_len (fun x hx => (g1 x hx).1)
                have hflat := flat_set (fun x hx => (g1 x hx).1) he hnew (by omega)
                have hlen2 : base + (es.flatMap AV.cells).length ≤ c.toList.length := by rw [hfl]; simp; omega
                have := splice_rel (c' := c'.toList) (cs := es.flatMap AV.cells) (by rw [hfl]; exact g3) hlen2 hcells (off := k * sz + off) (by rw [hvl, hfl]; omega) (by simpa [Nat.add_assoc] using hl)
                rw [hvl, hfl] at this
                rw [hflat]
                simpa using this
          · cases h
        · cases h
      · cases h
    | _ => cases h
  · cases h

end
end Go.Ab
