/-
  append.
-/
import Derived.Test.YtbldikkinholnaaDoorAb8
import Derived.Laws.BitsLemmas
namespace Go.Ab
set_option linter.unusedVariables false
set_option linter.unusedSimpArgs false

section
variable {P : Program} {C : Ctx} {φ : Phi} {F : Frz} {st : St} {a : Act} {w : World}

/-- a name struck, another one for a part of its block, written -/
theorem HRel.move {σ : Store} {nx : Nat} {w' : World} (H : HRel φ F σ nx w) {l b base base' n sz : Nat} {o o' : Obj} {c c' : Array Value}
    (hl : σ.get l = some o) (hb : φ l = some (.blk b base n sz)) (hf : Free w b base n c) (hu : Upd w b c c' w') (hle : base ≤ base') (ho : OCont φ F base' n sz c' o') :
    HRel (φ.upd nx (.blk b base' n sz)) F ((nx, o') :: σ.del l) (nx + 1) w' := by
  have hφ : Phi.le φ (φ.upd nx (.blk b base' n sz)) := Phi.le_upd (H.fresh nx (Nat.le_refl _))
  have hFb : F b = none := by
    cases H.obj l o hl with
    | virt e => rw [hb] at e; cases e
    | blk e1 e2 _ _ => rw [hb] at e1; cases e1; exact e2
  have key : ∀ k x, (σ.del l).get k = some x → k ≠ l ∧ σ.get k = some x := by
    intro k x h
    rw [Store.get_del] at h
    split at h
    · cases h
    · next e => exact ⟨Ne.symm e, h⟩
  have key2 : ∀ k x b1 n1 s1 z1, (σ.del l).get k = some x → φ.upd nx (.blk b base' n sz) k = some (.blk b1 n1 s1 z1) → φ k = some (.blk b1 n1 s1 z1) ∧ b1 ≠ b := by
    intro k x b1 n1 s1 z1 h e
    obtain ⟨hne, h⟩ := key k x h
    have : k ≠ nx := by have := H.dom h; omega
    rw [Phi.upd_ne _ _ this] at e
    refine ⟨e, fun he => ?_⟩
    subst he
    exact hne (H.inj _ _ _ _ _ _ _ _ _ _ _ h hl e hb)
  refine ⟨fun k d e => ?_, fun k x e => ?_, ?_, fun k hk => ?_⟩
  · have hne : k ≠ b := by intro h; subst h; rw [hFb] at e; cases e
    obtain ⟨ty, fz, e⟩ := H.frz k d e
    exact ⟨ty, fz, by rw [hu.other k hne]; exact e⟩
  · simp only [Store.get] at e
    split at e
    · next h =>
      subst h; cases e
      obtain ⟨e1, ty, lo, hi, e2, e3⟩ := hf
      exact .blk (Phi.upd_self ..) hFb ⟨by rw [hu.csize]; exact e1, ty, lo, hi, hu.row _ _ e2, fun i h1 h2 => e3 i (by omega) h2⟩ (ho.mono hφ (.refl _))
    · have hh := key k x e
      cases H.obj k x hh.2 with
      | virt e1 e2 => exact .virt (hφ _ _ e1) e2
      | blk e1 e2 e3 e4 =>
        have hne' := (key2 k x _ _ _ _ e (hφ _ _ e1)).2
        obtain ⟨g1, ty, lo, hi, g2, g3⟩ := e3
        exact .blk (hφ _ _ e1) e2 ⟨g1, ty, lo, hi, by rw [hu.other _ hne']; exact g2, g3⟩ (e4.mono hφ (.refl _))
  · intro k k' x x' b1 n1 s z m t y e e' h h'
    simp only [Store.get] at e e'
    split at e <;> split at e'
    · omega
    · next h1 h2 =>
      subst h1
      rw [Phi.upd_self] at h; cases h
      exact absurd rfl (key2 _ _ _ _ _ _ e' h').2
    · next h1 h2 =>
      subst h2
      rw [Phi.upd_self] at h'; cases h'
      exact absurd rfl (key2 _ _ _ _ _ _ e h).2
    · exact H.inj _ _ _ _ _ _ _ _ _ _ _ (key _ _ e).2 (key _ _ e').2 (key2 _ _ _ _ _ _ e h).1 (key2 _ _ _ _ _ _ e' h').1
  · rw [Phi.upd_ne _ _ (by omega)]; exact H.fresh k (by omega)

theorem Ext.move {σ : Store} {nx : Nat} {w' : World} (E : Ext C φ F σ w) (H : HRel φ F σ nx w) {l b base base' n sz : Nat} {o o' : Obj} {c c' : Array Value}
    (hl : σ.get l = some o) (hb : φ l = some (.blk b base n sz)) (hu : Upd w b c c' w') : Ext C (φ.upd nx (.blk b base' n sz)) F ((nx, o') :: σ.del l) w' := by
  have E' := E.upd (o' := o') hl hb hu
  refine ⟨E'.os, E'.tape, E'.output, E'.size, E'.kept, fun k x b1 m s z e h => ?_, E.F0, E.Fnew⟩
  simp only [Store.get] at e
  split at e
  · next h1 => subst h1; rw [Phi.upd_self] at h; cases h; exact E.own _ _ _ _ _ _ hl hb
  · rw [Store.get_del] at e
    split at e
    · cases e
    · have : k ≠ nx := by have := H.dom e; omega
      rw [Phi.upd_ne _ _ this] at h
      exact E.own _ _ _ _ _ _ e h

theorem HRel.virt_move {σ : Store} {nx : Nat} (H : HRel φ F σ nx w) {sz : Nat} (l : Nat) : HRel (φ.upd nx .virt) F ((nx, .arr sz []) :: σ.del l) (nx + 1) w :=
  (H.del l).virt

theorem fits_sized {es : List AV} {sz : Nat} (h : es.all (AV.fits sz) = true) : ∀ x ∈ es, x.cells.length = sz ∧ x ≠ .any := by
  intro x hx
  have := List.all_eq_true.1 h x hx
  simp only [AV.fits, Bool.and_eq_true, beq_iff_eq, List.all_eq_true] at this
  refine ⟨this.1, fun e => ?_⟩
  subst e
  have := this.2 .any (by simp [AV.cells])
  simp [AV.scalar] at this

theorem oneCells {vs : List Value} {es : List AV} {sz : Nat} (h : es.all (AV.fits sz) = true) (hv : VRels φ F vs (es.flatMap AV.cells)) : ∀ v ∈ vs, v.oneCell' = true := by
  intro v hm
  obtain ⟨i, hi⟩ := List.getElem?_of_mem hm
  obtain ⟨z, hz, hzr⟩ := hv.get hi
  have hz' := List.mem_of_getElem? hz
  obtain ⟨x, hx, hzx⟩ := List.mem_flatMap.1 hz'
  have := List.all_eq_true.1 h x hx
  simp only [AV.fits, Bool.and_eq_true, beq_iff_eq, List.all_eq_true] at this
  exact scalar_one hzr (this.2 z hzx)

theorem os_take {es : List AV} {sz off len : Nat} {vs : List Value} (hs : ∀ x ∈ es, x.cells.length = sz) (h : VRels φ F vs (es.flatMap AV.cells)) (hle : off + len ≤ es.length) :
    VRels φ F ((vs.drop (off * sz)).take (len * sz)) (((es.take (off + len)).drop off).flatMap AV.cells) := by
  have := (h.drop (off * sz)).take (len * sz)
  have e := flat_part hs (l := off) (h := off + len) (by omega) hle
  rw [show off + len - off = len from by omega] at e
  rw [e] at this; exact this

/-- what a slice's elements are, in memory -/
theorem elems_ok (G : Gam C φ F st a w) {x : Value} {y : AV} {xs : List AV} {sz : Nat} (hx : VRel φ F x y) (h : elems st.σ sz y = some xs) (hf : xs.all (AV.fits sz) = true) :
    (Builtin.lenOf x).run P w = .ok xs.length w ∧ ∀ w', w'.heap = w.heap → ∃ r, (Builtin.firstCells sz xs.length x).run P w' = .ok r w' ∧ VRels φ F r.toList (xs.flatMap AV.cells) := by
  have hsz := fun x hx => (fits_sized hf x hx).1
  unfold elems at h
  split at h
  · rename_i es fl
    cases h
    obtain ⟨ao, cap, rfl, hle, hfl, hne⟩ := hx.ls_inv
    refine ⟨by simp [Builtin.lenOf], fun w' hw => ?_⟩
    by_cases he : xs = []
    · subst he
      cases ao with
      | none => exact ⟨#[], by simp [Builtin.firstCells], .nil⟩
      | some ad => exact ⟨#[], by simp [Builtin.firstCells, loadCells, loadCellsFrom], .nil⟩
    · obtain ⟨b, off, c, sz', rfl, g1, g2, g3⟩ := hne he
      have hszeq : sz' = sz := by
        cases xs with
        | nil => exact absurd rfl he
        | cons e es => rw [← g2 e (List.mem_cons_self ..), hsz e (List.mem_cons_self ..)]
      subst hszeq
      have hrow : Row w' b c := by obtain ⟨ty, fz, e⟩ := G.heap.frz _ _ g1; exact ⟨ty, fz, by rw [hw]; exact e⟩
      have hl := g3.length
      rw [flat_len hsz] at hl
      simp only [List.length_take, List.length_drop, Array.length_toList] at hl
      by_cases h0 : xs.length * sz' = 0
      · refine ⟨#[], by simp [Builtin.firstCells, h0, loadCells, loadCellsFrom], ?_⟩
        have : xs.flatMap AV.cells = [] := List.eq_nil_of_length_eq_zero (by rw [flat_len hsz]; exact h0)
        rw [this]; exact .nil
      · obtain ⟨r, hr1, hr2⟩ := run_loadCells (P := P) hrow (off := off) (n := xs.length * sz') (by omega)
        exact ⟨r, by simpa [Builtin.firstCells] using hr1, by rw [hr2]; exact g3.toV⟩
  · rename_i ℓ off len
    split at h
    · rename_i s es hg
      split at h
      · rename_i hc
        obtain ⟨rfl, hle⟩ := hc
        cases h
        have hlen : ((es.take (off + len)).drop off).length = len := by simp; omega
        rw [hlen]
        rcases hx.os_inv with ⟨g1, rfl, a', rfl⟩ | ⟨b, base, n, sz', cap', ad', g1, g2, g3, rfl⟩
        · refine ⟨by simp [Builtin.lenOf], fun w' hw => ⟨#[], ?_, ?_⟩⟩
          · cases a' <;> simp [Builtin.firstCells, loadCells, loadCellsFrom]
          · have : (es.take (off + 0)).drop off = [] := by simp
            rw [this]; exact .nil
        · refine ⟨by simp [Builtin.lenOf], fun w' hw => ?_⟩
          cases G.heap.obj _ _ hg with
          | virt e1 e2 => rw [g1] at e1; cases e1
          | blk e1 e2 e3 e4 =>
            rw [g1] at e1; cases e1
            cases e4 with | arr k1 k2 k3 =>
            rename_i c
            have hs2 := fun x hx => (k1 x hx).1
            by_cases h0 : len * s = 0
            · refine ⟨#[], by simp [Builtin.firstCells, h0, loadCells, loadCellsFrom], ?_⟩
              have : ((es.take (off + len)).drop off).flatMap AV.cells = [] := List.eq_nil_of_length_eq_zero (by
                rw [flat_len (fun x hx => hs2 x (List.mem_of_mem_take (List.mem_of_mem_drop hx))), hlen]; exact h0)
              rw [this]; exact .nil
            · have hcap : cap' ≠ 0 := by intro e; subst e; have : len = 0 := by omega
                                         subst this; simp at h0
              obtain ⟨q1, q2⟩ := g3 hcap
              subst q1
              have hrow : Row w' b c := by obtain ⟨ty, fz, e⟩ := e3.row; exact ⟨ty, fz, by rw [hw]; exact e⟩
              have hcs := e3.1
              have hm : (off + len) * s ≤ es.length * s := Nat.mul_le_mul_right _ hle
              rw [Nat.add_mul] at hm
              obtain ⟨r, hr1, hr2⟩ := run_loadCells (P := P) hrow (off := base + off * s) (n := len * s) (by omega)
              refine ⟨r, by simpa [Builtin.firstCells] using hr1, ?_⟩
              rw [hr2]
              have := os_take hs2 k3 hle
              rw [take_drop_of (by omega)] at this
              exact this
      · cases h
    · cases h
  · rename_i s
    cases h
    obtain ⟨x', rfl, rfl⟩ := hx.str_inv
    refine ⟨by simp [Builtin.lenOf], fun w' hw => ?_⟩
    refine ⟨_, by simp only [Builtin.firstCells]; rfl, ?_⟩
    have e : (x'.extract 0 (x'.data.toList.map fun b => AV.int .u8 b.toNat).length).data.toList = x'.data.toList := by
      simp
    rw [Array.toList_map, e]
    generalize x'.data.toList = l
    induction l with
    | nil => exact .nil
    | cons b l ih => simp only [List.map_cons, List.flatMap_cons, AV.cells, List.singleton_append]; exact .cons (.frz .int) ih
  · cases h


theorem growBy_le (n : Nat) : ∀ (r c : Nat), Builtin.growBy n r c ≤ max c (n + (n + 768) / 4) := by
  intro r
  induction r with
  | zero => intro c; simp only [Builtin.growBy]; omega
  | succ r ih =>
    intro c
    simp only [Builtin.growBy]
    split
    · omega
    · have := ih (c + (c + 768) / 4)
      omega

theorem nextslicecap_le {n c : Nat} (h : c < n) : Builtin.nextslicecap n c ≤ 2 * n + 600 := by
  unfold Builtin.nextslicecap
  split
  · omega
  · split
    · omega
    · have := growBy_le n 4 c
      omega

theorem zeroCells_size (z : Array Value) (n : Nat) : (Builtin.zeroCells z n).size = n * z.size := by
  simp [Builtin.zeroCells]

theorem appBase_ok (G : Gam C φ F st a w) {s : Value} {sa : AV} {sz : Nat} (hs : VRel φ F s sa) {es : List AV} {σ' : Store} (h : appBase st.σ sz sa = some (es, σ')) :
    ∃ base cap, s = .slice base es.length cap ∧ es.length ≤ cap ∧ (∀ x ∈ es, x.cells.length = sz ∧ x ≠ .any) ∧
      (∀ w', w'.heap = w.heap → ∃ r, (Builtin.firstCells sz es.length s).run P w' = .ok r w' ∧ VRels φ F r.toList (es.flatMap AV.cells)) ∧
      (∃ l, σ' = st.σ.del l ∨ σ' = st.σ) ∧
      ((es = [] ∧ cap = 0) ∨ ∃ l b bs bs' n c o, st.σ.get l = some o ∧ σ' = st.σ.del l ∧ φ l = some (.blk b bs n sz) ∧ Free w b bs n c ∧ bs ≤ bs' ∧
        (cap ≠ 0 → base = some ⟨b, bs', none⟩ ∧ bs' + cap * sz ≤ n) ∧ bs' + es.length * sz ≤ n ∧ VRels φ F ((c.toList.drop bs').take (es.length * sz)) (es.flatMap AV.cells)) := by
  unfold appBase at h
  split at h
  · cases h
    obtain ⟨ao, cap, rfl, _, hfl, _⟩ := hs.ls_inv
    have := hfl rfl
    simp at this
    subst this
    refine ⟨ao, 0, rfl, Nat.le_refl _, fun _ h => (by cases h), fun w' _ => ⟨#[], ?_, .nil⟩, ⟨0, .inr rfl⟩, .inl ⟨rfl, rfl⟩⟩
    cases ao <;> simp [Builtin.firstCells, loadCells, loadCellsFrom]
  · rename_i ℓ off len
    split at h
    · rename_i s' es' hg
      split at h
      · rename_i hc
        obtain ⟨rfl, hle⟩ := hc
        cases h
        have hlen : ((es'.take (off + len)).drop off).length = len := by simp; omega
        rw [hlen]
        rcases hs.os_inv with ⟨g1, rfl, a', rfl⟩ | ⟨b, base, n, sz', cap', ad', g1, g2, g3, rfl⟩
        · have e0 : (es'.take (off + 0)).drop off = [] := by simp
          rw [e0]
          refine ⟨a', 0, rfl, Nat.le_refl _, fun _ h => (by cases h), fun w' _ => ⟨#[], ?_, .nil⟩, ⟨ℓ, .inl rfl⟩, .inl ⟨rfl, rfl⟩⟩
          cases a' <;> simp [Builtin.firstCells, loadCells, loadCellsFrom]
        · cases G.heap.obj _ _ hg with
          | virt e1 e2 => rw [g1] at e1; cases e1
          | blk e1 e2 e3 e4 =>
            rw [g1] at e1; cases e1
            cases e4 with | arr k1 k2 k3 =>
            rename_i c
            have hs2 := fun x hx => (k1 x hx).1
            have hm : (off + len) * s' ≤ es'.length * s' := Nat.mul_le_mul_right _ hle
            rw [Nat.add_mul] at hm
            have hcont := os_take hs2 k3 hle
            rw [take_drop_of (by omega)] at hcont
            refine ⟨some ad', cap', rfl, g2, fun x hx => k1 x (List.mem_of_mem_take (List.mem_of_mem_drop hx)), fun w' hw => ?_, ⟨ℓ, .inl rfl⟩,
              .inr ⟨ℓ, b, base, base + off * s', n, c, _, hg, rfl, g1, e3, by omega, fun hne => ?_, by omega, hcont⟩⟩
            · by_cases h0 : len * s' = 0
              · refine ⟨#[], by simp [Builtin.firstCells, h0, loadCells, loadCellsFrom], ?_⟩
                have : ((es'.take (off + len)).drop off).flatMap AV.cells = [] := List.eq_nil_of_length_eq_zero (by
                  rw [flat_len (fun x hx => hs2 x (List.mem_of_mem_take (List.mem_of_mem_drop hx))), hlen]; exact h0)
                rw [this]; exact .nil
              · have hcap : cap' ≠ 0 := by intro e; subst e; have : len = 0 := by omega
                                           subst this; simp at h0
                obtain ⟨q1, q2⟩ := g3 hcap
                subst q1
                have hrow : Row w' b c := by obtain ⟨ty, fz, e⟩ := e3.row; exact ⟨ty, fz, by rw [hw]; exact e⟩
                have hcs := e3.1
                obtain ⟨r, hr1, hr2⟩ := run_loadCells (P := P) hrow (off := base + off * s') (n := len * s') (by omega)
                exact ⟨r, by simpa [Builtin.firstCells] using hr1, by rw [hr2]; exact hcont⟩
            · obtain ⟨q1, q2⟩ := g3 hne
              exact ⟨by rw [q1], q2⟩
      · cases h
    · cases h
  · cases h

theorem notInt {d : TypeDesc} (h : ∀ k, d ≠ .int k) : (d matches .int _) = false := by
  cases d <;> first | rfl | exact absurd rfl (h _)

theorem append_ok (G : Gam C φ F st a w) {sT xT e : TypeId} {d : TypeDesc} {j : TypeInfo} {z : Value} (hs : P.underlying sT = some (.slice e)) (hx : P.underlying xT = some d) (hd : ∀ k, d ≠ .int k)
    (hj : P.info? e = some j) (hz : j.zero = some z) (hzs : z.cells.size = j.size) (h0 : 0 < j.size) (hb0 : 0 < j.bytes) (hb : j.bytes ≤ 256) {s x : Value} {sa xa : AV} (rs : VRel φ F s sa) (rx : VRel φ F x xa)
    {es xs : List AV} {σ' : Store} (hbase : appBase st.σ j.size sa = some (es, σ')) (hel : elems st.σ j.size xa = some xs) (hfit : xs.all (AV.fits j.size) = true) (hroom : roomy (es.length + xs.length) = true)
    {ty : TypeId} : ∃ cv w' φ', (Builtin.append_ #[sT, xT] ty #[s, x]).run P w = .ok cv w' ∧ Phi.le φ φ' ∧ VRel φ' F cv (.os st.nx 0 (es.length + xs.length)) ∧
      HRel φ' F ((st.nx, .arr j.size (es ++ xs)) :: σ') (st.nx + 1) w' ∧ Ext C φ' F ((st.nx, .arr j.size (es ++ xs)) :: σ') w' := by
  obtain ⟨base, cap, rfl, hlc, hsz, hold, hσ, hcase⟩ := appBase_ok (P := P) G rs hbase
  obtain ⟨hlen, hnew⟩ := elems_ok (P := P) G rx hel hfit
  have hxsz := fits_sized hfit
  have hr : es.length + xs.length ≤ 68719476736 := by simpa [roomy] using hroom
  have hall : ∀ x ∈ es ++ xs, x.cells.length = j.size ∧ x ≠ .any := by
    intro x hx
    rcases List.mem_append.1 hx with h | h
    · exact hsz x h
    · exact hxsz x h
  have hzero' := notInt hd
  by_cases hcap : es.length + xs.length ≤ cap
  · -- room
    obtain ⟨r, hr1, hr2⟩ := hnew w rfl
    have hone := oneCells hfit hr2
    have hrl := hr2.length
    rw [flat_len (fun x hx => (hxsz x hx).1)] at hrl
    rcases hcase with ⟨rfl, rfl⟩ | ⟨l, b, bs, bs', n, c, o, hl, rfl, hφ, hfree, hbb, hadr, hfitn, hcont⟩
    · have hx0 : xs = [] := List.eq_nil_of_length_eq_zero (by simp at hcap; simpa using hcap)
      subst hx0
      have hr0 : r.toList = [] := List.eq_nil_of_length_eq_zero (by simpa using hrl)
      refine ⟨.slice base 0 0, w, φ.upd st.nx .virt, ?_, Phi.le_upd (G.heap.fresh _ (Nat.le_refl _)), .osv (Phi.upd_self ..), ?_, ?_⟩
      · simp only [List.length_nil] at hlen hr1
        cases base with
        | none => simp [Builtin.append_, run_underlying hs, run_underlying hx, hzero', run_sizeOf hj, hlen, hr1]
        | some ad => simp [Builtin.append_, run_underlying hs, run_underlying hx, hzero', run_sizeOf hj, hlen, hr1, hr0, storeCells]
      · obtain ⟨l, rfl | rfl⟩ := hσ
        · exact (G.heap.del l).virt
        · exact G.heap.virt
      · obtain ⟨l, rfl | rfl⟩ := hσ
        · exact (G.ext.del l).virt
        · exact G.ext.virt
    · by_cases hc0 : cap = 0
      · subst hc0
        have hx0 : xs = [] := List.eq_nil_of_length_eq_zero (by omega)
        have he0 : es = [] := List.eq_nil_of_length_eq_zero (by omega)
        subst hx0; subst he0
        have hr0 : r.toList = [] := List.eq_nil_of_length_eq_zero (by simpa using hrl)
        refine ⟨.slice base 0 0, w, φ.upd st.nx .virt, ?_, Phi.le_upd (G.heap.fresh _ (Nat.le_refl _)), .osv (Phi.upd_self ..), (G.heap.del l).virt, (G.ext.del l).virt⟩
        simp only [List.length_nil] at hlen hr1
        cases base with
        | none => simp [Builtin.append_, run_underlying hs, run_underlying hx, hzero', run_sizeOf hj, hlen, hr1]
        | some ad => simp [Builtin.append_, run_underlying hs, run_underlying hx, hzero', run_sizeOf hj, hlen, hr1, hr0, storeCells]
      · obtain ⟨rfl, hroomn⟩ := hadr hc0
        have hfree' := hfree
        obtain ⟨k1, ty', lo, hi', k2, k3⟩ := hfree
        have hmul : (es.length + xs.length) * j.size ≤ cap * j.size := Nat.mul_le_mul_right _ hcap
        rw [Nat.add_mul] at hmul
        obtain ⟨w', c', hrun, hu, hrow, hcl⟩ := run_storeCells (P := P) (b := b) (off := bs' + es.length * j.size) r.toList 0 w c k2 (by rw [hrl]; omega) (fun k q1 q2 => k3 k (by omega) (by omega)) hone
        refine ⟨.slice (some ⟨b, bs', none⟩) (es.length + xs.length) cap, w', φ.upd st.nx (.blk b bs' n j.size), ?_, Phi.le_upd (G.heap.fresh _ (Nat.le_refl _)), ?_, ?_, ?_⟩
        · simp only [Builtin.append_, List.getElem?_toArray, List.getElem?_cons_zero, List.getElem?_cons_succ, Sem.run_bind, run_underlying hs, run_underlying hx, Result.andThen_ok, Sem.run_pure, hzero',
            Bool.false_eq_true, if_false, run_sizeOf hj, hlen]
          rw [if_pos hcap]
          simp only [Sem.run_bind, Bool.not_false, if_true, hr1, Result.andThen_ok, addr_add, hrun, Sem.run_pure]
        · refine .os (Phi.upd_self ..) hcap (fun _ => ⟨by simp, by simpa using hroomn⟩)
        · refine G.heap.move hl hφ hfree' hu hbb (.arr hall ?_ ?_)
          · rw [List.length_append, Nat.add_mul]; omega
          · rw [List.length_append, Nat.add_mul, List.flatMap_append]
            have hcsz : c.toList.length = n := by simpa using k1
            have e : (c'.toList.drop bs').take (es.length * j.size + xs.length * j.size) = (c.toList.drop bs').take (es.length * j.size) ++ r.toList := by
              have e1 : c'.toList = c.toList.take bs' ++ ((c.toList.drop bs').take (es.length * j.size) ++ r.toList ++ c.toList.drop (bs' + es.length * j.size + 0 + r.toList.length)) := by
                rw [hcl, Nat.add_zero, List.take_add]; simp [List.append_assoc]
              rw [e1, List.drop_left' (by simp; omega), List.take_left' (by simp [hrl]; omega)]
            rw [e]
            exact hcont.append hr2
        · exact G.ext.move G.heap hl hφ hu
  · -- a new row
    have hw' : ({ w with drawn := w.drawn + 1 } : World).heap = w.heap := rfl
    obtain ⟨ro, ho1, ho2⟩ := hold { w with drawn := w.drawn + 1 } rfl
    obtain ⟨rn, hn1, hn2⟩ := hnew { w with drawn := w.drawn + 1 } rfl
    have hol := ho2.length
    have hnl := hn2.length
    rw [flat_len (fun x hx => (hsz x hx).1)] at hol
    rw [flat_len (fun x hx => (hxsz x hx).1)] at hnl
    simp only [Array.length_toList] at hol hnl
    have hcapb : Builtin.nextslicecap (es.length + xs.length) cap * j.bytes ≤ 2 ^ 48 := by
      have h1 := nextslicecap_le (n := es.length + xs.length) (c := cap) (by omega)
      have h2 : Builtin.nextslicecap (es.length + xs.length) cap * j.bytes ≤ (2 * 68719476736 + 600) * 256 := Nat.mul_le_mul (by omega) hb
      omega
    generalize hq : (Question.appendCap (es.length + xs.length) cap e).cut (w.tape w.drawn (.appendCap (es.length + xs.length) cap e)) = nc
    have hnc : es.length + xs.length ≤ nc := by rw [← hq]; simp only [Question.cut]; omega
    have hforced : (Question.appendCap (es.length + xs.length) cap e).forced = false := rfl
    have hcells : ((ro ++ rn ++ Builtin.zeroCells z.cells (nc - (es.length + xs.length))).size) = nc * j.size := by
      simp only [Array.size_append, zeroCells_size, hol, hnl, hzs, ← Nat.add_mul]
      congr 1; omega
    have H1 := G.heap.drew (w.drawn + 1)
    have E1 := G.ext.drew (w.drawn + 1)
    have hcont : OCont φ F 0 (ro ++ rn ++ Builtin.zeroCells z.cells (nc - (es.length + xs.length))).size j.size (ro ++ rn ++ Builtin.zeroCells z.cells (nc - (es.length + xs.length))) (.arr j.size (es ++ xs)) := by
      refine .arr hall ?_ ?_
      · rw [hcells, Nat.zero_add, List.length_append]; exact Nat.mul_le_mul_right _ hnc
      · rw [List.drop_zero, List.length_append, List.flatMap_append]
        simp only [Array.toList_append]
        rw [List.take_append_of_le_length (by simp [hol, hnl, Nat.add_mul]), List.take_of_length_le (by simp [hol, hnl, Nat.add_mul])]
        exact ho2.append hn2
    have fin : ∀ σ1, (σ1 = st.σ ∨ ∃ l, σ1 = st.σ.del l) → HRel φ F σ1 st.nx { w with drawn := w.drawn + 1 } ∧ Ext C φ F σ1 { w with drawn := w.drawn + 1 } := by
      rintro σ1 (rfl | ⟨l, rfl⟩)
      · exact ⟨H1, E1⟩
      · exact ⟨H1.del l, E1.del l⟩
    obtain ⟨H2, E2⟩ := fin σ' (by obtain ⟨l, h | h⟩ := hσ; exact .inr ⟨l, h⟩; exact .inl h)
    refine ⟨.slice (some ⟨w.heap.size, 0, none⟩) (es.length + xs.length) nc, _, _, ?_, Phi.le_upd (G.heap.fresh _ (Nat.le_refl _)), ?_, H2.push (t := e) hcont, E2.push⟩
    · simp only [Builtin.append_, List.getElem?_toArray, List.getElem?_cons_zero, List.getElem?_cons_succ, Sem.run_bind, run_underlying hs, run_underlying hx, Result.andThen_ok, Sem.run_pure, hzero',
        Bool.false_eq_true, if_false, run_sizeOf hj, hlen]
      rw [if_neg hcap]
      have hb1 : ¬(j.bytes = 0) := by omega
      simp only [Sem.run_bind, run_typeInfo hj, Result.andThen_ok, Bool.not_false, if_true, false_or, hb1, and_false, if_false, Sem.run_pure]
      rw [if_neg (by omega)]
      simp only [Sem.run_bind, Sem.run_pure, Result.andThen_ok, run_choose, hforced, Bool.false_eq_true, if_false, hq, run_askRoom, run_typeInfo hj, ho1, hn1, run_zeroValue hj hz, run_newRow]
    · refine .os (Phi.upd_self ..) hnc (fun _ => ⟨by simp, ?_⟩)
      rw [hcells]; simp


/-- a mark behind a row's cells -/
structure Marked (w : World) (b : Nat) (c : Array Value) (e : TypeId) (w3 : World) : Prop where
  os : w3.os = w.os
  tape : w3.tape = w.tape
  output : w3.output = w.output
  size : w3.heap.size = w.heap.size
  other : ∀ k, k ≠ b → w3.heap[k]? = w.heap[k]?
  old : w.heap[b]? = some (.cells c e (0, 0))
  row : w3.heap[b]? = some (.cells c e (c.size, c.size + 1))

theorem mark_ok {b : Nat} {c : Array Value} {e : TypeId} (hrow : w.heap[b]? = some (.cells c e (0, 0))) : ∃ w3, (markStringish ⟨b, 0, none⟩).run P w = .ok () w3 ∧ Marked w b c e w3 := by
  refine ⟨w.freeze { block := b, off := c.size } 1, by simp [markStringish, World.shape?, hrow], ?_, ?_, ?_, ?_, ?_, hrow, ?_⟩
  all_goals simp only [World.freeze]
  all_goals rw [if_neg (by omega)]
  · simp
  · intro k hk
    simp only [Array.getElem?_modify]
    rw [if_neg (Ne.symm hk)]
  · simp only [Array.getElem?_modify, hrow, if_true, Option.map_some]
    rfl

theorem HRel.mark {σ : Store} {nx : Nat} {b : Nat} {c : Array Value} {e : TypeId} {w3 : World} (H : HRel φ F σ nx w) (M : Marked w b c e w3) : HRel φ F σ nx w3 := by
  refine ⟨fun b' c' h => ?_, fun l o h => ?_, H.inj, H.fresh⟩
  · obtain ⟨ty, fz, hh⟩ := H.frz b' c' h
    by_cases hb : b' = b
    · subst hb; rw [M.old] at hh; cases hh; exact ⟨_, _, M.row⟩
    · exact ⟨ty, fz, by rw [M.other _ hb]; exact hh⟩
  · cases H.obj l o h with
    | virt e1 e2 => exact .virt e1 e2
    | blk e1 e2 e3 e4 =>
      rename_i b' base n sz c'
      refine .blk e1 e2 ?_ e4
      obtain ⟨k1, ty, lo, hi, k2, k3⟩ := e3
      by_cases hb : b' = b
      · subst hb
        rw [M.old] at k2; cases k2
        exact ⟨k1, _, _, _, M.row, fun i _ h2 => by omega⟩
      · exact ⟨k1, ty, lo, hi, by rw [M.other _ hb]; exact k2, k3⟩

theorem Ext.mark {σ : Store} {b : Nat} {c : Array Value} {e : TypeId} {w3 : World} (E : Ext C φ F σ w) (M : Marked w b c e w3) (hb : C.w0.heap.size ≤ b) : Ext C φ F σ w3 := by
  refine ⟨M.os.trans E.os, M.tape.trans E.tape, M.output.trans E.output, by rw [M.size]; exact E.size, fun k hk hS => ?_, E.own, E.F0, E.Fnew⟩
  rw [M.other k (by omega)]
  exact E.kept k hk hS

/-- a text's bytes, anew -/
theorem s2b_ok (G : Gam C φ F st a w) {s t e : TypeId} (h1 : P.underlying s = some .string) (h2 : P.underlying t = some (.slice e)) (h3 : P.underlying e = some (.int .u8)) {x : Operand} {x' : ByteArray} (hx : a.eval x = .string x')
    {dst : Option Tmp} {type : TypeId} {pos : String} {after : Array Edge} {guard : Option (Nat × Bool)} :
    Does P C φ F w (execOp a.eval ⟨dst, .convert s t x, type, pos, after, guard⟩) (.os st.nx 0 x'.data.toList.length, (st.nx, .arr 1 (x'.data.toList.map fun b => .int .u8 b.toNat)) :: st.σ, st.nx + 1) := by
  generalize hq : (Question.appendCap x'.size 0 e).cut (w.tape w.drawn (.appendCap x'.size 0 e)) = nc
  have hnc : x'.size ≤ nc := by rw [← hq]; simp only [Question.cut]; omega
  have hforced : (Question.appendCap x'.size 0 e).forced = false := rfl
  generalize hcells : (x'.data.map fun b => Value.int .u8 b.toNat) ++ Array.replicate (nc - x'.size) (Value.int .u8 0) = cells
  have hsz : cells.size = nc := by rw [← hcells]; simp; have : x'.data.size = x'.size := rfl; omega
  have hlen : x'.data.toList.length = x'.size := by simp
  have hrel : VRels φ F (cells.toList.take x'.size) ((x'.data.toList.map fun b => AV.int .u8 b.toNat).flatMap AV.cells) := by
    have e1 : cells.toList.take x'.size = x'.data.toList.map fun b => Value.int .u8 b.toNat := by
      rw [← hcells, Array.toList_append, Array.toList_map, List.take_left' (by simp)]
    rw [e1]
    generalize x'.data.toList = l
    induction l with
    | nil => exact .nil
    | cons b l ih => simp only [List.map_cons, List.flatMap_cons, AV.cells, List.singleton_append]; exact .cons (.frz .int) ih
  have hcont : OCont φ F 0 cells.size 1 cells (.arr 1 (x'.data.toList.map fun b => .int .u8 b.toNat)) := by
    refine .arr ?_ ?_ ?_
    · intro y hy
      obtain ⟨b, _, rfl⟩ := List.mem_map.1 hy
      exact ⟨rfl, by simp⟩
    · simp [hsz]; exact hnc
    · simpa using hrel
  have H2 := (G.heap.drew (w.drawn + 1)).push (t := e) hcont
  have E2 := (G.ext.drew (w.drawn + 1)).push (nx := st.nx) (o := .arr 1 (x'.data.toList.map fun b => .int .u8 b.toNat)) (t := e) (c := cells) (base := 0) (n := cells.size) (sz := 1)
  obtain ⟨w3, hmark, M⟩ := mark_ok (P := P) (w := { ({ w with drawn := w.drawn + 1 } : World) with heap := w.heap.push (.cells cells e) }) (b := w.heap.size) (c := cells) (e := e) (by simp)
  refine ⟨.value (.slice (some ⟨w.heap.size, 0, none⟩) x'.size nc), _, w3, _, F, ?_, .inl rfl, Phi.le_upd (G.heap.fresh _ (Nat.le_refl _)), .refl _, ?_, H2.mark M, E2.mark M G.ext.size⟩
  · simp only [execOp, convert, Sem.run_bind, run_underlying h1, run_underlying h2, run_underlying h3, Result.andThen_ok, hx, Conv.stringToBytes, run_choose, hforced, Bool.false_eq_true, if_false, hq, hcells, run_newRow, hmark]
    rfl
  · rw [hlen]
    exact .os (Phi.upd_self ..) hnc (fun _ => ⟨by simp, by simp [hsz]⟩)

theorem fillE_ok {sz : Nat} : ∀ (ps : List (Nat × Value)) (qs : List (Nat × AV)) (cells : Array Value) (es r : List AV),
    (∀ (i : Nat) (p : Nat × Value) (q : Nat × AV), ps[i]? = some p → qs[i]? = some q → p.1 = q.1 ∧ VRel φ F p.2 q.2) → ps.length = qs.length →
    (∀ e ∈ es, e.cells.length = sz ∧ e ≠ .any) → VRels φ F cells.toList (es.flatMap AV.cells) → fillE sz es qs = some r →
      ∃ c', Instr.fill (fun i => some (i * sz, sz)) cells ps = some c' ∧ VRels φ F c'.toList (r.flatMap AV.cells) ∧ r.length = es.length ∧ ∀ e ∈ r, e.cells.length = sz ∧ e ≠ .any := by
  intro ps qs
  induction qs generalizing ps with
  | nil =>
    intro cells es r _ hl he hz h
    cases ps with
    | nil => cases h; exact ⟨cells, rfl, hz, rfl, he⟩
    | cons _ _ => simp at hl
  | cons q qs ih =>
    intro cells es r hp hl he hz h
    cases ps with
    | nil => simp at hl
    | cons p ps =>
      obtain ⟨k, x⟩ := q
      obtain ⟨i, v⟩ := p
      have h0 := hp 0 (i, v) (k, x) rfl rfl
      simp only at h0
      obtain ⟨rfl, hv⟩ := h0
      simp only [fillE] at h
      split at h
      · rename_i hc
        simp only [Bool.and_eq_true, decide_eq_true_eq] at hc
        obtain ⟨hfit, hlt⟩ := hc
        obtain ⟨g1, g2, g3, g4, g5⟩ := fits_ok hv hfit
        have hs := fun x hx => (he x hx).1
        have hroom := mul_room (sz := sz) hlt
        have hfl := flat_len hs
        obtain ⟨e, hei⟩ : ∃ e, es[i]? = some e := ⟨_, List.getElem?_eq_getElem hlt⟩
        have hes := hs e (List.mem_of_getElem? hei)
        have hset := flat_set (off := 0) (n := sz) (z := x) (ys := x.cells) hs hei (by rw [List.take_zero, List.nil_append, Nat.zero_add, List.drop_of_length_le (by omega), List.append_nil]) (by omega)
        -- one fill
        obtain ⟨c1, hc1, hr1⟩ := fill_ok (φ := φ) (F := F) (place := fun i => some (i * sz, sz)) [(i, v)] [(i * sz, sz, x)] cells (es.flatMap AV.cells) ((es.flatMap AV.cells).take (i * sz) ++ x.cells ++ (es.flatMap AV.cells).drop (i * sz + sz))
          (by
            intro j p q e1 e2
            cases j with
            | zero => simp at e1 e2; subst e1; subst e2; exact ⟨rfl, hv⟩
            | succ j => simp at e1) rfl hz (by simp only [fillF]; rw [if_pos (by simp only [Bool.and_eq_true, decide_eq_true_eq]; exact ⟨hfit, by omega⟩)])
        have hstep : ∀ rest, Instr.fill (fun i => some (i * sz, sz)) cells ((i, v) :: rest) = Instr.fill (fun i => some (i * sz, sz)) c1 rest := by
          intro rest
          simp only [Instr.fill] at hc1 ⊢
          split at hc1
          · cases hc1
          · rename_i hn
            rw [if_neg hn]
            cases hc1
            rfl
        rw [hstep]
        have hnew : ∀ e ∈ es.set i x, e.cells.length = sz ∧ e ≠ .any := by
          intro q hq
          rcases List.mem_or_eq_of_mem_set hq with hq | hq
          · exact he q hq
          · subst hq; exact ⟨g3, g4⟩
        obtain ⟨c', h1, h2, h3, h4⟩ := ih ps c1 (es.set i x) r (fun j p q e1 e2 => hp (j + 1) p q (by simpa using e1) (by simpa using e2)) (by simpa using hl) hnew (by rw [hset, Nat.add_zero]; exact hr1) h
        exact ⟨c', h1, h2, by simpa using h3, h4⟩
      · cases h

theorem range_get (l : List Value) : (List.range l.length).map (fun k => l.toArray[k]!) = l := by
  apply List.ext_getElem
  · simp
  · intro i h1 h2
    simp at h1
    simp [h1]

theorem zeros_rel {z : Array Value} {x : AV} (hz : VRels φ F z.toList x.cells) (h0 : 0 < z.size) : ∀ n, VRels φ F ((List.range (n * z.size)).map fun k => z[k % z.size]!) ((List.replicate n x).flatMap AV.cells) := by
  intro n
  induction n with
  | zero => simpa using VRels.nil
  | succ n ih =>
    rw [Nat.add_mul, Nat.one_mul, List.range_add, List.map_append, List.replicate_succ', List.flatMap_append]
    refine ih.append ?_
    have e : ((List.range z.size).map (n * z.size + ·)).map (fun k => z[k % z.size]!) = z.toList := by
      rw [List.map_map]
      have : ∀ k ∈ List.range z.size, ((fun k => z[k % z.size]!) ∘ fun x => n * z.size + x) k = z[k]! := by
        intro k hk
        have hk' : k < z.size := by simpa using hk
        simp only [Function.comp]
        rw [Nat.mul_comm, Nat.mul_add_mod, Nat.mod_eq_of_lt hk']
      rw [List.map_congr_left this]
      have := range_get z.toList
      simpa using this
    rw [e]
    simpa using hz

theorem bslice_ok (G : Gam C φ F st a w) {t e : TypeId} {i : TypeInfo} {z : Value} {x : AV} {len : Nat} {parts : Array (Nat × Operand)} {ps : List (Nat × Opd)} (hd : P.underlying t = some (.slice e)) (hi : P.info? e = some i)
    (hz : i.zero = some z) (hx : absZ z = some x) (hps : parts.toList.mapM (fun (p : Nat × Operand) => (compOpd p.2).bind fun y => some (p.1, y)) = some ps) (c1 : i.size = x.cells.length) (c2 : 0 < i.size) (c3 : len * i.size ≤ 16777216)
    (c4 : x.fits i.size = true) {es : List AV} (hes : fillE i.size (List.replicate len x) (ps.map fun (k, y) => (k, y.ev st.env)) = some es) {dst : Option Tmp} {type : TypeId} {pos : String} {after : Array Edge} {guard : Option (Nat × Bool)} :
    Does P C φ F w (execOp a.eval ⟨dst, .buildSlice t len parts, type, pos, after, guard⟩) (.os st.nx 0 len, (st.nx, .arr i.size es) :: st.σ, st.nx + 1) := by
  obtain ⟨g0, g1, gn⟩ := absZ_ok (φ := φ) (F := F) hx
  have hzs : z.cells.size = i.size := by have := g1.length; simp at this; omega
  have hmap : ∀ (l : List (Nat × Operand)) (ps : List (Nat × Opd)), l.mapM (fun (p : Nat × Operand) => (compOpd p.2).bind fun y => some (p.1, y)) = some ps →
      l.length = ps.length ∧ ∀ (j : Nat) (p : Nat × Value) (q : Nat × AV), (l.map fun (p : Nat × Operand) => (p.1, a.eval p.2))[j]? = some p → (ps.map fun (q : Nat × Opd) => (q.1, q.2.ev st.env))[j]? = some q → p.1 = q.1 ∧ VRel φ F p.2 q.2 := by
    intro l
    induction l with
    | nil => intro ps h; simp at h; subst h; exact ⟨rfl, by simp⟩
    | cons p l ih =>
      intro ps h
      simp only [List.mapM_cons, Option.pure_def, Option.bind_eq_bind, Option.bind_eq_some_iff] at h
      obtain ⟨q, ⟨y, hy, hq⟩, ps', hps', h⟩ := h
      cases h
      cases hq
      obtain ⟨h1, h2⟩ := ih ps' hps'
      refine ⟨by simp [h1], fun j p' q' e1 e2 => ?_⟩
      cases j with
      | zero =>
        simp at e1 e2
        subst e1; subst e2
        exact ⟨rfl, opd_ok G hy⟩
      | succ j =>
        simp only [List.map_cons, List.getElem?_cons_succ] at e1 e2
        exact h2 j p' q' e1 e2
  obtain ⟨q1, q2⟩ := hmap _ _ hps
  generalize hzero : (Array.range (len * i.size)).map (fun k => z.cells[k % z.cells.size]!) = zs
  have hzrel : VRels φ F zs.toList ((List.replicate len x).flatMap AV.cells) := by
    rw [← hzero, Array.toList_map, Array.toList_range, ← hzs]
    exact zeros_rel g1 (by omega) len
  obtain ⟨c', h1, h2, h3, h4⟩ := fillE_ok (φ := φ) (F := F) (sz := i.size) (parts.toList.map fun (p : Nat × Operand) => (p.1, a.eval p.2)) (ps.map fun (q : Nat × Opd) => (q.1, q.2.ev st.env)) zs (List.replicate len x) es
    q2 (by simpa using q1) (fun e he => by rw [(List.mem_replicate.1 he).2]; exact ⟨c1.symm, gn⟩) hzrel hes
  have hlen : es.length = len := by simpa using h3
  have hcl := h2.length
  rw [flat_len (fun e he => (h4 e he).1), hlen] at hcl
  simp only [Array.length_toList] at hcl
  have hcont : OCont φ F 0 c'.size i.size c' (.arr i.size es) := by
    refine .arr h4 (by rw [hlen, hcl]; omega) ?_
    rw [hlen, List.drop_zero, List.take_of_length_le (by simp [hcl])]
    exact h2
  have e1 : (parts.map fun (x : Nat × Operand) => match x with | (i, x) => (i, a.eval x)).toList = parts.toList.map fun (p : Nat × Operand) => (p.1, a.eval p.2) := by simp
  refine .new G (t := e) (c := c') (base := 0) (sz := i.size) (cv := .slice (some ⟨w.heap.size, 0, none⟩) len len) ?_ hcont (.os (Phi.upd_self ..) (Nat.le_refl _) (fun _ => ⟨by simp, by omega⟩))
  simp only [execOp, Instr.buildSlice, Sem.run_bind, run_underlying hd, Result.andThen_ok, run_sizeOf hi]
  rw [if_neg (by omega)]
  by_cases h0 : len * i.size = 0
  · have hzs2 : (Array.range (len * i.size)).map (fun k => (#[] : Array Value)[k % (#[] : Array Value).size]!) = zs := by
      rw [← hzero, h0]; simp [Array.range]
    simp only [if_pos h0, Sem.run_bind, Sem.run_pure, Result.andThen_ok, hzs2, e1, h1, run_newRow]
  · simp only [if_neg h0, Sem.run_bind, Sem.run_pure, Result.andThen_ok, run_zeroValue hi hz, hzero, e1, h1, run_newRow]


theorem mslice_ok (G : Gam C φ F st a w) {t e : TypeId} {i : TypeInfo} {z : Value} {x : AV} {l c : Int} {ol oc : Operand} (hd : P.underlying t = some (.slice e)) (hi : P.info? e = some i)
    (hz : i.zero = some z) (hx : absZ z = some x) (c1 : i.size = x.cells.length) (c2 : 0 < i.size) (c3 : i.bytes ≤ 256) (hl : a.eval ol = .int .i64 l) (hc : a.eval oc = .int .i64 c)
    (h0 : 0 ≤ l) (h1 : l ≤ c) (h2 : c.toNat ≤ 68719476736) {dst : Option Tmp} {type : TypeId} {pos : String} {after : Array Edge} {guard : Option (Nat × Bool)} :
    Does P C φ F w (execOp a.eval ⟨dst, .makeSlice t ol oc, type, pos, after, guard⟩) (.os st.nx 0 l.toNat, (st.nx, .arr i.size (List.replicate l.toNat x)) :: st.σ, st.nx + 1) := by
  obtain ⟨g0, g1, gn⟩ := absZ_ok (φ := φ) (F := F) hx
  have hzs : z.cells.size = i.size := by have := g1.length; simp at this; omega
  have hwl : IntKind.i64.wrap l = l := by
    rw [IntKind.wrap_i64]; omega
  have hwc : IntKind.i64.wrap c = c := by
    rw [IntKind.wrap_i64]; omega
  generalize hzero : (Array.range (c.toNat * i.size)).map (fun k => z.cells[k % z.cells.size]!) = zs
  have hzrel : VRels φ F zs.toList ((List.replicate c.toNat x).flatMap AV.cells) := by
    rw [← hzero, Array.toList_map, Array.toList_range, ← hzs]
    exact zeros_rel g1 (by omega) c.toNat
  have hzsz : zs.size = c.toNat * i.size := by rw [← hzero]; simp
  have hcont : OCont φ F 0 zs.size i.size zs (.arr i.size (List.replicate l.toNat x)) := by
    refine .arr (fun e he => by rw [(List.mem_replicate.1 he).2]; exact ⟨c1.symm, gn⟩) ?_ ?_
    · rw [hzsz]
      have : l.toNat * i.size ≤ c.toNat * i.size := Nat.mul_le_mul_right _ (by omega)
      simpa using this
    · rw [List.drop_zero]
      have := hzrel.take (l.toNat * i.size)
      have hsp : (List.replicate c.toNat x).flatMap AV.cells = (List.replicate l.toNat x).flatMap AV.cells ++ (List.replicate (c.toNat - l.toNat) x).flatMap AV.cells := by
        rw [← List.flatMap_append, List.replicate_append_replicate, show l.toNat + (c.toNat - l.toNat) = c.toNat by omega]
      rw [hsp, List.take_left' (by rw [flat_len (sz := i.size) (fun e he => by rw [(List.mem_replicate.1 he).2]; exact c1.symm)]; simp)] at this
      simpa using this
  refine .new G (t := e) (c := zs) (base := 0) (sz := i.size) (cv := .slice (some ⟨w.heap.size, 0, none⟩) l.toNat c.toNat) ?_ hcont (.os (Phi.upd_self ..) (by omega) (fun _ => ⟨by simp, by rw [hzsz]; omega⟩))
  have hb : (i.bytes : Int) * c ≤ 256 * 68719476736 := by
    have : (i.bytes : Int) * c ≤ 256 * c := Int.mul_le_mul_of_nonneg_right (by omega) (by omega)
    omega
  have hbl : (i.bytes : Int) * l ≤ 256 * 68719476736 := by
    have : (i.bytes : Int) * l ≤ 256 * l := Int.mul_le_mul_of_nonneg_right (by omega) (by omega)
    omega
  have hroom : c.toNat * i.bytes ≤ 2 ^ 47 := by
    have : c.toNat * i.bytes ≤ 68719476736 * 256 := Nat.mul_le_mul h2 c3
    omega
  have ei : ∀ (k : IntKind) (n : Int) (w : World), (asInt (.int k n)).run P w = .ok n w := fun k n w => by simp [asInt, asIntOf]
  have hcond : (decide (c < 0) || decide ((i.bytes : Int) * c > 2 ^ 48) || decide (l < 0) || decide (l > c)) = false := by simp; omega
  have hr : (askRoom (c.toNat * i.bytes)).run P w = .ok () w := by
    unfold askRoom roomBytes
    rw [if_neg (by omega)]; rfl
  simp only [execOp, Instr.makeSlice, Sem.run_bind, run_underlying hd, Result.andThen_ok, run_typeInfo hi, run_sizeOf hi, hl, hc, ei, Sem.run_pure, hwl, hwc, hcond, Bool.false_eq_true, if_false, hr]
  by_cases h0 : c.toNat * i.size = 0
  · have hzs2 : (Array.range (c.toNat * i.size)).map (fun k => (#[] : Array Value)[k % (#[] : Array Value).size]!) = zs := by
      rw [← hzero, h0]; simp [Array.range]
    simp only [if_pos h0, Sem.run_bind, Sem.run_pure, Result.andThen_ok, hzs2, run_newRow]
  · simp only [if_neg h0, Sem.run_bind, Sem.run_pure, Result.andThen_ok, run_zeroValue hi hz, hzero, run_newRow]

end
end Go.Ab
