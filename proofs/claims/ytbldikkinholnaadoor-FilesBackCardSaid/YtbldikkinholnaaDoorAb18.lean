/-
  A region whose order is open: from its text.
-/
import Derived.Test.YtbldikkinholnaaDoorAb17
namespace Go.Ab
set_option linter.unusedVariables false
set_option linter.unusedSimpArgs false

theorem befOf_len : ∀ (os : List Oper) (acc : List Nat), (befOf acc os).length = acc.length + os.length := by
  intro os
  induction os with
  | nil => intro acc; simp [befOf]
  | cons o os ih => intro acc; simp [befOf, ih]; omega

theorem rowsOf_len : ∀ (l : List AOper) (bs : List Nat), l.length = bs.length → (rowsOf l bs).length = l.length := by
  intro l
  induction l with
  | nil => intro bs _; simp [rowsOf]
  | cons o l ih =>
    intro bs h
    cases bs with
    | nil => simp at h
    | cons b bs => simp [rowsOf, ih bs (by simpa using h)]

theorem rowsOf_get : ∀ (l : List AOper) (bs : List Nat) (i : Nat) (o : AOper) (b : Nat), l[i]? = some o → bs[i]? = some b → (rowsOf l bs)[i]? = some ⟨o, !o.isPure, o.isIndep, b, maskOf o.slots⟩ := by
  intro l
  induction l with
  | nil => intro bs i o b h; simp at h
  | cons x l ih =>
    intro bs i o b h hb
    cases bs with
    | nil => simp at hb
    | cons y bs =>
      cases i with
      | zero => simp at h hb; subst h hb; simp [rowsOf]
      | succ i => simp at h hb; simp [rowsOf, ih bs i o b h hb]

theorem mapM_get {α β : Type} {f : α → Option β} : ∀ (xs : List α) (ys : List β), xs.mapM f = some ys → ∀ (i : Nat) (x : α), xs[i]? = some x → ∃ y, ys[i]? = some y ∧ f x = some y := by
  intro xs
  induction xs with
  | nil => intro ys h i x hx; simp at hx
  | cons a xs ih =>
    intro ys h i x hx
    simp only [List.mapM_cons, Option.pure_def, Option.bind_eq_bind, Option.bind_eq_some_iff] at h
    obtain ⟨y, hy, ys', hys, h⟩ := h
    cases h
    cases i with
    | zero => simp at hx; subst hx; exact ⟨y, by simp, hy⟩
    | succ i => simp at hx; simpa using ih ys' hys i x hx
theorem mapM_len {α β : Type} {f : α → Option β} : ∀ (xs : List α) (ys : List β), xs.mapM f = some ys → ys.length = xs.length := by
  intro xs
  induction xs with
  | nil => intro ys h; simp at h; subst h; rfl
  | cons a xs ih =>
    intro ys h
    simp only [List.mapM_cons, Option.pure_def, Option.bind_eq_bind, Option.bind_eq_some_iff] at h
    obtain ⟨y, hy, ys', hys, h⟩ := h
    cases h
    simp [ih _ hys]

theorem befOne_inv {acc : List Nat} : ∀ (es : List Edge) (k : Nat), has (befOne acc es) k = true → ∃ e ∈ es, Region.binds .any e = true ∧ (e.on = k ∨ has (acc.getD e.on 0) k = true) := by
  intro es
  induction es with
  | nil => intro k h; simp [befOne, has] at h
  | cons e es ih =>
    intro k h
    simp only [befOne] at h
    split at h
    · rename_i hb
      rw [has_or, has_or, Bool.or_eq_true, Bool.or_eq_true, has_bit] at h
      rcases h with (h | h) | h
      · exact ⟨e, by simp, hb, .inl h⟩
      · exact ⟨e, by simp, hb, .inr h⟩
      · obtain ⟨e', he', h'⟩ := ih k h
        exact ⟨e', by simp [he'], h'⟩
    · obtain ⟨e', he', h'⟩ := ih k h
      exact ⟨e', by simp [he'], h'⟩

theorem befB_get {bef : List Nat} : ∀ (os : List Oper) (bs : List Nat) (i : Nat), befB bef i os bs = true → ∀ j o b, os[j]? = some o → bs[j]? = some b →
    b = befOne bef o.after.toList ∧ ∀ e ∈ o.after, Region.binds .any e = true → e.on < i + j := by
  intro os
  induction os with
  | nil => intro bs i _ j o b h; simp at h
  | cons x os ih =>
    intro bs i h j o b ho hb
    cases bs with
    | nil => simp at hb
    | cons y bs =>
      simp only [befB, Bool.and_eq_true] at h
      obtain ⟨⟨h1, h2⟩, h3⟩ := h
      cases j with
      | zero =>
        simp at ho hb; subst ho hb
        refine ⟨by simpa using h1, fun e he hbd => ?_⟩
        have := List.all_eq_true.1 h2 e (by simpa using he)
        simpa [hbd] using this
      | succ j =>
        simp at ho hb
        obtain ⟨g1, g2⟩ := ih bs (i + 1) h3 j o b ho hb
        exact ⟨g1, fun e he hbd => by have := g2 e he hbd; omega⟩

theorem slotB_get {R : List DRow} {i t : Nat} {ri : DRow} : ∀ (L : List DRow) (k : Nat), slotB i t ri k L = true → ∀ j r, L[j]? = some r → i ≠ k + j → r.op.dst ≠ some t ∧ (has r.slots t = true → has r.bef i = true ∨ has ri.bef (k + j) = true) := by
  intro L
  induction L with
  | nil => intro k _ j r h; simp at h
  | cons x L ih =>
    intro k h j r hr hne
    simp only [slotB, Bool.and_eq_true] at h
    cases j with
    | zero =>
      simp at hr; subst hr
      have h1 := h.1
      have : (i == k) = false := by simpa using hne
      rw [this, Bool.false_or, Bool.and_eq_true] at h1
      refine ⟨by simpa using h1.1, fun hs => ?_⟩
      have h2 := h1.2
      rw [hs] at h2
      simpa using h2
    | succ j =>
      simp at hr
      have := ih (k + 1) h.2 j r hr (by omega)
      rwa [show k + 1 + j = k + (j + 1) by omega] at this

theorem slotsB_get {R : List DRow} : ∀ (L : List DRow) (k : Nat), slotsB R k L = true → ∀ i r, L[i]? = some r → ∀ t, r.op.dst = some t → slotB (k + i) t r 0 R = true := by
  intro L
  induction L with
  | nil => intro k _ i r h; simp at h
  | cons x L ih =>
    intro k h i r hr t ht
    simp only [slotsB, Bool.and_eq_true] at h
    cases i with
    | zero =>
      simp at hr; subst hr
      have := h.1
      rw [ht] at this
      exact this
    | succ i =>
      simp at hr
      have := ih (k + 1) h.2 i r hr t ht
      rwa [show k + 1 + i = k + (i + 1) by omega] at this

theorem nodupB_ok {n : Nat} : ∀ (L : List Nat) (m : Nat), nodupB n m L = true → L.Nodup ∧ (∀ k ∈ L, k < n ∧ has m k = false) := by
  intro L
  induction L with
  | nil => intro m _; simp
  | cons x L ih =>
    intro m h
    simp only [nodupB, Bool.and_eq_true, decide_eq_true_eq, Bool.not_eq_true'] at h
    obtain ⟨⟨h1, h2⟩, h3⟩ := h
    obtain ⟨g1, g2⟩ := ih _ h3
    refine ⟨List.nodup_cons.2 ⟨fun hx => ?_, g1⟩, fun k hk => ?_⟩
    · have := (g2 x hx).2
      rw [has_or, (has_bit x x).2 rfl] at this
      simp at this
    · rcases List.mem_cons.1 hk with rfl | hk
      · exact ⟨h1, h2⟩
      · refine ⟨(g2 k hk).1, ?_⟩
        have := (g2 k hk).2
        rw [has_or, Bool.or_eq_false_iff] at this
        exact this.1

theorem cDraw_ok {P : Program} {n : Nat} {ops : Array Oper} {di : List DI} (h : cDraw P n ops = some di) :
    ∃ R plan, Static P n ops R ∧ di = plan1 R [] plan ∧ Good R [] plan ∧ plan.Nodup ∧ ∀ i, i ∈ plan ↔ i < ops.size := by
  unfold cDraw at h
  split at h
  · cases h
  · rename_i l hl
    simp only at h
    split at h
    · rename_i hc
      cases h
      simp only [Bool.and_eq_true] at hc
      obtain ⟨⟨⟨⟨h1, h2⟩, h3⟩, h4⟩, h5⟩ := hc
      have hll : l.length = ops.size := by simpa using mapM_len _ _ hl
      generalize hbf : befOf [] ops.toList = bef at *
      have hbl : bef.length = ops.size := by rw [← hbf, befOf_len]; simp
      generalize hrw : rowsOf l bef = R at *
      have hRl : R.length = ops.size := by rw [← hrw, rowsOf_len _ _ (by omega), hll]
      generalize planGo R l.length [] 0 (List.range l.length) = plan at *
      have hrow : ∀ i o, ops[i]? = some o → ∃ ao b, cOper P n ops o = some ao ∧ bef[i]? = some b ∧ rowAt R i = ⟨ao, !ao.isPure, ao.isIndep, b, maskOf ao.slots⟩ := by
        intro i o ho
        have hi : i < ops.size := (Array.getElem?_eq_some_iff.1 ho).1
        obtain ⟨ao, h1, h2⟩ := mapM_get _ _ hl i o (by simpa using ho)
        have hb : bef[i]? = some bef[i] := List.getElem?_eq_getElem (by omega)
        refine ⟨ao, _, h2, hb, ?_⟩
        have hq := rowsOf_get _ _ i _ _ h1 hb
        rw [hrw] at hq
        unfold rowAt
        rw [List.getD_eq_getElem?_getD, hq]
        rfl
      have hrow' : ∀ i, i < ops.size → ∃ ao b, rowAt R i = ⟨ao, !ao.isPure, ao.isIndep, b, maskOf ao.slots⟩ := by
        intro i hi
        obtain ⟨ao, b, _, _, h⟩ := hrow i _ (Array.getElem?_eq_getElem hi)
        exact ⟨ao, b, h⟩
      have hget : ∀ i, i < ops.size → R[i]? = some (rowAt R i) := by
        intro i hi
        unfold rowAt
        rw [List.getD_eq_getElem?_getD, List.getElem?_eq_getElem (by omega)]
        rfl
      obtain ⟨n1, n2⟩ := nodupB_ok _ _ h5
      refine ⟨R, plan, ⟨hRl, ?_, ?_, ?_, ?_, ?_, ?_, ?_⟩, rfl, good_of _ _ _ (by simp [has]) h3, n1, fun i => ⟨fun hi => by rw [← hll]; exact (n2 i hi).1, fun hi => ?_⟩⟩
      · intro i o ho
        obtain ⟨ao, b, g1, _, g2⟩ := hrow i o ho
        rw [g2]; exact g1
      · intro i hi
        obtain ⟨ao, b, g⟩ := hrow' i hi
        rw [g]
      · intro i hi
        obtain ⟨ao, b, g⟩ := hrow' i hi
        rw [g]
      · intro i hi t
        obtain ⟨ao, b, g⟩ := hrow' i hi
        rw [g]; exact has_mask _ _
      · intro i o ho k hk
        obtain ⟨ao, b, g1, g2, g3⟩ := hrow i o ho
        rw [g3] at hk
        obtain ⟨q1, _⟩ := befB_get _ _ 0 h1 i o b (by simpa using ho) g2
        simp only at hk
        rw [q1] at hk
        obtain ⟨e, e1, e2, e3⟩ := befOne_inv _ _ hk
        refine ⟨e, by simpa using e1, e2, e3.imp_right fun hh => ?_⟩
        rw [List.getD_eq_getElem?_getD] at hh
        cases hbe : bef[e.on]? with
        | none => rw [hbe] at hh; simp [has] at hh
        | some b' =>
          rw [hbe] at hh
          have hlt : e.on < ops.size := by rw [← hbl]; exact (List.getElem?_eq_some_iff.1 hbe).1
          obtain ⟨ao', b'', _, q2, q3⟩ := hrow e.on _ (Array.getElem?_eq_getElem hlt)
          rw [q2] at hbe; cases hbe
          rw [q3]; exact hh
      · intro i o ho e he hb
        obtain ⟨ao, b, g1, g2, g3⟩ := hrow i o ho
        have := (befB_get _ _ 0 h1 i o b (by simpa using ho) g2).2 e he hb
        omega
      · intro i j t hi hj hne hd
        have q := slotsB_get _ 0 h2 i _ (hget i hi) t hd
        have := slotB_get (R := R) _ 0 q j _ (hget j hj) (by omega)
        simp only [Nat.zero_add] at this
        obtain ⟨ao, b, g⟩ := hrow' j hj
        refine ⟨this.1, fun ht => this.2 ?_⟩
        rw [g] at ht ⊢
        exact (has_mask _ _).2 ht
      · have := List.all_eq_true.1 h4 i (by rw [List.mem_range]; omega)
        exact (has_mask _ _).1 this
    · cases h

theorem cDraw_opers {P : Program} {n : Nat} {ops : Array Oper} {di : List DI} (h : cDraw P n ops = some di) : ∃ l, ops.toList.mapM (cOper P n ops) = some l := by
  unfold cDraw at h
  split at h
  · cases h
  · rename_i l hl; exact ⟨l, hl⟩

theorem X_regionD {P : Program} {d : Dim} {Q : APost} {st : St} {ops : Array Oper} {id : Nat} {l : List DI} (hm : P.follows .mixedOrders = true) (hc : cDraw P d.n ops = some l) (h : runsD P Q l st (Q .normal)) : X P d (.region id ops true) Q st := by
  intro C φ F a w ro hn' G
  have hn : C.d.n = d.n := by rw [hn']
  obtain ⟨l0, hl0⟩ := cDraw_opers hc
  refine wpIn_region_draw fun t => wpOps_fen no_letsOut (cOpers_nodefer hl0) _ _ _ ?_
  simp only [Region.schedule, hm, Bool.true_or, if_true]
  refine wpAny_sound ops.size t _ a _ ?_
  obtain ⟨R, plan, S, rfl, hg, hnd, hall⟩ := cDraw_ok hc
  refine drawn_main S hn (e0 := st.env) (fun _ h => h) ops.size _ (List.range ops.size) [] plan st φ F a _ List.nodup_range ?_ (by simp) ?_ h (.refl _ _) (.refl _) (G.drew _)
  · intro i
    rw [List.mem_range]
    refine ⟨fun hi => ⟨hi, ?_⟩, fun hi => hi.1⟩
    simp [hi]
  · have hrep : ∀ j, j < ops.size → (Array.replicate ops.size false).getD j true = true → False := by
      intro j hj h
      simp [hj] at h
    exact ⟨hg, by simpa using hnd, fun i hi => by simpa using (hall i).2 hi, fun i hi => (hall i).1 (by simpa using hi), by simp, fun j hj hl => (hrep j hj hl).elim, fun j hj => (by cases hj), fun j k hj hl => (hrep j hj hl).elim, fun j hj => (by cases hj), fun _ _ => rfl, fun p hp => (by cases hp)⟩

end Go.Ab
