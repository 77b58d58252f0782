/-
  A region whose order is open: the proof.
-/
import Derived.Test.YtbldikkinholnaaDoorAb16
namespace Go.Ab
set_option linter.unusedVariables false
set_option linter.unusedSimpArgs false

theorem has_or (a b k : Nat) : has (a ||| b) k = (has a k || has b k) := Nat.testBit_or ..
theorem has_bit (i k : Nat) : has (bitOf i) k = true ↔ i = k := by simp [has, bitOf, Nat.testBit_two_pow]
theorem has_mask (l : List Nat) (k : Nat) : has (maskOf l) k = true ↔ k ∈ l := by
  induction l with
  | nil => simp [maskOf, has]
  | cons x l ih => rw [maskOf, has_or, Bool.or_eq_true, has_bit, ih, List.mem_cons, eq_comm (a := x)]
theorem sub_has {m d k : Nat} (h : sub m d = true) (hk : has m k = true) : has d k = true := by
  simp only [sub, beq_iff_eq] at h
  rw [← h, has_or, hk]; rfl
theorem not_sub {m d : Nat} (h : sub m d = false) : ∃ k, has m k = true ∧ has d k = false := by
  apply Classical.byContradiction
  intro hn
  have : sub m d = true := by
    simp only [sub, beq_iff_eq]
    apply Nat.eq_of_testBit_eq
    intro i
    rw [Nat.testBit_or]
    cases hm : m.testBit i with
    | false => simp
    | true =>
      cases hd : d.testBit i with
      | true => rfl
      | false => exact absurd ⟨i, hm, hd⟩ hn
  rw [this] at h; cases h

def Good (R : List DRow) (done : List Nat) : List Nat → Prop
  | [] => True
  | x :: rest => (∀ k, has (rowAt R x).bef k = true → k ∈ done) ∧
    ((rowAt R x).eff = true → (∀ p ∈ rest, (rowAt R p).eff = true → has (rowAt R p).bef x = true) ∧ (∀ p ∈ rest, (rowAt R p).eff = false → ∃ y, has (rowAt R p).bef y = true ∧ y ∉ done) ∧
      (∀ p ∈ chkAt R done x, (∀ t, (rowAt R p).op.dst = some t → has (rowAt R p).slots t = false) ∧ ∀ j, j < R.length → has (rowAt R j).bef p = true → ∀ t, (rowAt R j).op.dst = some t → has (rowAt R p).slots t = false)) ∧
    Good R (done ++ [x]) rest

theorem chkB_ok {R : List DRow} {p : Nat} : ∀ (L : List DRow), chkB R p L = true → ∀ r ∈ L, has r.bef p = true → ∀ t, r.op.dst = some t → has (rowAt R p).slots t = false := by
  intro L
  induction L with
  | nil => intro _ r hr; cases hr
  | cons x L ih =>
    intro h r hr hb t ht
    simp only [chkB, Bool.and_eq_true] at h
    cases List.mem_cons.1 hr with
    | inl e =>
      subst e
      have := h.1
      rw [hb, ht] at this
      simpa using this
    | inr e => exact ih h.2 r e hb t ht

theorem rowAt_mem {R : List DRow} {j : Nat} (h : j < R.length) : rowAt R j ∈ R := by
  unfold rowAt
  rw [List.getD_eq_getElem?_getD, List.getElem?_eq_getElem h]
  exact List.getElem_mem h

theorem good_of {R : List DRow} : ∀ (rest done : List Nat) (dm : Nat), (∀ k, has dm k = true ↔ k ∈ done) → goodB R done dm rest = true → Good R done rest := by
  intro rest
  induction rest with
  | nil => intro _ _ _ _; trivial
  | cons x rest ih =>
    intro done dm hdm h
    simp only [goodB, Bool.and_eq_true] at h
    obtain ⟨⟨h1, h2⟩, h3⟩ := h
    refine ⟨fun k hk => (hdm k).1 (sub_has h1 hk), fun he => ?_, ih _ _ (fun k => ?_) h3⟩
    · rw [he] at h2
      simp only [Bool.not_true, Bool.false_or, Bool.and_eq_true] at h2
      obtain ⟨h21, h22⟩ := h2
      have h21 := List.all_eq_true.1 h21
      have h22 := List.all_eq_true.1 h22
      refine ⟨fun p hp hpe => ?_, fun p hp hpe => ?_, fun p hp => ?_⟩
      · have := h21 p hp; simpa [hpe] using this
      · have := h21 p hp
        simp only [hpe, Bool.false_eq_true, if_false, Bool.not_eq_true'] at this
        obtain ⟨y, hy1, hy2⟩ := not_sub this
        exact ⟨y, hy1, fun hc => by have := (hdm y).2 hc; rw [this] at hy2; cases hy2⟩
      · have h := h22 p hp
        rw [Bool.and_eq_true] at h
        refine ⟨fun t ht => ?_, fun j hj hb t ht => chkB_ok _ h.2 _ (rowAt_mem hj) hb t ht⟩
        have h := h.1
        rw [ht] at h
        simpa using h
    · rw [has_or, Bool.or_eq_true, hdm, has_bit]
      simp [eq_comm]

def overE (ks : List Nat) (e0 e : Env) : Env := ks.map (fun t => (t, e0.get t)) ++ e

theorem get_over (ks : List Nat) (e0 e : Env) (t : Nat) : (overE ks e0 e).get t = if t ∈ ks then e0.get t else e.get t := by
  induction ks with
  | nil => simp [overE]
  | cons k ks ih =>
    simp only [overE, List.map_cons, List.cons_append, Env.get] at ih ⊢
    by_cases h : k = t
    · subst h; simp
    · rw [if_neg h, ih]
      simp [Ne.symm h]

theorem get_putd (e : Env) (d : Option Nat) (v : AV) (t : Nat) : (e.putd d v).get t = if d = some t then v else e.get t := by
  cases d with
  | none => simp [Env.putd]
  | some k => simp [Env.putd, Env.get_put]

theorem Gam.congr {C : Ctx} {φ : Phi} {F : Frz} {e e' : Env} {σ : Store} {nx : Nat} {a : Act} {w : World} (G : Gam C φ F ⟨e, σ, nx⟩ a w) (h : ∀ t, e.get t = e'.get t) : Gam C φ F ⟨e', σ, nx⟩ a w :=
  ⟨G.size, G.defers, fun t => by rw [← h t]; exact G.env t, G.heap, G.ext⟩

theorem runE_congr {P : Program} {Q : APost} {o : AOper} {e e' : Env} {σ : Store} {nx : Nat} {k : Res → Prop} (h : Agree o.slots e e') (hr : runE P Q o ⟨e, σ, nx⟩ k) : runE P Q o ⟨e', σ, nx⟩ k := by
  have hs : Agree o.op.slots e e' := h.right
  simp only [runE, guardF_congr h] at hr ⊢
  split
  · rename_i hg; rw [hg] at hr; exact hr
  · rename_i hg; rw [hg] at hr; exact hr
  · rename_i hg
    rw [hg] at hr
    simp only at hr
    split
    · rename_i f args hop
      rw [hop] at hs
      simp only [hop] at hr
      rw [← lev_congr (l := args) hs]; exact hr
    · rename_i f args hop
      rw [hop] at hs
      simp only [hop] at hr
      rw [← ev_congr (x := f) (Agree.left hs), ← lev_congr (l := args) (Agree.right hs)]; exact hr
    · rename_i x hop
      rw [hop] at hs
      simp only [hop] at hr
      rw [← ev_congr (x := x) hs]; exact hr
    · rename_i x hop
      rw [hop] at hs
      simp only [hop] at hr
      rw [← opF_congr (o := x) hs]; exact hr
    · rename_i m neg x hop
      rw [hop] at hs
      simp only [hop] at hr
      rw [← ev_congr (x := x) hs]; exact hr

theorem evalP_runE {P : Program} {Q : APost} {o : AOper} {st : St} {v : AV} (hp : o.isPure = true) (h : evalP o st = some v) : runE P Q o st (fun r => r = (v, st.σ, st.nx)) := by
  simp only [evalP] at h
  simp only [runE]
  split at h
  · cases h
  · rename_i hg; cases h; rw [hg]
  · rename_i hg
    rw [hg]
    simp only
    split at h
    · rename_i x hx
      have hx' : x.pure = true := by simpa [AOper.isPure, hx] using hp
      split at h
      · rename_i r hr
        cases h
        simp only [hx, hr]
        have := pure_res hx' hr
        obtain ⟨v, s⟩ := r
        simp only at this
        rw [this]
      · cases h
    · cases h

section
variable {P : Program} {n : Nat} {Q : APost} {ops : Array Oper} {R : List DRow}

structure Static (P : Program) (n : Nat) (ops : Array Oper) (R : List DRow) : Prop where
  len : R.length = ops.size
  comp : ∀ i o, ops[i]? = some o → cOper P n ops o = some (rowAt R i).op
  eff : ∀ i, i < ops.size → (rowAt R i).eff = !(rowAt R i).op.isPure
  ind : ∀ i, i < ops.size → (rowAt R i).ind = (rowAt R i).op.isIndep
  slots : ∀ i, i < ops.size → ∀ t, has (rowAt R i).slots t = true ↔ t ∈ (rowAt R i).op.slots
  bef : ∀ i o, ops[i]? = some o → ∀ k, has (rowAt R i).bef k = true → ∃ e ∈ o.after, Region.binds .any e = true ∧ (e.on = k ∨ has (rowAt R e.on).bef k = true)
  back : ∀ i o, ops[i]? = some o → ∀ e ∈ o.after, Region.binds .any e = true → e.on < i
  sl : ∀ i j t, i < ops.size → j < ops.size → i ≠ j → (rowAt R i).op.dst = some t → (rowAt R j).op.dst ≠ some t ∧ (t ∈ (rowAt R j).op.slots → has (rowAt R j).bef i = true ∨ has (rowAt R i).bef j = true)

def pendL (R : List DRow) (listed : Array Bool) (done : List Nat) : List Nat := done.filterMap fun j => if listed.getD j true then none else (rowAt R j).op.dst

theorem mem_pendL {listed : Array Bool} {done : List Nat} {t : Nat} : t ∈ pendL R listed done ↔ ∃ j, j ∈ done ∧ listed.getD j true = false ∧ (rowAt R j).op.dst = some t := by
  simp only [pendL, List.mem_filterMap]
  constructor
  · rintro ⟨j, h1, h2⟩
    split at h2
    · cases h2
    · rename_i hl; exact ⟨j, h1, by simpa using hl, h2⟩
  · rintro ⟨j, h1, h2, h3⟩
    exact ⟨j, h1, by rw [h2]; simpa using h3⟩

/-- what a pending operation looks at -/
def Looks (R : List DRow) (e0 : Env) (st : St) (p : Nat) (e : Env) : Prop :=
  ∀ t, t ∈ (rowAt R p).op.slots → (∀ j, has (rowAt R p).bef j = true → (rowAt R j).op.dst = some t → e.get t = st.env.get t) ∧ ((∀ j, has (rowAt R p).bef j = true → (rowAt R j).op.dst ≠ some t) → e.get t = e0.get t)

structure DInv (ops : Array Oper) (R : List DRow) (e0 : Env) (listed : Array Bool) (done rest : List Nat) (st : St) : Prop where
  good : Good R done rest
  nd : (done ++ rest).Nodup
  all : ∀ i, i < ops.size → i ∈ done ++ rest
  lt : ∀ i, i ∈ done ++ rest → i < ops.size
  ls : listed.size = ops.size
  ld : ∀ j, j < ops.size → listed.getD j true = true → j ∈ done
  ed : ∀ j, j ∈ done → (rowAt R j).eff = true → listed.getD j true = true
  cl : ∀ j k, j < ops.size → listed.getD j true = true → has (rowAt R j).bef k = true → k < ops.size ∧ listed.getD k true = true
  dcl : ∀ j, j ∈ done → ∀ k, has (rowAt R j).bef k = true → k ∈ done
  e0t : ∀ t, (∀ j, j ∈ done → (rowAt R j).op.dst ≠ some t) → st.env.get t = e0.get t
  pv : ∀ p, p ∈ done → listed.getD p true = false → ∀ e, Looks R e0 st p e → ∃ v, evalP (rowAt R p).op ⟨e, st.σ, st.nx⟩ = some v ∧ ∀ d, (rowAt R p).op.dst = some d → v = st.env.get d

/-- what a waiting operation looks at is what is there -/
theorem looks_over (S : Static P n ops R) {e0 : Env} {listed : Array Bool} {done rest : List Nat} {st : St} (I : DInv ops R e0 listed done rest st) {i : Nat} (hi : i < ops.size)
    (hb : ∀ k, has (rowAt R i).bef k = true → k < ops.size ∧ listed.getD k true = true) (hun : listed.getD i true = false) : Looks R e0 st i (overE (pendL R listed done) e0 st.env) := by
  intro t ht
  refine ⟨fun j hj hd => ?_, fun hno => ?_⟩
  · rw [get_over, if_neg]
    rw [mem_pendL]
    rintro ⟨k, h1, h2, h3⟩
    obtain ⟨hjs, hjl⟩ := hb j hj
    by_cases hkj : k = j
    · subst hkj; rw [hjl] at h2; cases h2
    · exact (S.sl k j t (I.lt k (List.mem_append_left _ h1)) hjs hkj h3).1 hd
  · rw [get_over]
    split
    · rfl
    · rename_i hnp
      refine I.e0t t (fun j hj hd => ?_)
      have hjs := I.lt j (List.mem_append_left _ hj)
      have hjl : listed.getD j true = true := by
        cases hl : listed.getD j true with
        | true => rfl
        | false => exact absurd (mem_pendL.2 ⟨j, hj, hl, hd⟩) hnp
      by_cases hij : j = i
      · subst hij; rw [hjl] at hun; cases hun
      · rcases (S.sl j i t hjs hi hij hd).2 ht with h | h
        · exact hno j h hd
        · have := (I.cl j i hjs hjl h).2
          rw [this] at hun; cases hun


theorem norm (S : Static P n ops R) {e0 : Env} {listed : Array Bool} {K : St → Prop} : ∀ (rest done : List Nat) (st : St), DInv ops R e0 listed done rest st → runsD P Q (plan1 R done rest) st K →
    ∃ done' rest' st', DInv ops R e0 listed done' rest' st' ∧ runsD P Q (plan1 R done' rest') st' K ∧ (rest' = [] ∨ ∃ x xs, rest' = x :: xs ∧ (rowAt R x).eff = true) ∧ st'.σ = st.σ ∧ st'.nx = st.nx ∧
      ∀ t, (overE (pendL R listed done') e0 st'.env).get t = (overE (pendL R listed done) e0 st.env).get t := by
  intro rest
  induction rest with
  | nil => intro done st I h; exact ⟨done, [], st, I, h, .inl rfl, rfl, rfl, fun _ => rfl⟩
  | cons x rest ih =>
    intro done st I h
    cases hx : (rowAt R x).eff with
    | true => exact ⟨done, x :: rest, st, I, h, .inr ⟨x, rest, rfl, hx⟩, rfl, rfl, fun _ => rfl⟩
    | false =>
      simp only [plan1, runsD, hx] at h
      split at h
      · rename_i v hv
        have hxs : x < ops.size := I.lt x (by simp)
        have hxd : x ∉ done := by
          intro hc
          have := I.nd
          rw [List.nodup_append] at this
          exact this.2.2 x hc x (by simp) rfl
        have hxl : listed.getD x true = false := by
          cases hl : listed.getD x true with
          | false => rfl
          | true => exact absurd (I.ld x hxs hl) hxd
        obtain ⟨g1, g2, g3⟩ := I.good
        have hsame : ∀ j t, j ∈ done → (rowAt R j).op.dst = some t → (st.put (rowAt R x).op.dst (v, st.σ, st.nx)).env.get t = st.env.get t := by
          intro j t hj hd
          have hjs := I.lt j (List.mem_append_left _ hj)
          have : (rowAt R x).op.dst ≠ some t := (S.sl j x t hjs hxs (by intro e; subst e; exact hxd hj) hd).1
          simp only [St.put, get_putd, this, if_false]
        have I' : DInv ops R e0 listed (done ++ [x]) rest (st.put (rowAt R x).op.dst (v, st.σ, st.nx)) := by
          refine ⟨g3, by simpa using I.nd, fun i hi => by simpa using I.all i hi, fun i hi => I.lt i (by simpa using hi), I.ls, fun j hj hl => List.mem_append_left _ (I.ld j hj hl), ?_, I.cl, ?_, ?_, ?_⟩
          · intro j hj he
            rcases List.mem_append.1 hj with hj | hj
            · exact I.ed j hj he
            · simp at hj; subst hj; rw [hx] at he; cases he
          · intro j hj k hk
            rcases List.mem_append.1 hj with hj | hj
            · exact List.mem_append_left _ (I.dcl j hj k hk)
            · simp at hj; subst hj; exact List.mem_append_left _ (g1 k hk)
          · intro t ht
            have h1 : (rowAt R x).op.dst ≠ some t := ht x (by simp)
            simp only [St.put, get_putd, h1, if_false]
            exact I.e0t t (fun j hj => ht j (List.mem_append_left _ hj))
          · intro p hp hpl e hL
            rcases List.mem_append.1 hp with hp | hp
            · obtain ⟨u, hu1, hu2⟩ := I.pv p hp hpl e (fun t ht => ⟨fun j hj hd => by
                rw [(hL t ht).1 j hj hd, hsame j t (I.dcl p hp j hj) hd], (hL t ht).2⟩)
              exact ⟨u, hu1, fun d hd => by rw [hsame p d hp hd]; exact hu2 d hd⟩
            · simp at hp; subst hp
              refine ⟨v, ?_, fun d hd => by simp [St.put, get_putd, hd]⟩
              have hag : Agree (rowAt R p).op.slots e st.env := by
                intro t ht
                by_cases hex : ∃ j, has (rowAt R p).bef j = true ∧ (rowAt R j).op.dst = some t
                · obtain ⟨j, hj, hd⟩ := hex
                  rw [(hL t ht).1 j hj hd, hsame j t (g1 j hj) hd]
                · have hno : ∀ j, has (rowAt R p).bef j = true → (rowAt R j).op.dst ≠ some t := fun j hj hd => hex ⟨j, hj, hd⟩
                  rw [(hL t ht).2 hno]
                  refine (I.e0t t (fun j hj hd => ?_)).symm
                  have hjs := I.lt j (List.mem_append_left _ hj)
                  have hjp : j ≠ p := by intro e; subst e; exact hxd hj
                  rcases (S.sl j p t hjs hxs hjp hd).2 ht with hh | hh
                  · exact hno j hh hd
                  · exact hxd (I.dcl j hj p hh)
              show evalP (rowAt R p).op ⟨e, st.σ, st.nx⟩ = some v
              rw [evalP_congr hag]; exact hv
        obtain ⟨done', rest', st', J, h1, h2, h3, h4, h5⟩ := ih _ _ I' h
        refine ⟨done', rest', st', J, h1, h2, h3, h4, fun t => ?_⟩
        rw [h5 t, get_over, get_over]
        have hmem : t ∈ pendL R listed (done ++ [x]) ↔ t ∈ pendL R listed done ∨ (rowAt R x).op.dst = some t := by
          rw [mem_pendL, mem_pendL]
          constructor
          · rintro ⟨j, hj, hl, hd⟩
            rcases List.mem_append.1 hj with hj | hj
            · exact .inl ⟨j, hj, hl, hd⟩
            · simp at hj; subst hj; exact .inr hd
          · rintro (⟨j, hj, hl, hd⟩ | hd)
            · exact ⟨j, List.mem_append_left _ hj, hl, hd⟩
            · exact ⟨x, by simp, hxl, hd⟩
        by_cases hd : (rowAt R x).op.dst = some t
        · rw [if_pos (hmem.2 (.inr hd))]
          split
          · rfl
          · refine (I.e0t t (fun j hj hdj => ?_)).symm
            exact (S.sl j x t (I.lt j (List.mem_append_left _ hj)) hxs (by intro e; subst e; exact hxd hj) hdj).1 hd
        · by_cases hp : t ∈ pendL R listed done
          · rw [if_pos (hmem.2 (.inl hp)), if_pos hp]
          · rw [if_neg (by rw [hmem]; rintro (h | h); exact hp h; exact hd h), if_neg hp]
            simp only [St.put, get_putd, hd, if_false]
      · exact h.elim

theorem wpOp_mono2 {i : Nat} {Q Q' : Exit → Act → World → Prop} {K K' : Act → World → Prop} (hq : ∀ e a w, Q e a w → Q' e a w) (hk : ∀ a w, K a w → K' a w) {a : Act} {w : World} (h : wpOp P ops Q i K a w) : wpOp P ops Q' i K' a w := by
  unfold wpOp at h ⊢
  split
  · rename_i e; simp only [e] at h; exact hk _ _ h
  · rename_i o e
    simp only [e] at h
    split
    · rename_i hw
      rw [if_pos hw] at h
      rcases h with h | ⟨h, a', w', h'⟩
      · refine .inl ?_
        unfold Oper.wp at h ⊢
        generalize (execOp a.eval o).run P w = r at h ⊢
        unfold Oper.upon at h ⊢
        split <;> simp only at h
        · exact hk _ _ h
        · exact hk _ _ h
        · exact hk _ _ h
        · refine h.mono fun e w' hh => ?_
          cases e with
          | returned v => exact hk _ _ hh
          | panicked ch => exact hq _ _ _ hh
          | outgrown => obtain ⟨a', w', hh⟩ := hh; exact ⟨a', w', hq _ _ _ hh⟩
        · exact h.mono fun v w' hh => hk _ _ hh
        · exact hq _ _ _ h
      · exact .inr ⟨h, a', w', hq _ _ _ h'⟩
    · rename_i hw
      rw [if_neg hw] at h
      exact hk _ _ h


theorem set_one {listed : Array Bool} {i : Nat} (hi : i < listed.size) : (listed.setIfInBounds i true).getD i true = true := by simp
theorem set_inv {listed : Array Bool} {i j : Nat} (h : (listed.setIfInBounds i true).getD j true = true) : j = i ∨ listed.getD j true = true := by
  by_cases e : i = j
  · exact .inl e.symm
  · rw [getD_set_ne true e] at h; exact .inr h
theorem set_keep {listed : Array Bool} {i j : Nat} (h : listed.getD j true = true) : (listed.setIfInBounds i true).getD j true = true := by
  by_cases e : i = j
  · subst e
    rcases Nat.lt_or_ge i listed.size with h' | h'
    · simp [h']
    · simp [h']
  · rw [getD_set_ne true e]; exact h
theorem set_un {listed : Array Bool} {i j : Nat} (hi : i < listed.size) (h : (listed.setIfInBounds i true).getD j true = false) : j ≠ i ∧ listed.getD j true = false := by
  by_cases e : i = j
  · subst e; rw [set_one hi] at h; cases h
  · rw [getD_set_ne true e] at h; exact ⟨fun h' => e h'.symm, h⟩

theorem rechk_mem {l : List AOper} {st : St} (h : rechk l st) {c : AOper} (hc : c ∈ l) : match c.dst with | some d => evalP c st = some (st.env.get d) | none => ∃ v, evalP c st = some v := by
  induction l with
  | nil => cases hc
  | cons x l ih =>
    cases List.mem_cons.1 hc with
    | inl e => subst e; exact h.1
    | inr e => exact ih h.2 e

theorem listed_lt {listed : Array Bool} {k : Nat} (h : listed.getD k false = true) : k < listed.size ∧ listed.getD k true = true := by
  rcases Nat.lt_or_ge k listed.size with h' | h'
  · refine ⟨h', ?_⟩
    simp only [Array.getD_eq_getD_getElem?, Array.getElem?_eq_getElem h', Option.getD_some] at h ⊢
    exact h
  · simp [Array.getElem?_eq_none h'] at h

/-- while something waits, something is ready -/
theorem some_ready (S : Static P n ops R) {listed : Array Bool} (hs : listed.size = ops.size) : ∀ (m : Nat), m < ops.size → listed.getD m true = false → ∃ j, j ∈ Region.ready .any ops listed := by
  intro m
  induction m using Nat.strongRecOn with
  | ind m ih =>
    intro hm hl
    have ho : ops[m]? = some ops[m] := Array.getElem?_eq_getElem hm
    by_cases hall : ∀ e ∈ ops[m].after, Region.binds .any e = true → listed.getD e.on false = true
    · exact ⟨m, mem_ready.2 ⟨hl, _, ho, hall⟩⟩
    · obtain ⟨e, he⟩ := Classical.not_forall.1 hall
      simp only [Classical.not_imp] at he
      obtain ⟨h1, h2, h3⟩ := he
      have hlt := S.back m _ ho e h1 h2
      refine ih e.on hlt (by omega) ?_
      have : e.on < listed.size := by omega
      simp only [Array.getD_eq_getD_getElem?, Array.getElem?_eq_getElem this, Option.getD_some] at h3 ⊢
      simpa using h3

theorem all_done (S : Static P n ops R) {e0 : Env} {listed : Array Bool} {done rest : List Nat} {st : St} (I : DInv ops R e0 listed done rest st) (hall : ∀ i, i < ops.size → listed.getD i true = true) : rest = [] ∧ pendL R listed done = [] := by
  constructor
  · cases rest with
    | nil => rfl
    | cons x xs =>
      have hx : x < ops.size := I.lt x (by simp)
      have := I.ld x hx (hall x hx)
      have hnd := I.nd
      rw [List.nodup_append] at hnd
      exact absurd rfl (hnd.2.2 x this x (by simp))
  · apply List.eq_nil_iff_forall_not_mem.2
    intro t ht
    obtain ⟨j, h1, h2, h3⟩ := mem_pendL.1 ht
    have := hall j (I.lt j (List.mem_append_left _ h1))
    rw [this] at h2; cases h2

theorem drawn_main (S : Static P n ops R) {C : Ctx} (hn : C.d.n = n) {φ0 : Phi} {F0 : Frz} {e0 : Env} {K : St → Prop} (hK : ∀ s, K s → Q .normal s) : ∀ (fuel : Nat) (listed : Array Bool) (U done rest : List Nat) (st : St) (φ : Phi) (F : Frz) (a : Act) (w : World),
    U.Nodup → (∀ i, i ∈ U ↔ i < ops.size ∧ listed.getD i true = false) → U.length ≤ fuel → DInv ops R e0 listed done rest st → runsD P Q (plan1 R done rest) st K →
    Phi.leN C.d.N φ0 φ → Frz.le F0 F → Gam C φ F ⟨overE (pendL R listed done) e0 st.env, st.σ, st.nx⟩ a w → wpAny P .any ops (Lift C φ0 F0 Q) fuel listed a w := by
  intro fuel
  induction fuel with
  | zero =>
    intro listed U done rest st φ F a w hUn hU hlen I h hφ hF G
    have hU0 : U = [] := List.length_eq_zero_iff.1 (by omega)
    subst hU0
    have hall : ∀ i, i < ops.size → listed.getD i true = true := by
      intro i hi
      cases hl : listed.getD i true with
      | true => rfl
      | false => exact absurd ((hU i).2 ⟨hi, hl⟩) (by simp)
    obtain ⟨rfl, hp⟩ := all_done S I hall
    rw [hp] at G
    refine ⟨?_, φ, F, st, _, hφ, hF, G, .normal, hK _ h⟩
    apply List.eq_nil_iff_forall_not_mem.2
    intro j hj
    obtain ⟨h1, o, h2, _⟩ := mem_ready.1 hj
    have := hall j (Array.getElem?_eq_some_iff.1 h2).1
    rw [this] at h1; cases h1
  | succ fuel ih =>
    intro listed U done rest st φ F a w hUn hU hlen I h hφ hF G
    refine ⟨fun hr => ?_, fun i hi => ?_⟩
    · have hall : ∀ i, i < ops.size → listed.getD i true = true := by
        intro i hi
        cases hl : listed.getD i true with
        | true => rfl
        | false =>
          obtain ⟨j, hj⟩ := some_ready S I.ls i hi hl
          rw [hr] at hj; cases hj
      obtain ⟨rfl, hp⟩ := all_done S I hall
      rw [hp] at G
      exact ⟨φ, F, st, _, hφ, hF, G, .normal, hK _ h⟩
    · obtain ⟨hil, o, ho, hedge⟩ := mem_ready.1 hi
      have his : i < ops.size := (Array.getElem?_eq_some_iff.1 ho).1
      have hisl : i < listed.size := by rw [I.ls]; exact his
      have hb : ∀ k, has (rowAt R i).bef k = true → k < ops.size ∧ listed.getD k true = true := by
        intro k hk
        obtain ⟨e, he, hbd, hor⟩ := S.bef i o ho k hk
        obtain ⟨h1, h2⟩ := listed_lt (hedge e he hbd)
        rw [I.ls] at h1
        rcases hor with rfl | hor
        · exact ⟨h1, h2⟩
        · exact I.cl e.on k h1 h2 hor
      -- what is left to list
      have hU' : ∀ j, j ∈ U.erase i ↔ j < ops.size ∧ (listed.setIfInBounds i true).getD j true = false := by
        intro j
        rw [List.Nodup.mem_erase_iff hUn, hU]
        constructor
        · rintro ⟨h1, h2, h3⟩; exact ⟨h2, by rw [getD_set_ne true (Ne.symm h1)]; exact h3⟩
        · rintro ⟨h2, h3⟩
          obtain ⟨h4, h5⟩ := set_un hisl h3
          exact ⟨h4, h2, h5⟩
      have hUl : (U.erase i).length ≤ fuel := by
        rw [List.length_erase_of_mem ((hU i).2 ⟨his, hil⟩)]; omega
      have hUn' := hUn.erase i
      obtain ⟨done, rest, st', I', h', hhead, e1, e2, e3⟩ := norm S rest done st I h
      obtain ⟨env, σ, nx⟩ := st
      obtain ⟨env', σ', nx'⟩ := st'
      simp only at e1 e2 e3
      subst e1 e2
      have G' := G.congr fun t => (e3 t).symm
      clear G I h e3
      have hcomp := S.comp i o ho
      by_cases hid : i ∈ done
      · -- looked at already
        have hieff : (rowAt R i).eff = false := by
          cases he : (rowAt R i).eff with
          | false => rfl
          | true => rw [I'.ed i hid he] at hil; cases hil
        have hpure : (rowAt R i).op.isPure = true := by
          have := S.eff i his
          rw [hieff] at this
          simpa using this.symm
        obtain ⟨v, hv1, hv2⟩ := I'.pv i hid hil _ (looks_over S I' his hb hil)
        refine wpOp_mono2 (fun _ _ _ hh => Lift.weak hφ hF hh) (fun _ _ hh => hh) (runE_sound (Q := Q) hn ho hcomp G' (evalP_runE hpure hv1) ?_)
        intro φ' F' r a' w' hp1 hp2 G2 hr
        subst hr
        refine ih (listed.setIfInBounds i true) (U.erase i) done rest ⟨env', σ', nx'⟩ φ' F' a' w' hUn' hU' hUl ?_ h' (hφ.trans hp1.toN) (hF.trans hp2) ?_
        · refine ⟨I'.good, I'.nd, I'.all, I'.lt, by simpa using I'.ls, fun j hj hl => ?_, fun j hj he => set_keep (I'.ed j hj he), fun j k hj hl hk => ?_, I'.dcl, I'.e0t, fun p hp hpl e hL => I'.pv p hp (set_un hisl hpl).2 e hL⟩
          · rcases set_inv hl with rfl | hl
            · exact hid
            · exact I'.ld j hj hl
          · rcases set_inv hl with rfl | hl
            · exact ⟨(hb k hk).1, set_keep (hb k hk).2⟩
            · have := I'.cl j k hj hl hk
              exact ⟨this.1, set_keep this.2⟩
        · refine G2.congr fun t => ?_
          simp only [get_putd, get_over]
          by_cases hd : (rowAt R i).op.dst = some t
          · rw [if_pos hd, if_neg, hv2 t hd]
            rw [mem_pendL]
            rintro ⟨j, h1, h2, h3⟩
            obtain ⟨h4, h5⟩ := set_un hisl h2
            exact (S.sl i j t his (I'.lt j (List.mem_append_left _ h1)) (Ne.symm h4) hd).1 h3
          · rw [if_neg hd]
            have : t ∈ pendL R listed done ↔ t ∈ pendL R (listed.setIfInBounds i true) done := by
              rw [mem_pendL, mem_pendL]
              constructor
              · rintro ⟨j, h1, h2, h3⟩
                exact ⟨j, h1, by rw [getD_set_ne true (by intro e; subst e; exact hd h3)]; exact h2, h3⟩
              · rintro ⟨j, h1, h2, h3⟩
                exact ⟨j, h1, (set_un hisl h2).2, h3⟩
            simp only [this]
      · -- it acts now
        have hir : i ∈ rest := by
          rcases List.mem_append.1 (I'.all i his) with h | h
          · exact absurd h hid
          · exact h
        rcases hhead with rfl | ⟨x, xs, rfl, hxe⟩
        · cases hir
        obtain ⟨g1, g2, g3⟩ := I'.good
        obtain ⟨g21, g22, g23⟩ := g2 hxe
        have hnd := I'.nd
        rw [List.nodup_append] at hnd
        have hxs : x < ops.size := I'.lt x (by simp)
        have hix : i = x := by
          rcases List.mem_cons.1 hir with h | h
          · exact h
          · exfalso
            cases he : (rowAt R i).eff with
            | true =>
              have := hb x (g21 i h he)
              exact hnd.2.2 x (I'.ld x this.1 this.2) x (by simp) rfl
            | false =>
              obtain ⟨y, hy1, hy2⟩ := g22 i h he
              have := hb y hy1
              exact hy2 (I'.ld y this.1 this.2)
        subst hix
        simp only [plan1, runsD, hxe] at h'
        have hag : Agree (rowAt R i).op.slots env' (overE (pendL R listed done) e0 env') := by
          intro t ht
          rw [get_over, if_neg]
          rw [mem_pendL]
          rintro ⟨j, h1, h2, h3⟩
          have hji : j ≠ i := by rintro rfl; exact hid h1
          rcases (S.sl j i t (I'.lt j (List.mem_append_left _ h1)) his hji h3).2 ht with hh | hh
          · rw [(hb j hh).2] at h2; cases h2
          · exact hid (I'.dcl j h1 i hh)
        refine wpOp_mono2 (fun _ _ _ hh => Lift.weak hφ hF hh) (fun _ _ hh => hh) (runE_sound (Q := Q) hn ho hcomp G' (runE_congr hag h') ?_)
        intro φ' F' r a' w' hp1 hp2 G2 hr
        obtain ⟨hchk, hrun⟩ := hr
        have hother : ∀ j t, j ∈ done → (rowAt R j).op.dst = some t → (rowAt R i).op.dst ≠ some t := by
          intro j t hj hd
          exact (S.sl j i t (I'.lt j (List.mem_append_left _ hj)) his (by rintro rfl; exact hid hj) hd).1
        refine ih (listed.setIfInBounds i true) (U.erase i) (done ++ [i]) xs (St.put ⟨env', σ', nx'⟩ (rowAt R i).op.dst r) φ' F' a' w' hUn' hU' hUl ?_ hrun (hφ.trans hp1.toN) (hF.trans hp2) ?_
        · have he0 : ∀ t, (∀ j, j ∈ done ++ [i] → (rowAt R j).op.dst ≠ some t) → (St.put ⟨env', σ', nx'⟩ (rowAt R i).op.dst r).env.get t = e0.get t := by
            intro t ht
            simp only [St.put, get_putd, if_neg (ht i (by simp))]
            exact I'.e0t t fun j hj => ht j (List.mem_append_left _ hj)
          refine ⟨g3, by simpa using I'.nd, fun j hj => by simpa using I'.all j hj, fun j hj => I'.lt j (by simpa using hj), by simpa using I'.ls, fun j hj hl => ?_, fun j hj he => ?_, fun j k hj hl hk => ?_, fun j hj k hk => ?_, he0, fun p hp hpl e hL => ?_⟩
          · rcases set_inv hl with rfl | hl
            · simp
            · exact List.mem_append_left _ (I'.ld j hj hl)
          · rcases List.mem_append.1 hj with hj | hj
            · exact set_keep (I'.ed j hj he)
            · simp at hj; subst hj; exact set_one hisl
          · rcases set_inv hl with rfl | hl
            · exact ⟨(hb k hk).1, set_keep (hb k hk).2⟩
            · have := I'.cl j k hj hl hk
              exact ⟨this.1, set_keep this.2⟩
          · rcases List.mem_append.1 hj with hj | hj
            · exact List.mem_append_left _ (I'.dcl j hj k hk)
            · simp at hj; subst hj; exact List.mem_append_left _ (g1 k hk)
          · obtain ⟨hpi, hpl'⟩ := set_un hisl hpl
            have hpd : p ∈ done := by
              rcases List.mem_append.1 hp with hp | hp
              · exact hp
              · simp at hp; exact absurd hp hpi
            have hps : p < ops.size := I'.lt p (List.mem_append_left _ hpd)
            have hpe : (rowAt R p).eff = false := by
              cases he : (rowAt R p).eff with
              | false => rfl
              | true => rw [I'.ed p hpd he] at hpl'; cases hpl'
            cases hin : (rowAt R p).ind with
            | true =>
              have hin' : (rowAt R p).op.isIndep = true := by rw [← S.ind p hps]; exact hin
              obtain ⟨u, hu1, hu2⟩ := I'.pv p hpd hpl' e (fun t ht => ⟨fun j hj hd => by
                rw [(hL t ht).1 j hj hd]
                simp only [St.put, get_putd, if_neg (hother j t (I'.dcl p hpd j hj) hd)], (hL t ht).2⟩)
              refine ⟨u, evalP_indep hin' hu1, fun d hd => ?_⟩
              rw [hu2 d hd]
              simp only [St.put, get_putd, if_neg (hother p d hpd hd)]
            | false =>
              have hnb : has (rowAt R i).bef p = false := by
                cases hh : has (rowAt R i).bef p with
                | false => rfl
                | true => rw [(hb p hh).2] at hpl'; cases hpl'
              have hmem : p ∈ chkAt R done i := by
                simp only [chkAt, List.mem_filter, hpe, hin, hnb, Bool.not_false, Bool.and_true, and_true]
                exact hpd
              obtain ⟨hown, hwr⟩ := g23 p hmem
              have hc := rechk_mem hchk (List.mem_map_of_mem (f := fun p => (rowAt R p).op) hmem)
              have hag2 : Agree (rowAt R p).op.slots e (St.put ⟨env', σ', nx'⟩ (rowAt R i).op.dst r).env := by
                intro t ht
                have hts := (S.slots p hps t).2 ht
                by_cases hex : ∃ j, has (rowAt R p).bef j = true ∧ (rowAt R j).op.dst = some t
                · obtain ⟨j, hj, hd⟩ := hex
                  exact (hL t ht).1 j hj hd
                · have hno : ∀ j, has (rowAt R p).bef j = true → (rowAt R j).op.dst ≠ some t := fun j hj hd => hex ⟨j, hj, hd⟩
                  rw [(hL t ht).2 hno]
                  refine (he0 t (fun j hj hd => ?_)).symm
                  have hjs : j < ops.size := I'.lt j (by simpa using List.mem_append_left xs hj)
                  by_cases hjp : j = p
                  · subst hjp; rw [hown t hd] at hts; cases hts
                  · rcases (S.sl j p t hjs hps hjp hd).2 ht with hh | hh
                    · exact hno j hh hd
                    · rw [hwr j (by rw [S.len]; exact hjs) hh t hd] at hts; cases hts
              have hev : evalP (rowAt R p).op ⟨e, (St.put ⟨env', σ', nx'⟩ (rowAt R i).op.dst r).σ, (St.put ⟨env', σ', nx'⟩ (rowAt R i).op.dst r).nx⟩ = evalP (rowAt R p).op (St.put ⟨env', σ', nx'⟩ (rowAt R i).op.dst r) := evalP_congr hag2
              rw [hev]
              cases hd : (rowAt R p).op.dst with
              | none =>
                simp only [hd] at hc
                obtain ⟨v, hv⟩ := hc
                exact ⟨v, hv, fun d h => by cases h⟩
              | some d =>
                simp only [hd] at hc
                exact ⟨_, hc, fun d' h => by cases h; rfl⟩
        · refine G2.congr fun t => ?_
          simp only [St.put, get_putd, get_over]
          have : t ∈ pendL R listed done ↔ t ∈ pendL R (listed.setIfInBounds i true) (done ++ [i]) := by
            rw [mem_pendL, mem_pendL]
            constructor
            · rintro ⟨j, h1, h2, h3⟩
              exact ⟨j, List.mem_append_left _ h1, by rw [getD_set_ne true (by rintro rfl; exact hid h1)]; exact h2, h3⟩
            · rintro ⟨j, h1, h2, h3⟩
              obtain ⟨h4, h5⟩ := set_un hisl h2
              rcases List.mem_append.1 h1 with h1 | h1
              · exact ⟨j, h1, h5, h3⟩
              · simp at h1; exact absurd h1 h4
          by_cases hd : (rowAt R i).op.dst = some t
          · rw [if_pos hd, if_pos hd, if_neg]
            rw [← this, mem_pendL]
            rintro ⟨j, h1, h2, h3⟩
            exact hother j t h1 h3 hd
          · simp only [hd, if_false, this]

end
end Go.Ab
