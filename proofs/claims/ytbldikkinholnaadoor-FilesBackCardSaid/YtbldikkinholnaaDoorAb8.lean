/-
  The soundness of the operations.
-/
import Derived.Test.YtbldikkinholnaaDoorAb7
namespace Go.Ab
set_option linter.unusedVariables false
set_option linter.unusedSimpArgs false

section
variable {P : Program} {C : Ctx} {φ : Phi} {F : Frz} {st : St} {a : Act} {w : World}

theorem Does.new (G : Gam C φ F st a w) {s : Sem Next} {t : TypeId} {c : Array Value} {base sz : Nat} {o : Obj} {cv : Value} {v : AV}
    (h : s.run P w = .ok (.value cv) { w with heap := w.heap.push (.cells c t) }) (ho : OCont φ F base c.size sz c o)
    (hv : VRel (φ.upd st.nx (.blk w.heap.size base c.size sz)) F cv v) : Does P C φ F w s (v, (st.nx, o) :: st.σ, st.nx + 1) :=
  ⟨_, cv, _, _, F, h, .inl rfl, Phi.le_upd (G.heap.fresh _ (Nat.le_refl _)), .refl _, hv, G.heap.push ho, G.ext.push⟩

theorem zero_add_ptr {φ : Phi} {F : Frz} {l b n sz : Nat} (h : φ l = some (.blk b 0 n sz)) : VRel φ F (.pointer (some ⟨b, 0, none⟩)) (.ptr l 0) := by
  have := VRel.ptr (F := F) (off := 0) h
  simpa using this

theorem fill_ok {place : Nat → Option (Nat × Nat)} : ∀ (ps : List (Nat × Value)) (qs : List (Nat × Nat × AV)) (cells : Array Value) (z : List AV) (r : List AV),
    (∀ (i : Nat) (p : Nat × Value) (q : Nat × Nat × AV), ps[i]? = some p → qs[i]? = some q → place p.1 = some (q.1, q.2.1) ∧ VRel φ F p.2 q.2.2) → ps.length = qs.length →
    VRels φ F cells.toList z → fillF z qs = some r → ∃ c', Instr.fill place cells ps = some c' ∧ VRels φ F c'.toList r := by
  intro ps
  induction ps with
  | nil =>
    intro qs cells z r _ hl hz h
    cases qs with
    | nil => cases h; exact ⟨cells, rfl, hz⟩
    | cons _ _ => simp at hl
  | cons p ps ih =>
    intro qs cells z r hp hl hz h
    cases qs with
    | nil => simp at hl
    | cons q qs =>
      obtain ⟨off, sz, x⟩ := q
      obtain ⟨i, v⟩ := p
      have h0 := hp 0 (i, v) (off, sz, x) rfl rfl
      simp only at h0
      obtain ⟨hpl, hv⟩ := h0
      simp only [fillF] at h
      split at h
      · rename_i hc
        simp only [Bool.and_eq_true, decide_eq_true_eq] at hc
        obtain ⟨hfit, hle⟩ := hc
        obtain ⟨g1, g2, g3, g4, g5⟩ := fits_ok hv hfit
        have hzl := hz.length
        simp only [Array.length_toList] at hzl
        have hcond : ¬((decide (v.cells.size ≠ sz) || decide (off + v.cells.size > cells.size)) = true) := by
          simp only [Bool.or_eq_true, decide_eq_true_eq]; rw [g2]; omega
        simp only [Instr.fill, hpl]
        rw [if_neg hcond]
        have hfold : ∀ (xs : List Value) (k : Nat) (cs : Array Value), off + k + xs.length ≤ cs.size →
            ((xs.zipIdx k).foldl (fun cs (c, j) => cs.setIfInBounds (off + j) c) cs).toList = cs.toList.take (off + k) ++ xs ++ cs.toList.drop (off + k + xs.length) := by
          intro xs
          induction xs with
          | nil => intro k cs _; simp
          | cons x xs ihx =>
            intro k cs hk
            simp only [List.length_cons] at hk
            simp only [List.zipIdx_cons, List.foldl_cons]
            rw [ihx (k + 1) _ (by simp; omega)]
            have hlt : off + k < cs.toList.length := by simp; omega
            simp only [Array.toList_setIfInBounds, List.length_cons]
            rw [show off + (k + 1) = off + k + 1 from by omega, List.take_add_one, List.take_set_of_le (Nat.le_refl _)]
            simp only [List.getElem?_set_self hlt, Option.toList_some]
            rw [List.drop_set_of_lt (by omega)]
            simp [Nat.add_assoc, Nat.add_comm, Nat.add_left_comm]
        have hzip : (v.cells.zipIdx.foldl (fun cs (c, j) => cs.setIfInBounds (off + j) c) cells).toList = cells.toList.take off ++ v.cells.toList ++ cells.toList.drop (off + sz) := by
          have := hfold v.cells.toList 0 cells (by simp; omega)
          rw [← Array.foldl_toList, Array.toList_zipIdx]
          simpa [g2] using this
        refine ih qs _ _ r (fun i p q h1 h2 => hp (i + 1) p q (by simpa using h1) (by simpa using h2)) (by simpa using hl) ?_ h
        rw [hzip]
        exact ((hz.take off).append g1).append (hz.drop _)
      · cases h


theorem run_sliceBound {k : IntKind} {i : Int} {y : Nat} {code : BoundsCode} (h : upB i y = true) : (Instr.sliceBound (.int k i) y code).run P w = .ok i.toNat w := by
  simp only [upB, decide_eq_true_eq] at h
  simp [Instr.sliceBound, asIntOf, h]

def OptRel (φ : Phi) (F : Frz) (x : Option Value) (p : Option AV) : Prop := (x = none ∧ p = none) ∨ ∃ v y, x = some v ∧ p = some y ∧ VRel φ F v y

theorem upB_le {i : Int} {n m : Nat} (h : upB i n = true) (hm : n ≤ m) : upB i m = true := by
  simp only [upB, decide_eq_true_eq] at *; omega

theorem low_ok {lo : Option Value} {p : Option AV} (hlo : OptRel φ F lo p) {hh l h : Nat}
    (hb : lowF hh p = some (l, h)) :
    h = hh ∧ l ≤ h ∧ ((lo = none ∧ l = 0) ∨ ∃ k n, lo = some (.int k n) ∧ upB n hh = true ∧ l = n.toNat) := by
  rcases hlo with ⟨rfl, rfl⟩ | ⟨v, y, rfl, rfl, hv⟩
  · simp [lowF] at hb; obtain ⟨rfl, rfl⟩ := hb; exact ⟨rfl, by omega, .inl ⟨rfl, rfl⟩⟩
  · unfold lowF at hb
    split at hb
    · rename_i e; cases e
    · rename_i k n e
      cases e
      split at hb
      · rename_i hu
        cases hb
        rw [hv.int_inv]
        refine ⟨rfl, ?_, .inr ⟨_, _, rfl, hu, rfl⟩⟩
        simp only [upB, decide_eq_true_eq] at hu; omega
      · cases hb
    · cases hb

theorem high_ok {hi : Option Value} {q : Option AV} (hhi : OptRel φ F hi q) {len hh : Nat}
    (hq : highF len q = some hh) :
    hh ≤ len ∧ ((hi = none ∧ q = none ∧ hh = len) ∨ ∃ k n, hi = some (.int k n) ∧ q = some (.int k n) ∧ upB n len = true ∧ hh = n.toNat) := by
  rcases hhi with ⟨rfl, rfl⟩ | ⟨v, y, rfl, rfl, hv⟩
  · simp [highF] at hq; exact ⟨by omega, .inl ⟨rfl, rfl, hq.symm⟩⟩
  · unfold highF at hq
    split at hq
    · rename_i e; cases e
    · rename_i k n e
      cases e
      split at hq
      · rename_i hu
        cases hq
        rw [hv.int_inv]
        refine ⟨?_, .inr ⟨_, _, rfl, rfl, hu, rfl⟩⟩
        simp only [upB, decide_eq_true_eq] at hu; omega
      · cases hq
    · cases hq

theorem bounds_ok {isS : Bool} {len cap : Nat} {lo hi mx : Option Value} {p q q' : Option AV} (hlo : OptRel φ F lo p) (hhi : OptRel φ F hi q) (hmx : OptRel φ F mx q') (hc : len ≤ cap) {l h : Nat}
    (hb : bounds len p q = some (l, h)) (hm : q' = none ∨ ∃ k k' n, q = some (.int k n) ∧ q' = some (.int k' n)) :
    ∃ m, (Instr.sliceBounds isS len cap lo hi mx).run P w = .ok (l, h, m) w ∧ l ≤ h ∧ h ≤ len ∧ (q' = none → m = cap) ∧ (q' ≠ none → m = h) := by
  unfold bounds at hb
  split at hb
  · cases hb
  · rename_i hh hq
    obtain ⟨rfl, hle, hlow⟩ := low_ok hlo hb
    obtain ⟨hhl, hhigh⟩ := high_ok hhi hq
    rcases hm with rfl | ⟨k1, k2, n', e1, e2⟩
    · rcases hmx with ⟨rfl, _⟩ | ⟨_, _, _, e, _⟩
      · refine ⟨cap, ?_, hle, hhl, fun _ => rfl, fun h => absurd rfl h⟩
        rcases hhigh with ⟨rfl, _, rfl⟩ | ⟨k, n, rfl, _, hu, rfl⟩
        · rcases hlow with ⟨rfl, rfl⟩ | ⟨k', n', rfl, hu', rfl⟩
          · simp [Instr.sliceBounds]
          · simp [Instr.sliceBounds, run_sliceBound hu']
        · rcases hlow with ⟨rfl, rfl⟩ | ⟨k', n', rfl, hu', rfl⟩
          · simp [Instr.sliceBounds, run_sliceBound (upB_le hu hc)]
          · simp [Instr.sliceBounds, run_sliceBound (upB_le hu hc), run_sliceBound hu']
      · cases e
    · subst e2
      rcases hmx with ⟨_, e⟩ | ⟨u, z, rfl, e, hu2⟩
      · cases e
      · cases e
        have e := hu2.int_inv
        subst e
        rcases hhigh with ⟨_, e, _⟩ | ⟨k, n, rfl, e, hu, rfl⟩
        · rw [e] at e1; cases e1
        · rw [e] at e1; cases e1
          have hself : upB n' n'.toNat = true := by simp only [upB, decide_eq_true_eq] at *; omega
          refine ⟨n'.toNat, ?_, hle, hhl, fun h => (by cases h), fun _ => rfl⟩
          rcases hlow with ⟨rfl, rfl⟩ | ⟨k', n2, rfl, hu', rfl⟩
          · simp [Instr.sliceBounds, run_sliceBound (upB_le hu hc), run_sliceBound hself]
          · simp [Instr.sliceBounds, run_sliceBound (upB_le hu hc), run_sliceBound hself, run_sliceBound hu']

theorem VRel.ls_inv {φ : Phi} {F : Frz} {v : Value} {es : List AV} {fl : Bool} (h : VRel φ F v (.ls es fl)) :
    ∃ a cap, v = .slice a es.length cap ∧ es.length ≤ cap ∧ (fl = true → cap = es.length) ∧ (es ≠ [] → ∃ b off c sz, a = some ⟨b, off, none⟩ ∧ F b = some c ∧ (∀ e ∈ es, e.cells.length = sz) ∧ FRels F ((c.toList.drop off).take (es.length * sz)) (es.flatMap AV.cells)) := by
  cases h with
  | frz h =>
    cases h with
    | lsnil h => exact ⟨_, _, rfl, Nat.zero_le _, h, fun h => absurd rfl h⟩
    | ls h1 h2 h3 h4 h5 h6 => subst h2; exact ⟨_, _, rfl, h3, h4, fun _ => ⟨_, _, _, _, rfl, h1, h5, h6⟩⟩

theorem VRel.os_inv {φ : Phi} {F : Frz} {v : Value} {l off len : Nat} (h : VRel φ F v (.os l off len)) :
    (φ l = some .virt ∧ len = 0 ∧ ∃ a, v = .slice a 0 0) ∨
    ∃ b base n sz cap ad, φ l = some (.blk b base n sz) ∧ len ≤ cap ∧ (cap ≠ 0 → ad = ⟨b, base + off * sz, none⟩ ∧ base + off * sz + cap * sz ≤ n) ∧ v = .slice (some ad) len cap := by
  cases h with
  | frz h => cases h
  | osv h => exact .inl ⟨h, rfl, _, rfl⟩
  | os h1 h2 h3 => exact .inr ⟨_, _, _, _, _, _, h1, h2, h3, rfl⟩

theorem flat_part {es : List AV} {sz l h : Nat} (hs : ∀ x ∈ es, x.cells.length = sz) (hlh : l ≤ h) (hh : h ≤ es.length) :
    ((es.flatMap AV.cells).drop (l * sz)).take ((h - l) * sz) = ((es.take h).drop l).flatMap AV.cells := by
  have e1 : es = es.take h ++ es.drop h := (List.take_append_drop h es).symm
  have e2 : es.take h = (es.take h).take l ++ (es.take h).drop l := (List.take_append_drop l _).symm
  have hl1 : (((es.take h).take l).flatMap AV.cells).length = l * sz := by
    rw [flat_len (fun x hx => hs x (List.mem_of_mem_take (List.mem_of_mem_take hx)))]; congr 1; simp; omega
  have hl2 : (((es.take h).drop l).flatMap AV.cells).length = (h - l) * sz := by
    rw [flat_len (fun x hx => hs x (List.mem_of_mem_take (List.mem_of_mem_drop hx)))]; congr 1; simp; try omega
  conv => lhs; rw [e1, e2]
  simp only [List.flatMap_append]
  rw [List.append_assoc, List.drop_append, hl1, List.drop_of_length_le (by omega), Nat.sub_self, List.drop_zero, List.nil_append, List.take_append, hl2,
    List.take_of_length_le (by omega), Nat.sub_self, List.take_zero, List.append_nil]

/-- a cut -/
theorem slice_ok (G : Gam C φ F st a w) {t e : TypeId} {i : TypeInfo} (ht : P.underlying t = some (.slice e)) (hi : P.info? e = some i) {x : Value} {lo hi' mx : Option Value} {y v : AV} {p q q' : Option AV}
    (hx : VRel φ F x y) (hlo : OptRel φ F lo p) (hhi : OptRel φ F hi' q) (hmx : OptRel φ F mx q') (h : slcF st.σ i.size y p q q' = some v) :
    ∃ cv, (Instr.slice t x lo hi' mx).run P w = .ok cv w ∧ VRel φ F cv v := by
  unfold slcF at h
  split at h
  · rename_i es fl
    split at h
    · rename_i hall
      have hsz : ∀ e ∈ es, e.cells.length = i.size := by
        intro e he
        have := List.all_eq_true.1 hall e he
        simpa [AV.sized] using this
      obtain ⟨ao, cap, rfl, hle, hfl, hne⟩ := hx.ls_inv
      have fin : ∀ l h m fl', (Instr.sliceBounds true es.length cap lo hi' mx).run P w = .ok (l, h, m) w → l ≤ h → h ≤ es.length → h ≤ m → (fl' = true → m = h) →
          ∃ cv, (Instr.slice t (.slice ao es.length cap) lo hi' mx).run P w = .ok cv w ∧ VRel φ F cv (.ls ((es.take h).drop l) fl') := by
        intro l h m fl' hrun h1 h2 h3 h4
        refine ⟨.slice (if m = l then ao else ao.map (·.add (l * i.size))) (h - l) (m - l), ?_, ?_⟩
        · simp only [Instr.slice, Sem.run_bind, run_underlying ht, Result.andThen_ok, hrun, run_sizeOf hi]; rfl
        · have hlen : ((es.take h).drop l).length = h - l := by simp; omega
          rcases Nat.eq_zero_or_pos (h - l) with h0 | h0
          · have : (es.take h).drop l = [] := List.eq_nil_of_length_eq_zero (by omega)
            rw [this, h0]
            exact .frz (.lsnil (fun e => by have := h4 e; omega))
          · have hnil : es ≠ [] := by intro e; subst e; simp at h2; omega
            obtain ⟨b, off, c, sz, rfl, g1, g2, g3⟩ := hne hnil
            have hszeq : sz = i.size := by
              cases es with
              | nil => exact absurd rfl hnil
              | cons e es => rw [← g2 e (List.mem_cons_self ..), hsz e (List.mem_cons_self ..)]
            subst hszeq
            rw [if_neg (by omega)]
            simp only [Option.map_some, addr_add]
            refine .frz (.ls (sz := i.size) g1 hlen (by omega) (fun e => by have := h4 e; omega) (fun x hx => hsz x (List.mem_of_mem_take (List.mem_of_mem_drop hx))) ?_)
            have := (g3.drop (l * i.size)).take ((h - l) * i.size)
            rw [flat_part hsz h1 h2, take_drop_of (by rw [← Nat.add_mul]; exact Nat.mul_le_mul_right _ (by omega))] at this
            exact this
      split at h
      · rename_i l hh hb
        cases h
        obtain ⟨m, hrun, h1, h2, h3, _⟩ := bounds_ok (P := P) (w := w) (isS := true) hlo hhi hmx hle hb (.inl rfl)
        have := h3 rfl
        subst this
        refine fin l hh m _ hrun h1 h2 (by omega) ?_
        simp only [Bool.and_eq_true, beq_iff_eq]
        rintro ⟨e1, e2⟩
        rw [hfl e1, e2]
      · rename_i l hh k1 n1 k2 n2 hb
        split at h
        · rename_i e
          subst e
          cases h
          obtain ⟨m, hrun, h1, h2, _, h3⟩ := bounds_ok (P := P) (w := w) (isS := true) hlo hhi hmx hle hb (.inr ⟨_, _, _, rfl, rfl⟩)
          have := h3 (by simp)
          subst this
          exact fin l m m _ hrun h1 h2 (Nat.le_refl _) (fun _ => rfl)
        · cases h
      · cases h
    · cases h
  · rename_i ℓ off len
    split at h
    · rename_i s es hg
      split at h
      · rename_i hs
        subst hs
        have fin : ∀ ad cap l hh m, x = .slice ad len cap → (Instr.sliceBounds true len cap lo hi' mx).run P w = .ok (l, hh, m) w → l ≤ hh → hh ≤ len → hh ≤ m → m ≤ cap →
            ∃ cv, (Instr.slice t x lo hi' mx).run P w = .ok cv w ∧ VRel φ F cv (.os ℓ (off + l) (hh - l)) := by
          intro ad cap l hh m hxe hrun h1 h2 h3 h4
          refine ⟨.slice (if m = l then ad else ad.map (·.add (l * i.size))) (hh - l) (m - l), ?_, ?_⟩
          · subst hxe
            simp only [Instr.slice, Sem.run_bind, run_underlying ht, Result.andThen_ok, hrun, run_sizeOf hi]; rfl
          · rcases hx.os_inv with ⟨g1, g2, a', g3⟩ | ⟨b, base, n, sz, cap', ad', g1, g2, g3, g4⟩
            · rw [hxe] at g3; cases g3
              have e1 : m = 0 := by omega
              have e2 : hh = 0 := by omega
              have e3 : l = 0 := by omega
              subst e1; subst e2; subst e3
              exact .osv g1
            · rw [hxe] at g4; cases g4
              cases G.heap.obj _ _ hg with
              | virt e1 e2 => rw [g1] at e1; cases e1
              | blk e1 e2 e3 e4 =>
                rw [g1] at e1; cases e1
                cases e4 with | arr k1 k2 k3 =>
                split
                · rename_i hml
                  exact .os g1 (by omega) (fun hne => absurd (by omega) hne)
                · rename_i hml
                  simp only [Option.map_some]
                  refine .os g1 (by omega) (fun hne => ?_)
                  obtain ⟨q1, q2⟩ := g3 (by omega)
                  subst q1
                  rw [addr_add]
                  have e1 : (off + l) * i.size = off * i.size + l * i.size := Nat.add_mul _ _ _
                  have e2 : (l + (m - l)) * i.size ≤ cap * i.size := Nat.mul_le_mul_right _ (by omega)
                  rw [Nat.add_mul] at e2
                  refine ⟨by rw [e1, Nat.add_assoc], by omega⟩
        have hcap : ∃ ad cap, x = .slice ad len cap ∧ len ≤ cap := by
          rcases hx.os_inv with ⟨_, rfl, a', rfl⟩ | ⟨_, _, _, _, cap', ad', _, g2, _, rfl⟩
          · exact ⟨_, _, rfl, Nat.le_refl _⟩
          · exact ⟨_, _, rfl, g2⟩
        obtain ⟨ad, cap, hxe, hle⟩ := hcap
        split at h
        · rename_i l hh hb
          cases h
          obtain ⟨m, hrun, h1, h2, h3, _⟩ := bounds_ok (P := P) (w := w) (isS := true) hlo hhi hmx hle hb (.inl rfl)
          have := h3 rfl
          subst this
          exact fin ad m l hh m hxe hrun h1 h2 (by omega) (Nat.le_refl _)
        · rename_i l hh k1 n1 k2 n2 hb
          split at h
          · rename_i e
            subst e
            cases h
            obtain ⟨m, hrun, h1, h2, _, h3⟩ := bounds_ok (P := P) (w := w) (isS := true) hlo hhi hmx hle hb (.inr ⟨_, _, _, rfl, rfl⟩)
            have := h3 (by simp)
            subst this
            exact fin ad cap l m m hxe hrun h1 h2 (Nat.le_refl _) (by omega)
          · cases h
        · cases h
      · cases h
    · cases h
  · cases h

end
end Go.Ab
