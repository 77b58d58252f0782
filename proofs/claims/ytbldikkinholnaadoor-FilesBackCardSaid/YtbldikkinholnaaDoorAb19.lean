/-
  A call of a function that knows some of our names by numbers of its own.
-/
import Derived.Test.YtbldikkinholnaaDoorAb13
import Derived.Test.YtbldikkinholnaaDoorAb14
namespace Go.Ab
set_option linter.unusedVariables false
set_option linter.unusedSimpArgs false

mutual
theorem FRel.rn {F : Frz} {ρ : Nat → Nat} : ∀ (a : AV) {v : Value}, FRel F v a → FRel F v (a.rn ρ)
  | .ptr l o, _, h => by cases h
  | .pel l i o, _, h => by cases h
  | .os l o n, _, h => by cases h
  | .agg cs, _, h => by cases h with | agg h => exact .agg (FRels.rn cs h)
  | .tup cs, _, h => by cases h with | tup h => exact .tup (FRels.rn cs h)
  | .fn f cs, _, h => by cases h with | fn h => exact .fn (FRels.rn cs h)
  | .ifc t v, _, h => by cases h with | ifc h => exact .ifc (FRel.rn v h)
  | .any, _, h => .any
  | .bool b, _, h => by simpa only [AV.rn] using h
  | .int k n, _, h => by simpa only [AV.rn] using h
  | .str s, _, h => by simpa only [AV.rn] using h
  | .nilp, _, h => by simpa only [AV.rn] using h
  | .pf cs, _, h => by simpa only [AV.rn] using h
  | .ls es fl, _, h => by simpa only [AV.rn] using h
  | .nilf, _, h => by simpa only [AV.rn] using h
  | .nili, _, h => by simpa only [AV.rn] using h
  | .raw v, _, h => by simpa only [AV.rn] using h
theorem FRels.rn {F : Frz} {ρ : Nat → Nat} : ∀ (as : List AV) {vs : List Value}, FRels F vs as → FRels F vs (AV.rns ρ as)
  | [], _, h => by simpa only [AV.rns] using h
  | a :: as, _, h => by cases h with | cons h1 h2 => exact .cons (FRel.rn a h1) (FRels.rn as h2)
end

mutual
theorem VRel.rn {φ φ' : Phi} {F : Frz} {ρ : Nat → Nat} (hφ : ∀ l b, φ l = some b → φ' (ρ l) = some b) : ∀ (a : AV) {v : Value}, VRel φ F v a → VRel φ' F v (a.rn ρ)
  | .ptr l o, _, h => by
    cases h with
    | frz h => cases h
    | ptr h => exact .ptr (hφ _ _ h)
  | .pel l i o, _, h => by
    cases h with
    | frz h => cases h
    | pel h => exact .pel (hφ _ _ h)
  | .os l o n, _, h => by
    cases h with
    | frz h => cases h
    | osv h => exact .osv (hφ _ _ h)
    | os h h1 h2 => exact .os (hφ _ _ h) h1 h2
  | .agg cs, _, h => by
    cases h with
    | frz h => cases h with | agg h => exact .frz (.agg (FRels.rn cs h))
    | agg h => exact .agg (VRels.rn hφ cs h)
  | .tup cs, _, h => by
    cases h with
    | frz h => cases h with | tup h => exact .frz (.tup (FRels.rn cs h))
    | tup h => exact .tup (VRels.rn hφ cs h)
  | .fn f cs, _, h => by
    cases h with
    | frz h => cases h with | fn h => exact .frz (.fn (FRels.rn cs h))
    | fn h => exact .fn (VRels.rn hφ cs h)
  | .ifc t v, _, h => by
    cases h with
    | frz h => cases h with | ifc h => exact .frz (.ifc (FRel.rn v h))
    | ifc h => exact .ifc (VRel.rn hφ v h)
  | .any, _, h => .frz .any
  | .bool b, _, h => by cases h with | frz h => exact .frz (by simpa only [AV.rn] using h)
  | .int k n, _, h => by cases h with | frz h => exact .frz (by simpa only [AV.rn] using h)
  | .str s, _, h => by cases h with | frz h => exact .frz (by simpa only [AV.rn] using h)
  | .nilp, _, h => by cases h with | frz h => exact .frz (by simpa only [AV.rn] using h)
  | .pf cs, _, h => by cases h with | frz h => exact .frz (by simpa only [AV.rn] using h)
  | .ls es fl, _, h => by cases h with | frz h => exact .frz (by simpa only [AV.rn] using h)
  | .nilf, _, h => by cases h with | frz h => exact .frz (by simpa only [AV.rn] using h)
  | .nili, _, h => by cases h with | frz h => exact .frz (by simpa only [AV.rn] using h)
  | .raw v, _, h => by cases h with | frz h => exact .frz (by simpa only [AV.rn] using h)
theorem VRels.rn {φ φ' : Phi} {F : Frz} {ρ : Nat → Nat} (hφ : ∀ l b, φ l = some b → φ' (ρ l) = some b) : ∀ (as : List AV) {vs : List Value}, VRels φ F vs as → VRels φ' F vs (AV.rns ρ as)
  | [], _, h => by cases h; exact .nil
  | a :: as, _, h => by cases h with | cons h1 h2 => exact .cons (VRel.rn hφ a h1) (VRels.rn hφ as h2)
end

theorem rn_nany {ρ : Nat → Nat} {a : AV} (h : a ≠ .any) : a.rn ρ ≠ .any := by
  intro e; apply h; cases a <;> simp [AV.rn] at e <;> rfl
theorem rns_mem_inv {ρ : Nat → Nat} {x : AV} : ∀ {as : List AV}, x ∈ AV.rns ρ as → ∃ y ∈ as, x = y.rn ρ := by
  intro as h
  induction as with
  | nil => simp [AV.rns] at h
  | cons a as ih =>
    simp only [AV.rns] at h
    cases List.mem_cons.1 h with
    | inl e => exact ⟨a, by simp, e⟩
    | inr e => obtain ⟨y, h1, h2⟩ := ih e; exact ⟨y, by simp [h1], h2⟩

theorem OCont.rn {φ φ' : Phi} {F : Frz} {ρ : Nat → Nat} (hφ : ∀ l b, φ l = some b → φ' (ρ l) = some b) {base n sz : Nat} {c : Array Value} {o : Obj} (h : OCont φ F base n sz c o) : OCont φ' F base n sz c (o.rn ρ) := by
  cases h with
  | var q1 q2 => exact .var (by rw [rns_length]; exact q1) (by rw [rns_length]; exact VRels.rn hφ _ q2)
  | arr q1 q2 q3 =>
    refine .arr (fun x hx => ?_) (by rw [rns_length]; exact q2) (by rw [rns_length, rns_flat]; exact VRels.rn hφ _ q3)
    obtain ⟨y, h1, rfl⟩ := rns_mem_inv hx
    have := q1 y h1
    exact ⟨by rw [rn_cells, rns_length]; exact this.1, rn_nany this.2⟩

theorem ORel.rn {φ φ' : Phi} {F : Frz} {ρ : Nat → Nat} (hφ : ∀ l b, φ l = some b → φ' (ρ l) = some b) {w : World} {l : Nat} {o : Obj} (h : ORel φ F w l o) : ORel φ' F w (ρ l) (o.rn ρ) := by
  cases h with
  | virt e1 e2 => subst e2; exact .virt (hφ _ _ e1) rfl
  | blk e1 e2 e3 e4 => exact .blk (hφ _ _ e1) e2 e3 (e4.rn hφ)

theorem OCont.mono' {φ φ' : Phi} {F F' : Frz} (hφ : Phi.le φ φ') (hF : Frz.le F F') {base n sz : Nat} {c : Array Value} {o : Obj} (h : OCont φ F base n sz c o) : OCont φ' F' base n sz c o := by
  cases h with
  | var q1 q2 => exact .var q1 (q2.mono hφ hF)
  | arr q1 q2 q3 => exact .arr q1 q2 (q3.mono hφ hF)

/-- their names, as we call them -/
def eta (l : List Nat) (nx k : Nat) : Nat := match l[k]? with
  | some m => m
  | none => nx + (k - l.length)

def Store.rn (ρ : Nat → Nat) : Store → Store
  | [] => []
  | (k, o) :: r => (ρ k, o.rn ρ) :: Store.rn ρ r
def Store.less (l : List Nat) : Store → Store
  | [] => []
  | (k, o) :: r => if l.elem k then Store.less l r else (k, o) :: Store.less l r

/-- our store behind such a call -/
def backS (l : List Nat) (nx : Nat) (σ σ' : Store) : Store := Store.less l σ ++ Store.rn (eta l nx) σ'

theorem get_less {l : List Nat} {σ : Store} {m : Nat} {o : Obj} (h : (σ.less l).get m = some o) : m ∉ l ∧ σ.get m = some o := by
  induction σ with
  | nil => simp [Store.less, Store.get] at h
  | cons x r ih =>
    obtain ⟨k, y⟩ := x
    simp only [Store.less] at h
    split at h
    · rename_i hk
      have := ih h
      refine ⟨this.1, ?_⟩
      have hne : k ≠ m := by
        intro e; subst e; exact this.1 (by simpa using hk)
      simp only [Store.get, if_neg hne]; exact this.2
    · rename_i hk
      simp only [Store.get] at h ⊢
      split
      · rename_i e; subst e; rw [if_pos rfl] at h; exact ⟨by simpa using hk, h⟩
      · rename_i e; rw [if_neg e] at h; exact ih h

theorem get_append {a b : Store} {m : Nat} {o : Obj} (h : Store.get (a ++ b) m = some o) : a.get m = some o ∨ b.get m = some o := by
  induction a with
  | nil => exact .inr h
  | cons x r ih =>
    obtain ⟨k, y⟩ := x
    simp only [List.cons_append, Store.get] at h ⊢
    split at h
    · rename_i e; rw [if_pos e]; exact .inl h
    · rename_i e; rw [if_neg e]; exact ih h

theorem get_rn {ρ : Nat → Nat} (hinj : ∀ k k', ρ k = ρ k' → k = k') {σ : Store} {m : Nat} {o : Obj} (h : (σ.rn ρ).get m = some o) : ∃ k o', ρ k = m ∧ σ.get k = some o' ∧ o = o'.rn ρ := by
  induction σ with
  | nil => simp [Store.rn, Store.get] at h
  | cons x r ih =>
    obtain ⟨k, y⟩ := x
    simp only [Store.rn, Store.get] at h
    split at h
    · rename_i e; cases h; exact ⟨k, y, e, by simp [Store.get], rfl⟩
    · rename_i e
      obtain ⟨k', o', h1, h2, h3⟩ := ih h
      refine ⟨k', o', h1, ?_, h3⟩
      have : k ≠ k' := by intro hk; subst hk; exact e h1
      simp only [Store.get, if_neg this]; exact h2

def allIn (σ0 : Store) : Nat → Bool
  | 0 => true
  | n + 1 => (σ0.get n).isSome && allIn σ0 n
theorem allIn_ok {σ0 : Store} : ∀ {n : Nat}, allIn σ0 n = true → ∀ k, k < n → ∃ o, σ0.get k = some o := by
  intro n
  induction n with
  | zero => intro _ k hk; omega
  | succ n ih =>
    intro h k hk
    simp only [allIn, Bool.and_eq_true] at h
    by_cases e : k = n
    · subst e; exact Option.isSome_iff_exists.1 h.1
    · exact ih h.2 k (by omega)

theorem rho_mem {l : List Nat} {nx k : Nat} (h : k < l.length) : rho l nx k = l[k] := by simp [rho, h]

section
variable {P : Program}

theorem CallP_of {f : FuncId} {args : List AV} {σ : Store} {nx : Nat} {K : Res → Prop} {Kp : AV → Store → Nat → Prop} {R : ARes → Store → Nat → Prop} (l : List Nat) (A0 : List AV) (σ0 : Store) (hb : HasBody P f)
    (h : FnOk P f A0 σ0 l.length R) (ha : args = AV.rns (rho l nx) A0) (hs : entStore (rho l nx) σ σ0) (hin : allIn σ0 l.length = true) (hnd : l.Nodup)
    (hret : ∀ v σ' nx', R (.ret v) σ' nx' → K (v.rn (eta l nx), backS l nx σ σ', nx + (nx' - l.length)))
    (hpan : ∀ v σ' nx', R (.panic v) σ' nx' → Kp (v.rn (eta l nx)) (backS l nx σ σ') (nx + (nx' - l.length))) : CallP P f args σ nx K Kp := by
  intro C φ F vs w hvs H E
  rw [callFunc_run hb]
  subst ha
  -- what is passed is there
  have hsome : ∀ k, k < l.length → ∃ o b, σ0.get k = some o ∧ σ.get (rho l nx k) = some (o.rn (rho l nx)) ∧ φ (rho l nx k) = some b := by
    intro k hk
    obtain ⟨o, ho⟩ := allIn_ok hin k hk
    have := entStore_get hs ho
    cases H.obj _ _ this with
    | virt e1 e2 => exact ⟨o, _, ho, this, e1⟩
    | blk e1 e2 e3 e4 => exact ⟨o, _, ho, this, e1⟩
  have hlt : ∀ k, k < l.length → rho l nx k < nx := by
    intro k hk
    obtain ⟨o, b, _, _, h3⟩ := hsome k hk
    rcases Nat.lt_or_ge (rho l nx k) nx with h | h
    · exact h
    · rw [H.fresh _ h] at h3; cases h3
  have hfr : φ nx = none := H.fresh _ (Nat.le_refl _)
  have hout : ∀ k, l.length ≤ k → rho l nx k = nx := by
    intro k hk; simp [rho, List.getElem?_eq_none hk]
  have hrinj : ∀ k k', k < l.length → k' < l.length → rho l nx k = rho l nx k' → k = k' := by
    intro k k' hk hk' he
    rw [rho_mem hk, rho_mem hk'] at he
    exact (List.getElem_inj hnd).1 he
  have heta : ∀ k, k < l.length → eta l nx k = rho l nx k := by
    intro k hk; simp [eta, rho, hk]
  have heta2 : ∀ k, l.length ≤ k → eta l nx k = nx + (k - l.length) := by
    intro k hk; simp [eta, List.getElem?_eq_none hk]
  have heinj : ∀ k k', eta l nx k = eta l nx k' → k = k' := by
    intro k k' he
    rcases Nat.lt_or_ge k l.length with hk | hk <;> rcases Nat.lt_or_ge k' l.length with hk' | hk'
    · rw [heta k hk, heta k' hk'] at he; exact hrinj k k' hk hk' he
    · rw [heta k hk, heta2 k' hk'] at he; have := hlt k hk; omega
    · rw [heta2 k hk, heta k' hk'] at he; have := hlt k' hk'; omega
    · rw [heta2 k hk, heta2 k' hk'] at he; omega
  have hmem : ∀ m, m ∈ l ↔ ∃ k, k < l.length ∧ rho l nx k = m := by
    intro m
    constructor
    · intro hm
      obtain ⟨k, hk, e⟩ := List.mem_iff_getElem.1 hm
      exact ⟨k, hk, by rw [rho_mem hk]; exact e⟩
    · rintro ⟨k, hk, rfl⟩
      rw [rho_mem hk]; exact List.getElem_mem hk
  let φ0 : Phi := fun k => φ (rho l nx k)
  have hφ0 : ∀ k b, φ0 k = some b → k < l.length := by
    intro k b hk
    rcases Nat.lt_or_ge k l.length with h | h
    · exact h
    · simp only [φ0, hout k h, hfr] at hk; cases hk
  have H0 : HRel φ0 F σ0 l.length w := by
    refine ⟨H.frz, fun k o ho => ?_, ?_, fun k hk => ?_⟩
    · have hs' := entStore_get hs ho
      cases H.obj _ _ hs' with
      | virt e1 e2 =>
        cases o with
        | var cs => simp [Obj.rn] at e2
        | arr sz es =>
          simp only [Obj.rn, Obj.arr.injEq] at e2
          obtain ⟨rfl, e2⟩ := e2
          have : es = [] := by
            cases es with
            | nil => rfl
            | cons a as => simp [AV.rns] at e2
          subst this
          exact .virt e1 rfl
      | blk e1 e2 e3 e4 =>
        refine .blk e1 e2 e3 ?_
        cases o with
        | var cs =>
          simp only [Obj.rn] at e4
          cases e4 with | var q1 q2 =>
          rw [rns_length] at q1 q2
          exact .var q1 (VRels.unrn (fun _ _ h => h) _ q2)
        | arr sz es =>
          simp only [Obj.rn] at e4
          cases e4 with | arr q1 q2 q3 =>
          rw [rns_length] at q2 q3
          rw [rns_flat] at q3
          refine .arr (fun x hx => ?_) q2 (VRels.unrn (fun _ _ h => h) _ q3)
          have := q1 _ (rns_mem hx)
          rw [rn_cells, rns_length] at this
          exact ⟨this.1, rn_any this.2⟩
    · intro k k' o o' b n s z m t y g1 g2 g3 g4
      have := H.inj _ _ _ _ _ _ _ _ _ _ _ (entStore_get hs g1) (entStore_get hs g2) g3 g4
      exact hrinj k k' (hφ0 k _ g3) (hφ0 k' _ g4) this
    · simp only [φ0, hout k hk]; exact hfr
  refine (h w φ0 F vs (VRels.unrn (fun _ _ h => h) _ hvs) H0).mono ?_
  rintro e w' ⟨φ', F', r, σ', nx', h1, h2, H', E', hr, hR⟩
  let φ2 : Phi := fun m => if m < nx then φ m else φ' (m - nx + l.length)
  have hφ2 : Phi.le φ φ2 := by
    intro m b hm
    have : m < nx := by
      rcases Nat.lt_or_ge m nx with h | h
      · exact h
      · rw [H.fresh _ h] at hm; cases hm
    simp only [φ2, if_pos this]; exact hm
  have hback : ∀ k b, φ' k = some b → φ2 (eta l nx k) = some b := by
    intro k b hk
    rcases Nat.lt_or_ge k l.length with hl | hl
    · obtain ⟨o, b', _, _, g⟩ := hsome k hl
      have := h1 k b' hl g
      rw [this] at hk; cases hk
      rw [heta k hl]
      simp only [φ2, if_pos (hlt k hl)]; exact g
    · rw [heta2 k hl]
      simp only [φ2, if_neg (show ¬ nx + (k - l.length) < nx by omega)]
      rw [show nx + (k - l.length) - nx + l.length = k by omega]; exact hk
  have hforth : ∀ k b, φ2 (eta l nx k) = some b → φ' k = some b := by
    intro k b hk
    rcases Nat.lt_or_ge k l.length with hl | hl
    · rw [heta k hl] at hk
      simp only [φ2, if_pos (hlt k hl)] at hk
      exact h1 k b hl hk
    · rw [heta2 k hl] at hk
      simp only [φ2, if_neg (show ¬ nx + (k - l.length) < nx by omega)] at hk
      rw [show nx + (k - l.length) - nx + l.length = k by omega] at hk; exact hk
  -- what was ours alone
  have hblk : ∀ b, Blocks φ0 σ0 b → ∃ m o base n sz, m ∈ l ∧ σ.get m = some o ∧ φ m = some (.blk b base n sz) := by
    rintro b ⟨k, o, base, n, sz, g1, g2⟩
    exact ⟨rho l nx k, _, base, n, sz, (hmem _).2 ⟨k, hφ0 k _ g2, rfl⟩, entStore_get hs g1, g2⟩
  have hours : ∀ m o b base n sz, m ∉ l → σ.get m = some o → φ m = some (.blk b base n sz) → b < w.heap.size → ¬ Blocks φ0 σ0 b := by
    intro m o b base n sz hm g1 g2 _ hB
    obtain ⟨m', o', base', n', sz', q1, q2, q3⟩ := hblk b hB
    exact hm (by rw [H.inj _ _ _ _ _ _ _ _ _ _ _ g1 q2 g2 q3]; exact q1)
  have hcases : ∀ m o, (backS l nx σ σ').get m = some o → (m ∉ l ∧ σ.get m = some o) ∨ ∃ k o', eta l nx k = m ∧ σ'.get k = some o' ∧ o = o'.rn (eta l nx) := by
    intro m o hm
    rcases get_append hm with hm | hm
    · exact .inl (get_less hm)
    · exact .inr (get_rn heinj hm)
  have hsz := E'.size
  simp only at hsz
  have hlow : ∀ m o b base n sz, σ.get m = some o → φ m = some (.blk b base n sz) → b < w.heap.size := by
    intro m o b base n sz g1 g2
    cases H.obj _ _ g1 with
    | virt e1 e2 => rw [e1] at g2; cases g2
    | blk e1 e2 e3 e4 => rw [e1] at g2; cases g2; exact e3.lt
  have HB : HRel φ2 F' (backS l nx σ σ') (nx + (nx' - l.length)) w' := by
    refine ⟨H'.frz, fun m o hm => ?_, ?_, fun m hm => ?_⟩
    · rcases hcases m o hm with ⟨g1, g2⟩ | ⟨k, o', rfl, g2, rfl⟩
      · cases H.obj _ _ g2 with
        | virt e1 e2 => exact .virt (hφ2 _ _ e1) e2
        | blk e1 e2 e3 e4 =>
          have hlt' := e3.lt
          have hnB := hours m o _ _ _ _ g1 g2 e1 hlt'
          have hk := E'.kept _ hlt' hnB
          simp only at hk
          refine .blk (hφ2 _ _ e1) ?_ ?_ (e4.mono' hφ2 h2)
          · cases hf : F' _ with
            | none => rfl
            | some c =>
              rcases E'.Fnew _ c hf with h | h | h
              · simp only at h; rw [e2] at h; cases h
              · exact absurd h hnB
              · simp only at h; omega
          · obtain ⟨q1, ty, lo, hi, q2, q3⟩ := e3
            exact ⟨q1, ty, lo, hi, by rw [hk]; exact q2, q3⟩
      · exact (H'.obj _ _ g2).rn hback
    · intro m m' o o' b n s z mm t y g1 g2 g3 g4
      rcases hcases m o g1 with ⟨p1, p2⟩ | ⟨k, o1, rfl, p2, rfl⟩ <;> rcases hcases m' o' g2 with ⟨q1, q2⟩ | ⟨k', o2, rfl, q2, rfl⟩
      · have a1 : φ m = some (.blk b n s z) := by
          cases H.obj _ _ p2 with
          | virt e1 e2 => rw [hφ2 _ _ e1] at g3; cases g3
          | blk e1 e2 e3 e4 => rw [hφ2 _ _ e1] at g3; cases g3; exact e1
        have a2 : φ m' = some (.blk b mm t y) := by
          cases H.obj _ _ q2 with
          | virt e1 e2 => rw [hφ2 _ _ e1] at g4; cases g4
          | blk e1 e2 e3 e4 => rw [hφ2 _ _ e1] at g4; cases g4; exact e1
        exact H.inj _ _ _ _ _ _ _ _ _ _ _ p2 q2 a1 a2
      · exfalso
        have a1 : φ m = some (.blk b n s z) := by
          cases H.obj _ _ p2 with
          | virt e1 e2 => rw [hφ2 _ _ e1] at g3; cases g3
          | blk e1 e2 e3 e4 => rw [hφ2 _ _ e1] at g3; cases g3; exact e1
        have hl' := hlow _ _ _ _ _ _ p2 a1
        rcases E'.own _ _ _ _ _ _ q2 (hforth _ _ g4) with h | h
        · exact hours _ _ _ _ _ _ p1 p2 a1 hl' h
        · simp only at h; omega
      · exfalso
        have a1 : φ m' = some (.blk b mm t y) := by
          cases H.obj _ _ q2 with
          | virt e1 e2 => rw [hφ2 _ _ e1] at g4; cases g4
          | blk e1 e2 e3 e4 => rw [hφ2 _ _ e1] at g4; cases g4; exact e1
        have hl' := hlow _ _ _ _ _ _ q2 a1
        rcases E'.own _ _ _ _ _ _ p2 (hforth _ _ g3) with h | h
        · exact hours _ _ _ _ _ _ q1 q2 a1 hl' h
        · simp only at h; omega
      · rw [H'.inj _ _ _ _ _ _ _ _ _ _ _ p2 q2 (hforth _ _ g3) (hforth _ _ g4)]
    · simp only [φ2, if_neg (show ¬ m < nx by omega)]
      exact H'.fresh _ (by omega)
  have EB : Ext C φ2 F' (backS l nx σ σ') w' := by
    refine ⟨E'.os.trans E.os, E'.tape.trans E.tape, E'.output.trans E.output, Nat.le_trans E.size hsz, fun b hb hS => ?_, fun m o b base n sz g1 g2 => ?_, E.F0.trans h2, fun b c hf => ?_⟩
    · have := E.size
      rw [E'.kept b (show b < w.heap.size by omega) ?_]
      · exact E.kept b hb hS
      · intro hB
        obtain ⟨m, o, base, n, sz, q1, q2, q3⟩ := hblk b hB
        rcases E.own _ _ _ _ _ _ q2 q3 with h | h
        · exact hS h
        · omega
    · rcases hcases m o g1 with ⟨p1, p2⟩ | ⟨k, o1, rfl, p2, rfl⟩
      · have a1 : φ m = some (.blk b base n sz) := by
          cases H.obj _ _ p2 with
          | virt e1 e2 => rw [hφ2 _ _ e1] at g2; cases g2
          | blk e1 e2 e3 e4 => rw [hφ2 _ _ e1] at g2; cases g2; exact e1
        exact E.own _ _ _ _ _ _ p2 a1
      · rcases E'.own _ _ _ _ _ _ p2 (hforth _ _ g2) with h | h
        · obtain ⟨m, o, base, n, sz, q1, q2, q3⟩ := hblk b h
          exact E.own _ _ _ _ _ _ q2 q3
        · have := E.size; simp only at h; exact .inr (by omega)
    · rcases E'.Fnew b c hf with h | h | h
      · exact E.Fnew b c h
      · obtain ⟨m, o, base, n, sz, q1, q2, q3⟩ := hblk b h
        exact .inr (E.own _ _ _ _ _ _ q2 q3)
      · have := E.size; simp only at h; exact .inr (.inr (by omega))
  cases hr with
  | ret hv => exact ⟨φ2, F', _, hφ2, h2, VRel.rn hback _ hv, HB, EB, hret _ _ _ hR⟩
  | panic hv => exact ⟨φ2, F', _, _, _, _, rfl, hφ2, h2, VRel.rn hback _ hv, HB, EB, hpan _ _ _ hR⟩

end
end Go.Ab
