/-
  Operations by what they look at; operations that only look.
-/
import Derived.Test.YtbldikkinholnaaDoorAb14
namespace Go.Ab
set_option linter.unusedVariables false
set_option linter.unusedSimpArgs false

def Opd.slots : Opd → List Nat
  | .tmp t => [t]
  | .val _ => []
def oSlots : Option Opd → List Nat
  | none => []
  | some x => x.slots
def lSlots (l : List Opd) : List Nat := l.flatMap Opd.slots

def AOp.slots : AOp → List Nat
  | .mov x | .box x | .nilck x | .un _ x | .conv _ x | .s2b x | .b2s x | .same x | .mkI _ x | .fa _ x | .fld _ _ _ x | .tas _ _ _ x | .ext x _ | .len x | .lenS x | .load _ _ x => x.slots
  | .pick c a b => c.slots ++ a.slots ++ b.slots
  | .alloc _ => []
  | .build _ ps => ps.flatMap fun p => p.2.2.slots
  | .bslice _ _ _ ps => ps.flatMap fun p => p.2.slots
  | .store _ x y | .bin _ x y | .eqs _ _ x y | .eqb _ x y | .ia _ x y | .idx x y | .app _ x y | .mslice _ _ x y | .mm _ x y => x.slots ++ y.slots
  | .mkF _ cs => lSlots cs
  | .slc _ x lo hi mx => x.slots ++ oSlots lo ++ oSlots hi ++ oSlots mx
  | .slcS x lo hi => x.slots ++ oSlots lo ++ oSlots hi

/-- the environments agree there -/
def Agree (l : List Nat) (e e' : Env) : Prop := ∀ t, t ∈ l → e.get t = e'.get t

theorem Agree.left {l m : List Nat} {e e' : Env} (h : Agree (l ++ m) e e') : Agree l e e' := fun t ht => h t (List.mem_append_left _ ht)
theorem Agree.right {l m : List Nat} {e e' : Env} (h : Agree (l ++ m) e e') : Agree m e e' := fun t ht => h t (List.mem_append_right _ ht)

theorem ev_congr {x : Opd} {e e' : Env} (h : Agree x.slots e e') : x.ev e = x.ev e' := by
  cases x with
  | tmp t => exact h t (by simp [Opd.slots])
  | val v => rfl
theorem oev_congr {x : Option Opd} {e e' : Env} (h : Agree (oSlots x) e e') : (x.map fun y => y.ev e) = x.map fun y => y.ev e' := by
  cases x with
  | none => rfl
  | some x => simp only [Option.map_some]; rw [ev_congr h]
theorem lev_congr {l : List Opd} {e e' : Env} (h : Agree (lSlots l) e e') : (l.map fun y => y.ev e) = l.map fun y => y.ev e' := by
  induction l with
  | nil => rfl
  | cons x l ih =>
    simp only [lSlots, List.flatMap_cons] at h
    simp only [List.map_cons]
    rw [ev_congr h.left, ih h.right]

theorem opF_congr {o : AOp} {e e' : Env} {σ : Store} {nx : Nat} (h : Agree o.slots e e') : opF o e σ nx = opF o e' σ nx := by
  cases o <;> simp only [AOp.slots] at h <;> simp only [opF]
  case build z ps =>
    have : ps.map (fun (x : Nat × Nat × Opd) => match x with | (o, s, x) => (o, s, x.ev e)) = ps.map (fun (x : Nat × Nat × Opd) => match x with | (o, s, x) => (o, s, x.ev e')) := by
      induction ps with
      | nil => rfl
      | cons p ps ih =>
        simp only [List.flatMap_cons] at h
        simp only [List.map_cons]
        rw [ev_congr h.left, ih h.right]
    rw [this]
  case bslice sz z len ps =>
    have : ps.map (fun (x : Nat × Opd) => match x with | (i, x) => (i, x.ev e)) = ps.map (fun (x : Nat × Opd) => match x with | (i, x) => (i, x.ev e')) := by
      induction ps with
      | nil => rfl
      | cons p ps ih =>
        simp only [List.flatMap_cons] at h
        simp only [List.map_cons]
        rw [ev_congr h.left, ih h.right]
    rw [this]
  case pick c a b => rw [ev_congr h.left.left, ev_congr h.left.right, ev_congr h.right]
  case mkF f cs => rw [lev_congr h]
  case slc sz x lo hi mx => rw [ev_congr h.left.left.left, oev_congr h.left.left.right, oev_congr h.left.right, oev_congr h.right]
  case slcS x lo hi => rw [ev_congr h.left.left, oev_congr h.left.right, oev_congr h.right]
  all_goals first
    | rw [ev_congr h]
    | rw [ev_congr h.left, ev_congr h.right]
    | rfl

/-- it looks at slots alone -/
def AOp.indep : AOp → Bool
  | .mov _ | .pick _ _ _ | .build _ _ | .nilck _ | .bin _ _ _ | .eqs _ _ _ _ | .eqb _ _ _ | .un _ _ | .conv _ _ | .same _ | .mkI _ _ | .mkF _ _ | .slcS _ _ _ | .fa _ _ | .idx _ _ | .fld _ _ _ _ | .tas _ _ _ _ | .ext _ _ | .len _ | .lenS _ | .mm _ _ _ => true
  | _ => false
/-- it only looks -/
def AOp.pure : AOp → Bool
  | .load _ _ _ | .ia _ _ _ | .slc _ _ _ _ _ => true
  | o => o.indep

theorem indep_any {o : AOp} (ho : o.indep = true) {e : Env} {σ : Store} {nx : Nat} {r : Res} (h : opF o e σ nx = some r) :
    r.2 = (σ, nx) ∧ ∀ σ' nx', opF o e σ' nx' = some (r.1, σ', nx') := by
  cases o <;> simp only [AOp.indep] at ho <;> first | (cases ho; done) | skip
  all_goals simp only [opF] at h ⊢
  all_goals first
    | (cases h; exact ⟨rfl, fun _ _ => rfl⟩)
    | (simp only [Option.map_eq_some_iff] at h; obtain ⟨v, hv, rfl⟩ := h; exact ⟨rfl, fun _ _ => by rw [hv]; rfl⟩)
    | skip
  all_goals (repeat' (split at h)) <;> first
    | (cases h; done)
    | (cases h; exact ⟨rfl, fun _ _ => by simp_all⟩)
    | (simp only [Option.map_eq_some_iff] at h; obtain ⟨v, hv, rfl⟩ := h; exact ⟨rfl, fun _ _ => by simp_all⟩)

theorem pure_res {o : AOp} (ho : o.pure = true) {e : Env} {σ : Store} {nx : Nat} {r : Res} (h : opF o e σ nx = some r) : r.2 = (σ, nx) := by
  by_cases hi : o.indep = true
  · exact (indep_any hi h).1
  · cases o <;> simp only [AOp.pure] at ho <;> first | (exact absurd ho hi) | skip
    all_goals simp only [opF] at h
    all_goals (repeat' (split at h)) <;> first
      | (cases h; done)
      | (cases h; rfl)
      | (simp only [Option.map_eq_some_iff] at h; obtain ⟨v, hv, rfl⟩ := h; rfl)

def AStep.slots : AStep → List Nat
  | .op o => o.slots
  | .call _ args => lSlots args
  | .callv f args => f.slots ++ lSlots args
  | .panic x => x.slots
  | .nilq _ _ x => x.slots
def AOper.slots (o : AOper) : List Nat := (match o.guard with | some (s, _) => [s] | none => []) ++ o.op.slots

theorem guardF_congr {o : AOper} {e e' : Env} (h : Agree o.slots e e') : guardF e o.guard = guardF e' o.guard := by
  cases hg : o.guard with
  | none => rfl
  | some p =>
    obtain ⟨s, b⟩ := p
    have : e.get s = e'.get s := h s (by simp [AOper.slots, hg])
    simp only [guardF, this]

def AOper.isPure (o : AOper) : Bool := match o.op with | .op x => x.pure | _ => false
def AOper.isIndep (o : AOper) : Bool := match o.op with | .op x => x.indep | _ => false

/-- the value of an operation that only looks -/
def evalP (o : AOper) (st : St) : Option AV :=
  match guardF st.env o.guard with
  | none => none
  | some false => some (.tup [])
  | some true => match o.op with
    | .op x => match opF x st.env st.σ st.nx with
      | some r => some r.1
      | none => none
    | _ => none

theorem evalP_congr {o : AOper} {e e' : Env} {σ : Store} {nx : Nat} (h : Agree o.slots e e') : evalP o ⟨e, σ, nx⟩ = evalP o ⟨e', σ, nx⟩ := by
  have hs : Agree o.op.slots e e' := h.right
  simp only [evalP, guardF_congr h]
  split
  · rfl
  · rfl
  · split
    · rename_i x hx
      rw [hx] at hs
      rw [opF_congr (o := x) hs]
    · rfl

theorem evalP_indep {o : AOper} (ho : o.isIndep = true) {e : Env} {σ σ' : Store} {nx nx' : Nat} {v : AV} (h : evalP o ⟨e, σ, nx⟩ = some v) : evalP o ⟨e, σ', nx'⟩ = some v := by
  simp only [evalP] at h ⊢
  split at h
  · cases h
  · exact h
  · split at h
    · rename_i x hx
      have hx' : x.indep = true := by simpa [AOper.isIndep, hx] using ho
      split at h
      · rename_i r hr
        cases h
        rw [(indep_any hx' hr).2 σ' nx']
      · cases h
    · cases h

end Go.Ab
