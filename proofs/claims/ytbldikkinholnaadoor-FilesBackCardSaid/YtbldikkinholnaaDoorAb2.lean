/-
  The abstract store, the state of an activation, and how both stand to the machine's.
-/
import Derived.Test.YtbldikkinholnaaDoorAb1
namespace Go.Ab

inductive Obj where
  | var (cs : List AV)
  | arr (sz : Nat) (es : List AV)
  deriving Inhabited

/-- names with what they hold -/
abbrev Store := List (Nat × Obj)
def Store.get : Store → Nat → Option Obj
  | [], _ => none
  | (k, o) :: r, l => if k = l then some o else Store.get r l
def Store.set : Store → Nat → Obj → Store
  | [], _, _ => []
  | (k, o) :: r, l, x => if k = l then (k, x) :: r else (k, o) :: Store.set r l x
def Store.del : Store → Nat → Store
  | [], _ => []
  | (k, o) :: r, l => if k = l then Store.del r l else (k, o) :: Store.del r l

abbrev Env := List (Nat × AV)
def Env.get : Env → Nat → AV
  | [], _ => .any
  | (k, v) :: r, t => if k = t then v else Env.get r t
def Env.put : Env → Nat → AV → Env
  | [], t, v => [(t, v)]
  | (k, x) :: r, t, v => if k = t then (k, v) :: r else (k, x) :: Env.put r t v

theorem Env.get_put (e : Env) (t u : Nat) (v : AV) : (e.put t v).get u = if t = u then v else e.get u := by
  induction e with
  | nil => simp [Env.put, Env.get]
  | cons x r ih =>
    obtain ⟨k, y⟩ := x
    simp only [Env.put]
    by_cases h : k = t
    · subst h; simp [Env.get]; split <;> rfl
    · rw [if_neg h]
      simp only [Env.get, ih]
      by_cases hu : k = u
      · subst hu; simp [Ne.symm h]
      · simp [hu]

theorem Store.get_set (s : Store) (l k : Nat) (o : Obj) : (s.set l o).get k = if l = k then (s.get k).map (fun _ => o) else s.get k := by
  induction s with
  | nil => simp [Store.set, Store.get]
  | cons x r ih =>
    obtain ⟨j, y⟩ := x
    simp only [Store.set]
    by_cases h : j = l
    · subst h; simp [Store.get]; split <;> simp_all
    · rw [if_neg h]
      simp only [Store.get, ih]
      by_cases hu : j = k
      · subst hu; simp [Ne.symm h]
      · simp [hu]

theorem Store.get_del (s : Store) (l k : Nat) : (s.del l).get k = if l = k then none else s.get k := by
  induction s with
  | nil => simp [Store.del, Store.get]
  | cons x r ih =>
    obtain ⟨j, y⟩ := x
    simp only [Store.del]
    by_cases h : j = l
    · subst h
      simp only [if_true, ih]
      by_cases hk : j = k <;> simp [hk, Store.get]
    · rw [if_neg h]
      simp only [Store.get, ih]
      by_cases hu : j = k
      · subst hu; simp [Ne.symm h]
      · simp [hu]

def Env.putd (e : Env) : Option Nat → AV → Env
  | some t, v => e.put t v
  | none, _ => e

structure St where
  env : Env
  σ : Store
  nx : Nat

/-- what a block holds -/
def Row (w : World) (b : Nat) (c : Array Value) : Prop := ∃ ty fz, w.heap[b]? = some (.cells c ty fz)

/-- a block that may be written from a place on -/
def Free (w : World) (b base n : Nat) (c : Array Value) : Prop :=
  c.size = n ∧ ∃ ty lo hi, w.heap[b]? = some (.cells c ty (lo, hi)) ∧ ∀ i, base ≤ i → i < n → ¬(lo ≤ i ∧ i < hi)

inductive OCont (φ : Phi) (F : Frz) (base n sz : Nat) (c : Array Value) : Obj → Prop
  | var {cs : List AV} : base + cs.length ≤ n → VRels φ F ((c.toList.drop base).take cs.length) cs → OCont φ F base n sz c (.var cs)
  | arr {es : List AV} : (∀ e ∈ es, e.cells.length = sz ∧ e ≠ .any) → base + es.length * sz ≤ n →
      VRels φ F ((c.toList.drop base).take (es.length * sz)) (es.flatMap AV.cells) → OCont φ F base n sz c (.arr sz es)

inductive ORel (φ : Phi) (F : Frz) (w : World) (l : Nat) (o : Obj) : Prop
  | virt {sz : Nat} : φ l = some .virt → o = .arr sz [] → ORel φ F w l o
  | blk {b base n sz : Nat} {c : Array Value} : φ l = some (.blk b base n sz) → F b = none → Free w b base n c → OCont φ F base n sz c o → ORel φ F w l o

structure HRel (φ : Phi) (F : Frz) (σ : Store) (nx : Nat) (w : World) : Prop where
  frz : ∀ b c, F b = some c → Row w b c
  obj : ∀ l o, σ.get l = some o → ORel φ F w l o
  inj : ∀ l l' o o' b n s z m t y, σ.get l = some o → σ.get l' = some o' → φ l = some (.blk b n s z) → φ l' = some (.blk b m t y) → l = l'
  fresh : ∀ l, nx ≤ l → φ l = none

/-- how many slots a frame has; how many names its caller knows -/
structure Dim where
  n : Nat
  N : Nat

structure Ctx where
  w0 : World
  S : Nat → Prop
  F0 : Frz
  d : Dim
  D : List Deferred

/-- the world as the call has changed it: only what it may -/
structure Ext (C : Ctx) (φ : Phi) (F : Frz) (σ : Store) (w : World) : Prop where
  os : w.os = C.w0.os
  tape : w.tape = C.w0.tape
  output : w.output = C.w0.output
  size : C.w0.heap.size ≤ w.heap.size
  kept : ∀ b, b < C.w0.heap.size → ¬ C.S b → w.heap[b]? = C.w0.heap[b]?
  own : ∀ l o b base n sz, σ.get l = some o → φ l = some (.blk b base n sz) → C.S b ∨ C.w0.heap.size ≤ b
  F0 : Frz.le C.F0 F
  Fnew : ∀ b c, F b = some c → C.F0 b = some c ∨ C.S b ∨ C.w0.heap.size ≤ b

structure Gam (C : Ctx) (φ : Phi) (F : Frz) (st : St) (a : Act) (w : World) : Prop where
  size : a.tmps.size = C.d.n
  defers : a.defers = C.D
  env : ∀ t, VRel φ F (a.tmps.getD t undef) (st.env.get t)
  heap : HRel φ F st.σ st.nx w
  ext : Ext C φ F st.σ w

/-- an operand -/
inductive Opd where
  | tmp (t : Nat)
  | val (v : AV)

def Opd.ev (e : Env) : Opd → AV
  | .tmp t => e.get t
  | .val v => v

/-- a constant, abstractly -/
def absV : Value → Option AV
  | .bool b => some (.bool b)
  | .int k n => some (.int k n)
  | .string s => some (.str s.data.toList)
  | .pointer none => some .nilp
  | .slice none 0 0 => some (.ls [] true)
  | .nilFunc => some .nilf
  | .nilIface => some .nili
  | _ => none

theorem absV_ok {φ : Phi} {F : Frz} {v : Value} {a : AV} (h : absV v = some a) : VRel φ F v a := by
  unfold absV at h
  split at h <;> first | cases h; refine .frz ?_ | cases h
  · exact .bool
  · exact .int
  · exact .str rfl
  · exact .nilp
  · exact .lsnil (fun _ => rfl)
  · exact .nilf
  · exact .nili

def compOpd : Operand → Option Opd
  | .tmp t => some (.tmp t)
  | .const v => (absV v).map .val
  | .func f => some (.val (.fn f []))
  | .global _ => none

theorem opd_ok {C : Ctx} {φ : Phi} {F : Frz} {st : St} {a : Act} {w : World} (G : Gam C φ F st a w) {x : Operand} {y : Opd} (h : compOpd x = some y) :
    VRel φ F (a.eval x) (y.ev st.env) := by
  cases x with
  | tmp t => cases h; exact G.env t
  | const v =>
    simp only [compOpd, Option.map_eq_some_iff] at h
    obtain ⟨av, h1, rfl⟩ := h
    exact absV_ok h1
  | func f => cases h; exact .fn .nil
  | global g => cases h

/-- the frame's slot written -/
theorem Gam.put {C : Ctx} {φ φ' : Phi} {F F' : Frz} {st : St} {a : Act} {w w' : World} (G : Gam C φ F st a w) (hφ : Phi.le φ φ') (hF : Frz.le F F')
    {σ' : Store} {nx' : Nat} (hh : HRel φ' F' σ' nx' w') (he : Ext C φ' F' σ' w') {v : Value} {av : AV} {d : Option Nat} (hd : ∀ t, d = some t → t < C.d.n) (hv : VRel φ' F' v av) :
    Gam C φ' F' ⟨st.env.putd d av, σ', nx'⟩ (a.put d v) w' := by
  cases d with
  | none =>
    exact ⟨by simpa [Act.put] using G.size, by simpa [Act.put] using G.defers, fun t => (G.env t).mono hφ hF, hh, he⟩
  | some t =>
    refine ⟨by simpa [Act.put] using G.size, by simpa [Act.put] using G.defers, fun u => ?_, hh, he⟩
    simp only [Env.putd, Env.get_put, Act.put]
    have ht : t < a.tmps.size := by rw [G.size]; exact hd t rfl
    by_cases h : t = u
    · subst h
      simp only [if_true]
      have : (a.tmps.setIfInBounds t v).getD t undef = v := by simp [Array.getD, ht]
      rw [this]; exact hv
    · simp only [h, if_false]
      have : (a.tmps.setIfInBounds t v).getD u undef = a.tmps.getD u undef := by
        simp only [Array.getD_eq_getD_getElem?, Array.getElem?_setIfInBounds, if_neg h]
      rw [this]; exact (G.env u).mono hφ hF

end Go.Ab
