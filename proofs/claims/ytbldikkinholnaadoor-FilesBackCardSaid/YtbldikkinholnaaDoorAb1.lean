/-
  Abstract values: what a value of the machine is, with blocks under names of our own and data that is only read by value.
-/
import Derived.Calls
namespace Go.Ab

inductive AV where
  | any
  | bool (b : Bool)
  | int (k : IntKind) (n : Int)
  | str (s : List UInt8)
  | nilp
  | ptr (l off : Nat)
  | pel (l i off : Nat)
  | pf (cs : List AV)
  | agg (cs : List AV)
  | tup (vs : List AV)
  | ls (es : List AV) (full : Bool)
  | os (l off len : Nat)
  | fn (f : FuncId) (cap : List AV)
  | nilf
  | ifc (t : TypeId) (v : AV)
  | nili
  | raw (v : Value)
  deriving Inhabited

def AV.cells : AV → List AV
  | .agg cs => cs
  | v => [v]

inductive Blk where
  | virt
  | blk (b base n sz : Nat)

abbrev Phi := Nat → Option Blk
abbrev Frz := Nat → Option (Array Value)

mutual
inductive FRel (F : Frz) : Value → AV → Prop
  | any {v : Value} : FRel F v .any
  | bool {b : Bool} : FRel F (.bool b) (.bool b)
  | int {k : IntKind} {n : Int} : FRel F (.int k n) (.int k n)
  | str {s : ByteArray} {l : List UInt8} : s.data.toList = l → FRel F (.string s) (.str l)
  | nilp : FRel F (.pointer none) .nilp
  | pf {b off : Nat} {cs : List AV} {c : Array Value} : F b = some c → FRels F ((c.toList.drop off).take cs.length) cs →
      FRel F (.pointer (some ⟨b, off, none⟩)) (.pf cs)
  | agg {xs : Array Value} {cs : List AV} : FRels F xs.toList cs → FRel F (.agg xs) (.agg cs)
  | tup {xs : Array Value} {cs : List AV} : FRels F xs.toList cs → FRel F (.tuple xs) (.tup cs)
  | lsnil {a : Option Addr} {cap : Nat} {fl : Bool} : (fl = true → cap = 0) → FRel F (.slice a 0 cap) (.ls [] fl)
  | ls {b off len cap sz : Nat} {fl : Bool} {es : List AV} {c : Array Value} : F b = some c → es.length = len → len ≤ cap → (fl = true → cap = len) →
      (∀ e ∈ es, e.cells.length = sz) → FRels F ((c.toList.drop off).take (len * sz)) (es.flatMap AV.cells) →
      FRel F (.slice (some ⟨b, off, none⟩) len cap) (.ls es fl)
  | fn {f : FuncId} {xs : Array Value} {cs : List AV} : FRels F xs.toList cs → FRel F (.func (.func f) #[] xs) (.fn f cs)
  | nilf : FRel F .nilFunc .nilf
  | ifc {t : TypeId} {v : Value} {a : AV} : FRel F v a → FRel F (.iface t v) (.ifc t a)
  | nili : FRel F .nilIface .nili
  | raw {f : Fn} {x y : Array Value} : FRel F (.func f x y) (.raw (.func f x y))
inductive FRels (F : Frz) : List Value → List AV → Prop
  | nil : FRels F [] []
  | cons {v : Value} {a : AV} {vs : List Value} {as : List AV} : FRel F v a → FRels F vs as → FRels F (v :: vs) (a :: as)
end

mutual
inductive VRel (φ : Phi) (F : Frz) : Value → AV → Prop
  | frz {v : Value} {a : AV} : FRel F v a → VRel φ F v a
  | ptr {l off b base n sz : Nat} : φ l = some (.blk b base n sz) → VRel φ F (.pointer (some ⟨b, base + off, none⟩)) (.ptr l off)
  | pel {l i off b base n sz : Nat} : φ l = some (.blk b base n sz) → VRel φ F (.pointer (some ⟨b, base + i * sz + off, none⟩)) (.pel l i off)
  | osv {l off : Nat} {a : Option Addr} : φ l = some .virt → VRel φ F (.slice a 0 0) (.os l off 0)
  | os {l off len cap b base n sz : Nat} {ad : Addr} : φ l = some (.blk b base n sz) → len ≤ cap →
      (cap ≠ 0 → ad = ⟨b, base + off * sz, none⟩ ∧ base + off * sz + cap * sz ≤ n) → VRel φ F (.slice (some ad) len cap) (.os l off len)
  | agg {xs : Array Value} {cs : List AV} : VRels φ F xs.toList cs → VRel φ F (.agg xs) (.agg cs)
  | tup {xs : Array Value} {cs : List AV} : VRels φ F xs.toList cs → VRel φ F (.tuple xs) (.tup cs)
  | fn {f : FuncId} {xs : Array Value} {cs : List AV} : VRels φ F xs.toList cs → VRel φ F (.func (.func f) #[] xs) (.fn f cs)
  | ifc {t : TypeId} {v : Value} {a : AV} : VRel φ F v a → VRel φ F (.iface t v) (.ifc t a)
inductive VRels (φ : Phi) (F : Frz) : List Value → List AV → Prop
  | nil : VRels φ F [] []
  | cons {v : Value} {a : AV} {vs : List Value} {as : List AV} : VRel φ F v a → VRels φ F vs as → VRels φ F (v :: vs) (a :: as)
end

def Phi.le (φ φ' : Phi) : Prop := ∀ l b, φ l = some b → φ' l = some b
def Frz.le (F F' : Frz) : Prop := ∀ b c, F b = some c → F' b = some c
theorem Phi.le.refl (φ : Phi) : Phi.le φ φ := fun _ _ h => h
theorem Frz.le.refl (F : Frz) : Frz.le F F := fun _ _ h => h
theorem Phi.le.trans {a b c : Phi} (h : Phi.le a b) (k : Phi.le b c) : Phi.le a c := fun _ _ e => k _ _ (h _ _ e)
theorem Frz.le.trans {a b c : Frz} (h : Frz.le a b) (k : Frz.le b c) : Frz.le a c := fun _ _ e => k _ _ (h _ _ e)

theorem FRel.mono {F F' : Frz} (hF : Frz.le F F') {v : Value} {a : AV} (h : FRel F v a) : FRel F' v a := by
  refine FRel.rec (motive_1 := fun v a _ => FRel F' v a) (motive_2 := fun vs as _ => FRels F' vs as)
    ?_ ?_ ?_ ?_ ?_ ?_ ?_ ?_ ?_ ?_ ?_ ?_ ?_ ?_ ?_ ?_ ?_ h
  · exact .any
  · exact .bool
  · exact .int
  · exact fun h => .str h
  · exact .nilp
  · exact fun h _ ih => .pf (hF _ _ h) ih
  · exact fun _ ih => .agg ih
  · exact fun _ ih => .tup ih
  · exact fun h => .lsnil h
  · exact fun h h1 h2 h3 h4 _ ih => .ls (hF _ _ h) h1 h2 h3 h4 ih
  · exact fun _ ih => .fn ih
  · exact .nilf
  · exact fun _ ih => .ifc ih
  · exact .nili
  · exact .raw
  · exact .nil
  · exact fun _ _ h1 h2 => .cons h1 h2

theorem FRels.mono {F F' : Frz} (hF : Frz.le F F') {vs : List Value} {as : List AV} (h : FRels F vs as) : FRels F' vs as := by
  induction vs generalizing as with
  | nil => cases h; exact .nil
  | cons v vs ih => cases h with | cons h1 h2 => exact .cons (h1.mono hF) (ih h2)

theorem VRel.mono {φ φ' : Phi} {F F' : Frz} (hφ : Phi.le φ φ') (hF : Frz.le F F') {v : Value} {a : AV} (h : VRel φ F v a) : VRel φ' F' v a := by
  refine VRel.rec (motive_1 := fun v a _ => VRel φ' F' v a) (motive_2 := fun vs as _ => VRels φ' F' vs as)
    ?_ ?_ ?_ ?_ ?_ ?_ ?_ ?_ ?_ ?_ ?_ h
  · exact fun h => .frz (h.mono hF)
  · exact fun h => .ptr (hφ _ _ h)
  · exact fun h => .pel (hφ _ _ h)
  · exact fun h => .osv (hφ _ _ h)
  · exact fun h h1 h2 => .os (hφ _ _ h) h1 h2
  · exact fun _ ih => .agg ih
  · exact fun _ ih => .tup ih
  · exact fun _ ih => .fn ih
  · exact fun _ ih => .ifc ih
  · exact .nil
  · exact fun _ _ h1 h2 => .cons h1 h2

theorem VRels.mono {φ φ' : Phi} {F F' : Frz} (hφ : Phi.le φ φ') (hF : Frz.le F F') {vs : List Value} {as : List AV} (h : VRels φ F vs as) : VRels φ' F' vs as := by
  induction vs generalizing as with
  | nil => cases h; exact .nil
  | cons v vs ih => cases h with | cons h1 h2 => exact .cons (h1.mono hφ hF) (ih h2)

theorem FRels.length {F : Frz} {vs : List Value} {as : List AV} (h : FRels F vs as) : vs.length = as.length := by
  induction vs generalizing as with
  | nil => cases h; rfl
  | cons v vs ih => cases h with | cons h1 h2 => simp [ih h2]

theorem VRels.length {φ : Phi} {F : Frz} {vs : List Value} {as : List AV} (h : VRels φ F vs as) : vs.length = as.length := by
  induction vs generalizing as with
  | nil => cases h; rfl
  | cons v vs ih => cases h with | cons h1 h2 => simp [ih h2]

theorem FRels.toV {φ : Phi} {F : Frz} {vs : List Value} {as : List AV} (h : FRels F vs as) : VRels φ F vs as := by
  induction vs generalizing as with
  | nil => cases h; exact .nil
  | cons v vs ih => cases h with | cons h1 h2 => exact .cons (.frz h1) (ih h2)

theorem VRels.get {φ : Phi} {F : Frz} {vs : List Value} {as : List AV} (h : VRels φ F vs as) {i : Nat} {v : Value} (hv : vs[i]? = some v) :
    ∃ a, as[i]? = some a ∧ VRel φ F v a := by
  induction vs generalizing as i with
  | nil => simp at hv
  | cons x vs ih =>
    cases h with | cons h1 h2 =>
    cases i with
    | zero => simp at hv; subst hv; exact ⟨_, by simp, h1⟩
    | succ i => simp at hv; obtain ⟨a, ha, hr⟩ := ih h2 hv; exact ⟨a, by simpa using ha, hr⟩

theorem VRels.get' {φ : Phi} {F : Frz} {vs : List Value} {as : List AV} (h : VRels φ F vs as) {i : Nat} {a : AV} (ha : as[i]? = some a) :
    ∃ v, vs[i]? = some v ∧ VRel φ F v a := by
  induction vs generalizing as i with
  | nil => cases h; simp at ha
  | cons x vs ih =>
    cases h with | cons h1 h2 =>
    cases i with
    | zero => simp at ha; subst ha; exact ⟨_, by simp, h1⟩
    | succ i => simp at ha; obtain ⟨a, ha, hr⟩ := ih h2 ha; exact ⟨a, by simpa using ha, hr⟩

theorem VRels.drop {φ : Phi} {F : Frz} {vs : List Value} {as : List AV} (h : VRels φ F vs as) (n : Nat) : VRels φ F (vs.drop n) (as.drop n) := by
  induction n generalizing vs as with
  | zero => simpa using h
  | succ n ih =>
    cases h with
    | nil => simpa using VRels.nil
    | cons h1 h2 => simpa using ih h2

theorem VRels.take {φ : Phi} {F : Frz} {vs : List Value} {as : List AV} (h : VRels φ F vs as) (n : Nat) : VRels φ F (vs.take n) (as.take n) := by
  induction n generalizing vs as with
  | zero => simpa using VRels.nil
  | succ n ih =>
    cases h with
    | nil => simpa using VRels.nil
    | cons h1 h2 => simpa using VRels.cons h1 (ih h2)

theorem VRels.append {φ : Phi} {F : Frz} {vs ws : List Value} {as bs : List AV} (h : VRels φ F vs as) (k : VRels φ F ws bs) : VRels φ F (vs ++ ws) (as ++ bs) := by
  induction vs generalizing as with
  | nil => cases h; simpa using k
  | cons x vs ih => cases h with | cons h1 h2 => simpa using VRels.cons h1 (ih h2)

theorem FRels.drop {F : Frz} {vs : List Value} {as : List AV} (h : FRels F vs as) (n : Nat) : FRels F (vs.drop n) (as.drop n) := by
  induction n generalizing vs as with
  | zero => simpa using h
  | succ n ih =>
    cases h with
    | nil => simpa using FRels.nil
    | cons h1 h2 => simpa using ih h2

theorem FRels.take {F : Frz} {vs : List Value} {as : List AV} (h : FRels F vs as) (n : Nat) : FRels F (vs.take n) (as.take n) := by
  induction n generalizing vs as with
  | zero => simpa using FRels.nil
  | succ n ih =>
    cases h with
    | nil => simpa using FRels.nil
    | cons h1 h2 => simpa using FRels.cons h1 (ih h2)

/-- what an aggregate's cells are -/
theorem FRel.cells {F : Frz} {v : Value} {a : AV} (h : FRel F v a) (hn : a ≠ .any) : FRels F v.cells.toList a.cells := by
  cases h <;> simp_all [Value.cells, AV.cells] <;> first | exact .cons (by constructor <;> assumption) .nil | skip

theorem VRel.cells {φ : Phi} {F : Frz} {v : Value} {a : AV} (h : VRel φ F v a) (hn : a ≠ .any) : VRels φ F v.cells.toList a.cells := by
  cases h with
  | frz h => exact (h.cells hn).toV
  | agg h => exact h
  | ptr h => exact .cons (.ptr h) .nil
  | pel h => exact .cons (.pel h) .nil
  | osv h => exact .cons (.osv h) .nil
  | os h h1 h2 => exact .cons (.os h h1 h2) .nil
  | tup h => exact .cons (.tup h) .nil
  | fn h => exact .cons (.fn h) .nil
  | ifc h => exact .cons (.ifc h) .nil

end Go.Ab
