/-
  What the seat's laws share: the bound, the readings of a file and of an edit, the witness's world.
-/
import Derived.Test.YtbldikkinholnaaDoorRows
import Derived.WalkKit
import Derived.ProofKit
import Derived.OpenShut
import Derived.Deep.DeepHandedRow
import Derived.Lib.LaidTab
import Derived.Lib.SmallJoins
import Derived.Test.YtbldikkinholnaaDoorAb31
import Derived.Test.YtbldikkinholnaaDoorG1
namespace Go.Proofs
open Go Go.Ab Go.ChangeShapes Go.WideShapes Go.ChangeAt Go.RowKit
namespace YtbldikkinholnaaDoor

theorem own : ownKnob Tryd.prog.godebug = none := by kernel_rfl
theorem cells37 : Tryd.prog.cellsOf 37 = 2 := by kernel_rfl
theorem cells9 : Tryd.prog.cellsOf 9 = 1 := by kernel_rfl
theorem laid_out : laidOutB Tryd.prog = true := by kernel_rfl

theorem one_le {H : Type} (d : DataW H) : 1 ≤ Rows.uptoBulk d := by
  cases d with
  | lit l => cases l <;> simp [Rows.uptoBulk]
  | nil => simp [Rows.uptoBulk]
  | ptr d => simp [Rows.uptoBulk]
  | slice elems spare => simp [Rows.uptoBulk]
  | agg parts => simp [Rows.uptoBulk]
  | iface t d => simp [Rows.uptoBulk]
  | map entries => simp [Rows.uptoBulk]
  | held h => simp [Rows.uptoBulk]

theorem part_le {H : Type} {d : DataW H} {l : List (DataW H)} (h : d ∈ l) : Rows.uptoBulk d ≤ Rows.uptoBulkAll l := by
  induction l with
  | nil => cases h
  | cons x r ih =>
    simp only [Rows.uptoBulkAll]
    cases List.mem_cons.1 h with
    | inl e => subst e; omega
    | inr e => have := ih e; omega

theorem length_le {H : Type} (l : List (DataW H)) : l.length ≤ Rows.uptoBulkAll l := by
  induction l with
  | nil => simp [Rows.uptoBulkAll]
  | cons x r ih => have := one_le x; simp only [Rows.uptoBulkAll, List.length_cons]; omega

theorem bound {H : Type} {l : List (DataW H)} (hk : Rows.uptoSmall H l = true) : Rows.uptoBulkAll l ≤ 1048576 := by
  simpa [Rows.uptoSmall] using hk

section
variable {H : Type} {enc : TypeId × Value → H} {w : World} {base : Nat} {spare : Nat → Bool} {held : Bool}

/-- a slice, a string, a number, a bool is one cell -/
theorem cells_slice {P : Program} {r : Reach} {b : Nat} {t e : TypeId} {v : Value} (ht : P.underlying t = some (.slice e)) (h : Value.okWide P w r b t v) : v.cells.toList = [v] := by
  cases v <;> simp_all [Value.okWide, Value.cells, Cell.okWide, Cell.ok]
theorem cells_string {P : Program} {r : Reach} {b : Nat} {t : TypeId} {v : Value} (ht : P.underlying t = some .string) (h : Value.okWide P w r b t v) : v.cells.toList = [v] := by
  cases v <;> simp_all [Value.okWide, Value.cells, Cell.okWide, Cell.ok]
theorem cells_int {P : Program} {k : IntKind} {r : Reach} {b : Nat} {t : TypeId} {v : Value} (ht : P.underlying t = some (.int k)) (h : Value.okWide P w r b t v) : v.cells.toList = [v] := by
  cases v <;> simp_all [Value.okWide, Value.cells, Cell.okWide, Cell.ok]
theorem cells_bool {P : Program} {r : Reach} {b : Nat} {t : TypeId} {v : Value} (ht : P.underlying t = some .bool) (h : Value.okWide P w r b t v) : v.cells.toList = [v] := by
  cases v <;> simp_all [Value.okWide, Value.cells, Cell.okWide, Cell.ok]

theorem two {α : Type} {l : List α} (h : l.length = 2) : ∃ a b, l = [a, b] := by
  match l, h with
  | [a, b], _ => exact ⟨a, b, rfl⟩

/-- a file -/
theorem read_src (fuel : Nat) (cs : List Value) (y : DataW H × List MemPlace) (h : DataW.trod enc Tryd.prog w base spare held fuel 37 cs = some y) :
    ∃ z : Src, FRels (allF w) cs (Src.av z).cells ∧ y.1 = .agg [.lit (.string z.path), .lit (.string z.text)] := by
  obtain ⟨y0, y1, n, rfl, hl, h0, h1⟩ := trod_struct2 Tryd.underlying37 h
  rw [cells37] at hl
  obtain ⟨a, b, rfl⟩ := two hl
  simp only [cells9, List.drop_zero, List.take_succ_cons, List.take_zero, List.drop_succ_cons] at h0 h1
  obtain ⟨s0, e0, r0⟩ := read_str (F := allF w) Tryd.underlying9 h0
  obtain ⟨s1, e1, r1⟩ := read_str (F := allF w) Tryd.underlying9 h1
  refine ⟨⟨s0, s1⟩, ?_, by simp [e0, e1]⟩
  cases r0 with | cons r0 _ =>
  cases r1 with | cons r1 _ =>
  exact .cons r0 (.cons r1 .nil)

/-- what the bound says of a list of files -/
theorem srcs_small {x : DataW H} {l : List Src} (h : (x = .nil ∧ l = []) ∨ ∃ es rest, x = .slice es rest ∧ es.length = l.length ∧ ∀ (i : Nat) z d, l[i]? = some z → es[i]? = some d → d = .agg [.lit (.string z.path), .lit (.string z.text)]) :
    l.length ≤ Rows.uptoBulk x ∧ ∀ z ∈ l, z.path.length + z.text.length ≤ Rows.uptoBulk x := by
  rcases h with ⟨rfl, rfl⟩ | ⟨es, rest, rfl, hl, he⟩
  · simp [Rows.uptoBulk]
  · simp only [Rows.uptoBulk]
    have := length_le es
    refine ⟨by omega, fun z hz => ?_⟩
    obtain ⟨i, hi, hz⟩ := List.getElem_of_mem hz
    have h1 : i < es.length := by omega
    have h2 := he i z es[i] (by rw [List.getElem?_eq_getElem hi, hz]) (List.getElem?_eq_getElem h1)
    have h3 := part_le (d := es[i]) (List.getElem_mem h1)
    rw [h2] at h3
    simp only [Rows.uptoBulk, Rows.uptoBulkAll] at h3
    omega
end

/-- A WORLD FOR THE WITNESS -/
noncomputable def laidWorld (os : Os) : World :=
  let put (h : Array Obj) (g : Nat) (cs : Array Value) : Array Obj := h.modify g fun
    | .cells _ t frozen => .cells cs t frozen
    | o => o
  let h0 := (World.holding Tryd.prog os ⟨#[], #[], []⟩).heap
  let h1 := put h0 1 (Go.Pinned.utf8FirstZ.map fun (z : Nat) => Value.int .u8 z).toArray
  let h2 := put h1 2 #[.int .u8 128, .int .u8 191, .int .u8 160, .int .u8 191, .int .u8 128, .int .u8 159, .int .u8 144, .int .u8 191, .int .u8 128, .int .u8 143, .int .u8 0, .int .u8 0, .int .u8 0, .int .u8 0, .int .u8 0, .int .u8 0, .int .u8 0, .int .u8 0, .int .u8 0, .int .u8 0, .int .u8 0, .int .u8 0, .int .u8 0, .int .u8 0, .int .u8 0, .int .u8 0, .int .u8 0, .int .u8 0, .int .u8 0, .int .u8 0, .int .u8 0, .int .u8 0]
  { World.holding Tryd.prog os ⟨#[], #[], []⟩ with heap := h2 }
end YtbldikkinholnaaDoor
end Go.Proofs
