/-
  The machine's loads, stores and new rows over a row of cells.
-/
import Derived.Test.YtbldikkinholnaaDoorAb3
import Derived.Laws.Sem
namespace Go.Ab

theorem run_underlying {P : Program} {w : World} {t : TypeId} {d : TypeDesc} (h : P.underlying t = some d) : (underlying t).run P w = .ok d w := by
  simp [underlying, h]
theorem run_typeInfo {P : Program} {w : World} {t : TypeId} {i : TypeInfo} (h : P.info? t = some i) : (typeInfo t).run P w = .ok i w := by
  simp [typeInfo, h]
theorem run_sizeOf {P : Program} {w : World} {t : TypeId} {i : TypeInfo} (h : P.info? t = some i) : (sizeOf t).run P w = .ok i.size w := by
  simp [sizeOf, run_typeInfo h]
theorem run_zeroValue {P : Program} {w : World} {t : TypeId} {i : TypeInfo} {z : Value} (h : P.info? t = some i) (hz : i.zero = some z) : (zeroValue t).run P w = .ok z w := by
  simp [zeroValue, run_typeInfo h, hz]
theorem run_isAgg {P : Program} {w : World} {t : TypeId} {d : TypeDesc} (h : P.underlying t = some d) : (isAgg t).run P w = .ok (isAggD d) w := by
  simp only [isAgg, Sem.run_bind, run_underlying h, Result.andThen_ok]
  cases d <;> rfl

theorem addr_add (b off n : Nat) : (⟨b, off, none⟩ : Addr).add n = ⟨b, off + n, none⟩ := by
  unfold Addr.add
  split
  · next h => subst h; rfl
  · rfl

theorem cell_row {w : World} {b : Nat} {c : Array Value} (h : Row w b c) (i : Nat) : w.cell? ⟨b, i, none⟩ = c[i]? := by
  obtain ⟨ty, fz, h⟩ := h
  simp [World.cell?, h]

theorem run_loadCellsFrom {P : Program} {w : World} {b : Nat} {c : Array Value} (h : Row w b c) (off : Nat) :
    ∀ (n i : Nat) (acc : Array Value), off + i + n ≤ c.size →
      ∃ r, (loadCellsFrom ⟨b, off, none⟩ i n acc).run P w = .ok r w ∧ r.toList = acc.toList ++ (c.toList.drop (off + i)).take n := by
  intro n
  induction n with
  | zero => intro i acc _; exact ⟨acc, by simp [loadCellsFrom], by simp⟩
  | succ n ih =>
    intro i acc hle
    have hc : w.cell? ⟨b, off + i, none⟩ = some c[off + i] := by
      rw [cell_row h]; exact Array.getElem?_eq_getElem (by omega)
    obtain ⟨r, hr, hl⟩ := ih (i + 1) (acc.push c[off + i]) (by omega)
    refine ⟨r, ?_, ?_⟩
    · simp only [loadCellsFrom, Sem.run_bind, addr_add, run_load, hc, Result.andThen_ok, hr]
    · rw [hl]
      have hlt : off + i < c.toList.length := by simp; omega
      rw [List.drop_eq_getElem_cons hlt]
      simp [Nat.add_assoc]

theorem run_loadCells {P : Program} {w : World} {b : Nat} {c : Array Value} (h : Row w b c) {off n : Nat} (hle : off + n ≤ c.size) :
    ∃ r, (loadCells ⟨b, off, none⟩ n).run P w = .ok r w ∧ r.toList = (c.toList.drop off).take n := by
  obtain ⟨r, hr, hl⟩ := run_loadCellsFrom (P := P) h off n 0 #[] (by simpa using hle)
  exact ⟨r, hr, by simpa using hl⟩

/-- one block's cells are others now -/
structure Upd (w : World) (b : Nat) (c c' : Array Value) (w' : World) : Prop where
  os : w'.os = w.os
  tape : w'.tape = w.tape
  output : w'.output = w.output
  size : w'.heap.size = w.heap.size
  other : ∀ k, k ≠ b → w'.heap[k]? = w.heap[k]?
  row : ∀ ty fz, w.heap[b]? = some (.cells c ty fz) → w'.heap[b]? = some (.cells c' ty fz)
  csize : c'.size = c.size

theorem run_storeCells {P : Program} {b : Nat} {off : Nat} {ty : TypeId} {lo hi : Nat} :
    ∀ (vs : List Value) (i : Nat) (w : World) (c : Array Value), w.heap[b]? = some (.cells c ty (lo, hi)) → off + i + vs.length ≤ c.size →
      (∀ k, off + i ≤ k → k < c.size → ¬(lo ≤ k ∧ k < hi)) → (∀ v ∈ vs, v.oneCell' = true) →
      ∃ w' c', (storeCells ⟨b, off, none⟩ vs i).run P w = .ok () w' ∧ Upd w b c c' w' ∧ w'.heap[b]? = some (.cells c' ty (lo, hi)) ∧
        c'.toList = c.toList.take (off + i) ++ vs ++ c.toList.drop (off + i + vs.length) := by
  intro vs
  induction vs with
  | nil =>
    intro i w c h _ _ _
    exact ⟨w, c, by simp [storeCells], ⟨rfl, rfl, rfl, rfl, fun _ _ => rfl, fun _ _ e => e, rfl⟩, h, by simp⟩
  | cons v vs ih =>
    intro i w c h hle hf ho
    simp only [List.length_cons] at hle
    have hc : w.cell? ⟨b, off + i, none⟩ = some c[off + i] := by
      rw [cell_row ⟨ty, (lo, hi), h⟩]; exact Array.getElem?_eq_getElem (by omega)
    have hfz : w.frozen? ⟨b, off + i, none⟩ = false := by
      have := hf (off + i) (Nat.le_refl _) (by omega)
      simp only [World.frozen?, h]
      simpa using this
    have hset : (w.setCell ⟨b, off + i, none⟩ v).heap[b]? = some (.cells (c.setIfInBounds (off + i) v) ty (lo, hi)) := by
      simp [World.setCell, Array.getElem?_modify, h]
    obtain ⟨w', c', hr, hu, hrow, hl⟩ := ih (i + 1) (w.setCell ⟨b, off + i, none⟩ v) (c.setIfInBounds (off + i) v) hset
      (by simp; omega) (fun k h1 h2 => hf k (by omega) (by simpa using h2)) (fun x hx => ho x (List.mem_cons_of_mem _ hx))
    refine ⟨w', c', ?_, ?_, hrow, ?_⟩
    · simp only [storeCells, Sem.run_bind, addr_add]
      rw [run_store P w _ v _ (ho v (List.mem_cons_self ..))]
      simp only [hc, hfz, Bool.false_eq_true, if_false, Result.andThen_ok]
      exact hr
    · refine ⟨hu.os, hu.tape, hu.output, ?_, ?_, ?_, by simpa using hu.csize⟩
      · rw [hu.size]; simp [World.setCell]
      · intro k hk
        rw [hu.other k hk]
        simp only [World.setCell, Array.getElem?_modify]
        rw [if_neg (Ne.symm hk)]
      · intro ty' fz' e
        rw [h] at e
        cases e
        exact hrow
    · rw [hl]
      have hlt : off + i < c.toList.length := by simp; omega
      rw [show off + (i + 1) = off + i + 1 from by omega]
      simp only [Array.toList_setIfInBounds]
      rw [List.take_add_one, List.take_set_of_le (Nat.le_refl _)]
      simp only [List.getElem?_set_self hlt, Option.toList_some]
      rw [show (v :: vs).length = vs.length + 1 from rfl, List.drop_set_of_lt (by omega)]
      simp [Nat.add_assoc, Nat.add_comm, Nat.add_left_comm]

theorem run_newRow {P : Program} {w : World} {t : TypeId} {c : Array Value} :
    (newRow t c).run P w = .ok ⟨w.heap.size, 0, none⟩ { w with heap := w.heap.push (.cells c t) } := by
  simp [newRow]

end Go.Ab
