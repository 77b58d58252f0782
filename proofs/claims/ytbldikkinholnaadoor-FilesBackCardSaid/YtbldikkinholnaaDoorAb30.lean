/-
  Loops over iterators, step by step; what a library's contract gives of a function.
-/
import Derived.Test.YtbldikkinholnaaDoorAb29
namespace Go.Ab
open Go.RowKit
set_option linter.unusedVariables false
set_option linter.unusedSimpArgs false
section
variable {P : Program} {d : Dim} {Q : MPost} {st : St} {ms : List Nat} {a b : ACode}

theorem XMA_of_XA {c : ACode} (h : XA P d c (fun e s => Q e s ms) st) : XMA P d c Q st ms := fun c' hc => XM_of_X (h c' hc)
theorem XM_ent {c : Code} {t : St} (h : St.ent d st t) (k : XM P d c Q t ms) : XM P d c Q st ms := by
  intro C φ F a w hd G hm
  obtain ⟨φ', F', h1, h2, G'⟩ := h (C.mk' ms) φ F a w hd G
  exact wpIn_mono (k C φ' F' a w hd G' hm) fun _ _ _ h => h.weak (by rw [hd]; exact h1) h2
theorem XMA_ent {c : ACode} {t : St} (h : St.ent d st t) (k : XMA P d c Q t ms) : XMA P d c Q st ms := fun c' hc => XM_ent h (k c' hc)
theorem XMA_seq_st (h : ∀ R : MPost, (∀ e s m, AMthen (fun s m => XMA P d b Q s m) Q e s m → R e s m) → XMA P d a R st ms) : XMA P d (.seq a b) Q st ms := XMA_seq (h _ (fun _ _ _ h => h))
/-- a region, then what is behind it -/
theorem XMA_seq_reg {os : List AOper} (t : St) (h1 : ∀ (R : APost) (K : St → Prop), (∀ s, St.ent d s t → K s) → runs P R os st K) (h2 : XMA P d b Q t ms) : XMA P d (.seq (.reg os) b) Q st ms :=
  XMA_seq (XMA_of_XA (XA_reg (h1 _ _ (fun s hs => XMA_ent hs h2))))
end

/-- names kept: some slots, and some of what names hold, forgotten -/
theorem St.ent_sub {d : Dim} {s t : St} (h1 : ∀ u, t.env.get u = .any ∨ t.env.get u = s.env.get u) (h2 : ∀ k o, t.σ.get k = some o → s.σ.get k = some o) (h3 : s.nx ≤ t.nx) : St.ent d s t := by
  intro C φ F a w hd G
  refine ⟨φ, F, .refl _ _, .refl _, ⟨G.size, G.defers, fun u => ?_, ⟨G.heap.frz, fun k o ho => G.heap.obj _ _ (h2 _ _ ho), ?_, fun l hl => G.heap.fresh _ (Nat.le_trans h3 hl)⟩, ?_⟩⟩
  · rcases h1 u with e | e
    · rw [e]; exact .frz .any
    · rw [e]; exact G.env u
  · intro k k' o o' b n s' z m t' y g1 g2
    exact G.heap.inj _ _ _ _ _ _ _ _ _ _ _ (h2 _ _ g1) (h2 _ _ g2)
  · exact ⟨G.ext.os, G.ext.tape, G.ext.output, G.ext.size, G.ext.kept, fun k o b base n sz g1 g2 => G.ext.own _ _ _ _ _ _ (h2 _ _ g1) g2, G.ext.F0, G.ext.Fnew⟩
theorem xs_cond_st {P : Program} {d : Dim} {Q : APost} {st : St} {c : Opd} {a b : ACode} {t : Bool} (hd : c.ev st.env = .bool t) (h1 : t = true → xs P d a Q st) (h2 : t = false → xs P d b Q st) : xs P d (.cond c a b) Q st := by
  simp only [xs, hd]; exact ⟨h1, h2⟩

/-- a library's contract of a function that hands back a plain value and leaves all as it was -/
theorem FnOk_kit {P : Program} {f : FuncId} {args : List AV} {σ : Store} {nx : Nat} {v : AV}
    (h : ∀ φ F (vs : List Value) w, VRels φ F vs args → HRel φ F σ nx w → Calls P f vs.toArray w fun e w' => ∃ cv, e = .returned cv ∧ FRel F cv v ∧ Below w.heap.size w w') : FnOk P f args σ nx (fun q s k => q = .ret v ∧ s = σ ∧ k = nx) := by
  intro w φ F vs hv H
  refine (h φ F vs w hv H).mono ?_
  rintro e w' ⟨cv, rfl, hc, hB⟩
  have E : Ext ⟨w, Blocks φ σ, F, ⟨0, 0⟩, []⟩ φ F σ w := ⟨rfl, rfl, rfl, Nat.le_refl _, fun _ _ _ => rfl, fun l o b base n sz h1 h2 => .inl ⟨l, o, base, n, sz, h1, h2⟩, .refl _, fun _ _ h => .inl h⟩
  exact ⟨φ, F, .ret v, σ, nx, .refl _ _, .refl _, H.same (below_same hB), E.below hB, .ret (.frz hc), rfl, rfl, rfl⟩

theorem flat_str : ∀ (xs : List (List UInt8)), List.flatMap AV.cells (List.map AV.str xs) = List.map AV.str xs
  | [] => rfl
  | a :: as => by simp [AV.cells, flat_str as]

/-- an array of texts of one's own, as the machine has it -/
theorem os_texts {φ : Phi} {F : Frz} {w : World} {nx : Nat} {σ : Store} {l : Nat} {xs : List (List UInt8)} (H : HRel φ F σ nx w) (hs : σ.get l = some (.arr 1 (List.map AV.str xs))) {v : Value} (hv : VRel φ F v (.os l 0 xs.length)) :
    (xs = [] ∧ ∃ a c, v = .slice a 0 c) ∨ ∃ b o c, v = .slice (some ⟨b, o, none⟩) xs.length c ∧ xs.length ≤ c ∧ b < w.heap.size ∧ ∀ (j : Nat) (x : List UInt8), xs[j]? = some x → w.cell? ⟨b, o + j, none⟩ = some (.string ⟨x.toArray⟩) := by
  rcases hv.os_inv with ⟨_, h0, A, rfl⟩ | ⟨b, base, n, sz, cap, ad, hφ, hle, had, rfl⟩
  · exact .inl ⟨List.length_eq_zero_iff.1 h0, _, _, rfl⟩
  · by_cases h0 : xs.length = 0
    · exact .inl ⟨List.length_eq_zero_iff.1 h0, _, _, by rw [h0]⟩
    · refine .inr ⟨b, base + 0 * sz, cap, ?_, hle, ?_⟩
      · rw [(had (by omega)).1]
      · cases H.obj _ _ hs with
        | virt e1 e2 => rw [hφ] at e1; cases e1
        | blk e1 e2 e3 e4 =>
          rw [hφ] at e1; cases e1
          obtain ⟨hsz, ty, lo, hi, hb, _⟩ := e3
          rename_i c
          cases e4 with | arr q1 q2 q3 =>
          refine ⟨?_, fun j x hx => ?_⟩
          · rcases Nat.lt_or_ge b w.heap.size with h | h
            · exact h
            · simp [Array.getElem?_eq_none h] at hb
          · have hj : j < xs.length := by
              rcases Nat.lt_or_ge j xs.length with h | h
              · exact h
              · simp [List.getElem?_eq_none h] at hx
            have hf : (List.flatMap AV.cells (List.map AV.str xs))[j]? = some (.str x) := by
              rw [flat_str, List.getElem?_map, hx]; rfl
            obtain ⟨v', h1, h2⟩ := q3.get' hf
            obtain ⟨y, rfl, hy⟩ := h2.str_inv
            have e : y = ⟨x.toArray⟩ := by
              obtain ⟨y⟩ := y
              simp at hy
              subst hy; simp
            subst e
            rw [List.length_map, List.getElem?_take, if_pos (by omega), List.getElem?_drop] at h1
            simp only [World.cell?, hb]
            simpa using h1

end Go.Ab
