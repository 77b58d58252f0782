/-
  FilesMeant returns true and its arguments read afterwards as they read before, where the arguments hold together at most 1048576 values and letters (the second form), the listed tables unicode/utf8.acceptRanges and unicode/utf8.first holding what the program's text (the library's, pinned) lays; the card ties them.
-/
import Derived.Test.YtbldikkinholnaaDoorCards
import Derived.Test.YtbldikkinholnaaDoorTie
import Derived.Test.YtbldikkinholnaaDoorGB
import Derived.Test.YtbldikkinholnaaDoorL2
namespace Go.Proofs.YtbldikkinholnaaDoor
open Go Go.Ab Go.ChangeShapes Go.WideShapes Go.ChangeAt Go.RowKit

theorem fm_contract (H : Type) (enc : TypeId × Value → H) (W : World) (base : Nat) (args : Array Value) (ds gs : List (DataW H)) (before : List MemPlace)
    (hval : ∀ (j : Nat) t v, Tryd.f5.params[j]? = some t → args[j]? = some v → Value.okWide Tryd.prog W .any base t v)
    (hW : DataW.Whole enc Tryd.prog Tryd.f5.params.toList Rows.filesMeantSpec.vars false W args.toList ds gs before) (hk : Rows.uptoSmall H (ds ++ gs) = true) :
    Calls Tryd.prog 5 args W fun e W' => ∃ v, e = .returned v ∧ Rows.filesMeantSpec.post enc Tryd.prog Tryd.f5 false true false false W args v W' := by
  have hW' := hW
  obtain ⟨p, q, hA0, hV, rfl, hfz, hnd⟩ := hW
  have hA : DataW.TrodAll enc Tryd.prog W 0 (fun _ => true) true Tryd.f5.params.toList args.toList ds p := hA0
  have hpar : Tryd.f5.params = #[23, 3, 9, 4] := Tryd.params5
  rw [hpar] at hA hval
  obtain ⟨v0, vs0, d0, ds0, p0, q0, hargs, rfl, rfl, h0, r0⟩ := trodAll_cons hA
  obtain ⟨v1, vs1, d1, ds1, p1, q1, rfl, rfl, rfl, h1, r1⟩ := trodAll_cons r0
  obtain ⟨v2, vs2, d2, ds2, p2, q2, rfl, rfl, rfl, h2, r2⟩ := trodAll_cons r1
  obtain ⟨v3, vs3, d3, ds3, p3, q3, rfl, rfl, rfl, h3, r3⟩ := trodAll_cons r2
  obtain ⟨rfl, rfl, rfl⟩ := trodAll_nil r3
  obtain rfl : args = #[v0, v1, v2, v3] := by cases args; simp_all
  obtain ⟨rfl, rfl⟩ := trodVars_none hV
  obtain ⟨n0, g0⟩ := h0
  obtain ⟨n1, g1⟩ := h1
  obtain ⟨n2, g2⟩ := h2
  obtain ⟨n3, g3⟩ := h3
  rw [cells_slice Tryd.underlying23 (hval 0 23 v0 rfl rfl)] at g0
  rw [cells_int Tryd.underlying3 (hval 1 3 v1 rfl rfl)] at g1
  rw [cells_string Tryd.underlying9 (hval 2 9 v2 rfl rfl)] at g2
  rw [cells_bool Tryd.underlying4 (hval 3 4 v3 rfl rfl)] at g3
  obtain ⟨l, e0, k0⟩ := read_slice (G := Src.av) (K := fun z d => d = .agg [.lit (.string z.path), .lit (.string z.text)]) Tryd.underlying23 cells37 (by decide) (fun fuel cs y h => read_src fuel cs y h) g0
  obtain ⟨a, b1, e1⟩ := read_int (F := allF W) Tryd.underlying3 g1
  obtain ⟨s, b2, e2⟩ := read_str (F := allF W) Tryd.underlying9 g2
  obtain ⟨b, b3, e3⟩ := read_bool (F := allF W) Tryd.underlying4 g3
  have hb := bound hk
  have hs := srcs_small k0
  simp only at b1 b2 b3 hs
  subst b1 b2 b3
  simp only [List.append_nil, Rows.uptoBulkAll, Rows.uptoBulk] at hb
  have hm : filesMeant 2097152 l a s b = some true := meant_true (by omega) (fun x hx => by have := hs.2 x hx; omega) (by omega)
  refine law_post (tb := 4) (avs := [.ls (List.map Src.av l) false, .int .i64 a, .str s, .bool b]) laid_out (by rw [hpar]; decide +kernel) rfl (by rfl) Tryd.underlying4 (by rfl) hW' ?_ (ok_filesMeant hm)
  cases e1 with | cons e1 _ =>
  cases e2 with | cons e2 _ =>
  cases e3 with | cons e3 _ =>
  exact .cons e0 (.cons e1 (.cons e2 (.cons e3 .nil)))

noncomputable abbrev fm_args : Array Value := #[.slice none 0 0, .int .i64 0, .string ⟨#[]⟩, .bool false]
theorem fm_met (os : Os) : laidMet Tryd.prog Rows.filesMeantUptoRow.laid ((laidWorld os).forCall (fun _ _ => 0) ⟨#[], fm_args, []⟩).memory :=
  laidMet_of_run' 8 (by kernel_rfl) (by kernel_rfl)
theorem fm_reads (os : Os) {H : Type} (enc : TypeId × Value → H) : ∃ places, DataW.whole enc Tryd.prog ((laidWorld os).forCall (fun _ _ => 0) ⟨#[], fm_args, []⟩).memory Tryd.f5.params.toList Rows.filesMeantSpec.vars false fm_args.toList 8 = some ([.nil, .lit (.int .i64 0), .lit (.string []), .lit (.bool false)], [], places) :=
  ⟨[], by kernel_rfl⟩

set_option maxRecDepth 100000 in
theorem fm_lifted (os : Os) (started : os.Started) (H : Type) (enc : TypeId × Value → H) (F : Stop.Interp) :
    ReturnsInHanded {} Tryd.checked os 5 .any ((Rows.OpenSpec.upto Rows.filesMeantSpec).preRow enc Tryd.prog Tryd.f5 Rows.filesMeantUptoRow.domain false Rows.filesMeantUptoRow.laid) (((Rows.OpenSpec.upto Rows.filesMeantSpec).at F).post enc Tryd.prog Tryd.f5 false true false false) := by
  obtain ⟨places, hx⟩ := fm_reads os enc
  refine returnsInHanded_of_row (C := Tryd.checked) (s := Rows.OpenSpec.upto Rows.filesMeantSpec) own started (by kernel_rfl) Tryd.func5
    (witness_row_at (enc := enc) (C := Tryd.checked) false (laidWorld os) fm_args rfl (by kernel_rfl) (by kernel_rfl) (by kernel_rfl)
      (OpenSpec.preRow_of_cond 8 hx (by kernel_rfl) (fun k hk => by cases hk; kernel_rfl) (by kernel_rfl) (fm_met os))) ?_
  intro W base args ds gs before hval hW _ hcond _ _ _ _
  exact fm_contract H enc W base args ds gs before hval hW (hcond _ rfl)

theorem fm_said : Rows.FilesMeantUptoSaid :=
  OpenClaim.holds_of_cond 5 Tryd.f5 rfl rfl rfl rfl rfl rfl rfl ⟨rfl, rfl, rfl, rfl, rfl⟩ rfl rfl rfl rfl rfl (by kernel_rfl) Tryd.func5 (by kernel_rfl)
    (of_decide_eq_true (by kernel_rfl)) (by unfold Func.isWrapper; first | (rw [if_pos (by decide +kernel)]; kernel_rfl) | (rw [if_neg (by decide +kernel)]; exact ⟨rfl, rfl⟩))
    (fun os started H enc _ F => by rw [OpenClaim.pre_eq_preRow]; exact fm_lifted os started H enc F)

theorem fm_plain (f : FuncId) (fn : Func) (hf : Tryd.pinned.checked.prog.funcNamed "preamble/prelaw1.FilesMeant" = some f) (hfn : Tryd.pinned.checked.prog.funcs[f]? = some fn) :
    false = Tryd.pinned.checked.prog.looks [] ∧ ∀ (j : Nat) t, fn.params[j]? = some t → Tryd.pinned.checked.prog.wantsStandIn t = false := by
  obtain rfl : f = 5 := Option.some.inj ((show Tryd.prog.funcNamed "preamble/prelaw1.FilesMeant" = some 5 by kernel_rfl).symm.trans hf) |>.symm
  obtain rfl : fn = Tryd.f5 := (Option.some.inj (Tryd.func5.symm.trans hfn)).symm
  refine ⟨by kernel_rfl, fun j t ht => ?_⟩
  have hpar : Tryd.f5.params = #[23, 3, 9, 4] := Tryd.params5
  rw [hpar] at ht
  have : t = 23 ∨ t = 3 ∨ t = 9 ∨ t = 4 := by simpa using Array.mem_of_getElem? ht
  rcases this with rfl | rfl | rfl | rfl
  · exact (show Tryd.prog.wantsStandIn 23 = false by kernel_rfl)
  · exact (show Tryd.prog.wantsStandIn 3 = false by kernel_rfl)
  · exact (show Tryd.prog.wantsStandIn 9 = false by kernel_rfl)
  · exact (show Tryd.prog.wantsStandIn 4 = false by kernel_rfl)

/-- THE SECOND FORM's CARD -/
theorem filesMeantUpto_holds : Rows.FilesMeantUptoCardSaid :=
  Claim7.holds_tied_plain_at .later [] _ _ _ _ fm_said (fun _ h => by cases h) (by kernel_rfl) (fun _ h => by cases h) filesMeantUpto_row_tie rfl ⟨rfl, rfl⟩ (by kernel_rfl) rfl fm_plain (by kernel_rfl)
#print axioms filesMeantUpto_holds
end Go.Proofs.YtbldikkinholnaaDoor
