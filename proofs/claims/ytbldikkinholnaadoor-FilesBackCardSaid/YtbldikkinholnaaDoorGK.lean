/-
  FilesBack returns true and its arguments read afterwards as they read before, for every input (the first form), the listed tables unicode/utf8.acceptRanges and unicode/utf8.first holding what the program's text (the library's, pinned) lays; the card ties them.
-/
import Derived.Test.YtbldikkinholnaaDoorCards
import Derived.Test.YtbldikkinholnaaDoorTie
import Derived.Test.YtbldikkinholnaaDoorGB
import Derived.Lib.SmallJoins
import Derived.Test.YtbldikkinholnaaDoorL3
namespace Go.Proofs.YtbldikkinholnaaDoor
open Go Go.Joins Go.Ab Go.ChangeShapes Go.WideShapes Go.ChangeAt Go.RowKit

theorem cells27 : Tryd.prog.cellsOf 27 = 4 := by kernel_rfl
theorem fb_contract (H : Type) (enc : TypeId × Value → H) (W : World) (base : Nat) (args : Array Value) (ds gs : List (DataW H)) (before : List MemPlace)
    (hval : ∀ (j : Nat) t v, Tryd.f4.params[j]? = some t → args[j]? = some v → Value.okWide Tryd.prog W .any base t v)
    (hW : DataW.Whole enc Tryd.prog Tryd.f4.params.toList Rows.filesBackSpec.vars false W args.toList ds gs before) :
    Calls Tryd.prog 4 args W fun e W' => ∃ v, e = .returned v ∧ Rows.filesBackSpec.post enc Tryd.prog Tryd.f4 false true false false W args v W' := by
  have hW' := hW
  obtain ⟨p, q, hA0, hV, rfl, hfz, hnd⟩ := hW
  have hA : DataW.TrodAll enc Tryd.prog W 0 (fun _ => true) true Tryd.f4.params.toList args.toList ds p := hA0
  have hpar : Tryd.f4.params = #[23, 27] := Tryd.params4
  rw [hpar] at hA hval
  obtain ⟨v0, vs0, d0, ds0, p0, q0, hargs, rfl, rfl, h0, r0⟩ := trodAll_cons hA
  obtain ⟨v1, vs1, d1, ds1, p1, q1, rfl, rfl, rfl, h1, r1⟩ := trodAll_cons r0
  obtain ⟨rfl, rfl, rfl⟩ := trodAll_nil r1
  obtain rfl : args = #[v0, v1] := by cases args; simp_all
  obtain ⟨rfl, rfl⟩ := trodVars_none hV
  obtain ⟨n0, g0⟩ := h0
  rw [cells_slice Tryd.underlying23 (hval 0 23 v0 rfl rfl)] at g0
  obtain ⟨l, e0, k0⟩ := read_slice (G := Src.av) (K := fun z d => d = .agg [.lit (.string z.path), .lit (.string z.text)]) Tryd.underlying23 cells37 (by decide) (fun fuel cs y h => read_src fuel cs y h) g0
  obtain ⟨u0, u1, u2, u3, y0, y1, y2, y3, n, rfl, rfl, rfl, t0, t1, t2, t3⟩ := open_agg4 Tryd.underlying27 (by kernel_rfl) cells27 (hval 1 27 v1 rfl rfl) h1
  obtain ⟨a, b1, e1⟩ := read_int (F := allF W) Tryd.underlying3 t0
  obtain ⟨b, b2, e2⟩ := read_int (F := allF W) Tryd.underlying3 t1
  obtain ⟨c, b3, e3⟩ := read_int (F := allF W) Tryd.underlying3 t2
  obtain ⟨s, b4, e4⟩ := read_str (F := allF W) Tryd.underlying9 t3
  refine law_post (tb := 4) (avs := [.ls (List.map Src.av l) false, .agg [.int .i64 a, .int .i64 b, .int .i64 c, .str s]]) laid_out (by rw [hpar]; decide +kernel) rfl (by rfl) Tryd.underlying4 (by rfl) hW' ?_ (ok_filesBack (a2 := ⟨a, b, c, s⟩) (back_true l ⟨a, b, c, s⟩))
  cases e1 with | cons e1 _ =>
  cases e2 with | cons e2 _ =>
  cases e3 with | cons e3 _ =>
  cases e4 with | cons e4 _ =>
  exact .cons e0 (.cons (.agg (.cons e1 (.cons e2 (.cons e3 (.cons e4 .nil))))) .nil)

noncomputable abbrev fb_args : Array Value := #[.slice none 0 0, .agg #[.int .i64 0, .int .i64 0, .int .i64 0, .string ⟨#[]⟩]]
theorem fb_met (os : Os) : laidMet Tryd.prog Rows.filesBackRow.laid ((laidWorld os).forCall (fun _ _ => 0) ⟨#[], fb_args, []⟩).memory :=
  laidMet_of_run' 8 (by kernel_rfl) (by kernel_rfl)
theorem fb_reads (os : Os) {H : Type} (enc : TypeId × Value → H) : ∃ places, DataW.whole enc Tryd.prog ((laidWorld os).forCall (fun _ _ => 0) ⟨#[], fb_args, []⟩).memory Tryd.f4.params.toList Rows.filesBackSpec.vars false fb_args.toList 8 = some ([.nil, .agg [.lit (.int .i64 0), .lit (.int .i64 0), .lit (.int .i64 0), .lit (.string [])]], [], places) :=
  ⟨[], by kernel_rfl⟩

set_option maxRecDepth 100000 in
theorem fb_lifted (os : Os) (started : os.Started) (H : Type) (enc : TypeId × Value → H) (F : Stop.Interp) :
    ReturnsInHanded {} Tryd.checked os 4 .any ((OpenSpec.ofChange Rows.filesBackSpec).preRow enc Tryd.prog Tryd.f4 Rows.filesBackRow.domain false Rows.filesBackRow.laid) (((OpenSpec.ofChange Rows.filesBackSpec).at F).post enc Tryd.prog Tryd.f4 false true false false) := by
  obtain ⟨places, hx⟩ := fb_reads os enc
  refine returnsInHanded_of_row (C := Tryd.checked) (s := OpenSpec.ofChange Rows.filesBackSpec) own started (by kernel_rfl) Tryd.func4
    (witness_row_at (enc := enc) (C := Tryd.checked) false (laidWorld os) fb_args rfl (by kernel_rfl) (by kernel_rfl) (by kernel_rfl)
      (OpenSpec.preRow_of_cond 8 hx (by kernel_rfl) (fun k hk => by cases hk) (by kernel_rfl) (fb_met os))) ?_
  intro W base args ds gs before hval hW _ _ _ _ _ _
  exact fb_contract H enc W base args ds gs before hval hW

theorem fb_said : Rows.FilesBackSaid :=
  OpenClaim.holds_of_cond 4 Tryd.f4 rfl rfl rfl rfl rfl rfl rfl ⟨rfl, rfl, rfl, rfl, rfl⟩ rfl rfl rfl rfl rfl (by kernel_rfl) Tryd.func4 (by kernel_rfl)
    (of_decide_eq_true (by kernel_rfl)) (by unfold Func.isWrapper; first | (rw [if_pos (by decide +kernel)]; kernel_rfl) | (rw [if_neg (by decide +kernel)]; exact ⟨rfl, rfl⟩))
    (fun os started H enc _ F => by rw [OpenClaim.pre_eq_preRow]; exact fb_lifted os started H enc F)

theorem fb_plain (f : FuncId) (fn : Func) (hf : Tryd.pinned.checked.prog.funcNamed "preamble/prelaw1.FilesBack" = some f) (hfn : Tryd.pinned.checked.prog.funcs[f]? = some fn) :
    false = Tryd.pinned.checked.prog.looks [] ∧ ∀ (j : Nat) t, fn.params[j]? = some t → Tryd.pinned.checked.prog.wantsStandIn t = false := by
  obtain rfl : f = 4 := Option.some.inj ((show Tryd.prog.funcNamed "preamble/prelaw1.FilesBack" = some 4 by kernel_rfl).symm.trans hf) |>.symm
  obtain rfl : fn = Tryd.f4 := (Option.some.inj (Tryd.func4.symm.trans hfn)).symm
  refine ⟨by kernel_rfl, fun j t ht => ?_⟩
  have hpar : Tryd.f4.params = #[23, 27] := Tryd.params4
  rw [hpar] at ht
  have : t = 23 ∨ t = 27 := by simpa using Array.mem_of_getElem? ht
  rcases this with rfl | rfl
  · exact (show Tryd.prog.wantsStandIn 23 = false by kernel_rfl)
  · exact (show Tryd.prog.wantsStandIn 27 = false by kernel_rfl)

/-- THE CARD -/
theorem filesBack_holds : Rows.FilesBackCardSaid :=
  Claim7.holds_tied_plain_at .later [] _ _ _ _ fb_said (fun _ h => by cases h) (by kernel_rfl) (fun _ h => by cases h) filesBack_row_tie rfl ⟨rfl, rfl⟩ (by kernel_rfl) rfl fb_plain (by kernel_rfl)
#print axioms filesBack_holds
end Go.Proofs.YtbldikkinholnaaDoor
