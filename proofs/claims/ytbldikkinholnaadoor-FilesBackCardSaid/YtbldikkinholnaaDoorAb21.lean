/-
  A function that hands elements to a loop's body, one by one: what its own state is, while the body's maker keeps a state of its own.
-/
import Derived.Test.YtbldikkinholnaaDoorAb20
import Derived.RangeFuncSeq
import Derived.RangeFuncRecord
import Derived.RangeFuncIn
import Derived.OrdersIn
namespace Go.Ab
set_option linter.unusedVariables false
set_option linter.unusedSimpArgs false

/-- a world that has changed in those blocks alone -/
structure Off (B : Nat → Prop) (w w' : World) : Prop where
  size : w.heap.size ≤ w'.heap.size
  kept : ∀ b, b < w.heap.size → ¬B b → w'.heap[b]? = w.heap[b]?
  os : w'.os = w.os
  tape : w'.tape = w.tape
  output : w'.output = w.output

theorem Off.refl (B : Nat → Prop) (w : World) : Off B w w := ⟨Nat.le_refl _, fun _ _ _ => rfl, rfl, rfl, rfl⟩

/-- another's state, that lies outside -/
structure JS (G : Type) where
  J : G → (Nat → Prop) → World → Prop
  mv : ∀ {g B B' w w'}, J g B w → Off B w w' → (∀ b, B' b → B b ∨ (w.heap.size ≤ b ∧ b < w'.heap.size)) → J g B' w'

structure GJ {G : Type} (S : JS G) (F0 : Frz) (n : Nat) (D : List Deferred) (g : G) (st : St) (φ : Phi) (F : Frz) (B : Nat → Prop) (a : Act) (w : World) : Prop where
  size : a.tmps.size = n
  defers : a.defers = D
  env : ∀ t, VRel φ F (a.tmps.getD t undef) (st.env.get t)
  heap : HRel φ F st.σ st.nx w
  own : ∀ b, Blocks φ st.σ b → B b
  Fle : Frz.le F0 F
  Fnew : ∀ b c, F b = some c → F0 b = some c ∨ B b
  Blt : ∀ b, B b → b < w.heap.size
  j : S.J g B w

inductive EJ : Exit → AExit → Prop
  | normal : EJ .normal .normal
  | exit {id : Nat} : EJ (.exit id) (.exit id)
  | ret : EJ .ret .ret

section
variable {G : Type} {S : JS G} {P : Program} {F0 : Frz} {n : Nat} {D : List Deferred} {Q : AExit → St → G → Prop} {st : St} {g : G}

def LiftJ (S : JS G) (F0 : Frz) (n : Nat) (D : List Deferred) (Q : AExit → St → G → Prop) : Exit → Act → World → Prop := fun e a w =>
  ∃ g φ F B st x, GJ S F0 n D g st φ F B a w ∧ EJ e x ∧ Q x st g

/-- what such code comes to -/
def XJ (P : Program) (S : JS G) (F0 : Frz) (n : Nat) (c : Code) (Q : AExit → St → G → Prop) (st : St) (g : G) : Prop :=
  ∀ D φ F B a w, GJ S F0 n D g st φ F B a w → c.wpIn (fen none) 0 P (LiftJ S F0 n D Q) a w

theorem XJ.mono {c : Code} {Q' : AExit → St → G → Prop} (h : XJ P S F0 n c Q st g) (hq : ∀ e s g, Q e s g → Q' e s g) : XJ P S F0 n c Q' st g :=
  fun D φ F B a w H => wpIn_mono (h D φ F B a w H) fun e a' w' ⟨g, φ', F', B', s, x, h1, h2, h3⟩ => ⟨g, φ', F', B', s, x, h1, h2, hq _ _ _ h3⟩

theorem GJ.gam {φ : Phi} {F : Frz} {B : Nat → Prop} {a : Act} {w : World} (H : GJ S F0 n D g st φ F B a w) (N : Nat) : Gam ⟨w, Blocks φ st.σ, F, ⟨n, N⟩, D⟩ φ F st a w :=
  ⟨H.size, H.defers, H.env, H.heap, ⟨rfl, rfl, rfl, Nat.le_refl _, fun _ _ _ => rfl, fun l o b base n sz h1 h2 => .inl ⟨l, o, base, n, sz, h1, h2⟩, .refl _, fun _ _ h => .inl h⟩⟩

theorem GJ.of_gam {φ φ' : Phi} {F F' : Frz} {B : Nat → Prop} {a a' : Act} {w w' : World} {st' : St} {N : Nat} (H : GJ S F0 n D g st φ F B a w) (G' : Gam ⟨w, Blocks φ st.σ, F, ⟨n, N⟩, D⟩ φ' F' st' a' w') :
    GJ S F0 n D g st' φ' F' (fun b => B b ∨ (w.heap.size ≤ b ∧ b < w'.heap.size)) a' w' := by
  have E := G'.ext
  have hsz := E.size
  simp only at hsz
  refine ⟨G'.size, G'.defers, G'.env, G'.heap, ?_, H.Fle.trans E.F0, fun b c hf => ?_, fun b hb => ?_, ?_⟩
  · rintro b ⟨l, o, base, m, sz, h1, h2⟩
    rcases E.own _ _ _ _ _ _ h1 h2 with h | h
    · exact .inl (H.own b h)
    · refine .inr ⟨h, ?_⟩
      cases G'.heap.obj _ _ h1 with
      | virt e1 e2 => rw [e1] at h2; cases h2
      | blk e1 e2 e3 e4 => rw [e1] at h2; cases h2; exact e3.lt
  · rcases E.Fnew b c hf with h | h | h
    · rcases H.Fnew b c h with h | h
      · exact .inl h
      · exact .inr (.inl h)
    · exact .inr (.inl (H.own b h))
    · exact .inr (.inr ⟨h, G'.heap.frz_lt hf⟩)
  · rcases hb with hb | hb
    · have := H.Blt b hb; omega
    · exact hb.2
  · exact S.mv H.j ⟨hsz, fun b hb hB => E.kept b hb (fun hS => hB (H.own b hS)), E.os, E.tape, E.output⟩ fun b hb => hb

theorem XJ_of_X {c : Code} {N : Nat} (h : X P ⟨n, N⟩ c (fun e s => (match e with | .panic _ => False | _ => True) ∧ Q e s g) st) : XJ P S F0 n c Q st g := by
  intro D φ F B a w H
  refine wpIn_mono (h _ φ F a w none rfl (H.gam N)) ?_
  rintro e a' w' ⟨φ', F', s, x, h1, h2, G', hx, h5, h6⟩
  refine ⟨g, φ', F', _, s, x, H.of_gam G', ?_, h6⟩
  cases hx with
  | normal => exact .normal
  | exit => exact .exit
  | ret => exact .ret
  | panic => exact h5.elim

def EJthen (k : St → G → Prop) (Q : AExit → St → G → Prop) : AExit → St → G → Prop
  | .normal, s, g => k s g
  | e, s, g => Q e s g
def EJblock (id : Nat) (Q : AExit → St → G → Prop) : AExit → St → G → Prop
  | .exit j, s, g => if j = id then Q .normal s g else Q (.exit j) s g
  | e, s, g => Q e s g

theorem XJ_skip (h : Q .normal st g) : XJ P S F0 n .skip Q st g := fun D φ F B a w H => wpIn_skip ⟨g, φ, F, B, st, _, H, .normal, h⟩
theorem XJ_ret (h : Q .ret st g) : XJ P S F0 n .ret Q st g := fun D φ F B a w H => wpIn_ret ⟨g, φ, F, B, st, _, H, .ret, h⟩
theorem XJ_exit {id : Nat} (h : Q (.exit id) st g) : XJ P S F0 n (.exit id) Q st g := fun D φ F B a w H => wpIn_exit ⟨g, φ, F, B, st, _, H, .exit, h⟩

theorem XJ_seq {x y : Code} (h : XJ P S F0 n x (EJthen (XJ P S F0 n y Q) Q) st g) : XJ P S F0 n (.seq x y) Q st g := by
  intro D φ F B a w H
  refine wpIn_seq (wpIn_mono (h D φ F B a w H) ?_)
  rintro e a' w' ⟨g', φ', F', B', s, x', h1, h2, h3⟩
  cases h2 with
  | normal => exact h3 D φ' F' B' a' w' h1
  | exit => exact ⟨g', φ', F', B', s, _, h1, .exit, h3⟩
  | ret => exact ⟨g', φ', F', B', s, _, h1, .ret, h3⟩

theorem XJ_cond {c : Operand} {x y : Code} {y' : Opd} {b : Bool} (hc : compOpd c = some y') (hd : y'.ev st.env = .bool b) (h : XJ P S F0 n (if b then x else y) Q st g) : XJ P S F0 n (.cond c x y) Q st g := by
  intro D φ F B a w H
  have h1 := opd_ok (H.gam 0) hc
  rw [hd] at h1
  exact wpIn_cond h1.bool_inv (h D φ F B a w H)

theorem XJ_block {id : Nat} {c : Code} (h : XJ P S F0 n c (EJblock id Q) st g) : XJ P S F0 n (.block id c) Q st g := by
  intro D φ F B a w H
  refine wpIn_block (wpIn_mono (h D φ F B a w H) ?_)
  rintro e a' w' ⟨g', φ', F', B', s, x', h1, h2, h3⟩
  cases h2 with
  | normal => exact ⟨g', φ', F', B', s, _, h1, .normal, h3⟩
  | exit =>
    simp only [EJblock] at h3
    simp only [Exit.inBlock]
    split at h3
    · rename_i e; rw [if_pos e]; exact ⟨g', φ', F', B', s, _, h1, .normal, h3⟩
    · rename_i e; rw [if_neg e]; exact ⟨g', φ', F', B', s, _, h1, .exit, h3⟩
  | ret => exact ⟨g', φ', F', B', s, _, h1, .ret, h3⟩

theorem XJ_loop {c : Code} (I : Nat → St → G → Prop) {m : Nat} (h0 : I m st g) (round : ∀ m s g, I m s g → XJ P S F0 n c (EJthen (fun s' g' => ∃ m', m' < m ∧ I m' s' g') Q) s g) : XJ P S F0 n (.loop c) Q st g := by
  intro D φ F B a w H
  refine wp_loop_ix (fun m a' w' => ∃ g' φ' F' B' s, GJ S F0 n D g' s φ' F' B' a' w' ∧ I m s g') (m := m) ⟨g, φ, F, B, st, H, h0⟩ ?_
  rintro m a' w' ⟨g', φ', F', B', s, H', hI⟩
  refine wpIn_mono (round m s g' hI D φ' F' B' a' w' H') ?_
  rintro e a'' w'' ⟨g'', φ'', F'', B'', s'', x, h1, h2, h3⟩
  cases h2 with
  | normal => obtain ⟨m', hm, hI'⟩ := h3; exact ⟨m', hm, g'', φ'', F'', B'', s'', h1, hI'⟩
  | exit => exact ⟨g'', φ'', F'', B'', s'', _, h1, .exit, h3⟩
  | ret => exact ⟨g'', φ'', F'', B'', s'', _, h1, .ret, h3⟩

/-! regions with a call of yield -/

/-- what is handed over -/
def yieldArg (o : AOper) (st : St) : Option (Value × List UInt8) := match o.guard, o.op with
  | none, .callv f [x] => match f.ev st.env, x.ev st.env with
    | .raw v, .str s => some (v, s)
    | _, _ => none
  | _, _ => none

/-- a round: of what is handed over, at which state of the other's: what comes back, and its state then -/
abbrev Yld (G : Type) := G → List UInt8 → (Bool → G → Prop) → Prop

def runsJ (P : Program) (l : Nat) (Y : Yld G) : List AOper → St → G → (St → G → Prop) → Prop
  | [], st, g, k => k st g
  | o :: os, st, g, k => match yieldArg o st with
    | some (v, s) => v = .func (.yield l) #[] #[] ∧ Y g s fun b g' => runsJ P l Y os (st.put o.dst (.bool b, st.σ, st.nx)) g' k
    | none => runE P (fun _ _ => False) o st fun r => runsJ P l Y os (st.put o.dst r) g k

/-- the other's word -/
def YOk (P : Program) (S : JS G) (F0 : Frz) (l : Nat) (Y : Yld G) : Prop :=
  ∀ g s K B w (v : ByteArray), Y g s K → S.J g B w → (∀ b, B b → b < w.heap.size) → (∀ b c, F0 b = some c → Row w b c) → v.data.toList = s → YieldAt (fen none) 0 P l #[.string v] w fun e w' =>
    ∃ b g', e = .returned (.bool b) ∧ K b g' ∧ S.J g' B w' ∧ w.heap.size ≤ w'.heap.size ∧ (∀ b, b < w.heap.size → (B b ∨ F0 b ≠ none) → w'.heap[b]? = w.heap[b]?)

theorem wpOp_fen {ro : Option Nat} {ops : Array Oper} {Q' : Exit → Act → World → Prop} (hQ : ¬ LetsOut Q') (hd : ∀ (i : Nat) o c, ops[i]? = some o → o.op ≠ .defer c) {i : Nat} {K : Act → World → Prop} {a : Act} {w : World}
    (h : wpOp P ops Q' i K a w) : wpOpIn (fen ro) 0 P ops Q' i K a w := by
  unfold wpOp at h
  unfold wpOpIn
  split
  · rename_i e; simp only [e] at h; exact h
  · rename_i o e
    simp only [e] at h
    split
    · rename_i hw
      rw [if_pos hw] at h
      rcases h with h | ⟨h, a', w', h'⟩
      · refine ⟨fun _ _ => trivial, ?_⟩
        unfold Oper.wp at h
        rw [Oper.semAt_eq _ _ _ (fun c => hd i o c e)]
        generalize (execOp a.eval o).run P w = r at h ⊢
        unfold Oper.upon at h
        unfold Oper.uponIn
        split at h
        · exact h
        · exact h
        · exact h
        · refine ⟨fun h => (by cases h), callsIn_fen (h.mono fun e w' hh => ?_)⟩
          cases e with
          | returned v => exact hh
          | panicked ch => exact hh
          | outgrown => exact hh
        · exact ⟨fun h => (by cases h), rowsIn_fen (h.mono fun v w' hh => hh)⟩
        · exact h
        · exact h.elim
      · exact absurd ⟨a', w', h'⟩ hQ
    · rename_i hw
      rw [if_neg hw] at h
      exact ⟨fun _ _ => trivial, h⟩

theorem no_letsOutJ : ¬ LetsOut (LiftJ S F0 n D Q) := by
  rintro ⟨a, w, g, φ, F, B, st, x, _, hx, _⟩
  cases hx

theorem yieldArg_inv {o : AOper} {v : Value} {s : List UInt8} (h : yieldArg o st = some (v, s)) : ∃ f x, o.guard = none ∧ o.op = .callv f [x] ∧ f.ev st.env = .raw v ∧ x.ev st.env = .str s := by
  unfold yieldArg at h
  split at h
  · rename_i f x h1 h2
    split at h
    · rename_i v' s' h3 h4
      cases h
      exact ⟨f, x, h1, h2, h3, h4⟩
    · cases h
  · cases h

theorem runsJ_sound {l : Nat} {Y : Yld G} (hY : YOk P S F0 l Y) {ops : Array Oper} (hdef : ∀ (i : Nat) o c, ops[i]? = some o → o.op ≠ .defer c) : ∀ (os : List AOper) (k : Nat) (st : St) (g : G) (φ : Phi) (F : Frz) (B : Nat → Prop) (a : Act) (w : World) (K : St → G → Prop),
    (ops.toList.drop k).mapM (cOper P n ops) = some os → GJ S F0 n D g st φ F B a w → (∀ s g, K s g → Q .normal s g) → runsJ P l Y os st g K →
      wpOpsIn (fen none) 0 P ops (LiftJ S F0 n D Q) (List.range' k os.length) a w := by
  intro os
  induction os with
  | nil =>
    intro k st g φ F B a w K hl H hK h
    exact ⟨g, φ, F, B, st, _, H, .normal, hK _ _ h⟩
  | cons ao os ih =>
    intro k st g φ F B a w K hl H hK h
    have hlt : k < ops.toList.length := by
      rcases Nat.lt_or_ge k ops.toList.length with h | h
      · exact h
      · rw [List.drop_of_length_le h] at hl; simp at hl
    rw [List.drop_eq_getElem_cons hlt] at hl
    simp only [List.mapM_cons, Option.pure_def, Option.bind_eq_bind, Option.bind_eq_some_iff] at hl
    obtain ⟨ao', hao, os', hl', hl⟩ := hl
    cases hl
    generalize ho : ops.toList[k] = o at hao
    have ho' : ops[k]? = some o := by
      have : ops.toList[k]? = some o := by rw [List.getElem?_eq_getElem hlt, ho]
      simpa using this
    rw [List.length_cons, List.range'_succ, wpOpsIn_cons]
    simp only [runsJ] at h
    split at h
    · rename_i v s hy
      obtain ⟨rfl, h⟩ := h
      obtain ⟨f, x, hg, hop, hf, hx⟩ := yieldArg_inv hy
      obtain ⟨hcop, hdst, hdn, hguard⟩ := cOper_inv hao
      rw [hop] at hcop
      obtain ⟨cf, as, tys, e, hcf, has⟩ := cStep_callv hcop
      have hwanted : Region.wanted o (yielded ops a.tmps) = true := guard_ok (H.gam 0) rfl hao (by rw [hg]; rfl)
      have h1 := opd_ok (H.gam 0) hcf
      rw [hf] at h1
      have hfv : a.eval cf = .func (.yield l) #[] #[] := by
        generalize a.eval cf = vv at h1
        cases h1 with | frz h1 => cases h1; rfl
      obtain ⟨cx, rfl, hcx⟩ : ∃ cx, as = #[cx] ∧ compOpd cx = some x := by
        have has' : as.toList.mapM compOpd = some [x] := has
        cases hal : as.toList with
        | nil => rw [hal] at has'; simp at has'
        | cons y ys =>
          rw [hal] at has'
          simp only [List.mapM_cons, Option.pure_def, Option.bind_eq_bind, Option.bind_eq_some_iff] at has'
          obtain ⟨y', hy', ys', hys, e⟩ := has'
          cases e
          cases ys with
          | nil => exact ⟨y, Array.toList_inj.1 (by simp [hal]), hy'⟩
          | cons z zs =>
            simp only [List.mapM_cons, Option.pure_def, Option.bind_eq_bind, Option.bind_eq_some_iff] at hys
            obtain ⟨_, _, _, _, e⟩ := hys
            cases e
      have h2 := opd_ok (H.gam 0) hcx
      rw [hx] at h2
      obtain ⟨bs, hbs, hbl⟩ := h2.str_inv
      have hrun : (execOp a.eval o).run P w = (Instr.yield l #[.string bs]).run P w := by
        obtain ⟨dst, op, type, pos, after, guard⟩ := o
        simp only at e
        subst e
        simp [execOp, resolve, hfv, Deferred.ofValue, Sem.run_bind, Sem.run_pure, Result.andThen_ok, invoke, hbs]
      obtain ⟨fn, tmps, assign, body, hyr, hR⟩ := hY g s _ B w bs h H.j H.Blt (fun b c hc => H.heap.frz _ _ (H.Fle _ _ hc)) hbl
      unfold wpOpIn
      rw [ho']
      simp only
      rw [if_pos hwanted]
      refine ⟨fun _ _ => trivial, ?_⟩
      rw [Oper.semAt_eq _ _ _ (fun c => hdef k o c ho'), hrun, hyr, Oper.uponIn_round]
      refine ⟨fun h => (by cases h), hR.mono ?_⟩
      rintro e w' ⟨b, g', rfl, hk, hJ, hsz, hsame⟩
      have hd' : ∀ t, o.dst = some t → t < n := hdn
      refine ih (k + 1) _ g' φ F B _ w' K hl' ?_ hK hk
      rw [hdst]
      refine ⟨?_, ?_, ?_, ⟨fun b c hf => ?_, fun m o hm => ?_, H.heap.inj, H.heap.fresh⟩, H.own, H.Fle, H.Fnew, fun b hb => by have := H.Blt b hb; omega, hJ⟩
      · cases o.dst <;> simp [Act.put, H.size]
      · cases o.dst <;> simp [Act.put, H.defers]
      · have := (H.gam 0).put (v := .bool b) (av := .bool b) (d := o.dst) (.refl _) (.refl _) H.heap (H.gam 0).ext hd' (.frz .bool)
        exact this.env
      · have hlt := H.heap.frz_lt hf
        obtain ⟨ty, fz, hr⟩ := H.heap.frz b c hf
        refine ⟨ty, fz, ?_⟩
        rw [hsame b hlt]
        · exact hr
        · rcases H.Fnew b c hf with h | h
          · exact .inr (by rw [h]; simp)
          · exact .inl h
      · cases H.heap.obj _ _ hm with
        | virt e1 e2 => exact .virt e1 e2
        | blk e1 e2 e3 e4 =>
          refine .blk e1 e2 ?_ e4
          have hlt := e3.lt
          obtain ⟨q1, ty, lo, hi, q2, q3⟩ := e3
          exact ⟨q1, ty, lo, hi, by rw [hsame _ hlt (.inl (H.own _ ⟨_, _, _, _, _, hm, e1⟩))]; exact q2, q3⟩
    · have hsnd := runE_sound (C := ⟨w, Blocks φ st.σ, F, ⟨n, 0⟩, D⟩) (Q := fun _ _ => False) rfl ho' hao (H.gam 0) h
        (next := wpOpsIn (fen none) 0 P ops (LiftJ S F0 n D Q) (List.range' (k + 1) os.length))
        (fun φ' F' r a' w' h1 h2 G' hr => ih (k + 1) _ g φ' F' _ a' w' K hl' (H.of_gam G') hK hr)
      refine wpOp_fen no_letsOutJ hdef (wpOp_mono2 (fun e a' w' hh => ?_) (fun _ _ hh => hh) hsnd)
      obtain ⟨_, _, _, _, _, _, _, _, hh⟩ := hh
      exact hh.elim

theorem XJ_region {l : Nat} {Y : Yld G} (hY : YOk P S F0 l Y) {ops : Array Oper} {id : Nat} {os : List AOper} (hc : ops.toList.mapM (cOper P n ops) = some os) (h : runsJ P l Y os st g (Q .normal)) : XJ P S F0 n (.region id ops false) Q st g := by
  intro D φ F B a w H
  refine wpIn_region ?_
  have hl : os.length = ops.size := by simpa using mapM_len _ _ hc
  have := runsJ_sound (D := D) (Q := Q) hY (cOpers_nodefer hc) os 0 st g φ F B a w (Q .normal) (by simpa using hc) H (fun _ _ h => h) h
  rw [hl, ← List.range_eq_range'] at this
  exact this

end
end Go.Ab
