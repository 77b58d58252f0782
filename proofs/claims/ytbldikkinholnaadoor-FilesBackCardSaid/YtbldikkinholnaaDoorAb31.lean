/-
  What is read of arguments, as abstract values; what a function's promise gives of its row.
-/
import Derived.Test.YtbldikkinholnaaDoorAb30
import Derived.Carry
import Derived.Deep.Slices
import Derived.ChangeArms
import Derived.ChangeSame
import Derived.OpenShut
import Derived.RowKit
import Derived.ProofKit
namespace Go.Ab
open Go.RowKit Go.ChangeShapes Go.WideShapes Go.ChangeAt
set_option linter.unusedVariables false
set_option linter.unusedSimpArgs false

/-- all that is there, only read -/
def allF (w : World) : Frz := fun b => match w.heap[b]? with
  | some (.cells c _ _) => some c
  | _ => none
theorem allF_some {w : World} {b : Nat} {c : Array Value} (h : allF w b = some c) : Row w b c := by
  unfold allF at h
  split at h
  · rename_i c' ty fz e; cases h; exact ⟨ty, fz, e⟩
  · cases h
theorem HRel_all (w : World) : HRel (fun _ => none) (allF w) [] 0 w :=
  ⟨fun b c h => allF_some h, fun l o h => (by cases h), fun l l' o o' b n s z m t y h => (by cases h), fun _ _ => rfl⟩

theorem FRels.append {F : Frz} {vs ws : List Value} {as bs : List AV} (h : FRels F vs as) (k : FRels F ws bs) : FRels F (vs ++ ws) (as ++ bs) := by
  induction vs generalizing as with
  | nil => cases h; simpa using k
  | cons x vs ih => cases h with | cons h1 h2 => simpa using FRels.cons h1 (ih h2)
theorem FRels.flat {F : Frz} {f : Nat → List Value} {g : Nat → List AV} : ∀ (n : Nat), (∀ i, i < n → FRels F (f i) (g i)) → FRels F ((List.range n).flatMap f) ((List.range n).flatMap g)
  | 0, _ => by simpa using FRels.nil
  | n + 1, h => by
    rw [List.range_succ, List.flatMap_append, List.flatMap_append]
    exact (FRels.flat n (fun i hi => h i (by omega))).append (by simpa using h n (by omega))

theorem take_rows {l : List Value} {sz : Nat} {f : Nat → List Value} : ∀ (n : Nat), (∀ i, i < n → (f i).length = sz ∧ ∀ j, j < sz → l[i * sz + j]? = (f i)[j]?) → l.take (n * sz) = (List.range n).flatMap f
  | 0, _ => by simp
  | n + 1, h => by
    obtain ⟨h1, h2⟩ := h n (by omega)
    rw [List.range_succ, List.flatMap_append, ← take_rows n (fun i hi => h i (by omega)), Nat.succ_mul, List.take_add]
    congr 1
    simp only [List.flatMap_cons, List.flatMap_nil, List.append_nil]
    apply List.ext_getElem?
    intro j
    by_cases hj : j < sz
    · rw [List.getElem?_take, if_pos hj, List.getElem?_drop]; exact h2 j hj
    · rw [List.getElem?_take, if_neg hj, List.getElem?_eq_none (by omega)]

theorem add_none (b o n : Nat) : (Addr.mk b o none).add n = ⟨b, o + n, none⟩ := by
  unfold Addr.add; split
  · rename_i h; subst h; rfl
  · rfl

theorem cells?_get {w : World} {base : Nat} {a : Addr} {n : Nat} {cs : List Value} (h : w.cells? base a n = some cs) : cs.length = n ∧ ∀ j, j < n → w.cell? (a.add j) = cs[j]? := by
  unfold World.cells? at h
  split at h
  · have key : ∀ (l : List Nat) (ys : List Value), l.mapM (fun i => w.cell? (a.add i)) = some ys → ys.length = l.length ∧ ∀ j (hj : j < l.length), w.cell? (a.add l[j]) = ys[j]? := by
      intro l
      induction l with
      | nil => intro ys h; simp at h; subst h; simp
      | cons x xs ih =>
        intro ys h
        simp only [List.mapM_cons, Option.pure_def, Option.bind_eq_bind, Option.bind_eq_some_iff] at h
        obtain ⟨y, hy, ys', h', h⟩ := h
        cases h
        obtain ⟨g1, g2⟩ := ih _ h'
        refine ⟨by simp [g1], fun j hj => ?_⟩
        cases j with
        | zero => simpa using hy
        | succ j => simpa using g2 j (by simpa using hj)
    obtain ⟨g1, g2⟩ := key _ _ h
    refine ⟨by simpa using g1, fun j hj => ?_⟩
    have := g2 j (by simpa using hj)
    simpa using this
  · cases h

section
variable {H : Type} {enc : TypeId × Value → H} {P : Program} {w : World} {base : Nat} {spare : Nat → Bool} {held : Bool}

/-- a slice that is read, as a list -/
theorem read_slice {α : Type} [Inhabited α] {G : α → AV} {n : Nat} [Flat G n] {t e : TypeId} {fuel : Nat} {v : Value} {x : DataW H × List MemPlace} {K : α → DataW H → Prop} (ht : P.underlying t = some (.slice e)) (hn : P.cellsOf e = n) (hpos : 0 < n)
    (each : ∀ fuel cs y, DataW.trod enc P w base spare held fuel e cs = some y → ∃ z : α, FRels (allF w) cs (G z).cells ∧ K z y.1)
    (h : DataW.trod enc P w base spare held fuel t [v] = some x) :
    ∃ l : List α, FRel (allF w) v (.ls (List.map G l) false) ∧ ((x.1 = .nil ∧ l = []) ∨ ∃ es rest, x.1 = .slice es rest ∧ es.length = l.length ∧ ∀ (i : Nat) z d, l[i]? = some z → es[i]? = some d → K z d) := by
  rcases Go.Deep.open_slice ht h with ⟨h1, rfl⟩ | ⟨a, len, cap, m, k, D, Pl, h1, hb, hl, hm, hmm, rfl, hel⟩
  · cases h1
    exact ⟨[], .lsnil (fun e => by cases e), .inl ⟨rfl, rfl⟩⟩
  · cases h1
    have hlm : len ≤ m := by rw [hmm]; split <;> omega
    subst hn
    have hex : ∀ i, ∃ q : List Value × α, i < len → (w.cells? base (a.add (i * P.cellsOf e)) (P.cellsOf e) = some q.1 ∧ FRels (allF w) q.1 (G q.2).cells ∧ K q.2 (D i)) := by
      intro i
      by_cases hi : i < len
      · obtain ⟨cs', g1, g2⟩ := hel i (by omega)
        obtain ⟨z, g3, g4⟩ := each _ _ _ g2
        exact ⟨(cs', z), fun _ => ⟨g1, g3, g4⟩⟩
      · exact ⟨([], default), fun h => absurd h hi⟩
    obtain ⟨q, hq⟩ : ∃ q : Nat → List Value × α, ∀ i, i < len → (w.cells? base (a.add (i * P.cellsOf e)) (P.cellsOf e) = some (q i).1 ∧ FRels (allF w) (q i).1 (G (q i).2).cells ∧ K (q i).2 (D i)) :=
      ⟨fun i => Classical.choose (hex i), fun i => Classical.choose_spec (hex i)⟩
    refine ⟨(List.range len).map fun i => (q i).2, ?_, .inr ⟨_, _, rfl, by simp, ?_⟩⟩
    · rcases Nat.eq_zero_or_pos len with h0 | h0
      · subst h0; exact .lsnil (fun e => by cases e)
      · skip
        -- the row
        obtain ⟨g1, g2⟩ := cells?_get (hq 0 h0).1
        have hc0 := g2 0 hpos
        have hsome : ∃ v0, w.cell? (a.add (0 * P.cellsOf e) |>.add 0) = some v0 := by
          rw [hc0, List.getElem?_eq_getElem (by omega)]; exact ⟨_, rfl⟩
        obtain ⟨v0, hv0⟩ := hsome
        rw [show (a.add (0 * P.cellsOf e)).add 0 = a from by simp [Addr.add]] at hv0
        unfold World.cell? at hv0
        split at hv0
        · rename_i c ty fz hblk
          split at hv0
          · cases hv0
          · rename_i hsp
            have hspot : a.spot = none := by
              cases hs : a.spot with
              | none => rfl
              | some y => simp [hs] at hsp
            obtain ⟨ab, ao, asp⟩ := a
            simp only at hspot hblk
            subst hspot
            have hblk' : w.heap[ab]? = some (.cells c ty fz) := hblk
            have hF : allF w ab = some c := by simp [allF, hblk']
            refine .ls (c := c) (sz := P.cellsOf e) hF (by simp) hl (fun e => by cases e) ?_ ?_
            · intro e' he'
              simp only [List.map_map, List.mem_map] at he'
              obtain ⟨i, _, rfl⟩ := he'
              exact Flat.len (F := G) _
            · have hrow : (c.toList.drop ao).take (len * P.cellsOf e) = (List.range len).flatMap fun i => (q i).1 := by
                refine take_rows len fun i hi => ?_
                obtain ⟨k1, k2⟩ := cells?_get (hq i hi).1
                refine ⟨k1, fun j hj => ?_⟩
                have := k2 j hj
                rw [add_none, add_none] at this
                simp only [World.cell?, hblk'] at this
                rw [List.getElem?_drop, ← this]
                simp [Nat.add_assoc]
              rw [hrow]
              have : (List.map G ((List.range len).map fun i => (q i).2)).flatMap AV.cells = (List.range len).flatMap fun i => (G (q i).2).cells := by
                rw [List.map_map, List.flatMap_map]; rfl
              rw [this]
              exact FRels.flat len fun i hi => (hq i hi).2.1
        · cases hv0
    · intro i z d hz hd
      by_cases hi : i < len
      · simp only [List.getElem?_map, List.getElem?_range hi, Option.map_some, Option.some.injEq] at hz hd
        subst hz hd
        exact (hq i hi).2.2
      · simp [List.getElem?_eq_none (show ((List.range len).map fun i => (q i).2).length ≤ i by simp; omega)] at hz

theorem read_str {t : TypeId} {fuel : Nat} {cs : List Value} {x : DataW H × List MemPlace} {F : Frz} (ht : P.underlying t = some .string) (h : DataW.trod enc P w base spare held fuel t cs = some x) : ∃ s : List UInt8, x.1 = .lit (.string s) ∧ FRels F cs [.str s] := by
  obtain ⟨s, rfl, rfl, _⟩ := DataW.trod_string ht h
  exact ⟨_, rfl, .cons (.str rfl) .nil⟩
theorem read_int {t : TypeId} {k : IntKind} {fuel : Nat} {cs : List Value} {x : DataW H × List MemPlace} {F : Frz} (ht : P.underlying t = some (.int k)) (h : DataW.trod enc P w base spare held fuel t cs = some x) : ∃ n : Int, x.1 = .lit (.int k n) ∧ FRels F cs [.int k n] := by
  obtain ⟨n, rfl, rfl, _⟩ := DataW.trod_int ht h
  exact ⟨_, rfl, .cons .int .nil⟩
theorem read_bool {t : TypeId} {fuel : Nat} {cs : List Value} {x : DataW H × List MemPlace} {F : Frz} (ht : P.underlying t = some .bool) (h : DataW.trod enc P w base spare held fuel t cs = some x) : ∃ b : Bool, x.1 = .lit (.bool b) ∧ FRels F cs [.bool b] := by
  obtain ⟨b, rfl, rfl⟩ := DataW.trod_bool ht h
  exact ⟨_, rfl, .cons .bool .nil⟩

/-- arguments read as they did -/
theorem trodAll_stays (hl : laidOutB P = true) {W W' : World} (hb : Below W.heap.size W W') {sp : Nat → Bool} : ∀ (ts : List TypeId) (vs : List Value) (ds : List (DataW H)) (ps : List MemPlace),
    (∀ t ∈ ts, P.readableRec t = true ∧ t < P.types.size) → DataW.TrodAll enc P W 0 (fun _ => true) true ts vs ds ps → (∀ p ∈ ps, p.block < W.heap.size) → (∀ p ∈ ps, sp p.block = true) → DataW.TrodAll enc P W' 0 sp true ts vs ds ps
  | [], vs, ds, ps, _, h, _, _ => by
    cases vs <;> cases ds <;> simp [DataW.TrodAll] at h ⊢
    exact h
  | t :: ts, vs, ds, ps, ht, h, hlt, hs => by
    cases vs with
    | nil => cases ds <;> simp [DataW.TrodAll] at h
    | cons v vs =>
      cases ds with
      | nil => simp [DataW.TrodAll] at h
      | cons d ds =>
        simp only [DataW.TrodAll] at h ⊢
        obtain ⟨p, q, h1, h2, rfl⟩ := h
        refine ⟨p, q, ?_, ?_, rfl⟩
        · exact WideElems.Trod_stays hl (ht t (by simp)).1 (ht t (by simp)).2 h1 (fun x hx => hb.same (hlt x (by simp [hx]))) (fun x hx => hs x (by simp [hx]))
        · exact trodAll_stays hl hb ts vs ds q (fun t' ht' => ht t' (by simp [ht'])) h2 (fun x hx => hlt x (by simp [hx])) (fun x hx => hs x (by simp [hx]))
end

/-- a law's row, out of what its function promises -/
theorem law_post {H : Type} {enc : TypeId × Value → H} {P : Program} {f : FuncId} {fn : Func} {s : ChangeSpec} {fresh handsOn again : Bool} {tb : TypeId} {avs : List AV} {W : World} {args : Array Value} {ds gs : List (DataW H)} {before : List MemPlace}
    (hl : laidOutB P = true) (hpar : ∀ t ∈ fn.params.toList, P.readableRec t = true ∧ t < P.types.size) (hvars : s.vars = []) (hres : fn.resultTypes = #[tb]) (htb : P.underlying tb = some .bool)
    (hspec : s.fn H (ds ++ gs) = { results := [.lit (.bool true)], args := ds, vars := [] })
    (hW : DataW.Whole enc P fn.params.toList s.vars false W args.toList ds gs before)
    (hv : FRels (allF W) args.toList avs) (hok : FnOk P f avs [] 0 (fun q s k => q = .ret (.bool true) ∧ s = [] ∧ k = 0)) :
    Calls P f args W fun e W' => ∃ v, e = .returned v ∧ s.post enc P fn false fresh handsOn again W args v W' := by
  have key := hok W (fun _ => none) (allF W) args.toList hv.toV (HRel_all W)
  rw [show args.toList.toArray = args from by simp] at key
  refine key.mono ?_
  rintro e W' ⟨φ', F', r, σ', nx', h1, h2, h3, h4, h5, rfl, rfl, rfl⟩
  cases h5 with | ret hr =>
  rename_i v
  have hvb : v = .bool true := hr.bool_inv
  subst hvb
  have hb : Below W.heap.size W W' := ⟨h4.os, h4.tape, h4.output, h4.size, fun b hb => h4.kept b hb (by rintro ⟨l, o, base, n, sz, g1, g2⟩; cases g1)⟩
  refine ⟨_, rfl, ?_⟩
  have hW' := hW
  obtain ⟨p, q, hA, hV, rfl, hfz, hnd⟩ := hW
  have hlt : ∀ x ∈ p ++ q, x.block < W.heap.size := fun x hx => by simpa using hW'.lt x hx
  have hgs : gs = [] ∧ q = [] := by
    rw [hvars] at hV
    cases gs with
    | nil => exact ⟨rfl, hV⟩
    | cons g gs => simp [DataW.TrodVars] at hV
  obtain ⟨rfl, rfl⟩ := hgs
  have hold : ∀ x ∈ p ++ [], (fun b => decide (b < W.heap.size)) x.block = true := fun x hx => by simpa using hlt x hx
  have hres' : ∀ (b : Nat) (sp : Nat → Bool) (hd : Bool), DataW.TrodAll enc P W' b sp hd fn.resultTypes.toList ((Value.bool true).resultList fn.resultTypes.size) (s.fn H (ds ++ [])).results [] := by
    intro b sp hd
    rw [hspec, hres]
    exact ⟨[], [], ⟨1, by simp [DataW.trod, Value.cells, htb]⟩, rfl, rfl⟩
  have hargs' : ∀ sp : Nat → Bool, (∀ x ∈ p ++ [], sp x.block = true) → DataW.TrodAll enc P W' 0 sp true fn.params.toList args.toList (s.fn H (ds ++ [])).args p := by
    intro sp hs
    rw [hspec]
    exact trodAll_stays hl hb _ _ _ _ hpar hA (fun x hx => hlt x (by simp [hx])) (fun x hx => hs x (by simp [hx]))
  have hvars' : ∀ sp : Nat → Bool, DataW.TrodVars enc P W' sp s.vars (s.fn H (ds ++ [])).vars [] := by
    intro sp
    rw [hspec, hvars]; rfl
  refine ⟨ds, [], p ++ [], [], p, [], hW', hres' _ _ _, hargs' _ hold, hvars' _, World.keptBut_mono (fun x hx => ⟨hx, ?_⟩) (hb.frame (· ∈ p ++ [])), fun _ => ?_⟩
  · simpa using hx
  · refine ⟨?_, _, _, ([] ++ p) ++ [], ⟨[] ++ p, [], trodAll_append (hargs' _ (fun _ _ => rfl)) (hres' _ _ _), hvars' _, rfl, ?_, ?_⟩, ?_⟩
    · intro j t r h1 h2
      rw [hres] at h1 h2
      cases j with
      | zero =>
        simp [Value.resultList] at h1 h2
        subst h1; subst h2
        simp [Value.okWide, htb, Cell.okWide, Cell.ok]
      | succ j => simp at h1
    · intro b off hx
      have hx' : MemPlace.cell b off ∈ p ++ [] := by simpa using hx
      rw [hb.frozen (p := ⟨b, off, none⟩) (hlt _ hx')]
      exact hfz b off hx'
    · intro ha
      have := hnd ha
      simpa using this
    · intro x hx _
      simpa using hx

end Go.Ab
