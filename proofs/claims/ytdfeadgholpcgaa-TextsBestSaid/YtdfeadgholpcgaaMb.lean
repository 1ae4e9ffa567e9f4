/-
  ABSTRACT WALKS, part 5: the operations that make or write memory ('evalE'). Over any program.
-/
import Derived.Test.YtdfeadgholpcgaaMa
import Derived.Deep.AppendSrc

section
set_option linter.unusedVariables false
set_option linter.unusedSimpArgs false
namespace Go.AW
open Go.RowKit

section
variable {P : Program}

def atomA : AV → Bool
  | .v x => x.oneCell'
  | .agg _ => false
  | .tup _ => false
  | _ => true
/-- A value's cells. -/
def cellsL : AV → Option (List AV)
  | .agg cs => if cs.all atomA = true then some cs else none
  | a => if atomA a = true then some [a] else none

theorem atom_rep {g : G} {a : AV} {y : Value} (h : atomA a = true) (hr : Rep g a y) : y.oneCell' = true := by
  cases a <;> simp only [atomA, Bool.false_eq_true] at h <;> simp only [Rep] at hr
  case v x => subst hr; exact h
  case sl => obtain ⟨_, _, rfl, _⟩ := hr; rfl
  case msl => obtain ⟨_, _, rfl, _⟩ := hr; rfl
  case vec => obtain ⟨_, _, _, _, rfl, _⟩ := hr; rfl
  case mp => obtain ⟨_, _, rfl⟩ := hr; rfl
  case ptr => obtain ⟨_, _, rfl⟩ := hr; rfl
  case eptr => obtain ⟨_, _, rfl, _⟩ := hr; rfl
  case fn => obtain ⟨_, _, rfl, _⟩ := hr; rfl

theorem atoms_rep {g : G} : ∀ {cs : List AV} {ys : List Value}, cs.all atomA = true → RepL g cs ys → ∀ v ∈ ys, v.oneCell' = true
  | [], ys, h, hr, v, hv => by simp only [RepL] at hr; subst hr; cases hv
  | c :: cs, ys, h, hr, v, hv => by
    simp only [RepL] at hr
    obtain ⟨y, r, rfl, h1, h2⟩ := hr
    simp only [List.all_cons, Bool.and_eq_true] at h
    rcases List.mem_cons.1 hv with rfl | hv
    · exact atom_rep h.1 h1
    · exact atoms_rep h.2 h2 v hv

theorem one_cells {y : Value} (h : y.oneCell' = true) : y.cells = #[y] := by
  cases y <;> first | rfl | (simp [Value.oneCell'] at h)

theorem cellsL_rep {g : G} {a : AV} {cs : List AV} {y : Value} (h : cellsL a = some cs) (hr : Rep g a y) : RepL g cs y.cells.toList ∧ cs.all atomA = true := by
  unfold cellsL at h
  split at h
  · rename_i cs'
    split at h
    · rename_i hat
      injection h with h
      subst h
      simp only [Rep] at hr
      obtain ⟨arr, rfl, hr⟩ := hr
      exact ⟨hr, hat⟩
    · cases h
  · split at h
    · rename_i hat
      injection h with h
      subst h
      rw [one_cells (atom_rep hat hr)]
      exact ⟨by simp only [repL_cons]; exact ⟨hr, repL_nil⟩, by simp [hat]⟩
    · cases h

/-- The cells of a type's zero value. -/
def zeroA (P : Program) (t : TypeId) : Option (List AV) := ((P.info? t).bind (·.zero)).map fun z => z.cells.toList.map absC1

theorem absC1s_rep (g : G) : ∀ l : List Value, RepL g (l.map absC1) l
  | [] => repL_nil
  | c :: l => by simp only [List.map_cons, repL_cons]; exact ⟨absC1_rep g c, absC1s_rep g l⟩

theorem zeroA_run {t : TypeId} {zs : List AV} (h : zeroA P t = some zs) (g : G) : ∃ z i, P.info? t = some i ∧ i.zero = some z ∧ RepL g zs z.cells.toList ∧ ∀ w, (zeroValue t).run P w = .ok z w := by
  unfold zeroA at h
  obtain ⟨z, hz, rfl⟩ := Option.map_eq_some_iff.1 h
  obtain ⟨i, hi, hz⟩ := Option.bind_eq_some_iff.1 hz
  exact ⟨z, i, hi, hz, absC1s_rep g _, fun w => by simp [zeroValue, typeInfo, hi, hz]⟩

/-- Parts are laid into cells. -/
def fillA (place : Nat → Option (Nat × Nat)) : List AV → List (Nat × AV) → Option (List AV)
  | cells, [] => some cells
  | cells, (i, v) :: rest =>
    match place i, cellsL v with
    | some (off, size), some vs => if vs.length ≠ size ∨ off + vs.length > cells.length then none else fillA place (setsL cells off vs) rest
    | _, _ => none

theorem foldl_sets : ∀ (vs : List Value) (cells : Array Value) (off k : Nat), ((vs.zipIdx k).foldl (fun (cs : Array Value) (p : Value × Nat) => cs.setIfInBounds (off + p.2) p.1) cells).toList = setsL cells.toList (off + k) vs
  | [], cells, off, k => rfl
  | v :: r, cells, off, k => by
    simp only [List.zipIdx_cons, List.foldl_cons, setsL]
    rw [foldl_sets r _ off (k + 1)]
    simp [Nat.add_assoc]

theorem fillA_run {g : G} {place : Nat → Option (Nat × Nat)} : ∀ (parts : List (Nat × AV)) (ys : List (Nat × Value)) (cells cs : List AV) (arr : Array Value), fillA place cells parts = some cs → RepL g cells arr.toList →
    parts.map (·.1) = ys.map (·.1) → RepL g (parts.map (·.2)) (ys.map (·.2)) → ∃ arr', Instr.fill place arr ys = some arr' ∧ RepL g cs arr'.toList
  | [], ys, cells, cs, arr, h, h1, h2, h3 => by
    cases ys with
    | nil => simp only [fillA, Option.some.injEq] at h; subst h; exact ⟨arr, rfl, h1⟩
    | cons y ys => simp at h2
  | (i, v) :: rest, ys, cells, cs, arr, h, h1, h2, h3 => by
    cases ys with
    | nil => simp at h2
    | cons y ys =>
      obtain ⟨i', y⟩ := y
      simp only [List.map_cons, List.cons.injEq] at h2
      obtain ⟨rfl, h2⟩ := h2
      simp only [List.map_cons, repL_cons] at h3
      simp only [fillA] at h
      split at h
      · rename_i off size vs hp hv
        split at h
        · cases h
        · rename_i hc
          obtain ⟨hr, _⟩ := cellsL_rep hv h3.1
          have hl := repL_length hr
          have hl1 := repL_length h1
          simp only [Array.length_toList] at hl hl1
          have e : (y.cells.zipIdx.foldl (fun (cs : Array Value) (p : Value × Nat) => cs.setIfInBounds (off + p.2) p.1) arr).toList = setsL arr.toList off y.cells.toList := by
            rw [← Array.foldl_toList, Array.toList_zipIdx]
            exact foldl_sets y.cells.toList arr off 0
          obtain ⟨arr', k1, k2⟩ := fillA_run rest ys _ cs _ h (by rw [e]; exact repL_sets off h1 hr) h2 h3.2
          refine ⟨arr', ?_, k2⟩
          unfold Instr.fill
          simp only [hp]
          rw [if_neg (by simp only [Bool.or_eq_true, decide_eq_true_eq]; omega)]
          exact k1
      · cases h

def partsA (ρ : List AV) (ps : Array (Nat × Operand)) : List (Nat × AV) := ps.toList.map fun p => (p.1, ev ρ p.2)

/-- The state behind a new box. -/
def St.addBox (σ : St) (cs : List AV) : St := { σ with nxt := σ.nxt + 1, box := upd σ.box σ.nxt (some cs) }
/-- The state behind a token's step. -/
def St.setTok (σ : St) (t n : Nat) : St := { σ with front := upd σ.front t (some n), q := σ.q && decide (σ.qb ≤ t) }
def St.addTok (σ : St) (n : Nat) : St := { σ with nxt := σ.nxt + 1, front := upd σ.front σ.nxt (some n) }
/-- The state behind a box that has moved on. -/
def St.mvBox (σ : St) (id : Nat) (cs : List AV) : St := { σ with nxt := σ.nxt + 1, box := upd (upd σ.box id none) σ.nxt (some cs), q := σ.q && decide (σ.qb ≤ id) }
def St.addMap (σ : St) (k : IntKind) : St := { σ with nxt := σ.nxt + 1, mp := upd σ.mp σ.nxt (some (k, [])) }
def St.setMap (σ : St) (id : Nat) (k : IntKind) (l : List (Int × AV)) : St := { σ with mp := upd σ.mp id (some (k, l)), q := σ.q && decide (σ.qb ≤ id) }
def St.setBox (σ : St) (id : Nat) (cs : List AV) : St := { σ with box := upd σ.box id (some cs), q := σ.q && decide (σ.qb ≤ id) }

/-- An element type: its cells, its bytes. -/
def elemA (P : Program) (t : TypeId) : Option (TypeId × Nat × Nat) :=
  match P.underlying t with
  | some (.slice e) => match P.info? e, zeroA P e with
    | some i, some zs => if zs.length = i.size ∧ i.size ≠ 0 then some (e, i.size, i.bytes) else none
    | _, _ => none
  | _ => none

/-- What an append appends: how many, which cells. -/
def srcA (P : Program) (tx : TypeId) (sz : Nat) (x : AV) : Option (Nat × List AV) :=
  match P.underlying tx, x with
  | some (.slice _), .sl _ m ds => if ds.length = m * sz ∧ ds.all atomA = true then some (m, ds) else none
  | some .string, .v (.string s) => if sz = 1 then some (s.size, s.data.toList.map fun b => .v (.int .u8 b.toNat)) else none
  | _, _ => none

def appendA (P : Program) (σ : St) (t tx : TypeId) (s x : AV) : Option (AV × St) :=
  match elemA P t, s with
  | some (_, sz, by_), .sl o n cs =>
    match srcA P tx sz x with
    | some (m, ds) =>
      if cs.length = n * sz ∧ (n + m) * by_ ≤ 140737488355328 ∧ n + m ≤ 9223372036854775807 then
        match o with
        | .full => if m = 0 then some (.sl .full n cs, σ) else if σ.mv = true then some (.vec σ.nxt (n + m) sz, σ.addBox (cs ++ ds)) else some (.sl (.own σ.nxt) (n + m) (cs ++ ds), σ.addTok (n + m))
        | .own k => if σ.front k = some n then some (.sl (.own k) (n + m) (cs ++ ds), σ.setTok k (n + m)) else none
        | .raw => none
      else none
    | none => none
  | some (_, sz, by_), .vec id n sz' =>
    match srcA P tx sz x, σ.box id with
    | some (m, ds), some cs =>
      if sz' = sz ∧ cs.length = n * sz ∧ (n + m) * by_ ≤ 140737488355328 ∧ n + m ≤ 9223372036854775807 then some (.vec σ.nxt (n + m) sz, σ.mvBox id (cs ++ ds)) else none
    | _, _ => none
  | _, _ => none

/-- Where a struct's fields lie. -/
def placesA (P : Program) : List Field → Option (List (Nat × Nat))
  | [] => some []
  | f :: r => match szT P f.type, placesA P r with
    | some s, some l => some ((f.offset, s) :: l)
    | _, _ => none

/-- A struct type: its fields' places, its zero value's cells. -/
def structA (P : Program) (t : TypeId) : Option (List (Nat × Nat) × List AV) :=
  match P.underlying t, zeroA P t with
  | some (.struct fs), some zs => (placesA P fs.toList).map fun pl => (pl, zs)
  | _, _ => none
/-- An array type: an element's cells, its zero value's cells. -/
def arrA (P : Program) (t : TypeId) : Option (Nat × List AV) :=
  match P.underlying t, zeroA P t with
  | some (.array _ e), some zs => (szT P e).map fun s => (s, zs)
  | _, _ => none

def evalE (P : Program) (σ : St) (ρ : List AV) : Op → Option (AV × St)
  | .alloc t => (zeroA P t).map fun zs => (.ptr σ.nxt 0, σ.addBox zs)
  | .box t x => (cellsL (ev ρ x)).map fun cs => (.ptr σ.nxt 0, σ.addBox cs)
  | .store t x y => match ev ρ x, cellsL (ev ρ y), szT P t with
    | .ptr id off, some vs, some sz => match σ.box id with
      | some cs => if vs.length = sz ∧ off + sz ≤ cs.length then some (.v undef, σ.setBox id (setsL cs off vs)) else none
      | none => none
    | _, _, _ => none
  | .build t ps => match structA P t with
    | some (pl, zs) => (fillA (fun i => pl[i]?) zs (partsA ρ ps)).map fun cs => (.agg cs, σ)
    | none => match arrA P t with
      | some (s, zs) => (fillA (fun i => some (i * s, s)) zs (partsA ρ ps)).map fun cs => (.agg cs, σ)
      | none => none
  | .buildSlice t len ps => match elemA P t with
    | some (e, sz, _) => match zeroA P e with
      | some zs => if len * sz ≤ 16777216 then
          (fillA (fun i => some (i * sz, sz)) ((List.range (len * sz)).map fun i => zs.getD (i % zs.length) (.v undef)) (partsA ρ ps)).map fun cs => (.sl .full len cs, σ)
        else none
      | none => none
    | none => none
  | .makeSlice t l c => match elemA P t, ev ρ l, ev ρ c with
    | some (e, sz, by_), .v (.int .i64 n), .v (.int .i64 m) => match zeroA P e with
      | some zs => if 0 ≤ n ∧ n ≤ m ∧ by_ * m ≤ 140737488355328 ∧ m ≤ 9223372036854775807 then
          if σ.mv = true then some (.vec σ.nxt n.toNat sz, σ.addBox ((List.range (n.toNat * sz)).map fun i => zs.getD (i % zs.length) (.v undef)))
          else some (.msl σ.nxt 0 n.toNat m.toNat, σ.addBox ((List.range (m.toNat * sz)).map fun i => zs.getD (i % zs.length) (.v undef))) else none
      | none => none
    | _, _, _ => none
  | .convert s d x => match P.underlying s, P.underlying d, ev ρ x with
    | some .string, some (.slice e), .v (.string b) => match P.underlying e with
      | some (.int .u8) => if b.size ≤ 140737488355328 then some (.sl .raw b.size (b.data.toList.map fun b => .v (.int .u8 b.toNat)), σ) else none
      | _ => none
    | _, _, _ => none
  | .makeMap t none => match mapK P t with
    | some (k, _) => some (.mp σ.nxt, σ.addMap k)
    | none => none
  | .mapUpdate t x ix v => match mapK P t, ev ρ x, ev ρ ix with
    | some (k0, _), .mp id, .v (.int k n) => match σ.mp id with
      | some (k1, l) => if k0 = k ∧ k1 = k then some (.v undef, σ.setMap id k (setM l n (ev ρ v))) else none
      | none => none
    | _, _, _ => none
  | .call c => match c.callee, c.argTypes.toList, c.args.toList with
    | .builtin .append, [t, tx], [s, x] => appendA P σ t tx (ev ρ s) (ev ρ x)
    | _, _, _ => none
  | _ => none

theorem structA_some {t : TypeId} {pl : List (Nat × Nat)} {zs : List AV} (h : structA P t = some (pl, zs)) : ∃ fs, P.underlying t = some (.struct fs) ∧ zeroA P t = some zs ∧ placesA P fs.toList = some pl := by
  unfold structA at h
  split at h
  · rename_i fs zs' hu hz
    obtain ⟨pl', hp, e⟩ := Option.map_eq_some_iff.1 h
    injection e with e1 e2
    subst e1 e2
    exact ⟨fs, hu, hz, hp⟩
  · cases h
theorem arrA_some {t : TypeId} {s : Nat} {zs : List AV} (h : arrA P t = some (s, zs)) : ∃ n e, P.underlying t = some (.array n e) ∧ zeroA P t = some zs ∧ szT P e = some s := by
  unfold arrA at h
  split at h
  · rename_i n e zs' hu hz
    obtain ⟨s', hp, e'⟩ := Option.map_eq_some_iff.1 h
    injection e' with e1 e2
    subst e1 e2
    exact ⟨n, e, hu, hz, hp⟩
  · cases h

theorem undef_rep (g : G) : Rep g (.v undef) undef := by simp only [Rep]

theorem pair_inj {α β : Type} {a c : α} {b d : β} (h : some (a, b) = some (c, d)) : a = c ∧ b = d := by
  injection h with h
  injection h with h1 h2
  exact ⟨h1, h2⟩

theorem below_alloc1 (w : World) (o : Obj) : Below w.heap.size w (w.alloc o) := (Below.refl _ _).alloc (Nat.le_refl _) o
theorem heap_alloc_new (w : World) (o : Obj) : (w.alloc o).heap[w.heap.size]? = some o := by show (w.heap.push o)[w.heap.size]? = some o; simp
theorem below_drew1' {B : Nat} {w w' : World} (h : Below B w w') : Below B w w'.drew := ⟨h.os, h.tape, h.output, h.size, h.block⟩

theorem elemA_some {t e : TypeId} {sz by_ : Nat} (h : elemA P t = some (e, sz, by_)) : P.underlying t = some (.slice e) ∧ ∃ i zs, P.info? e = some i ∧ i.size = sz ∧ i.bytes = by_ ∧ zeroA P e = some zs ∧ zs.length = sz ∧ sz ≠ 0 := by
  unfold elemA at h
  split at h
  · rename_i e' hu
    split at h
    · rename_i i zs hi hz
      split at h
      · rename_i hl
        injection h with h
        injection h with h1 h2
        injection h2 with h2 h3
        subst h1 h2 h3
        exact ⟨hu, i, zs, hi, rfl, rfl, hz, hl⟩
      · cases h
    · cases h
  · cases h

theorem newbox_run {σ : St} {g : G} {wE w : World} (hI : Inv σ g wE w) {cs : List AV} {arr : Array Value} (ty : TypeId) (h : RepL g cs arr.toList) :
    ∃ g', g.le g' ∧ Rep g' (.ptr σ.nxt 0) (.pointer (some ⟨w.heap.size, 0, none⟩)) ∧ Inv (σ.addBox cs) g' wE (w.alloc (.cells arr ty (0, 0))) := by
  have hl := repL_length h
  obtain ⟨g', h1, h2, _, h3⟩ := hI.newbox (below_alloc1 w (.cells arr ty (0, 0))) none (Nat.le_refl _) (heap_alloc_new w _) (cs := cs) (by simp at hl; omega) (by rw [hl, List.take_length]; exact h) (fun _ _ e => by cases e)
  exact ⟨g', h1, by simp only [Rep]; exact ⟨_, h2, rfl⟩, h3⟩

theorem newrow_run {σ : St} {g : G} {wE w : World} (hI : Inv σ g wE w) {cs : List AV} {arr : Array Value} (ty : TypeId) (h : RepL g cs arr.toList) :
    ∃ g', g.le g' ∧ RepAt g' cs w.heap.size 0 ∧ Inv σ g' wE (w.alloc (.cells arr ty (0, 0))) := by
  have hl := repL_length h
  obtain ⟨g', h1, h2, _, _, _, _, h3⟩ := hI.newrow (below_alloc1 w (.cells arr ty (0, 0))) (Nat.le_refl _) (heap_alloc_new w _) (cs := cs) (by simp at hl; omega) (by rw [hl, List.take_length]; exact h)
  exact ⟨g', h1, h2, h3⟩

theorem store_run {σ : St} {g : G} {wE w : World} (hI : Inv σ g wE w) {t : TypeId} {id off sz : Nat} {cs vs : List AV} {y z : Value} (hs : szT P t = some sz) (hc : σ.box id = some cs) (hx : Rep g (.ptr id off) y)
    (hv : RepL g vs z.cells.toList) (ha : vs.all atomA = true) (hl : vs.length = sz) (hle : off + sz ≤ cs.length) :
    ∃ w', (Instr.storeAt t y z).run P w = .ok () w' ∧ Inv (σ.setBox id (setsL cs off vs)) g wE w' := by
  simp only [Rep] at hx
  obtain ⟨b, hb, rfl⟩ := hx
  obtain ⟨b0, arr, ty, k1, k2, k0, k3, k4⟩ := hI.box id cs hc
  rw [hb] at k1
  injection k1 with k1
  subst k1
  have hl1 : cs.length ≤ arr.toList.length := by simpa using k0
  have hl2 := repL_length hv
  have hcell : ∀ j, j < z.cells.toList.length → (w.cell? ⟨b, off + j, none⟩).isSome = true := fun j hj => by
    rw [block_cell k2, List.getElem?_eq_getElem (by omega)]
    rfl
  have hfz : ∀ j, j < z.cells.toList.length → w.frozen? ⟨b, off + j, none⟩ = false := fun j hj => by
    simp only [World.frozen?, k2]
    simp
  have hrun := run_storeCells_cells (P := P) b off z.cells.toList 0 w (by simpa using hcell) (by simpa using hfz) (atoms_rep ha hv)
  refine ⟨w.setCells b off z.cells.toList, ?_, hI.setbox hc hb hv (by omega)⟩
  have hsz : z.cells.size = sz := by simp only [Array.length_toList] at hl2; omega
  simp only [Instr.storeAt, Instr.sureAddr, Sem.run_bind, Sem.run_pure, Result.andThen_ok, storeVar, sizeOf_run hs, hsz]
  simpa using hrun

theorem zeros_rep {g : G} {zs : List AV} {arr : Array Value} (h : RepL g zs arr.toList) (k : Nat) (hz : k ≠ 0 → zs.length ≠ 0) :
    RepL g ((List.range k).map fun i => zs.getD (i % zs.length) (.v undef)) ((Array.range k).map fun i => arr[i % arr.size]!).toList := by
  have hl := repL_length h
  simp only [Array.length_toList] at hl
  rw [Array.toList_map, Array.toList_range, hl]
  by_cases hk : k = 0
  · subst hk; simp [RepL]
  have hz' : arr.size ≠ 0 := by rw [← hl]; exact hz hk
  clear hz
  have : ∀ l : List Nat, RepL g (l.map fun i => zs.getD (i % arr.size) (.v undef)) (l.map fun i => arr[i % arr.size]!) := fun l => by
    induction l with
    | nil => exact repL_nil
    | cons i l ih =>
      simp only [List.map_cons, repL_cons]
      refine ⟨?_, ih⟩
      have hi : i % arr.size < arr.size := Nat.mod_lt _ (by omega)
      have e : zs[i % arr.size]? = some (zs[i % arr.size]'(by omega)) := List.getElem?_eq_getElem (by omega)
      obtain ⟨y, hy, hr⟩ := repL_get h _ _ e
      rw [List.getD_eq_getElem?_getD, e, Option.getD_some]
      have hy' : arr[i % arr.size]? = some y := by simpa using hy
      have : arr[i % arr.size]! = y := by
        rw [getElem!_pos arr _ hi]
        rw [Array.getElem?_eq_getElem hi] at hy'
        exact Option.some.inj hy'
      rw [this]
      exact hr
  exact this _

end
end Go.AW
end

section
set_option linter.unusedVariables false
set_option linter.unusedSimpArgs false
namespace Go.AW
open Go.RowKit

section
variable {P : Program}

theorem repAt_append {g : G} : ∀ {cs ds : List AV} {b o : Nat}, RepAt g cs b o → RepAt g ds b (o + cs.length) → RepAt g (cs ++ ds) b o
  | [], ds, b, o, h, k => by simpa using k
  | c :: cs, ds, b, o, h, k => by
    simp only [RepAt, List.cons_append] at h ⊢
    exact ⟨h.1, repAt_append h.2 (by rwa [List.length_cons, show o + (cs.length + 1) = o + 1 + cs.length from by omega] at k)⟩

/-- The cells that a slice has. -/
theorem old_cells {σ : St} {g : G} {wE w : World} (hI : Inv σ g wE w) {o : Own} {n sz : Nat} {cs : List AV} {base : Option Addr} {cap : Nat} (hl : cs.length = n * sz) (h0 : sz ≠ 0)
    (h3 : cs = [] ∨ ∃ b off, base = some ⟨b, off, none⟩ ∧ RepAt g cs b off) :
    ∃ olds : List Value, RepL g cs olds ∧ ∀ w', Below w.heap.size w w' → (Builtin.firstCells sz n (.slice base n cap)).run P w' = .ok olds.toArray w' := by
  rcases h3 with h3 | ⟨b, off, rfl, h3⟩
  · subst h3
    have hn : n = 0 := by
      rcases Nat.eq_zero_or_pos n with h | h
      · exact h
      · have := Nat.mul_pos h (Nat.pos_of_ne_zero h0); simp at hl; omega
    subst hn
    refine ⟨[], repL_nil, fun w' _ => ?_⟩
    cases base with
    | none => rfl
    | some a => simp [Builtin.firstCells, loadCells, loadCellsFrom]
  · obtain ⟨ys, h1, h2⟩ := choose_list (fun i c e => cells_at hI h3 i c e)
    have hyl := repL_length h2
    refine ⟨ys, h2, fun w' hb => ?_⟩
    have := run_loadCells_list (P := P) w' ⟨b, off, none⟩ ys (fun j v e => by rw [Addr.add_mid]; exact h1 j v e w' hb)
    rw [← hyl, hl] at this
    exact this

theorem src_run {σ : St} {g : G} {wE w : World} (hI : Inv σ g wE w) {tx : TypeId} {sz m : Nat} {x : AV} {z : Value} {ds : List AV} (h : srcA P tx sz x = some (m, ds)) (hx : Rep g x z) (h0 : sz ≠ 0) :
    ∃ news, Src P sz tx z m news w ∧ RepL g ds news ∧ ds.length = m * sz ∧ (∀ v ∈ news, v.oneCell' = true) := by
  unfold srcA at h
  split at h
  · rename_i e' o m' ds' hu
    split at h
    · rename_i hc
      obtain ⟨rfl, rfl⟩ := pair_inj h
      simp only [Rep] at hx
      obtain ⟨a, cap, rfl, c1, c2, c3, c4⟩ := hx
      obtain ⟨olds, k1, k2⟩ := old_cells (P := P) (o := o) (cap := cap) hI hc.1 h0 c3
      have hone := atoms_rep hc.2 k1
      refine ⟨olds, ⟨.inl ⟨e', hu⟩, fun w' => rfl, k2 w (Below.refl _ _), k2 w.drew (below_drew1' (Below.refl _ _)), by rw [← repL_length k1]; exact hc.1, hone⟩, k1, hc.1, hone⟩
    · cases h
  · rename_i s hu
    split at h
    · rename_i hs
      obtain ⟨rfl, rfl⟩ := pair_inj h
      subst hs
      simp only [Rep] at hx
      subst hx
      have hsrc := Src.ofString w hu s
      refine ⟨byteCells s, hsrc, ?_, ?_, hsrc.one⟩
      · unfold byteCells
        generalize s.data.toList = l
        induction l with
        | nil => exact repL_nil
        | cons b l ih => simp only [List.map_cons, repL_cons, Rep]; exact ⟨trivial, ih⟩
      · simp
    · cases h
  · cases h

/-- What growing does. -/
theorem append_grow {w : World} {t tx ty e : TypeId} {i : TypeInfo} {zv z : Value} {base : Option Addr} {n cap m : Nat} {cs ds : List AV} {olds news : List Value} (hu : P.underlying t = some (.slice e)) (hi : P.info? e = some i) (hzz : i.zero = some zv) (hzc : zv.cells.size = i.size)
    (ho2 : (Builtin.firstCells i.size n (.slice base n cap)).run P w.drew = .ok olds.toArray w.drew) (hS : Src P i.size tx z m news w) (hol : cs.length = olds.length) (hnl : ds.length = news.length) (hcl : cs.length = n * i.size) (hdl : ds.length = m * i.size)
    (c1 : n ≤ cap) (hbound : (n + m) * i.bytes ≤ 140737488355328) (hmax : n + m ≤ 9223372036854775807) (hg : cap < n + m) :
    ∃ arr : Array Value, ∃ newCap, (Builtin.append_ #[t, tx] ty #[.slice base n cap, z]).run P w = .ok (.slice (some ⟨w.heap.size, 0, none⟩) (n + m) newCap) (w.drew.alloc (.cells arr e)) ∧
      n + m ≤ newCap ∧ newCap ≤ maxLen ∧ arr.size = newCap * i.size ∧ arr.toList.take (cs ++ ds).length = olds ++ news := by
  refine ⟨_, _, run_append_grow_src w t tx ty e i zv hu hi hzz base n cap olds ho2 z m news hS hg (by omega) (growslice_fits hg hbound), grownCap_ge _ _ _ _, grownCap_le_maxLen _ _ _ _ (by simp only [maxLen]; omega), ?_, ?_⟩
  · have hge := grownCap_ge w (n + m) cap e
    simp only [Array.size_append, List.size_toArray, List.length_append, size_zeroCells, hzc, ← hol, ← hnl, hcl, hdl]
    rw [← Nat.add_mul, ← Nat.add_mul]
    congr 1
    omega
  · rw [Array.toList_append]
    rw [List.take_append_of_le_length (by simp; omega)]
    simp only [List.length_append, hol, hnl]
    rw [← List.length_append]
    exact List.take_length

theorem append_vec {σ σ' : St} {g : G} {wE w : World} (hI : Inv σ g wE w) {t tx ty e : TypeId} {sz by_ id n sz' : Nat} {x r : AV} {y z : Value}
    (h : (match srcA P tx sz x, σ.box id with
    | some (m, ds), some cs =>
      if sz' = sz ∧ cs.length = n * sz ∧ (n + m) * by_ ≤ 140737488355328 ∧ n + m ≤ 9223372036854775807 then some (AV.vec σ.nxt (n + m) sz, σ.mvBox id (cs ++ ds)) else none
    | _, _ => none) = some (r, σ')) (hs : Rep g (.vec id n sz') y) (hx : Rep g x z) (he : elemA P t = some (e, sz, by_)) :
    ∃ v w' g', (Builtin.append_ #[t, tx] ty #[y, z]).run P w = .ok v w' ∧ g.le g' ∧ Rep g' r v ∧ Inv σ' g' wE w' := by
  obtain ⟨hu, i, zs, hi, hsz, hby, hz, hzl, h0⟩ := elemA_some he
  split at h
  rotate_left
  · cases h
  rename_i m ds cs hsrc hbox
  obtain ⟨news, hS, hnews, hdl, hone⟩ := src_run hI hsrc hx h0
  split at h
  rotate_left
  · cases h
  rename_i hb
  obtain ⟨rfl, hcl, hbound, hmax⟩ := hb
  obtain ⟨rfl, rfl⟩ := pair_inj h
  simp only [Rep] at hs
  obtain ⟨b, cap, hbx, hvc, rfl, c1, c2⟩ := hs
  obtain ⟨b1, arr, ta, k1, k2, k3, k4, k5⟩ := hI.box id cs hbox
  rw [hbx] at k1
  injection k1 with k1
  subst k1
  obtain ⟨b2, arr2, ta2, j1, j2, j3⟩ := hI.vcap id cap sz' hvc (by rw [hbox]; simp)
  rw [hbx] at j1
  injection j1 with j1
  subst j1
  rw [k2] at j2
  injection j2 with j2
  injection j2 with j2 j2'
  subst j2
  subst hsz hby
  obtain ⟨zv, i', hi', hzz, hzr, _⟩ := zeroA_run hz g
  rw [hi] at hi'
  injection hi' with hi'
  subst hi'
  have hzc : zv.cells.size = i.size := by have := repL_length hzr; simp only [Array.length_toList] at this; omega
  have hnl := repL_length hnews
  have hol : cs.length = (arr.toList.take cs.length).length := repL_length k4
  have holds : ∀ w', Below w.heap.size w w' → (Builtin.firstCells i.size n (.slice (some ⟨b, 0, none⟩) n cap)).run P w' = .ok (arr.toList.take cs.length).toArray w' := fun w' hb' => by
    have := run_loadCells_list (P := P) w' ⟨b, 0, none⟩ (arr.toList.take cs.length) (fun j v e => by
      rw [Addr.add_mid, Nat.zero_add]
      refine cell_of_block (by rw [hb'.block b (heap_lt k2)]; exact k2) ?_
      rw [List.getElem?_take] at e
      split at e
      · exact e
      · cases e)
    rw [← hol, hcl] at this
    rw [hcl]
    exact this
  have hlen : (cs ++ ds).length = (n + m) * i.size := by rw [List.length_append, hcl, hdl, Nat.add_mul]
  by_cases hroom : n + m ≤ cap
  · rcases Nat.eq_zero_or_pos m with hm | hm
    · subst hm
      have hds : ds = [] := List.length_eq_zero_iff.1 (by rw [hdl]; simp)
      have hnil : news = [] := List.length_eq_zero_iff.1 (by rw [← hnl, hds]; rfl)
      subst hds hnil
      obtain ⟨g', q1, q2, q3, q4⟩ := hI.rename hbox hbx
      refine ⟨.slice (some ⟨b, 0, none⟩) n cap, w, g', ?_, q1, ?_, ?_⟩
      · rcases hS.kind with ⟨e', hk⟩ | hk <;> simp [Builtin.append_, run_underlying hu, run_underlying hk, sizeOf, typeInfo, hi, hS.len, hS.cells, storeCells, c1]
      · simp only [Rep, Nat.add_zero]
        exact ⟨b, cap, q2, by rw [q3]; exact hvc, rfl, c1, c2⟩
      · rw [List.append_nil]
        exact q4
    · have hfit : n * i.size + m * i.size ≤ arr.size := by rw [← Nat.add_mul, j3]; exact Nat.mul_le_mul_right _ hroom
      have hcell : ∀ j, j < news.length → (w.cell? ⟨b, 0 + n * i.size + j, none⟩).isSome = true := fun j hj => by
        rw [block_cell k2, List.getElem?_eq_getElem (by rw [Array.length_toList]; omega)]
        rfl
      have hfz : ∀ j, j < news.length → w.frozen? ⟨b, 0 + n * i.size + j, none⟩ = false := fun j hj => by
        simp only [World.frozen?, k2]
        simp
      have hrun := run_append_room_src w t tx ty e i hu hi b 0 n cap z m news hS hroom hcell hfz
      rw [Nat.zero_add] at hrun
      obtain ⟨g', q1, q2, q3, q4⟩ := hI.rename hbox hbx
      have q5 := q4.growbox (id := σ.nxt) (b := b) (cs := cs) (vs := ds) (ys := news) (by simp only [upd_same]) q2 (RepL.mono q1 _ _ hnews) (fun arr' ta' ha => by
        rw [k2] at ha
        injection ha with ha
        injection ha with ha _
        subst ha
        omega)
      refine ⟨_, _, g', hrun, q1, ?_, ?_⟩
      · simp only [Rep]
        exact ⟨b, cap, q2, by rw [q3]; exact hvc, rfl, hroom, c2⟩
      · rw [hcl] at q5
        have e1 : (σ.q && decide (σ.qb ≤ id) && decide (σ.qb ≤ σ.nxt)) = (σ.q && decide (σ.qb ≤ id)) := by
          simp [hI.qb]
        have e2 : upd (upd (upd σ.box id none) σ.nxt (some cs)) σ.nxt (some (cs ++ ds)) = upd (upd σ.box id none) σ.nxt (some (cs ++ ds)) := by
          funext k
          unfold upd
          split <;> rfl
        dsimp only at q5
        rw [e1, e2] at q5
        exact q5
  · have hgr : cap < n + m := by omega
    obtain ⟨arr', newCap, hrun, hc1, hc2, hc3, hc4⟩ := append_grow (ty := ty) hu hi hzz hzc (holds w.drew (below_drew1' (Below.refl _ _))) hS hol hnl hcl hdl c1 hbound hmax hgr
    have hbel : Below w.heap.size w (w.drew.alloc (.cells arr' e)) := (below_drew1' (Below.refl _ _)).alloc (Nat.le_refl _) _
    have hnew : (w.drew.alloc (.cells arr' e)).heap[w.heap.size]? = some (.cells arr' e (0, 0)) := heap_alloc_new w.drew _
    obtain ⟨g', q1, q2, q3, q4⟩ := ((hI.kill id).weaken (decide (σ.qb ≤ id))).newbox hbel (some (newCap, i.size)) (Nat.le_refl _) hnew (cs := cs ++ ds) (by rw [hlen, hc3]; exact Nat.mul_le_mul_right _ hc1) (by rw [hc4]; exact repL_append k4 hnews) (fun cap' s' e' => by
      injection e' with e'
      injection e' with e1 e2
      subst e1 e2
      exact hc3)
    refine ⟨_, _, g', hrun, q1, ?_, q4⟩
    simp only [Rep]
    exact ⟨_, newCap, q2, q3, rfl, hc1, hc2⟩

theorem append_run {σ σ' : St} {g : G} {wE w : World} (hI : Inv σ g wE w) {t tx ty : TypeId} {s x r : AV} {y z : Value} (h : appendA P σ t tx s x = some (r, σ')) (hs : Rep g s y) (hx : Rep g x z) :
    ∃ v w' g', (Builtin.append_ #[t, tx] ty #[y, z]).run P w = .ok v w' ∧ g.le g' ∧ Rep g' r v ∧ Inv σ' g' wE w' := by
  unfold appendA at h
  split at h
  rotate_left
  · exact append_vec hI h hs hx (by assumption)
  · cases h
  rename_i e sz by_ o n cs he
  obtain ⟨hu, i, zs, hi, hsz, hby, hz, hzl, h0⟩ := elemA_some he
  split at h
  rotate_left
  · cases h
  rename_i m ds hsrc
  obtain ⟨news, hS, hnews, hdl, hone⟩ := src_run hI hsrc hx h0
  split at h
  rotate_left
  · cases h
  rename_i hb
  obtain ⟨hcl, hbound, hmax⟩ := hb
  simp only [Rep] at hs
  obtain ⟨base, cap, rfl, c1, c2, c3, c4⟩ := hs
  obtain ⟨olds, ho1, ho2⟩ := old_cells (P := P) (o := o) (cap := cap) hI hcl h0 c3
  subst hsz hby
  obtain ⟨zv, i', hi', hzz, hzr, _⟩ := zeroA_run hz g
  rw [hi] at hi'
  injection hi' with hi'
  subst hi'
  have hzc : zv.cells.size = i.size := by have := repL_length hzr; simp only [Array.length_toList] at this; omega
  have hol := repL_length ho1
  have hnl := repL_length hnews
  have hgrow : cap < n + m → ∃ arr : Array Value, ∃ newCap, (Builtin.append_ #[t, tx] ty #[.slice base n cap, z]).run P w = .ok (.slice (some ⟨w.heap.size, 0, none⟩) (n + m) newCap) (w.drew.alloc (.cells arr e)) ∧
      n + m ≤ newCap ∧ newCap ≤ maxLen ∧ arr.size = newCap * i.size ∧ arr.toList.take (cs ++ ds).length = olds ++ news :=
    append_grow hu hi hzz hzc (ho2 w.drew (below_drew1' (Below.refl _ _))) hS hol hnl hcl hdl c1 hbound hmax
  cases o with
  | raw => cases h
  | full =>
    dsimp only at h
    simp only [OwnOK] at c4
    subst c4
    split at h
    · rename_i hm
      obtain ⟨rfl, rfl⟩ := pair_inj h
      subst hm
      refine ⟨.slice base cap cap, w, g, ?_, G.le.refl _, by simp only [Rep, OwnOK]; exact ⟨base, cap, rfl, Nat.le_refl _, c2, c3, rfl⟩, hI⟩
      have hnil : news = [] := by
        have : news.length = 0 := by rw [← hnl, hdl]; simp
        exact List.length_eq_zero_iff.1 this
      subst hnil
      rcases hS.kind with ⟨e', hk⟩ | hk <;> cases base <;> simp [Builtin.append_, run_underlying hu, run_underlying hk, sizeOf, typeInfo, hi, hS.len, hS.cells, storeCells]
    · rename_i hm
      split at h
      · obtain ⟨rfl, rfl⟩ := pair_inj h
        obtain ⟨arr, newCap, hrun, hc1, hc2, hc3, hc4⟩ := hgrow (by omega)
        have hbel : Below w.heap.size w (w.drew.alloc (.cells arr e)) := (below_drew1' (Below.refl _ _)).alloc (Nat.le_refl _) _
        have hnew : (w.drew.alloc (.cells arr e)).heap[w.heap.size]? = some (.cells arr e (0, 0)) := heap_alloc_new w.drew _
        have hlen : (cs ++ ds).length = (cap + m) * i.size := by rw [List.length_append, hcl, hdl, Nat.add_mul]
        obtain ⟨g', q1, q2, q3, q4⟩ := hI.newbox hbel (some (newCap, i.size)) (Nat.le_refl _) hnew (cs := cs ++ ds) (by rw [hlen, hc3]; exact Nat.mul_le_mul_right _ hc1) (by rw [hc4]; exact repL_append ho1 hnews) (fun cap' s' e' => by
          injection e' with e'
          injection e' with e1 e2
          subst e1 e2
          exact hc3)
        refine ⟨_, _, g', hrun, q1, ?_, q4⟩
        simp only [Rep]
        exact ⟨_, newCap, q2, q3, rfl, hc1, hc2⟩
      obtain ⟨rfl, rfl⟩ := pair_inj h
      obtain ⟨arr, newCap, hrun, hc1, hc2, hc3, hc4⟩ := hgrow (by omega)
      have hbel : Below w.heap.size w (w.drew.alloc (.cells arr e)) := (below_drew1' (Below.refl _ _)).alloc (Nat.le_refl _) _
      have hnew : (w.drew.alloc (.cells arr e)).heap[w.heap.size]? = some (.cells arr e (0, 0)) := heap_alloc_new w.drew _
      have hlen : (cs ++ ds).length = (cap + m) * i.size := by rw [List.length_append, hcl, hdl, Nat.add_mul]
      obtain ⟨g1, g1le, hat, him, himb, hbx, hhi, hI1⟩ := hI.newrow hbel (Nat.le_refl _) hnew (cs := cs ++ ds) (by rw [hlen, hc3]; exact Nat.mul_le_mul_right _ hc1) (by rw [hc4]; exact repL_append ho1 hnews)
      obtain ⟨g2, g2le, hh2, _, _, hI2⟩ := hI1.settok (t := σ.nxt) (n := cap + m) (nxt := σ.nxt + 1) (b := w.heap.size) (cap := newCap) (sz := i.size) (by omega) (by omega)
        (fun m' x' hx' => by rw [hhi, (hI.fresh σ.nxt (Nat.le_refl _)).2.1 m'] at hx'; cases hx') (by omega) hnew hc3 (by rw [g1le.w0]; exact hI.below.size) (fun _ => hI.entry)
        (fun o ho => himb o (by rw [hlen]; exact ho)) (fun i' _ hi' => by rw [hbx] at hi'; exact absurd (hI.bxw i' _ hi').2.1 (by omega)) (fun t' m' c s hx' => by rw [hhi] at hx'; exact absurd (hI.histw t' m' _ _ _ hx').2.1 (by omega))
      refine ⟨_, _, g2, hrun, g1le.trans g2le, ?_, hI2⟩
      simp only [Rep, OwnOK]
      exact ⟨_, newCap, rfl, hc1, hc2, .inr ⟨_, 0, rfl, RepAt.mono g2le _ _ _ hat⟩, _, i.size, rfl, hh2, hlen⟩
  | own k =>
    dsimp only at h
    split at h
    rotate_left
    · cases h
    rename_i hf
    obtain ⟨rfl, rfl⟩ := pair_inj h
    simp only [OwnOK] at c4
    obtain ⟨b, sz', rfl, hh, hl'⟩ := c4
    obtain ⟨b0, cap0, arr0, ty0, sz0, k1, k2, k3, k4, k5⟩ := hI.front k n hf
    rw [hh] at k1
    injection k1 with k1
    injection k1 with e1 k1
    injection k1 with e2 e3
    subst e1 e2 e3
    have hlen : (cs ++ ds).length = (n + m) * i.size := by rw [List.length_append, hcl, hdl, Nat.add_mul]
    have hcs : RepAt g cs b 0 := by
      rcases c3 with c3 | ⟨b', off, e', c3⟩
      · subst c3; simp only [RepAt]
      · injection e' with e'; injection e' with e1 e2; subst e1 e2; exact c3
    by_cases hroom : n + m ≤ cap
    · -- in place
      rcases Nat.eq_zero_or_pos m with hm | hm
      · subst hm
        have hds : ds = [] := List.length_eq_zero_iff.1 (by rw [hdl]; simp)
        have hnil : news = [] := List.length_eq_zero_iff.1 (by rw [← hnl, hds]; rfl)
        subst hds hnil
        refine ⟨.slice (some ⟨b, 0, none⟩) n cap, w, g, ?_, G.le.refl _, ?_, ?_⟩
        · rcases hS.kind with ⟨e', hk⟩ | hk <;> simp [Builtin.append_, run_underlying hu, run_underlying hk, sizeOf, typeInfo, hi, hS.len, hS.cells, storeCells, c1]
        · simp only [Rep, OwnOK, List.append_nil, Nat.add_zero]
          exact ⟨_, cap, rfl, c1, c2, c3, b, _, rfl, hh, hl'⟩
        · have hw := hI.weaken (decide (σ.qb ≤ k))
          have hupd : upd σ.front k (some (n + 0)) = σ.front := by
            funext j
            by_cases hj : j = k
            · subst hj; rw [upd_same]; exact hf.symm
            · rw [upd_ne _ _ _ _ hj]
          show Inv { σ with front := upd σ.front k (some (n + 0)), q := σ.q && decide (σ.qb ≤ k) } g wE w
          rw [hupd]
          exact hw
      · have hsz' : sz' = i.size := by
          have hn := hI.histpos _ _ _ hh
          exact Nat.eq_of_mul_eq_mul_left hn (by rw [← hl', hcl])
        subst hsz'
        have hcell : ∀ j, j < news.length → (w.cell? ⟨b, 0 + n * i.size + j, none⟩).isSome = true := fun j hj => by
          have : n * i.size + m * i.size ≤ cap * i.size := by rw [← Nat.add_mul]; exact Nat.mul_le_mul_right _ hroom
          rw [block_cell k2, List.getElem?_eq_getElem (by rw [Array.length_toList, k3]; omega)]
          rfl
        have hfz : ∀ j, j < news.length → w.frozen? ⟨b, 0 + n * i.size + j, none⟩ = false := fun j hj => by
          simp only [World.frozen?, k2]
          simp
        have hrun := run_append_room_src w t tx ty e i hu hi b 0 n cap z m news hS hroom hcell hfz
        obtain ⟨g1, g1le, hat, hh1, hI1⟩ := hI.push hf hh hnews hdl hm hroom
        rw [Nat.zero_add] at hrun
        refine ⟨_, _, g1, hrun, g1le, ?_, hI1⟩
        simp only [Rep, OwnOK]
        exact ⟨_, cap, rfl, hroom, c2, .inr ⟨b, 0, rfl, repAt_append (RepAt.mono g1le _ _ _ hcs) (by rw [Nat.zero_add, hcl]; exact hat)⟩, b, i.size, rfl, hh1, hlen⟩
    · obtain ⟨arr, newCap, hrun, hc1, hc2, hc3, hc4⟩ := hgrow (by omega)
      have hbel : Below w.heap.size w (w.drew.alloc (.cells arr e)) := (below_drew1' (Below.refl _ _)).alloc (Nat.le_refl _) _
      have hnew : (w.drew.alloc (.cells arr e)).heap[w.heap.size]? = some (.cells arr e (0, 0)) := heap_alloc_new w.drew _
      obtain ⟨g1, g1le, hat, him, himb, hbx, hhi, hI1⟩ := hI.newrow hbel (Nat.le_refl _) hnew (cs := cs ++ ds) (by rw [hlen, hc3]; exact Nat.mul_le_mul_right _ hc1) (by rw [hc4]; exact repL_append ho1 hnews)
      have hk : k < σ.nxt := by
        rcases Nat.lt_or_ge k σ.nxt with q | q
        · exact q
        · rw [(hI.fresh k q).2.2.2.2.1] at hf; cases hf
      obtain ⟨g2, g2le, hh2, _, _, hI2⟩ := hI1.settok (t := k) (n := n + m) (nxt := σ.nxt) (b := w.heap.size) (cap := newCap) (sz := i.size) (Nat.le_refl _) hk
        (fun m' x' hx' => by
          rw [hhi] at hx'
          obtain ⟨m2, q1, q2⟩ := hI.histle _ _ _ hx'
          rw [hf] at q1
          injection q1 with q1
          omega) (by omega) hnew hc3 (by rw [g1le.w0]; exact hI.below.size) (fun _ => hI.entry)
        (fun o ho => himb o (by rw [hlen]; exact ho)) (fun i' _ hi' => by rw [hbx] at hi'; exact absurd (hI.bxw i' _ hi').2.1 (by omega)) (fun t' m' c s hx' => by rw [hhi] at hx'; exact absurd (hI.histw t' m' _ _ _ hx').2.1 (by omega))
      refine ⟨_, _, g2, hrun, g1le.trans g2le, ?_, hI2.weaken (decide (σ.qb ≤ k))⟩
      simp only [Rep, OwnOK]
      exact ⟨_, newCap, rfl, hc1, hc2, .inr ⟨_, 0, rfl, RepAt.mono g2le _ _ _ hat⟩, _, i.size, rfl, hh2, hlen⟩

end
end Go.AW
end
