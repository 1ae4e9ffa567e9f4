/-
  ABSTRACT WALKS, part 8: what must hold ahead of a piece of code ('awp'), and that the machine then does it; calls ('ACalls'). Over any program.
-/
import Derived.Test.YtdfeadgholpcgaaMg
import Derived.LoopN
import Derived.StillTail

section
set_option linter.unusedVariables false
set_option linter.unusedSimpArgs false
namespace Go.AW
open Go.RowKit

section
variable {P : Program}

/-- May function f be entered? -/
def Enterable (P : Program) (f : FuncId) : Prop := ∃ fn, P.funcs[f]? = some fn ∧ fn.body.isSome = true ∧ fn.name ≠ "runtime.NumGoroutine"

/-- A call comes to a value and a state of which K holds. -/
def ACalls (P : Program) (f : FuncId) (args : List AV) (σ : St) (K : AV → St → Prop) : Prop :=
  Enterable P f ∧ ∀ (g : G) (wE w : World) (vals : Array Value), RepL g args vals.toList → Inv σ g wE w →
    Calls P f vals w fun e w' => ∃ av σ' g' v, K av σ' ∧ e = .returned v ∧ g.le g' ∧ Rep g' av v ∧ Inv σ' g' wE w'

theorem ACalls.mono {f : FuncId} {args : List AV} {σ : St} {K K' : AV → St → Prop} (h : ACalls P f args σ K) (hk : ∀ v σ', K v σ' → K' v σ') : ACalls P f args σ K' :=
  ⟨h.1, fun g wE w vals h1 h2 => (h.2 g wE w vals h1 h2).mono fun e w' ⟨av, σ', g', v, k1, k2⟩ => ⟨av, σ', g', v, hk _ _ k1, k2⟩⟩

/-- A call that turns nothing of what is there, and comes to one value without memory. -/
def AQuiet (P : Program) (f : FuncId) (args : List AV) (σ : St) (x : Value) : Prop :=
  Enterable P f ∧ ∀ (g : G) (wE w : World) (vals : Array Value), RepL g args vals.toList → Inv σ g wE w →
    Calls P f vals w fun e w' => e = .returned x ∧ Below w.heap.size w w'

/-- The state, seen from here: quiet so far. -/
def St.now (σ : St) : St := { σ with q := true, qb := σ.nxt }

theorem Inv.now {σ : St} {g : G} {wE w : World} (hI : Inv σ g wE w) : Inv σ.now g w w :=
  { below := hI.below, imm := hI.imm, box := hI.box, vcap := hI.vcap, mp := hI.mp,
    bxw := fun i b h => ⟨(hI.bxw i b h).1, (hI.bxw i b h).2.1, fun _ hq => by rw [(hI.fresh i hq).1] at h; cases h⟩,
    bxinj := hI.bxinj, front := hI.front,
    histw := fun t n b cap sz h => ⟨(hI.histw t n b cap sz h).1, (hI.histw t n b cap sz h).2.1, fun hq => by rw [(hI.fresh t hq).2.1 n] at h; cases h⟩,
    histinj := hI.histinj, fresh := hI.fresh, histpos := hI.histpos, histle := hI.histle, quiet := fun _ => Below.refl _ _, qb := Nat.le_refl _, entry := Nat.le_refl _ }

theorem ACalls.quiet {f : FuncId} {args : List AV} {σ : St} {x : Value} (h : ACalls P f args σ.now fun v σ' => v = .v x ∧ σ'.q = true) : AQuiet P f args σ x :=
  ⟨h.1, fun g wE w vals h1 h2 => (h.2 g w w vals h1 h2.now).mono fun e w' ⟨av, σ', g', v, ⟨k1, k2⟩, k3, _, k4, k5⟩ => by
    subst k1
    simp only [Rep] at k4
    subst k4
    exact ⟨k3, k5.quiet k2⟩⟩

def putA (ρ : List AV) (d : Option Tmp) (v : AV) : List AV :=
  match d with
  | some d => setS ρ d v
  | none => ρ

def wantA (want : Bool) : AV → Option Bool
  | .v (.bool b) => some (b == want)
  | .v (.tuple _) => some false
  | _ => none
/-- Is an operation to be carried out? -/
def guardA (ops : List Oper) (ρ : List AV) (o : Oper) : Option Bool :=
  match o.guard with
  | none => some true
  | some (j, want) => match (ops[j]?).bind (·.dst) with
    | some d => wantA want (slot ρ d)
    | none => none

def plainA (P : Program) (o : Op) (K : AV → St → Prop) (ρ : List AV) (σ : St) : Prop :=
  match evalQ P σ ρ o with
  | some v => K v σ
  | none => match evalE P σ ρ o with
    | some (v, σ') => K v σ'
    | none => False

def stepA (P : Program) (o : Op) (K : AV → St → Prop) (ρ : List AV) (σ : St) : Prop :=
  match o with
  | .call c => match c.callee with
    | .value f => match ev ρ f with
      | .fn (.func g) fs cs => ACalls P g (fs ++ c.args.toList.map (ev ρ) ++ cs) σ K
      | _ => False
    | _ => plainA P (.call c) K ρ σ
  | o => plainA P o K ρ σ

def awpOps (P : Program) (ops : List Oper) (K : List AV → St → Prop) : List Oper → List AV → St → Prop
  | [], ρ, σ => K ρ σ
  | o :: rest, ρ, σ => match guardA ops ρ o with
    | some g => if g = true then stepA P o.op (fun v σ' => awpOps P ops K rest (putA ρ o.dst v) σ') ρ σ else awpOps P ops K rest (putA ρ o.dst (.v undef)) σ
    | none => False

/-- The same memory is known. -/
structure Mem (σ σ' : St) : Prop where
  box : σ'.box = σ.box
  mp : σ'.mp = σ.mp
  mv : σ'.mv = σ.mv
theorem Mem.refl (σ : St) : Mem σ σ := ⟨rfl, rfl, rfl⟩
theorem Mem.symm {σ σ' : St} (h : Mem σ σ') : Mem σ' σ := ⟨h.box.symm, h.mp.symm, h.mv.symm⟩
theorem Mem.trans {a b c : St} (h : Mem a b) (k : Mem b c) : Mem a c := ⟨k.box.trans h.box, k.mp.trans h.mp, k.mv.trans h.mv⟩

/-- Operations that make memory, and turn none of which the state tells. -/
def weakA (P : Program) (σ : St) (ρ : List AV) : Op → Option (AV × St)
  | .build t ps => evalE P σ ρ (.build t ps)
  | .buildSlice t n ps => evalE P σ ρ (.buildSlice t n ps)
  | .convert s d x => evalE P σ ρ (.convert s d x)
  | .call c => match c.callee, c.argTypes.toList, c.args.toList with
    | .builtin .append, [t, tx], [s, x] => match σ.mv, ev ρ s with
      | false, .sl o n cs => appendA P σ t tx (.sl o n cs) (ev ρ x)
      | _, _ => none
    | _, _, _ => none
  | _ => none

def isAppB : Op → Bool
  | .call c => match c.callee with
    | .builtin .append => true
    | _ => false
  | _ => false
/-- Operations that turn memory of which the state tells; a call that hands back more than one value. -/
def heavyB (ext : Bool) : Op → Bool
  | .store .. | .mapUpdate .. | .alloc _ | .box .. | .makeSlice .. | .makeMap .. => true
  | .call c => match c.callee with
    | .value _ => ext
    | _ => false
  | _ => false
def isExtB : Op → Bool
  | .extract .. => true
  | _ => false

def plainX (P : Program) (o : Op) (K : AV → St → Prop) (ρ : List AV) (σ : St) : Prop :=
  match evalQ P σ ρ o with
  | some v => K v σ
  | none => match weakA P σ ρ o with
    | some (v, σ') => K v σ'
    | none => False

def stepX (P : Program) (o : Op) (K : AV → St → Prop) (ρ : List AV) (σ : St) : Prop :=
  match o with
  | .call c => match c.callee with
    | .value f => match ev ρ f with
      | .fn (.func g) fs cs => ∃ x, (∀ σ', Mem σ σ' → AQuiet P g (fs ++ c.args.toList.map (ev ρ) ++ cs) σ' x) ∧ K (.v x) σ
      | _ => False
    | _ => plainX P (.call c) K ρ σ
  | o => plainX P o K ρ σ

/-- The same, where the region draws its order. -/
def awpX (P : Program) (ops : List Oper) (ext : Bool) (K : List AV → St → Prop) : List Oper → List AV → St → Prop
  | [], ρ, σ => K ρ σ
  | o :: rest, ρ, σ => if heavyB ext o.op = true then awpOps P ops K (o :: rest) ρ σ else match guardA ops ρ o with
    | some g => if g = true then stepX P o.op (fun v σ' => awpX P ops ext K rest (putA ρ o.dst v) σ') ρ σ else awpX P ops ext K rest (putA ρ o.dst (.v undef)) σ
    | none => False

def thenA (next : List AV → St → Prop) (Q : Exit → List AV → St → Prop) : Exit → List AV → St → Prop
  | .normal, ρ, σ => next ρ σ
  | e, ρ, σ => Q e ρ σ
def inBlockA (id : Nat) (Q : Exit → List AV → St → Prop) : Exit → List AV → St → Prop
  | .exit i, ρ, σ => if i = id then Q .normal ρ σ else Q (.exit i) ρ σ
  | e, ρ, σ => Q e ρ σ

def awp (P : Program) : Code → (Exit → List AV → St → Prop) → List AV → St → Prop
  | .skip, Q, ρ, σ => Q .normal ρ σ
  | .label _, Q, ρ, σ => Q .normal ρ σ
  | .region _ ops draw, Q, ρ, σ => if draw = true then awpX P ops.toList (ops.toList.any fun o => isExtB o.op) (Q .normal) ops.toList ρ σ else awpOps P ops.toList (Q .normal) ops.toList ρ σ
  | .seq a b, Q, ρ, σ => awp P a (thenA (awp P b Q) Q) ρ σ
  | .cond c a b, Q, ρ, σ => match ev ρ c with
    | .v (.bool t) => if t = true then awp P a Q ρ σ else awp P b Q ρ σ
    | _ => False
  | .block id c, Q, ρ, σ => awp P c (inBlockA id Q) ρ σ
  | .exit id, Q, ρ, σ => Q (.exit id) ρ σ
  | .ret, Q, ρ, σ => Q .ret ρ σ
  | .loop c, Q, ρ, σ => ∃ n, Nat.rec (motive := fun _ => List AV → St → Prop) (fun _ _ => False) (fun _ ih ρ σ => awp P c (thenA ih Q) ρ σ) n ρ σ
  | _, _, _, _ => False

/-- So many rounds at most. -/
def roundsA (P : Program) (c : Code) (Q : Exit → List AV → St → Prop) : Nat → List AV → St → Prop
  | 0, _, _ => False
  | n + 1, ρ, σ => awp P c (thenA (roundsA P c Q n) Q) ρ σ

theorem awp_loop {c : Code} {Q : Exit → List AV → St → Prop} {ρ : List AV} {σ : St} (n : Nat) (h : roundsA P c Q n ρ σ) : awp P (.loop c) Q ρ σ := by
  simp only [awp]
  refine ⟨n, ?_⟩
  have : ∀ n, Nat.rec (motive := fun _ => List AV → St → Prop) (fun _ _ => False) (fun _ ih ρ σ => awp P c (thenA ih Q) ρ σ) n = roundsA P c Q n := by
    intro n
    induction n with
    | zero => rfl
    | succ n ih => funext ρ σ; show awp P c (thenA _ Q) ρ σ = awp P c (thenA (roundsA P c Q n) Q) ρ σ; rw [← ih]
  rw [this]
  exact h

/-- Does operation j wait for operation i, at however many steps? -/
def waitsT (ops : Array Oper) : Nat → Nat → Nat → Bool
  | 0, _, _ => false
  | f + 1, j, i => match ops[j]? with
    | some oj => oj.after.any fun e => Region.binds .any e && (e.on == i || waitsT ops f e.on i)
    | none => false
def appChain (ops : Array Oper) (n : Nat) : Bool :=
  (List.range n).all fun j => !(ops[j]?.any fun o => isAppB o.op) || (List.range j).all fun i => !(ops[i]?.any fun o => isAppB o.op) || waitsT ops n j i
def tailN (ops : List Oper) : Nat := ops.findIdx fun o => heavyB (ops.any fun o => isExtB o.op) o.op
/-- So many operations, one after the other, each of them free of those that are left; then this. -/
def lexG (ops : Array Oper) (b : Array Bool → Bool) : Nat → Nat → Array Bool → Bool
  | 0, _, listed => b listed
  | f + 1, k, listed => (Region.ready .any ops listed).contains k && Region.free .any ops listed k && lexG ops b f (k + 1) (listed.setIfInBounds k true)
/-- Operations that know no memory. -/
def qOnlyB : Op → Bool
  | .move _ | .assign _ | .extract .. | .pick .. | .binOp .. | .unOp .. => true
  | _ => false
def chain2B (ops : Array Oper) (n : Nat) : Bool :=
  (List.range ops.size).all fun t => decide (t ≤ n) || (List.range t).any fun j => decide (n ≤ j) && Region.waitsFor .any ops t j
def tail2B (ops : Array Oper) (n : Nat) (listed : Array Bool) : Bool :=
  decide (Region.ready .any ops listed = [n]) && lexG ops (fun l => (Region.ready .any ops l).isEmpty) (ops.size - n - 1) (n + 1) (listed.setIfInBounds n true)
/-- One operation that turns memory, or calls; behind it such as know no memory. -/
def order2 (ops : Array Oper) (n : Nat) : Bool :=
  lexG ops (tail2B ops n) n 0 (Array.replicate ops.size false) && decide (n < ops.size) && Region.sinkB .any ops n && chain2B ops n && (ops.toList.drop (n + 1)).all (fun o => qOnlyB o.op) && appChain ops ops.size
/-- A region may be walked in the text's order. -/
def orderOK (ops : Array Oper) : Bool :=
  let n := tailN ops.toList
  (Region.noSelect ops && appChain ops n && Region.lexHead .any ops (ops.size - n) n 0 (Array.replicate ops.size false) && (n == ops.size || (Region.sinkB .any ops n && Region.chainB .any ops n))) ||
    (Region.noSelect ops && appChain ops n && order2 ops n)

/-- Each region that draws its order is one that may be walked in the text's. -/
def drawsOK : Code → Bool
  | .region _ ops draw => !draw || orderOK ops
  | .seq a b => drawsOK a && drawsOK b
  | .cond _ a b => drawsOK a && drawsOK b
  | .block _ c => drawsOK c
  | .loop c => drawsOK c
  | _ => true

/-- What is known of the machine's state. -/
structure At (g : G) (wE : World) (ρ : List AV) (σ : St) (a : Act) (w : World) : Prop where
  rep : RepL g ρ a.tmps.toList
  defers : a.defers = []
  inv : Inv σ g wE w

def PostA (g : G) (wE : World) (Q : Exit → List AV → St → Prop) (e : Exit) (a : Act) (w : World) : Prop := ∃ ρ σ g', Q e ρ σ ∧ g.le g' ∧ At g' wE ρ σ a w

theorem At.put {g : G} {wE w : World} {ρ : List AV} {σ : St} {a : Act} (h : At g wE ρ σ a w) (d : Option Tmp) {v : AV} {y : Value} (hr : Rep g v y) : At g wE (putA ρ d v) σ (a.put d y) w := by
  cases d with
  | none => exact h
  | some d => exact ⟨by simp only [putA, setS, Act.put, Array.toList_setIfInBounds]; exact repL_set h.rep d v y hr, h.defers, h.inv⟩

theorem At.up {g g' : G} {wE w w' : World} {ρ : List AV} {σ σ' : St} {a : Act} (h : At g wE ρ σ a w) (hg : g.le g') (hI : Inv σ' g' wE w') : At g' wE ρ σ' a w' := ⟨RepL.mono hg _ _ h.rep, h.defers, hI⟩

theorem guardA_run {ops : Array Oper} {g : G} {ρ : List AV} {a : Act} {o : Oper} {b : Bool} (h : guardA ops.toList ρ o = some b) (hρ : RepL g ρ a.tmps.toList) : Region.wanted o (yielded ops a.tmps) = b := by
  unfold guardA at h
  unfold Region.wanted
  split at h
  · rename_i e
    injection h with h
    subst h
    simp [e]
  · rename_i j want e
    split at h
    · rename_i d hd
      have hd' : (ops[j]?).bind (·.dst) = some d := by simpa using hd
      have hr := ev_rep (a := a) hρ (.tmp d)
      simp only [ev, Act.eval, Array.getD_eq_getD_getElem?] at hr
      unfold wantA at h
      split at h
      · rename_i b' hb
        injection h with h
        subst h
        rw [hb] at hr
        simp only [Rep] at hr
        have hy' : a.tmps[d]? = some (.bool b') := by
          cases e' : a.tmps[d]? with
          | none => rw [e'] at hr; cases hr
          | some y => rw [e'] at hr; rw [← hr]; rfl
        simp [e, yielded, hd', hy']
      · rename_i ts hb
        injection h with h
        subst h
        rw [hb] at hr
        simp only [Rep] at hr
        cases e' : a.tmps[d]? with
        | none => simp [e, yielded, hd', e']
        | some y =>
          rw [e'] at hr
          simp only [Option.getD_some] at hr
          subst hr
          simp [e, yielded, hd', e']
      · cases h
    · cases h

theorem call_run {c : Call} {a : Act} {f : Operand} {g : FuncId} {a1 a2 : Array Value} {ty : TypeId} (hc : c.callee = .value f) (hf : a.eval f = .func (.func g) a1 a2) (hE : Enterable P g) (w : World) :
    (do let d ← resolve a.eval c ty; invoke d.target d.args : Sem Next).run P w = .ok (.enter g (a1 ++ c.args.map a.eval ++ a2)) w := by
  obtain ⟨fn, h1, h2, h3⟩ := hE
  obtain ⟨b, hb⟩ := Option.isSome_iff_exists.1 h2
  simp [resolve, hc, hf, Deferred.ofValue, invoke, callFunc, h1, h3, hb]

theorem plainA_run {o : Oper} {K : AV → St → Prop} {g : G} {wE w : World} {ρ : List AV} {σ : St} {a : Act} (h : plainA P o.op K ρ σ) (hA : At g wE ρ σ a w) :
    ∃ nx v r w' σ' g', (execOp a.eval o).run P w = .ok nx w' ∧ Yields v nx ∧ K r σ' ∧ g.le g' ∧ Rep g' r v ∧ Inv σ' g' wE w' := by
  unfold plainA at h
  split at h
  · rename_i r e
    obtain ⟨v, k1, k2⟩ := evalQ_run hA.inv hA.rep e
    exact ⟨.value v, v, r, w, σ, g, k2 w (Below.refl _ _), rfl, h, G.le.refl _, k1, hA.inv⟩
  · split at h
    · rename_i r σ' e
      obtain ⟨nx, v, w', g', k1, k2, k3, k4, k5⟩ := evalE_run hA.inv hA.rep e
      exact ⟨nx, v, r, w', σ', g', k1, k2, h, k3, k4, k5⟩
    · exact h.elim

theorem upon_yields {o : Oper} {a : Act} {next : Act → World → Prop} {Q : Exit → Act → World → Prop} {nx : Next} {v : Value} {w : World} (h : Yields v nx) (hn : next (a.put o.dst v) w) : o.upon P a next Q (.ok nx w) := by
  cases nx <;> simp only [Yields] at h
  case value u => subst h; exact hn
  case skip => subst h; exact hn

theorem stepA_run {o : Oper} {K : AV → St → Prop} {g : G} {wE w : World} {ρ : List AV} {σ : St} {a : Act} {next : Act → World → Prop} {Q : Exit → Act → World → Prop} (h : stepA P o.op K ρ σ) (hA : At g wE ρ σ a w)
    (hn : ∀ r σ' g' v w', K r σ' → g.le g' → Rep g' r v → Inv σ' g' wE w' → next (a.put o.dst v) w') : o.wp P a w next Q := by
  have hplain : plainA P o.op K ρ σ → o.wp P a w next Q := fun h => by
    obtain ⟨nx, v, r, w', σ', g', k1, k2, k3, k4, k5, k6⟩ := plainA_run h hA
    unfold Oper.wp
    rw [k1]
    exact upon_yields k2 (hn r σ' g' v w' k3 k4 k5 k6)
  obtain ⟨dst, op, ty, pos, after, guard⟩ := o
  dsimp only at h hplain hn
  unfold stepA at h
  split at h
  · rename_i c
    split at h
    · rename_i f hc
      split at h
      · rename_i gf fs cs hf
        have hfr := ev_rep hA.rep f
        rw [hf] at hfr
        simp only [Rep] at hfr
        obtain ⟨a1, a2, hfe, r1, r2⟩ := hfr
        obtain ⟨hE, hcalls⟩ := h
        unfold Oper.wp execOp
        dsimp only
        rw [call_run hc hfe hE w]
        have hargs : RepL g (fs ++ c.args.toList.map (ev ρ) ++ cs) (a1 ++ c.args.map a.eval ++ a2).toList := by
          simp only [Array.toList_append, Array.toList_map]
          exact repL_append (repL_append r1 (evs_rep hA.rep _)) r2
        refine (hcalls g wE w _ hargs hA.inv).mono ?_
        rintro e w' ⟨av, σ', g', v, k1, rfl, k2, k3, k4⟩
        exact hn av σ' g' v w' k1 k2 k3 k4
      · exact h.elim
    · exact hplain h
  · exact hplain h

theorem awpOps_run {ops : Array Oper} {K : List AV → St → Prop} {wE : World} {Q : Exit → Act → World → Prop} : ∀ (k : Nat) (l : List Oper) (i : Nat) (g : G) (w : World) (ρ : List AV) (σ : St) (a : Act), l.length = k → ops.toList.drop i = l →
    awpOps P ops.toList K l ρ σ → At g wE ρ σ a w → (∀ ρ σ g' a w, K ρ σ → g.le g' → At g' wE ρ σ a w → Q .normal a w) → wpOps P ops Q (List.range' i k) a w
  | 0, l, i, g, w, ρ, σ, a, hk, hl, h, hA, hQ => by
    have : l = [] := List.length_eq_zero_iff.1 hk
    subst this
    simp only [List.range'_zero, wpOps]
    exact hQ ρ σ g a w h (G.le.refl _) hA
  | k + 1, l, i, g, w, ρ, σ, a, hk, hl, h, hA, hQ => by
    cases l with
    | nil => simp at hk
    | cons o rest =>
      have ho : ops[i]? = some o := by
        have : (ops.toList.drop i)[0]? = some o := by rw [hl]; rfl
        simpa using this
      have hrest : ops.toList.drop (i + 1) = rest := by
        rw [← List.tail_drop, hl]
        rfl
      simp only [List.range'_succ, wpOps, ho]
      simp only [awpOps] at h
      split at h
      · rename_i b hb
        rw [guardA_run hb hA.rep]
        cases b with
        | true =>
          simp only [if_true] at h ⊢
          refine .inl (stepA_run h hA fun r σ' g' v w' k1 k2 k3 k4 => ?_)
          exact awpOps_run k rest (i + 1) g' w' _ σ' _ (by simpa using hk) hrest k1 ((hA.up k2 k4).put o.dst k3) fun ρ σ g2 a w q1 q2 q3 => hQ ρ σ g2 a w q1 (k2.trans q2) q3
        | false =>
          simp only [Bool.false_eq_true, if_false] at h ⊢
          exact awpOps_run k rest (i + 1) g w _ σ _ (by simpa using hk) hrest h (hA.put o.dst (undef_rep g)) hQ
      · exact h.elim

theorem slot_setS_ne {ρ : List AV} {i j : Nat} {v : AV} (h : i ≠ j) : slot (setS ρ i v) j = slot ρ j := by
  unfold slot setS
  simp [List.getD_eq_getElem?_getD, List.getElem?_set_ne h]
theorem ev_put {ρ : List AV} {d : Option Tmp} {v : AV} {x : Operand} (h : ∀ t, d = some t → x ≠ .tmp t) : ev (putA ρ d v) x = ev ρ x := by
  cases d with
  | none => rfl
  | some t =>
    cases x with
    | tmp u =>
      simp only [ev, putA]
      refine slot_setS_ne fun e => h t rfl ?_
      subst e; rfl
    | _ => rfl

theorem evs_congr {ρ ρ' : List AV} {l : List Operand} (h : ∀ x ∈ l, ev ρ' x = ev ρ x) : l.map (ev ρ') = l.map (ev ρ) := List.map_congr_left h
theorem partsA_congr {ρ ρ' : List AV} {ps : Array (Nat × Operand)} (h : ∀ x ∈ ps.toList.map (·.2), ev ρ' x = ev ρ x) : partsA ρ' ps = partsA ρ ps := by
  unfold partsA
  refine List.map_congr_left fun p hp => ?_
  rw [h p.2 (List.mem_map_of_mem hp)]

theorem evalQ_congr {σ : St} {ρ ρ' : List AV} {op : Op} (h : ∀ x ∈ op.operands, ev ρ' x = ev ρ x) : evalQ P σ ρ' op = evalQ P σ ρ op := by
  unfold evalQ
  cases op <;> simp only [Op.operands] at h <;> (try dsimp only) <;> try rfl
  case makeFunc fn first caps =>
    rw [evs_congr (fun x hx => h x (by simp at hx ⊢; exact .inl hx)), evs_congr (fun x hx => h x (by simp at hx ⊢; exact .inr hx))]
  case slice t x lo hi m =>
    cases m with
    | some _ => rfl
    | none =>
      dsimp only
      rw [h x (by simp)]
      have h1 : lo.map (ev ρ') = lo.map (ev ρ) := by cases lo with | none => rfl | some y => simp only [Option.map_some]; rw [h y (by simp)]
      have h2 : hi.map (ev ρ') = hi.map (ev ρ) := by cases hi with | none => rfl | some y => simp only [Option.map_some]; rw [h y (by simp)]
      rw [h1, h2]
  case lookup t x ix ok =>
    cases ok with
    | true => rfl
    | false => dsimp only; rw [h x (by simp), h ix (by simp)]
  case call c =>
    obtain ⟨callee, args, argTypes⟩ := c
    cases callee with
    | builtin b =>
      dsimp only
      rw [evs_congr (fun x hx => h x (by simp [Call.operands] at hx ⊢; exact hx))]
    | _ => rfl
  case pick c a b => rw [h c (by simp), h a (by simp), h b (by simp)]
  case binOp op t x y yt => rw [h x (by simp), h y (by simp)]
  case indexAddr t x y => rw [h x (by simp), h y (by simp)]
  case index t x y => rw [h x (by simp), h y (by simp)]
  case move x => rw [h x (by simp)]
  case assign x => rw [h x (by simp)]
  case load t x => rw [h x (by simp)]
  case nilCheck x => rw [h x (by simp)]
  case unOp op t x => rw [h x (by simp)]
  case convert s d x => rw [h x (by simp)]
  case fieldAddr s x f => rw [h x (by simp)]
  case field s x f => rw [h x (by simp)]
  case extract x i => rw [h x (by simp)]

theorem evalQ_mem {σ σ' : St} (hm : Mem σ σ') {ρ : List AV} {op : Op} : evalQ P σ' ρ op = evalQ P σ ρ op := by
  unfold evalQ
  cases op <;> (try dsimp only) <;> (try simp only [convA, cellsOfA, lookupA, mlenA, hm.box, hm.mp])

theorem weakA_congr {σ : St} {ρ ρ' : List AV} {op : Op} (h : ∀ x ∈ op.operands, ev ρ' x = ev ρ x) : weakA P σ ρ' op = weakA P σ ρ op := by
  unfold weakA
  cases op <;> simp only [Op.operands] at h <;> (try dsimp only) <;> try rfl
  case build t ps => simp only [evalE]; rw [partsA_congr (fun x hx => h x (by simpa using hx))]
  case buildSlice t n ps => simp only [evalE]; rw [partsA_congr (fun x hx => h x (by simpa using hx))]
  case convert s d x => simp only [evalE]; rw [h x (by simp)]
  case call c =>
    obtain ⟨callee, args, argTypes⟩ := c
    dsimp only
    split
    · rename_i t tx s x _ e
      have hs : ∀ y, y = s ∨ y = x → ev ρ' y = ev ρ y := fun y hy => h y (by
        have : y ∈ args.toList := by rw [e]; simpa using hy
        simpa [Call.operands] using this)
      rw [hs s (.inl rfl), hs x (.inr rfl)]
    · rfl

theorem appendA_mem {σ σ' : St} {t tx : TypeId} {o : Own} {n : Nat} {cs : List AV} {x r : AV} (hmv : σ.mv = false) (h : appendA P σ t tx (.sl o n cs) x = some (r, σ')) : Mem σ σ' := by
  unfold appendA at h
  split at h
  · rename_i e sz by_ o' n' cs' _ e1
    injection e1 with e1 e2 e3
    subst e1 e2 e3
    split at h
    · split at h
      · cases o with
        | raw => cases h
        | full =>
          dsimp only at h
          split at h
          · obtain ⟨_, rfl⟩ := pair_inj h; exact Mem.refl _
          · rw [hmv, if_neg (by simp)] at h
            obtain ⟨_, rfl⟩ := pair_inj h; exact ⟨rfl, rfl, rfl⟩
        | own k =>
          dsimp only at h
          split at h
          · obtain ⟨_, rfl⟩ := pair_inj h; exact ⟨rfl, rfl, rfl⟩
          · cases h
      · cases h
    · cases h
  · rename_i e1; cases e1
  · cases h

theorem weakA_calm {σ σ' : St} {ρ : List AV} {op : Op} {r : AV} (h : weakA P σ ρ op = some (r, σ')) (hn : isAppB op = false) : σ' = σ ∧ ∀ σ2, weakA P σ2 ρ op = some (r, σ2) := by
  unfold weakA at h ⊢
  cases op <;> dsimp only at h ⊢ <;> try (cases h; done)
  case build t ps =>
    simp only [evalE] at h ⊢
    split at h
    · obtain ⟨cs, hf, e⟩ := Option.map_eq_some_iff.1 h
      injection e with e1 e2
      subst e1 e2
      exact ⟨rfl, fun σ2 => by rw [hf]; rfl⟩
    · split at h
      · obtain ⟨cs, hf, e⟩ := Option.map_eq_some_iff.1 h
        injection e with e1 e2
        subst e1 e2
        exact ⟨rfl, fun σ2 => by rw [hf]; rfl⟩
      · cases h
  case buildSlice t n ps =>
    simp only [evalE] at h ⊢
    split at h
    · split at h
      · split at h
        · rename_i hle
          obtain ⟨cs, hf, e⟩ := Option.map_eq_some_iff.1 h
          injection e with e1 e2
          subst e1 e2
          exact ⟨rfl, fun σ2 => by rw [if_pos hle, hf]; rfl⟩
        · cases h
      · cases h
    · cases h
  case convert s d x =>
    simp only [evalE] at h ⊢
    split at h
    · split at h
      · split at h
        · rename_i hle
          obtain ⟨rfl, rfl⟩ := pair_inj h
          exact ⟨rfl, fun σ2 => by rw [if_pos hle]⟩
        · cases h
      · cases h
    · cases h
  case call c =>
    split at h
    · rename_i e _ _; simp [isAppB, e] at hn
    · cases h

theorem weakA_mem {σ σ' : St} {ρ : List AV} {op : Op} {r : AV} (h : weakA P σ ρ op = some (r, σ')) : Mem σ σ' := by
  cases hn : isAppB op with
  | false => rw [(weakA_calm h hn).1]; exact Mem.refl _
  | true =>
    unfold weakA at h
    cases op <;> simp only [isAppB, Bool.false_eq_true] at hn
    case call c =>
      dsimp only at h
      split at h
      · split at h
        · rename_i hmv _; exact appendA_mem hmv h
        · cases h
      · cases h

theorem weakA_evalE {σ σ' : St} {ρ : List AV} {op : Op} {r : AV} (h : weakA P σ ρ op = some (r, σ')) : evalE P σ ρ op = some (r, σ') := by
  unfold weakA at h
  cases op <;> dsimp only at h <;> try (first | exact h | (cases h; done))
  case call c =>
    obtain ⟨callee, args, argTypes⟩ := c
    dsimp only at h
    unfold evalE
    dsimp only
    split at h
    · rename_i t tx s x e1 e2
      split at h
      · rename_i o n cs hmv es
        rw [e1, e2]
        dsimp only
        rw [es]
        exact h
      · cases h
    · cases h

/-- What an operation does, whatever lies beside it. -/
def SX (P : Program) (ops : List Oper) (o : Oper) (ρ : List AV) (σ : St) (r : AV) (σ' : St) : Prop :=
  (guardA ops ρ o = some true ∧ ((evalQ P σ ρ o.op = some r ∧ σ' = σ) ∨ weakA P σ ρ o.op = some (r, σ') ∨
    ∃ c f gf fs cs x, o.op = .call c ∧ c.callee = .value f ∧ ev ρ f = .fn (.func gf) fs cs ∧ (∀ σ'', Mem σ σ'' → AQuiet P gf (fs ++ c.args.toList.map (ev ρ) ++ cs) σ'' x) ∧ r = .v x ∧ σ' = σ)) ∨
  (guardA ops ρ o = some false ∧ r = .v undef ∧ σ' = σ)

theorem sx_of_step {ops : List Oper} {o : Oper} {K : AV → St → Prop} {ρ : List AV} {σ : St} (hg : guardA ops ρ o = some true) (h : stepX P o.op K ρ σ) : ∃ r σ', SX P ops o ρ σ r σ' ∧ K r σ' := by
  have hplain : plainX P o.op K ρ σ → ∃ r σ', SX P ops o ρ σ r σ' ∧ K r σ' := fun h => by
    unfold plainX at h
    split at h
    · rename_i v e; exact ⟨v, σ, .inl ⟨hg, .inl ⟨e, rfl⟩⟩, h⟩
    · split at h
      · rename_i v σ' e; exact ⟨v, σ', .inl ⟨hg, .inr (.inl e)⟩, h⟩
      · exact h.elim
  unfold stepX at h
  split at h
  · rename_i c hop
    split at h
    · rename_i f hc
      split at h
      · rename_i gf fs cs hf
        obtain ⟨x, h1, h2⟩ := h
        exact ⟨.v x, σ, .inl ⟨hg, .inr (.inr ⟨c, f, gf, fs, cs, x, hop, hc, hf, h1, rfl, rfl⟩)⟩, h2⟩
      · exact h.elim
    · rw [← hop] at h; exact hplain h
  · exact hplain h

theorem SX.mem {ops : List Oper} {o : Oper} {ρ : List AV} {σ σ' : St} {r : AV} (h : SX P ops o ρ σ r σ') : Mem σ σ' := by
  rcases h with ⟨_, ⟨_, rfl⟩ | h | ⟨_, _, _, _, _, _, _, _, _, _, _, rfl⟩⟩ | ⟨_, _, rfl⟩
  · exact Mem.refl _
  · exact weakA_mem h
  · exact Mem.refl _
  · exact Mem.refl _

theorem SX.calm {ops : List Oper} {o : Oper} {ρ : List AV} {σ σ' : St} {r : AV} (h : SX P ops o ρ σ r σ') (hn : isAppB o.op = false) : σ' = σ ∧ ∀ σ2, Mem σ σ2 → SX P ops o ρ σ2 r σ2 := by
  rcases h with ⟨hg, ⟨h, rfl⟩ | h | ⟨c, f, gf, fs, cs, x, h1, h2, h3, h4, h5, rfl⟩⟩ | ⟨hg, h, rfl⟩
  · exact ⟨rfl, fun σ2 hm => .inl ⟨hg, .inl ⟨by rw [evalQ_mem hm]; exact h, rfl⟩⟩⟩
  · obtain ⟨k1, k2⟩ := weakA_calm h hn
    exact ⟨k1, fun σ2 hm => .inl ⟨hg, .inr (.inl (k2 σ2))⟩⟩
  · exact ⟨rfl, fun σ2 hm => .inl ⟨hg, .inr (.inr ⟨c, f, gf, fs, cs, x, h1, h2, h3, fun σ'' hm' => h4 σ'' (hm.trans hm'), h5, rfl⟩)⟩⟩
  · exact ⟨rfl, fun σ2 hm => .inr ⟨hg, h, rfl⟩⟩

theorem guardA_put {ops : Array Oper} {o : Oper} {ρ : List AV} {d : Option Tmp} {v : AV} (h : ∀ t, d = some t → t ∉ o.looksAt ops) : guardA ops.toList (putA ρ d v) o = guardA ops.toList ρ o := by
  cases d with
  | none => rfl
  | some t =>
    unfold guardA
    split
    · rfl
    · rename_i j want e
      split
      · rename_i t' hd
        have hne : t ≠ t' := fun q => h t rfl (by
          unfold Oper.looksAt
          rw [e]
          refine List.mem_append_right _ ?_
          have hd' : (ops[j]?).bind (·.dst) = some t' := by simpa using hd
          simp [hd', q])
        have : slot (putA ρ (some t) v) t' = slot ρ t' := slot_setS_ne hne
        rw [this]
      · rfl

theorem SX.put {ops : Array Oper} {o : Oper} {ρ : List AV} {σ σ' : St} {r : AV} {d : Option Tmp} {v : AV} (h : ∀ t, d = some t → t ∉ o.looksAt ops) : SX P ops.toList o (putA ρ d v) σ r σ' ↔ SX P ops.toList o ρ σ r σ' := by
  have hev : ∀ x ∈ o.op.operands, ev (putA ρ d v) x = ev ρ x := fun x hx => ev_put fun t ht e => h t ht (by
    subst e
    exact List.mem_append_left _ (List.mem_filterMap.2 ⟨.tmp t, by simpa using hx, rfl⟩))
  unfold SX
  rw [guardA_put h, evalQ_congr hev, weakA_congr hev]
  have hcall : ∀ c f, o.op = .call c → c.callee = .value f → ev (putA ρ d v) f = ev ρ f ∧ c.args.toList.map (ev (putA ρ d v)) = c.args.toList.map (ev ρ) := fun c f h1 h2 => by
    rw [h1] at hev
    refine ⟨hev f (by simp [Op.operands, Call.operands, h2]), evs_congr fun x hx => hev x (by simp at hx; simp [Op.operands, Call.operands, h2, hx])⟩
  constructor
  · rintro (⟨hg, h | h | ⟨c, f, gf, fs, cs, x, h1, h2, h3, h4, h5⟩⟩ | h)
    · exact .inl ⟨hg, .inl h⟩
    · exact .inl ⟨hg, .inr (.inl h)⟩
    · obtain ⟨e1, e2⟩ := hcall c f h1 h2
      rw [e1] at h3
      rw [e2] at h4
      exact .inl ⟨hg, .inr (.inr ⟨c, f, gf, fs, cs, x, h1, h2, h3, h4, h5⟩)⟩
    · exact .inr h
  · rintro (⟨hg, h | h | ⟨c, f, gf, fs, cs, x, h1, h2, h3, h4, h5⟩⟩ | h)
    · exact .inl ⟨hg, .inl h⟩
    · exact .inl ⟨hg, .inr (.inl h)⟩
    · obtain ⟨e1, e2⟩ := hcall c f h1 h2
      rw [← e1] at h3
      rw [← e2] at h4
      exact .inl ⟨hg, .inr (.inr ⟨c, f, gf, fs, cs, x, h1, h2, h3, h4, h5⟩)⟩
    · exact .inr h

theorem SX.run {ops : Array Oper} {i : Nat} {o : Oper} {g : G} {wE w : World} {ρ : List AV} {σ σ' : St} {r : AV} {a : Act} {K : Act → World → Prop} {Q : Exit → Act → World → Prop} (ho : ops[i]? = some o) (h : SX P ops.toList o ρ σ r σ') (hA : At g wE ρ σ a w)
    (hn : ∀ g' v w', g.le g' → Rep g' r v → At g' wE (putA ρ o.dst r) σ' (a.put o.dst v) w' → K (a.put o.dst v) w') : wpOp P ops Q i K a w := by
  unfold wpOp
  simp only [ho]
  rcases h with ⟨hg, h⟩ | ⟨hg, rfl, rfl⟩
  · rw [guardA_run hg hA.rep, if_pos rfl]
    left
    rcases h with ⟨h, rfl⟩ | h | ⟨c, f, gf, fs, cs, x, h1, h2, h3, h4, rfl, rfl⟩
    · obtain ⟨v, k1, k2⟩ := evalQ_run hA.inv hA.rep h
      unfold Oper.wp
      rw [k2 w (Below.refl _ _)]
      exact hn g v w (G.le.refl _) k1 (hA.put o.dst k1)
    · obtain ⟨nx, v, w', g', k1, k2, k3, k4, k5⟩ := evalE_run hA.inv hA.rep (weakA_evalE h)
      unfold Oper.wp
      rw [k1]
      exact upon_yields k2 (hn g' v w' k3 k4 ((hA.up k3 k5).put o.dst k4))
    · have hfr := ev_rep hA.rep f
      rw [h3] at hfr
      simp only [Rep] at hfr
      obtain ⟨a1, a2, hfe, r1, r2⟩ := hfr
      obtain ⟨hE, hcalls⟩ := h4 σ' (Mem.refl _)
      obtain ⟨dst, op, ty, pos, after, guard⟩ := o
      dsimp only at h1 hn
      subst h1
      unfold Oper.wp execOp
      dsimp only
      rw [call_run h2 hfe hE w]
      have hargs : RepL g (fs ++ c.args.toList.map (ev ρ) ++ cs) (a1 ++ c.args.map a.eval ++ a2).toList := by
        simp only [Array.toList_append, Array.toList_map]
        exact repL_append (repL_append r1 (evs_rep hA.rep _)) r2
      refine (hcalls g wE w _ hargs hA.inv).mono ?_
      rintro e w' ⟨rfl, hb⟩
      have hr : Rep g (.v x) x := by simp only [Rep]
      exact hn g x w' (G.le.refl _) hr ((hA.up (G.le.refl _) (hA.inv.grows hb)).put dst hr)
  · rw [guardA_run hg hA.rep, if_neg (by simp)]
    exact hn g undef w (G.le.refl _) (undef_rep g) (hA.put o.dst (undef_rep g))

/-- Whatever order is picked from here on, so many operations. -/
def AnyX (P : Program) (ops : Array Oper) (n : Nat) (L : Array Bool → List AV → St → Prop) : Nat → Array Bool → List AV → St → Prop
  | 0, listed, ρ, σ => L listed ρ σ
  | f + 1, listed, ρ, σ => Region.ready .any ops listed ≠ [] ∧ ∀ i ∈ Region.ready .any ops listed, i < n ∧ ∃ o r σ', ops[i]? = some o ∧ SX P ops.toList o ρ σ r σ' ∧ AnyX P ops n L f (listed.setIfInBounds i true) (putA ρ o.dst r) σ'

theorem anyX_run {ops : Array Oper} {n gz : Nat} {L : Array Bool → List AV → St → Prop} {wE : World} {Q : Exit → Act → World → Prop} {g0 : G} (hL : ∀ listed ρ σ g a w, g0.le g → L listed ρ σ → At g wE ρ σ a w → wpAny P .any ops Q gz listed a w) :
    ∀ (f : Nat) (listed : Array Bool) (ρ : List AV) (σ : St) (g : G) (a : Act) (w : World), g0.le g → AnyX P ops n L f listed ρ σ → At g wE ρ σ a w → wpAny P .any ops Q (f + gz) listed a w
  | 0, listed, ρ, σ, g, a, w, hg, h, hA => by rw [Nat.zero_add]; exact hL _ _ _ _ _ _ hg h hA
  | f + 1, listed, ρ, σ, g, a, w, hg, h, hA => by
    rw [show f + 1 + gz = (f + gz) + 1 by omega]
    refine ⟨fun h0 => absurd h0 h.1, fun i hi => ?_⟩
    obtain ⟨_, o, r, σ', ho, hs, hk⟩ := h.2 i hi
    exact hs.run ho hA fun g' v w' h1 h2 h3 => anyX_run hL f _ _ _ g' _ _ (hg.trans h1) hk h3

theorem put_comm {ρ : List AV} {x y : Option Tmp} (v u : AV) (h : ∀ d, x = some d → y ≠ some d) : putA (putA ρ x v) y u = putA (putA ρ y u) x v := by
  cases x with
  | none => rfl
  | some d =>
    cases y with
    | none => rfl
    | some e =>
      have hne : d ≠ e := fun he => h d rfl (he ▸ rfl)
      simp only [putA, setS]
      exact List.set_comm _ _ hne

theorem waitsT_listed {ops : Array Oper} {n : Nat} {listed : Array Bool} (inv : HeadInv .any ops n listed) : ∀ (f j i : Nat) (oj : Oper), ops[j]? = some oj → (∀ e ∈ oj.after, Region.binds .any e = true → listed.getD e.on false = true) → waitsT ops f j i = true → listed.getD i false = true
  | 0, j, i, oj, hj, hall, h => by simp [waitsT] at h
  | f + 1, j, i, oj, hj, hall, h => by
    simp only [waitsT, hj] at h
    obtain ⟨e, he, hb⟩ := Array.any_eq_true'.1 h
    simp only [Bool.and_eq_true, Bool.or_eq_true, beq_iff_eq] at hb
    obtain ⟨hb1, hb2⟩ := hb
    have hl := hall e he hb1
    rcases hb2 with rfl | hb2
    · exact hl
    · have hlt : e.on < ops.size := by
        rw [← inv.size]
        rcases Nat.lt_or_ge e.on listed.size with q | q
        · exact q
        · simp [Array.getElem?_eq_none q] at hl
      have ho : ops[e.on]? = some ops[e.on] := Array.getElem?_eq_getElem hlt
      exact waitsT_listed inv f e.on i ops[e.on] ho (inv.closed e.on _ ho hl) hb2

theorem appChain_spec {ops : Array Oper} {n i j : Nat} {oi oj : Oper} (h : appChain ops n = true) (hj : j < n) (hij : i < j) (hoi : ops[i]? = some oi) (hoj : ops[j]? = some oj) (ai : isAppB oi.op = true) (aj : isAppB oj.op = true) : waitsT ops n j i = true := by
  unfold appChain at h
  have h1 := List.all_eq_true.1 h j (List.mem_range.2 hj)
  simp only [hoj, Option.any_some, aj, Bool.not_true, Bool.false_or] at h1
  have h2 := List.all_eq_true.1 h1 i (List.mem_range.2 hij)
  simpa only [hoi, Option.any_some, ai, Bool.not_true, Bool.false_or] using h2

theorem anyX_first {ops : Array Oper} {n i : Nat} {oi : Oper} {r : AV} {L : Array Bool → List AV → St → Prop} (hi : ops[i]? = some oi) (hch : appChain ops n = true)
    (htail : ∀ listed, HeadInv .any ops n listed → listed.getD i true = false → ∀ t, n ≤ t → t ∉ Region.ready .any ops listed) (hin : i < n) (hdone : ∀ listed ρ σ, L listed ρ σ → ∀ j ∈ Region.ready .any ops listed, n ≤ j) :
    ∀ (f : Nat) (listed : Array Bool) (ρ : List AV) (σ σ1 : St), HeadInv .any ops n listed →
      (∀ j oj, ops[j]? = some oj → j ≠ i → listed.getD j true = false → (∀ e ∈ oj.after, Region.binds .any e = true → e.on ≠ i) → oi.apart ops oj = true) →
      i ∈ Region.ready .any ops listed → SX P ops.toList oi ρ σ r σ1 →
      AnyX P ops n L f (listed.setIfInBounds i true) (putA ρ oi.dst r) σ1 → AnyX P ops n L (f + 1) listed ρ σ := by
  intro f
  induction f with
  | zero =>
    intro listed ρ σ σ1 inv _ hr hy H
    have hun := (mem_ready.1 hr).1
    refine ⟨fun h => (by rw [h] at hr; cases hr), fun j hj => ?_⟩
    have hjn : j < n := by
      rcases Nat.lt_or_ge j n with h | h
      · exact h
      · exact absurd hj (htail listed inv hun j h)
    refine ⟨hjn, ?_⟩
    by_cases hji : j = i
    · subst hji; exact ⟨oi, r, σ1, hi, hy, H⟩
    · have := hdone _ _ _ H j (ready_mono hj hji)
      omega
  | succ f ih =>
    intro listed ρ σ σ1 inv hfree hr hy H
    have hun := (mem_ready.1 hr).1
    refine ⟨fun h => (by rw [h] at hr; cases hr), fun j hj => ?_⟩
    have hjn : j < n := by
      rcases Nat.lt_or_ge j n with h | h
      · exact h
      · exact absurd hj (htail listed inv hun j h)
    refine ⟨hjn, ?_⟩
    by_cases hji : j = i
    · subst hji; exact ⟨oi, r, σ1, hi, hy, H⟩
    · obtain ⟨_, oj, u, σ2, hoj, hs, hk⟩ := H.2 j (ready_mono hj hji)
      obtain ⟨hjun, oj', hoj', hall⟩ := mem_ready.1 hj
      rw [hoj] at hoj'
      injection hoj' with hoj'
      subst hoj'
      have hnot : ∀ e ∈ oj.after, Region.binds .any e = true → e.on ≠ i := fun e he hb heq => by
        have h1 := hall e he hb
        rw [heq, getD_both hun] at h1
        cases h1
      obtain ⟨h1, h2, h3⟩ := Oper.apart_spec (hfree j oj hoj hji hjun hnot)
      have hs' := (SX.put h1).1 hs
      have hfree' : ∀ k ok, ops[k]? = some ok → k ≠ i → (listed.setIfInBounds j true).getD k true = false →
          (∀ e ∈ ok.after, Region.binds .any e = true → e.on ≠ i) → oi.apart ops ok = true := fun k ok hk hki hun hno => by
        refine hfree k ok hk hki ?_ hno
        by_cases hjk : j = k
        · subst hjk; exact hjun
        · rw [getD_set_ne true hjk] at hun; exact hun
      have hlast : AnyX P ops n L f ((listed.setIfInBounds j true).setIfInBounds i true) (putA (putA ρ oj.dst u) oi.dst r) σ2 := by
        rw [Array.setIfInBounds_comm _ _ hji, ← put_comm r u h2]
        exact hk
      cases ai : isAppB oi.op with
      | false =>
        obtain ⟨e1, e2⟩ := hy.calm ai
        subst e1
        exact ⟨oj, u, σ2, hoj, hs', ih (listed.setIfInBounds j true) _ σ2 σ2 (inv.set hj hjn) hfree' (ready_mono hr (Ne.symm hji)) ((SX.put h3).2 (e2 σ2 hs'.mem)) hlast⟩
      | true =>
        have aj : isAppB oj.op = false := by
          cases aj : isAppB oj.op with
          | false => rfl
          | true =>
            exfalso
            obtain ⟨_, oi', hoi', halli⟩ := mem_ready.1 hr
            rw [hi] at hoi'
            injection hoi' with hoi'
            subst hoi'
            rcases Nat.lt_or_ge i j with q | q
            · have := waitsT_listed inv n j i oj hoj hall (appChain_spec hch hjn q hi hoj ai aj)
              rw [getD_both hun] at this
              cases this
            · have q : j < i := by omega
              have := waitsT_listed inv n i j oi hi halli (appChain_spec hch hin q hoj hi aj ai)
              rw [getD_both hjun] at this
              cases this
        obtain ⟨e1, e2⟩ := hs'.calm aj
        subst e1
        exact ⟨oj, u, σ, hoj, e2 σ hy.mem.symm, ih (listed.setIfInBounds j true) _ σ σ2 (inv.set hj hjn) hfree' (ready_mono hr (Ne.symm hji)) ((SX.put h3).2 hy) hlast⟩

theorem anyX_lex {ops : Array Oper} {n gz : Nat} {ext : Bool} {K : List AV → St → Prop} (hch : appChain ops n = true) (htail : ∀ i listed, i < n → HeadInv .any ops n listed → listed.getD i true = false → ∀ t, n ≤ t → t ∉ Region.ready .any ops listed)
    (hnh : ∀ i o, i < n → ops[i]? = some o → heavyB ext o.op = false) (hnt : ∀ o, ops[n]? = some o → heavyB ext o.op = true) (hns : n ≤ ops.size) :
    ∀ (m : Nat) (k : Nat) (listed : Array Bool) (ρ : List AV) (σ : St), k + m = n → HeadInv .any ops n listed →
    Region.lexHead .any ops gz m k listed = true → awpX P ops.toList ext K (ops.toList.drop k) ρ σ →
    AnyX P ops n (fun listed' ρ' σ' => Region.seqB .any ops gz n listed' = true ∧ awpOps P ops.toList K (ops.toList.drop n) ρ' σ') m listed ρ σ
  | 0, k, listed, ρ, σ, hk, inv, hB, h => by
    have : k = n := by omega
    subst this
    refine ⟨by simpa [Region.lexHead] using hB, ?_⟩
    rcases Nat.lt_or_ge k ops.size with q | q
    · have e : ops.toList.drop k = ops[k] :: ops.toList.drop (k + 1) := (List.drop_eq_getElem_cons (l := ops.toList) (i := k) (by simpa using q)).trans (by rw [Array.getElem_toList])
      rw [e] at h ⊢
      simp only [awpX] at h
      rw [if_pos (hnt _ (Array.getElem?_eq_getElem q))] at h
      exact h
    · rw [List.drop_of_length_le (by simpa using q)] at h ⊢
      exact h
  | m + 1, k, listed, ρ, σ, hk, inv, hB, h => by
    simp only [Region.lexHead, Bool.and_eq_true] at hB
    obtain ⟨⟨hr, hf⟩, hB'⟩ := hB
    have hkn : k < n := by omega
    have hks : k < ops.size := by omega
    have hr' : k ∈ Region.ready .any ops listed := by simpa using hr
    have h0 : ops[k]? = some ops[k] := Array.getElem?_eq_getElem hks
    have e : ops.toList.drop k = ops[k] :: ops.toList.drop (k + 1) := (List.drop_eq_getElem_cons (l := ops.toList) (i := k) (by simpa using hks)).trans (by rw [Array.getElem_toList])
    rw [e] at h
    simp only [awpX] at h
    rw [if_neg (by rw [hnh k _ hkn h0]; simp)] at h
    obtain ⟨r, σ', hs, hrest⟩ : ∃ r σ', SX P ops.toList ops[k] ρ σ r σ' ∧ awpX P ops.toList ext K (ops.toList.drop (k + 1)) (putA ρ ops[k].dst r) σ' := by
      split at h
      · rename_i b hb
        cases b with
        | true => simp only [if_true] at h; exact sx_of_step hb h
        | false => simp only [Bool.false_eq_true, if_false] at h; exact ⟨.v undef, σ, .inr ⟨hb, rfl, rfl⟩, h⟩
      · exact h.elim
    exact anyX_first h0 hch (fun listed' inv' hun => htail k listed' hkn inv' hun) hkn (fun listed' ρ' σ' hL => seqB_ready hL.1) m listed ρ σ σ' inv (Region.free_spec h0 hf) hr' hs
      (anyX_lex hch htail hnh hnt hns m (k + 1) _ _ _ (by omega) (inv.set hr' hkn) hB' hrest)

theorem wpAny_of_seqAt {ops : Array Oper} {Q : Exit → Act → World → Prop} : ∀ (g k : Nat) (listed : Array Bool) (a : Act) (w : World), k + g = ops.size → Region.seqB .any ops g k listed = true → wpOps P ops Q (List.range' k g) a w → wpAny P .any ops Q g listed a w
  | 0, k, listed, a, w, hk, hB, h => by
    simp only [Region.seqB, List.isEmpty_iff] at hB
    simp only [List.range'_zero, wpOps] at h
    exact ⟨hB, h⟩
  | g + 1, k, listed, a, w, hk, hB, h => by
    simp only [Region.seqB, Bool.and_eq_true, decide_eq_true_eq] at hB
    rw [List.range'_succ, wpOps_cons] at h
    refine ⟨fun h1 => (by rw [hB.1] at h1; cases h1), fun i hi => ?_⟩
    rw [hB.1] at hi
    have hik : i = k := by simpa using hi
    subst hik
    exact wpOp_mono (fun a' w' h' => wpAny_of_seqAt g (i + 1) _ a' w' (by omega) hB.2 h') h
theorem wpAny_of_seqOps {ops : Array Oper} {Q : Exit → Act → World → Prop} {n : Nat} {listed : Array Bool} {a : Act} {w : World} (hn : n ≤ ops.size) (hB : Region.seqB .any ops (ops.size - n) n listed = true) (h : wpOps P ops Q (List.range' n (ops.size - n)) a w) :
    wpAny P .any ops Q (ops.size - n) listed a w := wpAny_of_seqAt _ n listed a w (by omega) hB h

theorem awpX_run1 (hm : P.follows .mixedOrders = true) {id : Nat} {ops : Array Oper} {K : List AV → St → Prop} {Q : Exit → Act → World → Prop} {g : G} {wE w : World} {ρ : List AV} {σ : St} {a : Act} (hB : (Region.noSelect ops && appChain ops (tailN ops.toList) && Region.lexHead .any ops (ops.size - tailN ops.toList) (tailN ops.toList) 0 (Array.replicate ops.size false) && (tailN ops.toList == ops.size || (Region.sinkB .any ops (tailN ops.toList) && Region.chainB .any ops (tailN ops.toList)))) = true)
    (h : awpX P ops.toList (ops.toList.any fun o => isExtB o.op) K ops.toList ρ σ) (hA : At g wE ρ σ a w) (hQ : ∀ ρ σ g' a w, K ρ σ → g.le g' → At g' wE ρ σ a w → Q .normal a w) : (Code.region id ops true).wp P Q a w := by
  simp only [Bool.and_eq_true, Bool.or_eq_true, beq_iff_eq] at hB
  obtain ⟨⟨⟨hsel, hch⟩, hlex⟩, hend⟩ := hB
  generalize hn : tailN ops.toList = n at hch hlex hend
  have hns : n ≤ ops.size := by rw [← hn]; unfold tailN; simpa using List.findIdx_le_length (xs := ops.toList) (p := fun o => heavyB (ops.toList.any fun o => isExtB o.op) o.op)
  refine wp_region_any hm ?_
  have inv0 : HeadInv .any ops n (Array.replicate ops.size false) :=
    ⟨by simp, fun j oj _ hl => (by rw [getD_replicate_false] at hl; cases hl), fun t _ ht => getD_in (by simpa using ht) (getD_replicate_false _ _)⟩
  have htail : ∀ i listed, i < n → HeadInv .any ops n listed → listed.getD i true = false → ∀ t, n ≤ t → t ∉ Region.ready .any ops listed := fun i listed hin inv hun t ht hr => by
    rcases hend with e | ⟨hs, hc⟩
    · obtain ⟨_, ot, hot, _⟩ := mem_ready.1 hr
      have := (Array.getElem?_eq_some_iff.1 hot).1
      omega
    · rcases Nat.lt_or_ge n ops.size with q | q
      · exact tail_waits hs hc q inv _ i rfl hin hun t ht hr
      · obtain ⟨_, ot, hot, _⟩ := mem_ready.1 hr
        have := (Array.getElem?_eq_some_iff.1 hot).1
        omega
  have H := anyX_lex (P := P) (ops := ops) (n := n) (gz := ops.size - n) (ext := ops.toList.any fun o => isExtB o.op) (K := K) hch htail
    (fun i o hin ho => by
      have ho' : ops.toList[i]? = some o := by simpa using ho
      have hlt : i < ops.toList.length := (List.getElem?_eq_some_iff.1 ho').1
      have := List.not_of_lt_findIdx (xs := ops.toList) (p := fun o => heavyB (ops.toList.any fun o => isExtB o.op) o.op) (i := i) (by unfold tailN at hn; rw [hn]; exact hin)
      have e : ops.toList[i] = o := by rw [List.getElem?_eq_getElem hlt] at ho'; exact Option.some.inj ho'
      rw [e] at this
      simpa using this)
    (fun o ho => by
      have ho' : ops.toList[n]? = some o := by simpa using ho
      have hlt : n < ops.toList.length := (List.getElem?_eq_some_iff.1 ho').1
      have := List.findIdx_getElem (xs := ops.toList) (p := fun o => heavyB (ops.toList.any fun o => isExtB o.op) o.op) (w := by unfold tailN at hn; rw [hn]; exact hlt)
      unfold tailN at hn
      have e : ops.toList[n] = o := by rw [List.getElem?_eq_getElem hlt] at ho'; exact Option.some.inj ho'
      simp only [hn] at this
      rw [e] at this
      exact this) hns n 0 (Array.replicate ops.size false) ρ σ (by omega) inv0 hlex (by simpa using h)
  have hA' : At g wE ρ σ a { w with drawn := w.drawn + 1 } := hA.up (G.le.refl _) (hA.inv.grows (below_drew1' (Below.refl _ _)))
  have := anyX_run (P := P) (wE := wE) (Q := Q) (g0 := g) (gz := ops.size - n) (fun listed ρ' σ' g' a' w' hg hL hA => by
    refine wpAny_of_seqOps ?_ hL.1 ?_
    · exact hns
    · exact awpOps_run (ops.size - n) (ops.toList.drop n) n g' w' ρ' σ' a' (by simp) rfl hL.2 hA (fun ρ σ g2 a w q1 q2 q3 => hQ ρ σ g2 a w q1 (hg.trans q2) q3)) n _ ρ σ g a _ (G.le.refl _) H hA'
  rw [show n + (ops.size - n) = ops.size by omega] at this
  exact this

theorem anyX_lexG {ops : Array Oper} {n k0 : Nat} {ext : Bool} {K : List AV → St → Prop} {b : Array Bool → Bool} {T : List AV → St → Prop} (hch : appChain ops n = true) (htail : ∀ i listed, i < n → HeadInv .any ops n listed → listed.getD i true = false → ∀ t, n ≤ t → t ∉ Region.ready .any ops listed)
    (hnh : ∀ i o, k0 ≤ i → i < n → ops[i]? = some o → heavyB ext o.op = false) (hT : ∀ ρ σ, awpX P ops.toList ext K (ops.toList.drop n) ρ σ → T ρ σ) (hns : n ≤ ops.size) (hb : ∀ listed, b listed = true → ∀ j ∈ Region.ready .any ops listed, n ≤ j) :
    ∀ (m : Nat) (k : Nat) (listed : Array Bool) (ρ : List AV) (σ : St), k0 ≤ k → k + m = n → HeadInv .any ops n listed →
    lexG ops b m k listed = true → awpX P ops.toList ext K (ops.toList.drop k) ρ σ →
    AnyX P ops n (fun listed' ρ' σ' => b listed' = true ∧ HeadInv .any ops n listed' ∧ T ρ' σ') m listed ρ σ
  | 0, k, listed, ρ, σ, hk0, hk, inv, hB, h => by
    have : k = n := by omega
    subst this
    exact ⟨by simpa [lexG] using hB, inv, hT _ _ h⟩
  | m + 1, k, listed, ρ, σ, hk0, hk, inv, hB, h => by
    simp only [lexG, Bool.and_eq_true] at hB
    obtain ⟨⟨hr, hf⟩, hB'⟩ := hB
    have hkn : k < n := by omega
    have hks : k < ops.size := by omega
    have hr' : k ∈ Region.ready .any ops listed := by simpa using hr
    have h0 : ops[k]? = some ops[k] := Array.getElem?_eq_getElem hks
    have e : ops.toList.drop k = ops[k] :: ops.toList.drop (k + 1) := (List.drop_eq_getElem_cons (l := ops.toList) (i := k) (by simpa using hks)).trans (by rw [Array.getElem_toList])
    rw [e] at h
    simp only [awpX] at h
    rw [if_neg (by rw [hnh k _ hk0 hkn h0]; simp)] at h
    obtain ⟨r, σ', hs, hrest⟩ : ∃ r σ', SX P ops.toList ops[k] ρ σ r σ' ∧ awpX P ops.toList ext K (ops.toList.drop (k + 1)) (putA ρ ops[k].dst r) σ' := by
      split at h
      · rename_i b hb
        cases b with
        | true => simp only [if_true] at h; exact sx_of_step hb h
        | false => simp only [Bool.false_eq_true, if_false] at h; exact ⟨.v undef, σ, .inr ⟨hb, rfl, rfl⟩, h⟩
      · exact h.elim
    exact anyX_first h0 hch (fun listed' inv' hun => htail k listed' hkn inv' hun) hkn (fun listed' ρ' σ' hL => hb listed' hL.1) m listed ρ σ σ' inv (Region.free_spec h0 hf) hr' hs
      (anyX_lexG hch htail hnh hT hns hb m (k + 1) _ _ _ (by omega) (by omega) (inv.set hr' hkn) hB' hrest)

theorem awpOps_one {ops : Array Oper} {K : List AV → St → Prop} {wE : World} {Q : Exit → Act → World → Prop} {o : Oper} {rest : List Oper} {i : Nat} {g : G} {w : World} {ρ : List AV} {σ : St} {a : Act} {next : Act → World → Prop} (ho : ops[i]? = some o)
    (h : awpOps P ops.toList K (o :: rest) ρ σ) (hA : At g wE ρ σ a w) (hn : ∀ ρ' σ' g' a' w', awpOps P ops.toList K rest ρ' σ' → g.le g' → At g' wE ρ' σ' a' w' → next a' w') : wpOp P ops Q i next a w := by
  unfold wpOp
  simp only [ho]
  simp only [awpOps] at h
  split at h
  · rename_i b hb
    rw [guardA_run hb hA.rep]
    cases b with
    | true =>
      simp only [if_true] at h ⊢
      exact .inl (stepA_run h hA fun r σ' g' v w' k1 k2 k3 k4 => hn _ σ' g' _ w' k1 k2 ((hA.up k2 k4).put o.dst k3))
    | false =>
      simp only [Bool.false_eq_true, if_false] at h ⊢
      exact hn _ σ g _ w h (G.le.refl _) (hA.put o.dst (undef_rep g))
  · exact h.elim

theorem qOnly_step {o : Oper} {K : AV → St → Prop} {ρ : List AV} {σ : St} (hq : qOnlyB o.op = true) (h : stepA P o.op K ρ σ) : stepX P o.op K ρ σ := by
  obtain ⟨dst, op, ty, pos, after, guard⟩ := o
  dsimp only at hq h ⊢
  cases op <;> simp only [qOnlyB, Bool.false_eq_true] at hq
  all_goals
    simp only [stepA, plainA] at h
    simp only [stepX, plainX]
    split at h
    · exact h
    · simp only [evalE] at h
theorem awpX_of_qOnly {ops : List Oper} {ext : Bool} {K : List AV → St → Prop} : ∀ (l : List Oper) (ρ : List AV) (σ : St), l.all (fun o => qOnlyB o.op) = true → awpOps P ops K l ρ σ → awpX P ops ext K l ρ σ
  | [], ρ, σ, _, h => h
  | o :: l, ρ, σ, hq, h => by
    simp only [List.all_cons, Bool.and_eq_true] at hq
    have hnh : heavyB ext o.op = false := by
      obtain ⟨dst, op, ty, pos, after, guard⟩ := o
      have := hq.1
      dsimp only at this ⊢
      cases op <;> simp only [qOnlyB, Bool.false_eq_true] at this <;> rfl
    simp only [awpX]
    rw [if_neg (by rw [hnh]; simp)]
    simp only [awpOps] at h
    split at h
    · rename_i b hb
      cases b with
      | true =>
        simp only [if_true] at h ⊢
        refine qOnly_step hq.1 ?_
        have mono : ∀ {K K' : AV → St → Prop}, (∀ v σ, K v σ → K' v σ) → stepA P o.op K ρ σ → stepA P o.op K' ρ σ := fun {K K'} hk h => by
          have hq1 := hq.1
          obtain ⟨dst, op, ty, pos, after, guard⟩ := o
          dsimp only at hq1 h ⊢
          cases op <;> simp only [qOnlyB, Bool.false_eq_true] at hq1
          all_goals
            simp only [stepA, plainA] at h ⊢
            split at h
            · exact hk _ _ h
            · simp only [evalE] at h
        exact mono (fun v σ' hh => awpX_of_qOnly l _ _ hq.2 hh) h
      | false =>
        simp only [Bool.false_eq_true, if_false] at h ⊢
        exact awpX_of_qOnly l _ _ hq.2 h
    · exact h.elim

theorem awpX_run2 (hm : P.follows .mixedOrders = true) {id : Nat} {ops : Array Oper} {K : List AV → St → Prop} {Q : Exit → Act → World → Prop} {g : G} {wE w : World} {ρ : List AV} {σ : St} {a : Act}
    (hB : (Region.noSelect ops && appChain ops (tailN ops.toList) && order2 ops (tailN ops.toList)) = true)
    (h : awpX P ops.toList (ops.toList.any fun o => isExtB o.op) K ops.toList ρ σ) (hA : At g wE ρ σ a w) (hQ : ∀ ρ σ g' a w, K ρ σ → g.le g' → At g' wE ρ σ a w → Q .normal a w) : (Code.region id ops true).wp P Q a w := by
  simp only [Bool.and_eq_true] at hB
  obtain ⟨⟨hsel, hch⟩, h2⟩ := hB
  simp only [order2, Bool.and_eq_true, decide_eq_true_eq] at h2
  generalize hn : tailN ops.toList = n at hch h2
  obtain ⟨⟨⟨⟨⟨hlex, hlt⟩, hsink⟩, hchain⟩, hall⟩, hch2⟩ := h2
  generalize hext : (ops.toList.any fun o => isExtB o.op) = ext at h
  have hheavy : ∀ i o, i < n → ops[i]? = some o → heavyB ext o.op = false := fun i o hin ho => by
    have ho' : ops.toList[i]? = some o := by simpa using ho
    have hlt' : i < ops.toList.length := (List.getElem?_eq_some_iff.1 ho').1
    have := List.not_of_lt_findIdx (xs := ops.toList) (p := fun o => heavyB (ops.toList.any fun o => isExtB o.op) o.op) (i := i) (by unfold tailN at hn; rw [hn]; exact hin)
    have e : ops.toList[i] = o := by rw [List.getElem?_eq_getElem hlt'] at ho'; exact Option.some.inj ho'
    rw [e, hext] at this
    simpa using this
  have hheavyn : heavyB ext ops[n].op = true := by
    have hlt' : n < ops.toList.length := by simpa using hlt
    have := List.findIdx_getElem (xs := ops.toList) (p := fun o => heavyB (ops.toList.any fun o => isExtB o.op) o.op) (w := by unfold tailN at hn; rw [hn]; exact hlt')
    unfold tailN at hn
    have e : ops.toList[n] = ops[n] := Array.getElem_toList _
    simp only [hn] at this
    rw [e] at this
    rw [← hext]
    exact this
  refine wp_region_any hm ?_
  have inv0 : HeadInv .any ops n (Array.replicate ops.size false) :=
    ⟨by simp, fun j oj _ hl => (by rw [getD_replicate_false] at hl; cases hl), fun t _ ht => getD_in (by simpa using ht) (getD_replicate_false _ _)⟩
  have htail : ∀ i listed, i < n → HeadInv .any ops n listed → listed.getD i true = false → ∀ t, n ≤ t → t ∉ Region.ready .any ops listed := fun i listed hin inv hun t ht hr => by
    obtain ⟨_, ot, hot, hwait⟩ := mem_ready.1 hr
    have htlt : t < ops.size := (Array.getElem?_eq_some_iff.1 hot).1
    rcases Nat.lt_or_ge n t with q | q
    · have hc := List.all_eq_true.1 hchain t (List.mem_range.2 htlt)
      simp only [Bool.or_eq_true, decide_eq_true_eq] at hc
      rcases hc with hc | hc
      · omega
      · obtain ⟨j, hj, hw⟩ := List.any_eq_true.1 hc
        simp only [Bool.and_eq_true, decide_eq_true_eq] at hw
        obtain ⟨oj, hoj, e, he, hb, hon⟩ := Region.waitsFor_spec hw.2
        rw [hot] at hoj
        injection hoj with hoj
        subst hoj
        have h1 := hwait e he hb
        rw [hon] at h1
        have h2 := inv.tail j hw.1 (by have := List.mem_range.1 hj; omega)
        rw [getD_both h2] at h1
        cases h1
    · have htn : t = n := by omega
      subst htn
      have key : ∀ d i, t - i = d → i < t → listed.getD i true = false → False := by
        intro d
        induction d using Nat.strongRecOn with
        | _ d ih =>
          intro i hd hi hun
          have hs := List.all_eq_true.1 hsink i (List.mem_range.2 hi)
          obtain ⟨j, hj, hw⟩ := List.any_eq_true.1 hs
          simp only [Bool.and_eq_true, decide_eq_true_eq] at hw
          have hjt := List.mem_range.1 hj
          obtain ⟨oj, hoj, e, he, hb, hon⟩ := Region.waitsFor_spec hw.2
          by_cases hjt' : j = t
          · subst hjt'
            rw [hot] at hoj
            injection hoj with hoj
            subst hoj
            have h1 := hwait e he hb
            rw [hon, getD_both hun] at h1
            cases h1
          · cases hlj : listed.getD j false with
            | true =>
              have h1 := inv.closed j oj hoj hlj e he hb
              rw [hon, getD_both hun] at h1
              cases h1
            | false =>
              exact ih (t - j) (by omega) j rfl (by omega) (getD_in (by rw [inv.size]; exact (Array.getElem?_eq_some_iff.1 hoj).1) hlj)
      exact key _ i rfl hin hun
  have H := anyX_lexG (P := P) (ops := ops) (n := n) (k0 := 0) (ext := ext) (K := K) (b := tail2B ops n) (T := fun ρ σ => awpOps P ops.toList K (ops.toList.drop n) ρ σ) hch htail (fun i o _ => hheavy i o) (fun ρ σ h => by
      have e : ops.toList.drop n = ops[n] :: ops.toList.drop (n + 1) := (List.drop_eq_getElem_cons (l := ops.toList) (i := n) (by simpa using hlt)).trans (by rw [Array.getElem_toList])
      rw [e] at h ⊢
      simp only [awpX] at h
      rwa [if_pos hheavyn] at h) (by omega) (fun listed hb j hj => by
      simp only [tail2B, Bool.and_eq_true, decide_eq_true_eq] at hb
      rw [hb.1] at hj
      have : j = n := by simpa using hj
      omega) n 0 (Array.replicate ops.size false) ρ σ (Nat.le_refl _) (by omega) inv0 hlex (by simpa using h)
  have hA' : At g wE ρ σ a { w with drawn := w.drawn + 1 } := hA.up (G.le.refl _) (hA.inv.grows (below_drew1' (Below.refl _ _)))
  have := anyX_run (P := P) (wE := wE) (Q := Q) (g0 := g) (gz := ops.size - n) (fun listed ρ' σ' g' a' w' hg hL hA => by
    obtain ⟨hb, inv, hops⟩ := hL
    simp only [tail2B, Bool.and_eq_true, decide_eq_true_eq] at hb
    obtain ⟨hr, hlex2⟩ := hb
    rw [show ops.size - n = (ops.size - n - 1) + 1 by omega]
    refine ⟨fun h0 => (by rw [h0] at hr; cases hr), fun i hi => ?_⟩
    have hnr : n ∈ Region.ready .any ops listed := by rw [hr]; simp
    rw [hr] at hi
    have hin : i = n := by simpa using hi
    subst hin
    have e : ops.toList.drop i = ops[i] :: ops.toList.drop (i + 1) := (List.drop_eq_getElem_cons (l := ops.toList) (i := i) (by simpa using hlt)).trans (by rw [Array.getElem_toList])
    rw [e] at hops
    refine awpOps_one (Array.getElem?_eq_getElem hlt) hops hA fun ρ2 σ2 g2 a2 w2 h2 hg2 hA2 => ?_
    have hX := awpX_of_qOnly (ext := ext) _ _ _ hall h2
    have inv2 : HeadInv .any ops ops.size (listed.setIfInBounds i true) := by
      obtain ⟨_, oi, hoi, hdone⟩ := mem_ready.1 hnr
      refine ⟨by simp [inv.size], fun j oj hj hl e he hb => ?_, fun t ht ht' => by omega⟩
      by_cases hij : i = j
      · subst hij
        have : oj = oi := Option.some.inj (hj.symm.trans hoi)
        subst this
        exact getD_set_true (hdone e he hb)
      · rw [getD_set_ne false hij] at hl
        exact getD_set_true (inv.closed j oj hj hl e he hb)
    have H2 := anyX_lexG (P := P) (ops := ops) (n := ops.size) (k0 := i + 1) (ext := ext) (K := K) (b := fun l => (Region.ready .any ops l).isEmpty) (T := K) hch2 (fun j listed' hj _ _ t ht hr' => by
        obtain ⟨_, ot, hot, _⟩ := mem_ready.1 hr'
        have := (Array.getElem?_eq_some_iff.1 hot).1
        omega) (fun j o hj1 hj2 ho => by
        have hmem : o ∈ ops.toList.drop (i + 1) := by
          refine List.mem_iff_getElem?.2 ⟨j - (i + 1), ?_⟩
          rw [List.getElem?_drop, show i + 1 + (j - (i + 1)) = j by omega]
          simpa using ho
        have hq := List.all_eq_true.1 hall o hmem
        obtain ⟨dst, op, ty, pos, after, guard⟩ := o
        dsimp only at hq ⊢
        cases op <;> simp only [qOnlyB, Bool.false_eq_true] at hq <;> rfl) (fun ρ σ h => by
        rw [List.drop_of_length_le (by simp)] at h
        exact h) (Nat.le_refl _) (fun l hl j hj => by
        simp only [List.isEmpty_iff] at hl
        rw [hl] at hj
        cases hj) (ops.size - i - 1) (i + 1) _ ρ2 σ2 (Nat.le_refl _) (by omega) inv2 hlex2 hX
    have := anyX_run (P := P) (wE := wE) (Q := Q) (g0 := g2) (gz := 0) (fun l ρ3 σ3 g3 a3 w3 hg3 hL3 hA3 => ⟨by simpa [List.isEmpty_iff] using hL3.1, hQ _ _ g3 _ _ hL3.2.2 (hg.trans (hg2.trans hg3)) hA3⟩) (ops.size - i - 1) _ ρ2 σ2 g2 a2 w2 (G.le.refl _) H2 hA2
    exact this) n _ ρ σ g a _ (G.le.refl _) H hA'
  rw [show n + (ops.size - n) = ops.size by omega] at this
  exact this

theorem awpX_run (hm : P.follows .mixedOrders = true) {id : Nat} {ops : Array Oper} {K : List AV → St → Prop} {Q : Exit → Act → World → Prop} {g : G} {wE w : World} {ρ : List AV} {σ : St} {a : Act} (hB : orderOK ops = true)
    (h : awpX P ops.toList (ops.toList.any fun o => isExtB o.op) K ops.toList ρ σ) (hA : At g wE ρ σ a w) (hQ : ∀ ρ σ g' a w, K ρ σ → g.le g' → At g' wE ρ σ a w → Q .normal a w) : (Code.region id ops true).wp P Q a w := by
  unfold orderOK at hB
  rcases Bool.or_eq_true_iff.1 hB with hB | hB
  · exact awpX_run1 hm hB h hA hQ
  · exact awpX_run2 hm hB h hA hQ

theorem PostA.mono {g : G} {wE : World} {Q Q' : Exit → List AV → St → Prop} {e : Exit} {a : Act} {w : World} (h : PostA g wE Q e a w) (hq : ∀ e ρ σ, Q e ρ σ → Q' e ρ σ) : PostA g wE Q' e a w := by
  obtain ⟨ρ, σ, g', h1, h2⟩ := h
  exact ⟨ρ, σ, g', hq _ _ _ h1, h2⟩

theorem awp_run (hm : P.follows .mixedOrders = true) : ∀ (c : Code) (Q : Exit → List AV → St → Prop) (ρ : List AV) (σ : St) (g : G) (wE w : World) (a : Act), drawsOK c = true → awp P c Q ρ σ → At g wE ρ σ a w → c.wp P (PostA g wE Q) a w
  | .skip, Q, ρ, σ, g, wE, w, a, hd, h, hA => wp_skip ⟨ρ, σ, g, h, G.le.refl _, hA⟩
  | .label l, Q, ρ, σ, g, wE, w, a, hd, h, hA => wp_label ⟨ρ, σ, g, h, G.le.refl _, hA⟩
  | .exit id, Q, ρ, σ, g, wE, w, a, hd, h, hA => wp_exit ⟨ρ, σ, g, h, G.le.refl _, hA⟩
  | .ret, Q, ρ, σ, g, wE, w, a, hd, h, hA => wp_ret ⟨ρ, σ, g, h, G.le.refl _, hA⟩
  | .region id ops draw, Q, ρ, σ, g, wE, w, a, hd, h, hA => by
    simp only [awp] at h
    cases draw with
    | false =>
      simp only [Bool.false_eq_true, if_false] at h
      refine wp_region ?_
      rw [List.range_eq_range']
      exact awpOps_run ops.size ops.toList 0 g w ρ σ a (by simp) (by simp) h hA fun ρ σ g' a w k1 k2 k3 => ⟨ρ, σ, g', k1, k2, k3⟩
    | true =>
      simp only [if_true] at h
      simp only [drawsOK, Bool.not_true, Bool.false_or] at hd
      exact awpX_run hm hd h hA fun ρ σ g' a w k1 k2 k3 => ⟨ρ, σ, g', k1, k2, k3⟩
  | .seq x y, Q, ρ, σ, g, wE, w, a, hd, h, hA => by
    simp only [awp] at h
    simp only [drawsOK, Bool.and_eq_true] at hd
    refine wp_seq (wp_mono (awp_run hm x _ ρ σ g wE w a hd.1 h hA) ?_)
    rintro e a' w' ⟨ρ', σ', g', k1, k2, k3⟩
    cases e with
    | normal => exact wp_mono (awp_run hm y Q ρ' σ' g' wE w' a' hd.2 k1 k3) fun e a w ⟨ρ, σ, g2, q1, q2, q3⟩ => ⟨ρ, σ, g2, q1, k2.trans q2, q3⟩
    | _ => exact ⟨ρ', σ', g', k1, k2, k3⟩
  | .cond c x y, Q, ρ, σ, g, wE, w, a, hd, h, hA => by
    simp only [awp] at h
    simp only [drawsOK, Bool.and_eq_true] at hd
    split at h
    · rename_i t e
      have hc := ev_rep hA.rep c
      rw [e] at hc
      simp only [Rep] at hc
      refine wp_cond hc ?_
      cases t with
      | true => simp only [if_true] at h ⊢; exact awp_run hm x Q ρ σ g wE w a hd.1 h hA
      | false => simp only [Bool.false_eq_true, if_false] at h ⊢; exact awp_run hm y Q ρ σ g wE w a hd.2 h hA
    · exact h.elim
  | .block id c, Q, ρ, σ, g, wE, w, a, hd, h, hA => by
    simp only [awp] at h
    simp only [drawsOK] at hd
    refine wp_block (wp_mono (awp_run hm c _ ρ σ g wE w a hd h hA) ?_)
    rintro e a' w' ⟨ρ', σ', g', k1, k2, k3⟩
    cases e with
    | exit i =>
      simp only [inBlockA] at k1
      simp only [Exit.inBlock]
      split
      · rename_i e'; rw [if_pos e'] at k1; exact ⟨ρ', σ', g', k1, k2, k3⟩
      · rename_i e'; rw [if_neg e'] at k1; exact ⟨ρ', σ', g', k1, k2, k3⟩
    | _ => exact ⟨ρ', σ', g', k1, k2, k3⟩
  | .loop c, Q, ρ, σ, g, wE, w, a, hd, h, hA => by
    simp only [awp] at h
    simp only [drawsOK] at hd
    obtain ⟨n, h⟩ := h
    refine wp_loop_rounds n ?_
    have key : ∀ n ρ σ g' a w, Nat.rec (motive := fun _ => List AV → St → Prop) (fun _ _ => False) (fun _ ih ρ σ => awp P c (thenA ih Q) ρ σ) n ρ σ → g.le g' → At g' wE ρ σ a w → Code.rounds P c (PostA g wE Q) n a w := by
      intro n
      induction n with
      | zero => intro ρ σ g' a w h _ _; exact h.elim
      | succ n ih =>
        intro ρ σ g' a w h hg hA
        rw [rounds_succ]
        refine wp_mono (awp_run hm c _ ρ σ g' wE w a hd h hA) ?_
        rintro e a' w' ⟨ρ', σ', g2, k1, k2, k3⟩
        cases e with
        | normal => exact ih ρ' σ' g2 a' w' k1 (hg.trans k2) k3
        | _ => exact ⟨ρ', σ', g2, k1, hg.trans k2, k3⟩
    exact key n ρ σ g a w h (G.le.refl _) hA
  | .rangeFunc .., Q, ρ, σ, g, wE, w, a, hd, h, hA => by simp only [awp] at h
  | .scope _, Q, ρ, σ, g, wE, w, a, hd, h, hA => by simp only [awp] at h
  | .goto _, Q, ρ, σ, g, wE, w, a, hd, h, hA => by simp only [awp] at h
  | .refuse _, Q, ρ, σ, g, wE, w, a, hd, h, hA => by simp only [awp] at h

/-- What a function hands back. -/
def resultA (P : Program) (ρ : List AV) (σ : St) : ResultVar → Option AV
  | .tmp t => some (slot ρ t)
  | .cell a t => match slot ρ a with
    | .ptr id off => (σ.box id).bind fun cs => partA P t cs off
    | _ => none
def resultsL (P : Program) (ρ : List AV) (σ : St) : List ResultVar → Option (List AV)
  | [] => some []
  | r :: rs => match resultA P ρ σ r, resultsL P ρ σ rs with
    | some v, some vs => some (v :: vs)
    | _, _ => none
def tupA : List AV → AV
  | [v] => v
  | vs => .tup vs

def retA (P : Program) (rs : List ResultVar) (K : AV → St → Prop) (e : Exit) (ρ : List AV) (σ : St) : Prop :=
  match e with
  | .normal | .ret => match resultsL P ρ σ rs with
    | some vs => K (tupA vs) σ
    | none => False
  | _ => False

def rvSem (tmps : Array Value) : ResultVar → Sem Value
  | .tmp t => pure (tmps.getD t undef)
  | .cell c t => do loadVar t (← asAddr (tmps.getD c undef))
theorem resultA_run {g : G} {wE w : World} {ρ : List AV} {σ : St} {a : Act} {r : ResultVar} {v : AV} (h : resultA P ρ σ r = some v) (hA : At g wE ρ σ a w) :
    ∃ y, Rep g v y ∧ (rvSem a.tmps r).run P w = .ok y w := by
  cases r with
  | tmp t =>
    simp only [resultA, Option.some.injEq] at h
    subst h
    exact ⟨_, ev_rep hA.rep (.tmp t), rfl⟩
  | cell c t =>
    simp only [resultA] at h
    have hr := ev_rep hA.rep (.tmp c)
    simp only [ev, Act.eval] at hr
    split at h
    · rename_i id off e
      obtain ⟨cs, hcs, h⟩ := Option.bind_eq_some_iff.1 h
      obtain ⟨b, arr, tt, hb, h3, h4⟩ := box_cls hA.inv hcs
      rw [e] at hr
      simp only [Rep] at hr
      obtain ⟨b', hb', hr⟩ := hr
      rw [hb] at hb'
      injection hb' with hb'
      subst hb'
      obtain ⟨y, hy, hrun⟩ := load_run (P := P) (C := fun w' => Below w.heap.size w w') h (cells_box h3 h4)
      have := hrun w (Below.refl _ _)
      rw [Nat.zero_add] at this
      exact ⟨y, hy, by simp [rvSem, hr, asAddr, this]⟩
    · cases h

theorem results_run {g : G} {wE w : World} {ρ : List AV} {σ : St} {a : Act} {fn : Func} {vs : List AV} (h : resultsL P ρ σ fn.results.toList = some vs) (hA : At g wE ρ σ a w) :
    ∃ y, Rep g (tupA vs) y ∧ (results fn a.tmps).run P w = .ok y w := by
  have key : ∀ (rs : List ResultVar) (vs : List AV), resultsL P ρ σ rs = some vs → ∃ ys : List Value, RepL g vs ys ∧ (rs.mapM (rvSem a.tmps)).run P w = .ok ys w := by
    intro rs
    induction rs with
    | nil => intro vs h; simp only [resultsL, Option.some.injEq] at h; subst h; exact ⟨[], repL_nil, by simp⟩
    | cons r rs ih =>
      intro vs h
      simp only [resultsL] at h
      split at h
      · rename_i v vs' h1 h2
        injection h with h
        subst h
        obtain ⟨y, k1, k2⟩ := resultA_run h1 hA
        obtain ⟨ys, k3, k4⟩ := ih vs' h2
        refine ⟨y :: ys, repL_cons.2 ⟨k1, k3⟩, ?_⟩
        simp only [List.mapM_cons, Sem.run_bind, k2, k4, Result.andThen_ok, Sem.run_pure]
      · cases h
  obtain ⟨ys, k1, k2⟩ := key _ _ h
  have hl := repL_length k1
  refine ⟨if h : ys.toArray.size = 1 then ys.toArray[0] else .tuple ys.toArray, ?_, ?_⟩
  · cases vs with
    | nil =>
      simp only [RepL] at k1
      subst k1
      simp only [tupA, Rep]
      exact ⟨#[], rfl, repL_nil⟩
    | cons v vs =>
      cases vs with
      | nil =>
        simp only [RepL] at k1
        obtain ⟨y, r, rfl, k1, rfl⟩ := k1
        simpa [tupA] using k1
      | cons v' vs =>
        simp only [List.length_cons] at hl
        rw [dif_neg (by simp; omega)]
        simp only [tupA, Rep]
        exact ⟨_, rfl, by simpa using k1⟩
  · obtain ⟨rs, hrs⟩ : ∃ rs : List ResultVar, fn.results = rs.toArray := ⟨fn.results.toList, by simp⟩
    have hres : results fn a.tmps = (fn.results.mapM (rvSem a.tmps) >>= fun vs => pure (if h : vs.size = 1 then vs[0] else .tuple vs)) := by
      unfold results
      congr 1
    rw [hres]
    rw [hrs] at k2 ⊢
    simp only [List.mapM_toArray, Sem.run_bind, Sem.run_map, k2, Result.andThen_ok, Sem.run_pure]

/-- A function's contract out of its body's walk. -/
theorem acalls_of (hm : P.follows .mixedOrders = true) {f : FuncId} {fn : Func} {c : Code} {rs : List ResultVar} {n : Nat} {args : List AV} {σ : St} {K : AV → St → Prop} (hf : P.funcs[f]? = some fn) (hb : fn.body = some c) (hn : fn.name ≠ "runtime.NumGoroutine")
    (hrs' : fn.results = rs.toArray) (hnt : fn.ntmps - args.length = n) (hd : drawsOK c = true) (h : awp P c (retA P rs K) (args ++ List.replicate n (.v undef)) σ) : ACalls P f args σ K := by
  have hrs : fn.results.toList = rs := by rw [hrs']
  subst hrs hnt
  refine ⟨⟨fn, hf, by rw [hb]; rfl, hn⟩, fun g wE w vals hr hI => ?_⟩
  refine calls_of_wp hf hb ?_
  have hl := repL_length hr
  have hrep : ∀ n, RepL g (List.replicate n (.v undef)) (List.replicate n undef) := fun n => by
    induction n with
    | zero => exact repL_nil
    | succ n ih => simp only [List.replicate_succ, repL_cons]; exact ⟨undef_rep g, ih⟩
  have hA : At g wE (args ++ List.replicate (fn.ntmps - args.length) (.v undef)) σ { tmps := vals ++ Array.replicate (fn.ntmps - vals.size) undef, defers := [] } w := ⟨by
    simp only [Array.toList_append, Array.toList_replicate]
    simp only [Array.length_toList] at hl
    rw [hl]
    exact repL_append hr (hrep _), rfl, hI⟩
  refine wp_mono (awp_run hm c _ _ σ g wE w _ hd h hA) ?_
  rintro e a w' ⟨ρ, σ', g', k1, k2, k3⟩
  cases e <;> simp only [retA] at k1
  case normal =>
    split at k1
    · rename_i vs hvs
      obtain ⟨y, q1, q2⟩ := results_run hvs k3
      exact ⟨k3.defers, y, q2, tupA vs, σ', g', y, k1, rfl, k2, q1, k3.inv⟩
    · exact k1.elim
  case ret =>
    split at k1
    · rename_i vs hvs
      obtain ⟨y, q1, q2⟩ := results_run hvs k3
      exact ⟨k3.defers, y, q2, tupA vs, σ', g', y, k1, rfl, k2, q1, k3.inv⟩
    · exact k1.elim

end
end Go.AW
end
