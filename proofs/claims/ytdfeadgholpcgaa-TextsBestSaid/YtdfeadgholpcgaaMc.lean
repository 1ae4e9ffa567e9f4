/-
  ABSTRACT WALKS, part 9: what the walk opens by itself; how states follow each other. Over any program.
-/
import Derived.Test.YtdfeadgholpcgaaMd

section
set_option linter.unusedVariables false
set_option linter.unusedSimpArgs false
namespace Go.AW
open Go.RowKit

attribute [simp] weakA heavyB isExtB evalQ evalE ev absC absC1 putA guardA resultsL resultA tupA builtinQ pickA_true pickA_false
  intBin strBin eqOp fillA partsA setsL drawsOK

section
variable {P : Program}

@[simp] theorem slot_zero {a : AV} {l : List AV} : slot (a :: l) 0 = a := rfl
@[simp] theorem slot_succ {a : AV} {l : List AV} {n : Nat} : slot (a :: l) (n + 1) = slot l n := by simp [slot]
@[simp] theorem setS_zero {a v : AV} {l : List AV} : setS (a :: l) 0 v = v :: l := rfl
@[simp] theorem setS_succ {a v : AV} {l : List AV} {n : Nat} : setS (a :: l) (n + 1) v = a :: setS l n v := rfl
@[simp] theorem setS_length {l : List AV} {n : Nat} {v : AV} : (setS l n v).length = l.length := by simp [setS]
@[simp] theorem slot_setS {l : List AV} {j : Nat} {v : AV} (h : j < l.length) : slot (setS l j v) j = v := by
  unfold slot setS
  simp [List.getD_eq_getElem?_getD, h]
@[simp] theorem slot_setS_other {l : List AV} {i j : Nat} {v : AV} (h : i ≠ j) : slot (setS l i v) j = slot l j := slot_setS_ne h

/-- A mark that a congruence lemma hands out, so that it always counts as used: what it does not name is then never visited. -/
def mark {α : Type} (x : α) : α := x
/-- Behind the mark, so that the first step's proof is about the mark itself, whatever follows by computation. -/
def tagA {α : Type} (x : α) : α := x
theorem nr {α : Sort _} {a b : α} (h : a = b) : a = b := h
@[simp ↓] theorem mark_tag {α : Type} (x : α) : mark x = tagA x := nr rfl
@[simp] theorem tagA_eq {α : Type} (x : α) : tagA x = x := nr rfl

/-- What comes behind a question, not looked at ahead of its answer. -/
def condA (x : AV) (A B : Prop) : Prop := match x with | .v (.bool t) => if t = true then A else B | _ => False
@[congr] theorem condA_congr {x x' : AV} {A B : Prop} (h : mark x = x') : condA x A B = condA x' A B := by rw [← h]; rfl
@[simp ↓] theorem condA_true {A B : Prop} : condA (.v (.bool true)) A B = A := by simp [condA]
@[simp ↓] theorem condA_false {A B : Prop} : condA (.v (.bool false)) A B = B := by simp [condA]
/-- Either way, as the case may be. -/
def iteP (c A B : Prop) : Prop := (c → A) ∧ (¬ c → B)
@[congr] theorem iteP_congr {c c' A B : Prop} (h : mark c = c') : iteP c A B = iteP c' A B := by rw [← h]; rfl
@[simp ↓] theorem iteP_true {A B : Prop} : iteP True A B = A := by simp [iteP]
@[simp ↓] theorem iteP_false {A B : Prop} : iteP False A B = B := by simp [iteP]
@[simp] theorem condA_bool {b : Bool} {A B : Prop} : condA (.v (.bool b)) A B = iteP (b = true) A B := by cases b <;> simp [condA, iteP]
def bindA (x : Option AV) (K : AV → Prop) (E : Prop) : Prop := match x with | some v => K v | none => E
def bindE (x : Option (AV × St)) (K : AV → St → Prop) : Prop := match x with | some (v, σ) => K v σ | none => False
def gstep (g : Option Bool) (A B : Prop) : Prop := match g with | some true => A | some false => B | none => False
@[congr] theorem bindA_congr {x x' : Option AV} {K : AV → Prop} {E : Prop} (h : mark x = x') : bindA x K E = bindA x' K E := by rw [← h]; rfl
@[congr] theorem bindE_congr {x x' : Option (AV × St)} {K : AV → St → Prop} (h : mark x = x') : bindE x K = bindE x' K := by rw [← h]; rfl
@[congr] theorem gstep_congr {g g' : Option Bool} {A B : Prop} (h : mark g = g') : gstep g A B = gstep g' A B := by rw [← h]; rfl
@[simp ↓] theorem bindA_some {v : AV} {K : AV → Prop} {E : Prop} : bindA (some v) K E = K v := propext Iff.rfl
@[simp ↓] theorem bindA_none {K : AV → Prop} {E : Prop} : bindA none K E = E := propext Iff.rfl
@[simp ↓] theorem bindE_some {v : AV} {σ : St} {K : AV → St → Prop} : bindE (some (v, σ)) K = K v σ := propext Iff.rfl
@[simp] theorem bindE_none {K : AV → St → Prop} : bindE none K = False := propext Iff.rfl
@[simp ↓] theorem gstep_true {A B : Prop} : gstep (some true) A B = A := propext Iff.rfl
@[simp ↓] theorem gstep_false {A B : Prop} : gstep (some false) A B = B := propext Iff.rfl
@[simp] theorem gstep_none {A B : Prop} : gstep none A B = False := propext Iff.rfl
@[simp] theorem gstep_some {b : Bool} {A B : Prop} : gstep (some b) A B = iteP (b = true) A B := by cases b <;> simp [gstep, iteP]
@[simp ↓] theorem plainA_def {o : Op} {K : AV → St → Prop} {ρ : List AV} {σ : St} : plainA P o K ρ σ = bindA (evalQ P σ ρ o) (fun v => K v σ) (bindE (evalE P σ ρ o) K) := by
  unfold plainA bindA bindE
  cases evalQ P σ ρ o with
  | some v => rfl
  | none => cases evalE P σ ρ o <;> rfl
@[simp ↓] theorem plainX_def {o : Op} {K : AV → St → Prop} {ρ : List AV} {σ : St} : plainX P o K ρ σ = bindA (evalQ P σ ρ o) (fun v => K v σ) (bindE (weakA P σ ρ o) K) := by
  unfold plainX bindA bindE
  cases evalQ P σ ρ o with
  | some v => rfl
  | none => cases weakA P σ ρ o <;> rfl
@[simp] theorem awpOps_nil {ops : List Oper} {K : List AV → St → Prop} {ρ : List AV} {σ : St} : awpOps P ops K [] ρ σ = K ρ σ := propext Iff.rfl
@[simp] theorem awpOps_cons {ops : List Oper} {K : List AV → St → Prop} {o : Oper} {rest : List Oper} {ρ : List AV} {σ : St} :
    awpOps P ops K (o :: rest) ρ σ = gstep (guardA ops ρ o) (stepA P o.op (fun v σ' => awpOps P ops K rest (putA ρ o.dst v) σ') ρ σ) (awpOps P ops K rest (putA ρ o.dst (.v undef)) σ) := by
  simp only [awpOps, gstep]
  cases guardA ops ρ o with
  | none => rfl
  | some g => cases g <;> simp
@[simp] theorem awpX_nil {ops : List Oper} {ext : Bool} {K : List AV → St → Prop} {ρ : List AV} {σ : St} : awpX P ops ext K [] ρ σ = K ρ σ := propext Iff.rfl
@[simp] theorem awpX_cons {ops : List Oper} {ext : Bool} {K : List AV → St → Prop} {o : Oper} {rest : List Oper} {ρ : List AV} {σ : St} :
    awpX P ops ext K (o :: rest) ρ σ = gstep (some (heavyB ext o.op)) (awpOps P ops K (o :: rest) ρ σ) (gstep (guardA ops ρ o) (stepX P o.op (fun v σ' => awpX P ops ext K rest (putA ρ o.dst v) σ') ρ σ) (awpX P ops ext K rest (putA ρ o.dst (.v undef)) σ)) := by
  simp only [awpX, gstep]
  cases heavyB ext o.op with
  | true => rfl
  | false =>
    cases guardA ops ρ o with
    | none => rfl
    | some g => cases g <;> simp

@[congr] theorem acalls_congr {f f' : FuncId} {args args' : List AV} {σ σ' : St} {K : AV → St → Prop} (h1 : mark f = f') (h2 : mark args = args') (h3 : mark σ = σ') : ACalls P f args σ K = ACalls P f' args' σ' K := by rw [← h1, ← h2, ← h3]; rfl
@[congr] theorem awp_congr {c : Code} {Q : Exit → List AV → St → Prop} {ρ ρ' : List AV} {σ σ' : St} (h2 : mark ρ = ρ') (h3 : mark σ = σ') : awp P c Q ρ σ = awp P c Q ρ' σ' := by rw [← h2, ← h3]; rfl
@[congr] theorem awpOps_congr {ops rest : List Oper} {K : List AV → St → Prop} {ρ ρ' : List AV} {σ σ' : St} (h2 : mark ρ = ρ') (h3 : mark σ = σ') : awpOps P ops K rest ρ σ = awpOps P ops K rest ρ' σ' := by rw [← h2, ← h3]; rfl
@[congr] theorem awpX_congr {ops rest : List Oper} {ext ext' : Bool} {K : List AV → St → Prop} {ρ ρ' : List AV} {σ σ' : St} (h1 : mark ext = ext') (h2 : mark ρ = ρ') (h3 : mark σ = σ') : awpX P ops ext K rest ρ σ = awpX P ops ext' K rest ρ' σ' := by rw [← h1, ← h2, ← h3]; rfl
@[congr] theorem stepA_congr {o o' : Op} {K : AV → St → Prop} {ρ ρ' : List AV} {σ σ' : St} (h1 : mark o = o') (h2 : mark ρ = ρ') (h3 : mark σ = σ') : stepA P o K ρ σ = stepA P o' K ρ' σ' := by rw [← h1, ← h2, ← h3]; rfl
@[congr] theorem stepX_congr {o o' : Op} {K : AV → St → Prop} {ρ ρ' : List AV} {σ σ' : St} (h1 : mark o = o') (h2 : mark ρ = ρ') (h3 : mark σ = σ') : stepX P o K ρ σ = stepX P o' K ρ' σ' := by rw [← h1, ← h2, ← h3]; rfl

/-- A call of a function, once its value is seen. -/
def callA (P : Program) (x : AV) (args : List AV) (σ : St) (K : AV → St → Prop) : Prop := match x with | .fn (.func g) fs cs => ACalls P g (fs ++ args ++ cs) σ K | _ => False
@[congr] theorem callA_congr {x x' : AV} {args args' : List AV} {σ σ' : St} {K : AV → St → Prop} (h1 : mark x = x') (h2 : mark args = args') (h3 : mark σ = σ') : callA P x args σ K = callA P x' args' σ' K := by rw [← h1, ← h2, ← h3]; rfl
@[simp] theorem callA_fn {g : FuncId} {fs cs args : List AV} {σ : St} {K : AV → St → Prop} : callA P (.fn (.func g) fs cs) args σ K = ACalls P g (fs ++ args ++ cs) σ K := propext Iff.rfl
def callX (P : Program) (x : AV) (args : List AV) (σ : St) (K : AV → St → Prop) : Prop := match x with | .fn (.func g) fs cs => ∃ x, (∀ σ', Mem σ σ' → AQuiet P g (fs ++ args ++ cs) σ' x) ∧ K (.v x) σ | _ => False
@[congr] theorem callX_congr {x x' : AV} {args args' : List AV} {σ σ' : St} {K : AV → St → Prop} (h1 : mark x = x') (h2 : mark args = args') (h3 : mark σ = σ') : callX P x args σ K = callX P x' args' σ' K := by rw [← h1, ← h2, ← h3]; rfl
theorem callX_fn {g : FuncId} {fs cs args : List AV} {σ : St} {K : AV → St → Prop} (x : Value) (h : ∀ σ', Mem σ σ' → AQuiet P g (fs ++ args ++ cs) σ' x) (hk : K (.v x) σ) : callX P (.fn (.func g) fs cs) args σ K := ⟨x, h, hk⟩
@[simp ↓] theorem stepA_call {f : Operand} {args : Array Operand} {ts : Array TypeId} {K : AV → St → Prop} {ρ : List AV} {σ : St} : stepA P (.call { callee := .value f, args := args, argTypes := ts }) K ρ σ = callA P (ev ρ f) (args.toList.map (ev ρ)) σ K := by
  simp only [stepA, callA]
  generalize ev ρ f = x
  cases x with
  | fn f' a b => cases f' <;> rfl
  | _ => rfl
@[simp ↓] theorem stepX_call {f : Operand} {args : Array Operand} {ts : Array TypeId} {K : AV → St → Prop} {ρ : List AV} {σ : St} : stepX P (.call { callee := .value f, args := args, argTypes := ts }) K ρ σ = callX P (ev ρ f) (args.toList.map (ev ρ)) σ K := by
  simp only [stepX, callX]
  generalize ev ρ f = x
  cases x with
  | fn f' a b => cases f' <;> rfl
  | _ => rfl

@[simp ↓] theorem stepA_alloc (t : TypeId) {K : AV → St → Prop} {ρ : List AV} {σ : St} : stepA P (.alloc t) K ρ σ = plainA P (.alloc t) K ρ σ := propext Iff.rfl
@[simp ↓] theorem stepX_alloc (t : TypeId) {K : AV → St → Prop} {ρ : List AV} {σ : St} : stepX P (.alloc t) K ρ σ = plainX P (.alloc t) K ρ σ := propext Iff.rfl
@[simp ↓] theorem stepA_move (x : Operand) {K : AV → St → Prop} {ρ : List AV} {σ : St} : stepA P (.move x) K ρ σ = plainA P (.move x) K ρ σ := propext Iff.rfl
@[simp ↓] theorem stepX_move (x : Operand) {K : AV → St → Prop} {ρ : List AV} {σ : St} : stepX P (.move x) K ρ σ = plainX P (.move x) K ρ σ := propext Iff.rfl
@[simp ↓] theorem stepA_assign (x : Operand) {K : AV → St → Prop} {ρ : List AV} {σ : St} : stepA P (.assign x) K ρ σ = plainA P (.assign x) K ρ σ := propext Iff.rfl
@[simp ↓] theorem stepX_assign (x : Operand) {K : AV → St → Prop} {ρ : List AV} {σ : St} : stepX P (.assign x) K ρ σ = plainX P (.assign x) K ρ σ := propext Iff.rfl
@[simp ↓] theorem stepA_box (t : TypeId) (x : Operand) {K : AV → St → Prop} {ρ : List AV} {σ : St} : stepA P (.box t x) K ρ σ = plainA P (.box t x) K ρ σ := propext Iff.rfl
@[simp ↓] theorem stepX_box (t : TypeId) (x : Operand) {K : AV → St → Prop} {ρ : List AV} {σ : St} : stepX P (.box t x) K ρ σ = plainX P (.box t x) K ρ σ := propext Iff.rfl
@[simp ↓] theorem stepA_load (t : TypeId) (x : Operand) {K : AV → St → Prop} {ρ : List AV} {σ : St} : stepA P (.load t x) K ρ σ = plainA P (.load t x) K ρ σ := propext Iff.rfl
@[simp ↓] theorem stepX_load (t : TypeId) (x : Operand) {K : AV → St → Prop} {ρ : List AV} {σ : St} : stepX P (.load t x) K ρ σ = plainX P (.load t x) K ρ σ := propext Iff.rfl
@[simp ↓] theorem stepA_nilCheck (x : Operand) {K : AV → St → Prop} {ρ : List AV} {σ : St} : stepA P (.nilCheck x) K ρ σ = plainA P (.nilCheck x) K ρ σ := propext Iff.rfl
@[simp ↓] theorem stepX_nilCheck (x : Operand) {K : AV → St → Prop} {ρ : List AV} {σ : St} : stepX P (.nilCheck x) K ρ σ = plainX P (.nilCheck x) K ρ σ := propext Iff.rfl
@[simp ↓] theorem stepA_unOp (op : UnOp) (t : TypeId) (x : Operand) {K : AV → St → Prop} {ρ : List AV} {σ : St} : stepA P (.unOp op t x) K ρ σ = plainA P (.unOp op t x) K ρ σ := propext Iff.rfl
@[simp ↓] theorem stepX_unOp (op : UnOp) (t : TypeId) (x : Operand) {K : AV → St → Prop} {ρ : List AV} {σ : St} : stepX P (.unOp op t x) K ρ σ = plainX P (.unOp op t x) K ρ σ := propext Iff.rfl
@[simp ↓] theorem stepA_convert (s d : TypeId) (x : Operand) {K : AV → St → Prop} {ρ : List AV} {σ : St} : stepA P (.convert s d x) K ρ σ = plainA P (.convert s d x) K ρ σ := propext Iff.rfl
@[simp ↓] theorem stepX_convert (s d : TypeId) (x : Operand) {K : AV → St → Prop} {ρ : List AV} {σ : St} : stepX P (.convert s d x) K ρ σ = plainX P (.convert s d x) K ρ σ := propext Iff.rfl
@[simp ↓] theorem stepA_fieldAddr (s : TypeId) (x : Operand) (f : Nat) {K : AV → St → Prop} {ρ : List AV} {σ : St} : stepA P (.fieldAddr s x f) K ρ σ = plainA P (.fieldAddr s x f) K ρ σ := propext Iff.rfl
@[simp ↓] theorem stepX_fieldAddr (s : TypeId) (x : Operand) (f : Nat) {K : AV → St → Prop} {ρ : List AV} {σ : St} : stepX P (.fieldAddr s x f) K ρ σ = plainX P (.fieldAddr s x f) K ρ σ := propext Iff.rfl
@[simp ↓] theorem stepA_field (s : TypeId) (x : Operand) (f : Nat) {K : AV → St → Prop} {ρ : List AV} {σ : St} : stepA P (.field s x f) K ρ σ = plainA P (.field s x f) K ρ σ := propext Iff.rfl
@[simp ↓] theorem stepX_field (s : TypeId) (x : Operand) (f : Nat) {K : AV → St → Prop} {ρ : List AV} {σ : St} : stepX P (.field s x f) K ρ σ = plainX P (.field s x f) K ρ σ := propext Iff.rfl
@[simp ↓] theorem stepA_extract (x : Operand) (i : Nat) {K : AV → St → Prop} {ρ : List AV} {σ : St} : stepA P (.extract x i) K ρ σ = plainA P (.extract x i) K ρ σ := propext Iff.rfl
@[simp ↓] theorem stepX_extract (x : Operand) (i : Nat) {K : AV → St → Prop} {ρ : List AV} {σ : St} : stepX P (.extract x i) K ρ σ = plainX P (.extract x i) K ρ σ := propext Iff.rfl
@[simp ↓] theorem stepA_pick (c a b : Operand) {K : AV → St → Prop} {ρ : List AV} {σ : St} : stepA P (.pick c a b) K ρ σ = plainA P (.pick c a b) K ρ σ := propext Iff.rfl
@[simp ↓] theorem stepX_pick (c a b : Operand) {K : AV → St → Prop} {ρ : List AV} {σ : St} : stepX P (.pick c a b) K ρ σ = plainX P (.pick c a b) K ρ σ := propext Iff.rfl
@[simp ↓] theorem stepA_build (t : TypeId) (ps : Array (Nat × Operand)) {K : AV → St → Prop} {ρ : List AV} {σ : St} : stepA P (.build t ps) K ρ σ = plainA P (.build t ps) K ρ σ := propext Iff.rfl
@[simp ↓] theorem stepX_build (t : TypeId) (ps : Array (Nat × Operand)) {K : AV → St → Prop} {ρ : List AV} {σ : St} : stepX P (.build t ps) K ρ σ = plainX P (.build t ps) K ρ σ := propext Iff.rfl
@[simp ↓] theorem stepA_buildSlice (t : TypeId) (n : Nat) (ps : Array (Nat × Operand)) {K : AV → St → Prop} {ρ : List AV} {σ : St} : stepA P (.buildSlice t n ps) K ρ σ = plainA P (.buildSlice t n ps) K ρ σ := propext Iff.rfl
@[simp ↓] theorem stepX_buildSlice (t : TypeId) (n : Nat) (ps : Array (Nat × Operand)) {K : AV → St → Prop} {ρ : List AV} {σ : St} : stepX P (.buildSlice t n ps) K ρ σ = plainX P (.buildSlice t n ps) K ρ σ := propext Iff.rfl
@[simp ↓] theorem stepA_store (t : TypeId) (x y : Operand) {K : AV → St → Prop} {ρ : List AV} {σ : St} : stepA P (.store t x y) K ρ σ = plainA P (.store t x y) K ρ σ := propext Iff.rfl
@[simp ↓] theorem stepX_store (t : TypeId) (x y : Operand) {K : AV → St → Prop} {ρ : List AV} {σ : St} : stepX P (.store t x y) K ρ σ = plainX P (.store t x y) K ρ σ := propext Iff.rfl
@[simp ↓] theorem stepA_binOp (op : BinOp) (t : TypeId) (x y : Operand) (yt : TypeId) {K : AV → St → Prop} {ρ : List AV} {σ : St} : stepA P (.binOp op t x y yt) K ρ σ = plainA P (.binOp op t x y yt) K ρ σ := propext Iff.rfl
@[simp ↓] theorem stepX_binOp (op : BinOp) (t : TypeId) (x y : Operand) (yt : TypeId) {K : AV → St → Prop} {ρ : List AV} {σ : St} : stepX P (.binOp op t x y yt) K ρ σ = plainX P (.binOp op t x y yt) K ρ σ := propext Iff.rfl
@[simp ↓] theorem stepA_makeSlice (t : TypeId) (x y : Operand) {K : AV → St → Prop} {ρ : List AV} {σ : St} : stepA P (.makeSlice t x y) K ρ σ = plainA P (.makeSlice t x y) K ρ σ := propext Iff.rfl
@[simp ↓] theorem stepX_makeSlice (t : TypeId) (x y : Operand) {K : AV → St → Prop} {ρ : List AV} {σ : St} : stepX P (.makeSlice t x y) K ρ σ = plainX P (.makeSlice t x y) K ρ σ := propext Iff.rfl
@[simp ↓] theorem stepA_indexAddr (t : TypeId) (x y : Operand) {K : AV → St → Prop} {ρ : List AV} {σ : St} : stepA P (.indexAddr t x y) K ρ σ = plainA P (.indexAddr t x y) K ρ σ := propext Iff.rfl
@[simp ↓] theorem stepX_indexAddr (t : TypeId) (x y : Operand) {K : AV → St → Prop} {ρ : List AV} {σ : St} : stepX P (.indexAddr t x y) K ρ σ = plainX P (.indexAddr t x y) K ρ σ := propext Iff.rfl
@[simp ↓] theorem stepA_index (t : TypeId) (x y : Operand) {K : AV → St → Prop} {ρ : List AV} {σ : St} : stepA P (.index t x y) K ρ σ = plainA P (.index t x y) K ρ σ := propext Iff.rfl
@[simp ↓] theorem stepX_index (t : TypeId) (x y : Operand) {K : AV → St → Prop} {ρ : List AV} {σ : St} : stepX P (.index t x y) K ρ σ = plainX P (.index t x y) K ρ σ := propext Iff.rfl
@[simp ↓] theorem stepA_lookup (t : TypeId) (x y : Operand) (ok : Bool) {K : AV → St → Prop} {ρ : List AV} {σ : St} : stepA P (.lookup t x y ok) K ρ σ = plainA P (.lookup t x y ok) K ρ σ := propext Iff.rfl
@[simp ↓] theorem stepX_lookup (t : TypeId) (x y : Operand) (ok : Bool) {K : AV → St → Prop} {ρ : List AV} {σ : St} : stepX P (.lookup t x y ok) K ρ σ = plainX P (.lookup t x y ok) K ρ σ := propext Iff.rfl
@[simp ↓] theorem stepA_makeFunc (f : Fn) (a b : Array Operand) {K : AV → St → Prop} {ρ : List AV} {σ : St} : stepA P (.makeFunc f a b) K ρ σ = plainA P (.makeFunc f a b) K ρ σ := propext Iff.rfl
@[simp ↓] theorem stepX_makeFunc (f : Fn) (a b : Array Operand) {K : AV → St → Prop} {ρ : List AV} {σ : St} : stepX P (.makeFunc f a b) K ρ σ = plainX P (.makeFunc f a b) K ρ σ := propext Iff.rfl
@[simp ↓] theorem stepA_makeMap (t : TypeId) (r : Option Operand) {K : AV → St → Prop} {ρ : List AV} {σ : St} : stepA P (.makeMap t r) K ρ σ = plainA P (.makeMap t r) K ρ σ := propext Iff.rfl
@[simp ↓] theorem stepX_makeMap (t : TypeId) (r : Option Operand) {K : AV → St → Prop} {ρ : List AV} {σ : St} : stepX P (.makeMap t r) K ρ σ = plainX P (.makeMap t r) K ρ σ := propext Iff.rfl
@[simp ↓] theorem stepA_slice (t : TypeId) (x : Operand) (l h m : Option Operand) {K : AV → St → Prop} {ρ : List AV} {σ : St} : stepA P (.slice t x l h m) K ρ σ = plainA P (.slice t x l h m) K ρ σ := propext Iff.rfl
@[simp ↓] theorem stepX_slice (t : TypeId) (x : Operand) (l h m : Option Operand) {K : AV → St → Prop} {ρ : List AV} {σ : St} : stepX P (.slice t x l h m) K ρ σ = plainX P (.slice t x l h m) K ρ σ := propext Iff.rfl
@[simp ↓] theorem stepA_mapUpdate (t : TypeId) (x y z : Operand) {K : AV → St → Prop} {ρ : List AV} {σ : St} : stepA P (.mapUpdate t x y z) K ρ σ = plainA P (.mapUpdate t x y z) K ρ σ := propext Iff.rfl
@[simp ↓] theorem stepX_mapUpdate (t : TypeId) (x y z : Operand) {K : AV → St → Prop} {ρ : List AV} {σ : St} : stepX P (.mapUpdate t x y z) K ρ σ = plainX P (.mapUpdate t x y z) K ρ σ := propext Iff.rfl
@[simp ↓] theorem stepA_builtin {b : Builtin} {args : Array Operand} {ts : Array TypeId} {K : AV → St → Prop} {ρ : List AV} {σ : St} : stepA P (.call { callee := .builtin b, args := args, argTypes := ts }) K ρ σ = plainA P (.call { callee := .builtin b, args := args, argTypes := ts }) K ρ σ := propext Iff.rfl
@[simp ↓] theorem stepX_builtin {b : Builtin} {args : Array Operand} {ts : Array TypeId} {K : AV → St → Prop} {ρ : List AV} {σ : St} : stepX P (.call { callee := .builtin b, args := args, argTypes := ts }) K ρ σ = plainX P (.call { callee := .builtin b, args := args, argTypes := ts }) K ρ σ := propext Iff.rfl
@[simp] theorem thenA_normal {next : List AV → St → Prop} {Q : Exit → List AV → St → Prop} {ρ : List AV} {σ : St} : thenA next Q .normal ρ σ = next ρ σ := propext Iff.rfl
@[simp] theorem thenA_ret {next : List AV → St → Prop} {Q : Exit → List AV → St → Prop} {ρ : List AV} {σ : St} : thenA next Q .ret ρ σ = Q .ret ρ σ := propext Iff.rfl
@[simp] theorem thenA_exit {i : Nat} {next : List AV → St → Prop} {Q : Exit → List AV → St → Prop} {ρ : List AV} {σ : St} : thenA next Q (.exit i) ρ σ = Q (.exit i) ρ σ := propext Iff.rfl
@[simp] theorem inBlockA_normal {id : Nat} {Q : Exit → List AV → St → Prop} {ρ : List AV} {σ : St} : inBlockA id Q .normal ρ σ = Q .normal ρ σ := propext Iff.rfl
@[simp] theorem inBlockA_ret {id : Nat} {Q : Exit → List AV → St → Prop} {ρ : List AV} {σ : St} : inBlockA id Q .ret ρ σ = Q .ret ρ σ := propext Iff.rfl
@[simp] theorem inBlockA_same {id : Nat} {Q : Exit → List AV → St → Prop} {ρ : List AV} {σ : St} : inBlockA id Q (.exit id) ρ σ = Q .normal ρ σ := by simp [inBlockA]
@[simp] theorem inBlockA_other {id i : Nat} {Q : Exit → List AV → St → Prop} {ρ : List AV} {σ : St} (h : i ≠ id) : inBlockA id Q (.exit i) ρ σ = Q (.exit i) ρ σ := by simp [inBlockA, h]
def bindL (x : Option (List AV)) (K : List AV → Prop) : Prop := match x with | some v => K v | none => False
@[congr] theorem bindL_congr {x x' : Option (List AV)} {K : List AV → Prop} (h : mark x = x') : bindL x K = bindL x' K := by rw [← h]; rfl
@[simp ↓] theorem bindL_some {v : List AV} {K : List AV → Prop} : bindL (some v) K = K v := propext Iff.rfl
@[simp] theorem retA_normal {rs : List ResultVar} {K : AV → St → Prop} {ρ : List AV} {σ : St} : retA P rs K .normal ρ σ = bindL (resultsL P ρ σ rs) fun vs => K (tupA vs) σ := propext Iff.rfl
@[simp] theorem retA_ret {rs : List ResultVar} {K : AV → St → Prop} {ρ : List AV} {σ : St} : retA P rs K .ret ρ σ = bindL (resultsL P ρ σ rs) fun vs => K (tupA vs) σ := propext Iff.rfl

@[simp] theorem binA_int {op : BinOp} {t : TypeId} {k : IntKind} {a b : Int} : binA P op t (.v (.int k a)) (.v (.int k b)) = (intBin op k a b).map .v := by simp [binA]
@[simp] theorem binA_shl {t : TypeId} {k k' : IntKind} {a b : Int} : binA P .shl t (.v (.int k a)) (.v (.int k' b)) = (intBin .shl k a b).map .v := by simp [binA, isShift]
@[simp] theorem binA_shr {t : TypeId} {k k' : IntKind} {a b : Int} : binA P .shr t (.v (.int k a)) (.v (.int k' b)) = (intBin .shr k a b).map .v := by simp [binA, isShift]
@[simp] theorem binA_str {op : BinOp} {t : TypeId} {a b : ByteArray} : binA P op t (.v (.string a)) (.v (.string b)) = (strBin op a b).map .v := by simp [binA]
@[simp] theorem binA_bool {op : BinOp} {t : TypeId} {a b : Bool} (h : P.underlying t = some .bool) : binA P op t (.v (.bool a)) (.v (.bool b)) = (eqOp op (a == b)).map .v := by simp [binA, h]
@[simp] theorem binA_ptr {op : BinOp} {t e : TypeId} {i o : Nat} (h : P.underlying t = some (.pointer e)) : binA P op t (.ptr i o) (.v (.pointer none)) = (eqOp op false).map .v := by simp [binA, h]
@[simp] theorem unA_neg {k : IntKind} {n : Int} : unA .neg (.v (.int k n)) = some (.v (.int k (k.wrap (0 - n)))) := rfl
@[simp] theorem unA_xor {k : IntKind} {n : Int} : unA .xor (.v (.int k n)) = some (.v (.int k (bits .xor k (if k.signed then -1 else k.max) n))) := rfl
@[simp] theorem unA_not {b : Bool} : unA .not (.v (.bool b)) = some (.v (.bool (!b))) := rfl
@[simp] theorem convA_int {σ : St} {s d : TypeId} {u : TypeDesc} {k k' : IntKind} {n : Int} (h1 : P.underlying s = some u) (h2 : P.underlying d = some (.int k)) : convA P σ s d (.v (.int k' n)) = some (.v (.int k (k.wrap n))) := by simp [convA, h1, h2]
@[simp] theorem convA_str {σ : St} {s d : TypeId} {b : ByteArray} (h1 : P.underlying s = some .string) (h2 : P.underlying d = some .string) : convA P σ s d (.v (.string b)) = some (.v (.string b)) := by simp [convA, h1, h2]
@[simp] theorem convA_strb {σ : St} {s d e : TypeId} {b : ByteArray} (h1 : P.underlying s = some .string) (h2 : P.underlying d = some (.slice e)) : convA P σ s d (.v (.string b)) = none := by simp [convA, h1, h2]
@[simp] theorem convA_sl {σ : St} {s d e : TypeId} {o : Own} {n : Nat} {cs : List AV} (h1 : P.underlying s = some (.slice e)) (h2 : P.underlying d = some .string) (h3 : P.underlying e = some (.int .u8)) :
    convA P σ s d (.sl o n cs) = if cs.length = n then (bytesA cs).map fun l => .v (.string ⟨l.toArray⟩) else none := by simp [convA, h1, h2, h3]
@[simp] theorem convA_msl {σ : St} {s d e : TypeId} {id off n cap : Nat} (h1 : P.underlying s = some (.slice e)) (h2 : P.underlying d = some .string) (h3 : P.underlying e = some (.int .u8)) :
    convA P σ s d (.msl id off n cap) = ((σ.box id).bind fun cs => if off + n ≤ cs.length then bytesA ((cs.drop off).take n) else none).map fun l => .v (.string ⟨l.toArray⟩) := by simp [convA, h1, h2, h3]
@[simp] theorem partA_row {t : TypeId} {cs : List AV} {k sz : Nat} (h1 : rowT P t = some true) (h2 : szT P t = some sz) : partA P t cs k = if k + sz ≤ cs.length then some (.agg ((cs.drop k).take sz)) else none := by simp [partA, h1, h2]
@[simp] theorem partA_cell {t : TypeId} {cs : List AV} {k : Nat} (h1 : rowT P t = some false) : partA P t cs k = cs[k]? := by simp [partA, h1]
@[simp] theorem addA_ptr {id off n : Nat} : addA (.ptr id off) n = some (.ptr id (off + n)) := rfl
@[simp] theorem addA_eptr {cs : List AV} {k n : Nat} : addA (.eptr cs k) n = some (.eptr cs (k + n)) := rfl
/-- Facts on types, one answer each (the walk's conditions take one unknown at a time). -/
def fieldO (P : Program) (s f : Nat) : Option Nat := (fieldOff P s f).map (·.1)
def fieldT (P : Program) (s f : Nat) : Option TypeId := (fieldOff P s f).map (·.2)
def arrN (P : Program) (t : TypeId) : Option Nat := match P.underlying t with | some (.array n _) => some n | _ => none
def arrE (P : Program) (t : TypeId) : Option TypeId := match P.underlying t with | some (.array _ e) => some e | _ => none
def mapKT (P : Program) (t : TypeId) : Option TypeId := match P.underlying t with | some (.map k _) => some k | _ => none
def mapET (P : Program) (t : TypeId) : Option TypeId := match P.underlying t with | some (.map _ e) => some e | _ => none
theorem fieldOT {s f off t : Nat} (h1 : fieldO P s f = some off) (h2 : fieldT P s f = some t) : fieldOff P s f = some (off, t) := by
  unfold fieldO at h1; unfold fieldT at h2
  cases h : fieldOff P s f with
  | none => simp [h] at h1
  | some x => obtain ⟨a, b⟩ := x; simp [h] at h1 h2; simp [h1, h2]
theorem arrNE {t n e : Nat} (h1 : arrN P t = some n) (h2 : arrE P t = some e) : P.underlying t = some (.array n e) := by
  unfold arrN at h1; unfold arrE at h2
  split at h1
  · rename_i h; simp [h] at h1 h2; simp [h, h1, h2]
  · cases h1
theorem mapKE {t k e : Nat} (h1 : mapKT P t = some k) (h2 : mapET P t = some e) : P.underlying t = some (.map k e) := by
  unfold mapKT at h1; unfold mapET at h2
  split at h1
  · rename_i h; simp [h] at h1 h2; simp [h, h1, h2]
  · cases h1
@[simp] theorem fieldAddrA_ok {s t : TypeId} {x : AV} {f off n : Nat} (h1 : fieldO P s f = some off) (h1' : fieldT P s f = some t) (h2 : szT P t = some n) (h3 : 0 < n) : fieldAddrA P s x f = addA x off := by
  cases n with
  | zero => omega
  | succ n => simp [fieldAddrA, fieldOT h1 h1', h2]
@[simp] theorem fieldA_agg {s t : TypeId} {cs : List AV} {f off : Nat} (h1 : fieldO P s f = some off) (h1' : fieldT P s f = some t) : fieldA P s (.agg cs) f = partA P t cs off := by simp [fieldA, fieldOT h1 h1']
@[simp] theorem indexAddrA_sl {t e : TypeId} {o : Own} {n sz : Nat} {cs : List AV} {k : IntKind} {i : Int} (h1 : P.underlying t = some (.slice e)) (h2 : szT P e = some sz) :
    indexAddrA P t (.sl o n cs) (.v (.int k i)) = if 0 ≤ i ∧ i < n ∧ i.toNat * sz < cs.length then some (.eptr cs (i.toNat * sz)) else none := by simp [indexAddrA, h1, h2]
@[simp] theorem indexAddrA_msl {t e : TypeId} {id off n cap sz : Nat} {k : IntKind} {i : Int} (h1 : P.underlying t = some (.slice e)) (h2 : szT P e = some sz) :
    indexAddrA P t (.msl id off n cap) (.v (.int k i)) = if 0 ≤ i ∧ i < n then some (.ptr id (off + i.toNat * sz)) else none := by simp [indexAddrA, h1, h2]
@[simp] theorem indexAddrA_vec {t e : TypeId} {id n s sz : Nat} {k : IntKind} {i : Int} (h1 : P.underlying t = some (.slice e)) (h2 : szT P e = some sz) :
    indexAddrA P t (.vec id n s) (.v (.int k i)) = if 0 ≤ i ∧ i < n then some (.ptr id (i.toNat * sz)) else none := by simp [indexAddrA, h1, h2]
@[simp] theorem convA_vec {σ : St} {s d e : TypeId} {id n sz : Nat} (h1 : P.underlying s = some (.slice e)) (h2 : P.underlying d = some .string) (h3 : P.underlying e = some (.int .u8)) :
    convA P σ s d (.vec id n sz) = ((σ.box id).bind fun cs => if cs.length = n then bytesA cs else none).map fun l => .v (.string ⟨l.toArray⟩) := by simp [convA, h1, h2, h3]
@[simp] theorem lenA_vec {t e : TypeId} {id n sz : Nat} (h1 : P.underlying t = some (.slice e)) : lenA P t (.vec id n sz) = some (.v (.int .i64 n)) := by simp [lenA, h1]
@[simp] theorem lenA_mp {t k e : TypeId} {id : Nat} (h0 : mapKT P t = some k) (h0' : mapET P t = some e) : lenA P t (.mp id) = none := by simp [lenA, mapKE h0 h0']
@[simp] theorem mlenA_mp {σ : St} {t k e : TypeId} {id : Nat} (h0 : mapKT P t = some k) (h0' : mapET P t = some e) : mlenA P σ .len [t] [.mp id] = (σ.mp id).map fun kl => .v (.int .i64 kl.2.length) := by
  unfold mlenA; simp only [mapKE h0 h0']; cases σ.mp id <;> rfl
@[simp] theorem mlenA_append {σ : St} {ts : List TypeId} {xs : List AV} : mlenA P σ .append ts xs = none := rfl
@[simp] theorem mapK_ok {t kt et : TypeId} {k : IntKind} (h0 : mapKT P t = some kt) (h0' : mapET P t = some et) (h2 : P.underlying kt = some (.int k)) : mapK P t = some (k, et) := by simp [mapK, mapKE h0 h0', h2]
@[simp] theorem lookupA_ok {σ : St} {t kt et : TypeId} {k : IntKind} {id : Nat} {n : Int} {l : List (Int × AV)} (h0 : mapKT P t = some kt) (h0' : mapET P t = some et) (h2 : P.underlying kt = some (.int k)) (h3 : σ.mp id = some (k, l)) :
    lookupA P σ t (.mp id) (.v (.int k n)) = (findM l n).or (zero1 P et) := by
  simp only [lookupA, mapK_ok h0 h0' h2, h3, and_self, if_true]
  cases findM l n <;> rfl
@[simp] theorem indexAddrA_arr {t e : TypeId} {x : AV} {len sz : Nat} {k : IntKind} {i : Int} (h0 : arrN P t = some len) (h0' : arrE P t = some e) (h2 : szT P e = some sz) :
    indexAddrA P t x (.v (.int k i)) = if 0 ≤ i ∧ i < len then addA x (i.toNat * sz) else none := by simp [indexAddrA, arrNE h0 h0', h2]
@[simp] theorem indexA_str {t : TypeId} {s : ByteArray} {k : IntKind} {i : Int} (h1 : P.underlying t = some .string) :
    indexA P t (.v (.string s)) (.v (.int k i)) = if 0 ≤ i ∧ i < s.size then some (.v (.int .u8 (byteAt s i.toNat).toNat)) else none := by simp [indexA, h1]
@[simp] theorem indexA_arr {t e : TypeId} {cs : List AV} {len sz : Nat} {k : IntKind} {i : Int} (h0 : arrN P t = some len) (h0' : arrE P t = some e) (h2 : szT P e = some sz) :
    indexA P t (.agg cs) (.v (.int k i)) = if 0 ≤ i ∧ i < len then partA P e cs (i.toNat * sz) else none := by simp [indexA, arrNE h0 h0', h2]
@[simp] theorem natOf_int {k : IntKind} {i : Int} : natOf (.v (.int k i)) = if 0 ≤ i then some i.toNat else none := rfl
@[simp] theorem lowA_none : lowA none = some 0 := rfl
@[simp] theorem lowA_some {a : AV} : lowA (some a) = natOf a := rfl
@[simp] theorem highA_none {n : Nat} : highA n none = some n := rfl
@[simp] theorem highA_some {n : Nat} {a : AV} : highA n (some a) = natOf a := rfl
theorem sliceA_str {t : TypeId} {s : ByteArray} {lo hi : Option AV} {l h : Nat} (h1 : P.underlying t = some .string) (h2 : lowA lo = some l) (h3 : highA s.size hi = some h) (h4 : l ≤ h) (h5 : h ≤ s.size) :
    sliceA P t (.v (.string s)) lo hi = some (.v (.string (s.extract l h))) := by simp [sliceA, h1, h2, h3, h4, h5]
theorem sliceA_sl {t e : TypeId} {o : Own} {n sz : Nat} {cs : List AV} {lo hi : Option AV} {l h : Nat} (h1 : P.underlying t = some (.slice e)) (hs : szT P e = some sz) (h2 : lowA lo = some l) (h3 : highA n hi = some h) (h4 : l ≤ h) (h5 : h ≤ n) :
    sliceA P t (.sl o n cs) lo hi = some (.sl .raw (h - l) ((cs.drop (l * sz)).take ((h - l) * sz))) := by simp [sliceA, h1, hs, h2, h3, h4, h5]
@[simp] theorem lenA_str {t : TypeId} {s : ByteArray} (h1 : P.underlying t = some .string) : lenA P t (.v (.string s)) = some (.v (.int .i64 s.size)) := by simp [lenA, h1]
@[simp] theorem lenA_sl {t e : TypeId} {o : Own} {n : Nat} {cs : List AV} (h1 : P.underlying t = some (.slice e)) : lenA P t (.sl o n cs) = some (.v (.int .i64 n)) := by simp [lenA, h1]
@[simp] theorem lenA_msl {t e : TypeId} {id off n cap : Nat} (h1 : P.underlying t = some (.slice e)) : lenA P t (.msl id off n cap) = some (.v (.int .i64 n)) := by simp [lenA, h1]
@[simp] theorem lenA_arr {t e : TypeId} {n : Nat} {x : AV} (h0 : arrN P t = some n) (h0' : arrE P t = some e) : lenA P t x = some (.v (.int .i64 n)) := by simp [lenA, arrNE h0 h0']
@[simp] theorem minA_int {k k' : IntKind} {a b : Int} : minA (.v (.int k a)) (.v (.int k' b)) = some (.v (.int k (if b < a then b else a))) := rfl
@[simp] theorem maxA_int {k k' : IntKind} {a b : Int} : maxA (.v (.int k a)) (.v (.int k' b)) = some (.v (.int k (if b > a then b else a))) := rfl
@[simp] theorem nilA_ptr {i o : Nat} : nilA (.ptr i o) = some (.ptr i o) := rfl
@[simp] theorem nilA_eptr {cs : List AV} {k : Nat} : nilA (.eptr cs k) = some (.eptr cs k) := rfl
@[simp] theorem nilA_fn {f : FuncId} {a b : List AV} : nilA (.fn (.func f) a b) = some (.fn (.func f) a b) := rfl
@[simp] theorem atomA_int {k : IntKind} {n : Int} : atomA (.v (.int k n)) = true := rfl
@[simp] theorem atomA_bool {b : Bool} : atomA (.v (.bool b)) = true := rfl
@[simp] theorem atomA_str {b : ByteArray} : atomA (.v (.string b)) = true := rfl
@[simp] theorem atomA_nilp {p : Option Addr} : atomA (.v (.pointer p)) = true := rfl
@[simp] theorem atomA_nilf : atomA (.v .nilFunc) = true := rfl
@[simp] theorem atomA_nili : atomA (.v .nilIface) = true := rfl
@[simp] theorem atomA_sl {o : Own} {n : Nat} {cs : List AV} : atomA (.sl o n cs) = true := rfl
@[simp] theorem atomA_msl {id off n cap : Nat} : atomA (.msl id off n cap) = true := rfl
@[simp] theorem atomA_vec {id n sz : Nat} : atomA (.vec id n sz) = true := rfl
@[simp] theorem atomA_mp {id : Nat} : atomA (.mp id) = true := rfl
@[simp] theorem cellsL_vec {id n sz : Nat} : cellsL (.vec id n sz) = some [.vec id n sz] := rfl
@[simp] theorem cellsL_mp {id : Nat} : cellsL (.mp id) = some [.mp id] := rfl
@[simp] theorem atomA_ptr {id off : Nat} : atomA (.ptr id off) = true := rfl
@[simp] theorem atomA_fn {f : Fn} {a b : List AV} : atomA (.fn f a b) = true := rfl
@[simp] theorem cellsL_agg {cs : List AV} : cellsL (.agg cs) = if cs.all atomA = true then some cs else none := rfl
@[simp] theorem cellsL_v {x : Value} : cellsL (.v x) = if atomA (.v x) = true then some [.v x] else none := rfl
@[simp] theorem cellsL_sl {o : Own} {n : Nat} {cs : List AV} : cellsL (.sl o n cs) = some [.sl o n cs] := rfl
@[simp] theorem cellsL_msl {id off n cap : Nat} : cellsL (.msl id off n cap) = some [.msl id off n cap] := rfl
@[simp] theorem cellsL_ptr {id off : Nat} : cellsL (.ptr id off) = some [.ptr id off] := rfl
@[simp] theorem cellsL_fn {f : Fn} {a b : List AV} : cellsL (.fn f a b) = some [.fn f a b] := rfl
@[simp] theorem wantA_bool {w b : Bool} : wantA w (.v (.bool b)) = some (b == w) := rfl
@[simp] theorem wantA_undef {w : Bool} : wantA w (.v undef) = some false := rfl
theorem pickA_bool {t x y : Bool} : pickA t (.v (.bool x)) (.v (.bool y)) = .v (.bool (if t then x else y)) := rfl
end

section
variable {P : Program}

section
variable {Q : Exit → List AV → St → Prop} {ρ : List AV} {σ : St}
@[simp] theorem awp_skip : awp P .skip Q ρ σ = Q .normal ρ σ := propext Iff.rfl
@[simp] theorem awp_region {id : Nat} {l : List Oper} : awp P (.region id l.toArray false) Q ρ σ = awpOps P l (Q .normal) l ρ σ := by simp only [awp]; rfl
@[simp] theorem awp_region_draw {id : Nat} {l : List Oper} : awp P (.region id l.toArray true) Q ρ σ = awpX P l (l.any fun o => isExtB o.op) (Q .normal) l ρ σ := by simp only [awp]; rfl
@[simp] theorem awp_seq {a b : Code} : awp P (.seq a b) Q ρ σ = awp P a (thenA (awp P b Q) Q) ρ σ := by simp only [awp]
@[simp] theorem awp_cond {c : Operand} {a b : Code} : awp P (.cond c a b) Q ρ σ = condA (ev ρ c) (awp P a Q ρ σ) (awp P b Q ρ σ) := by
  simp only [awp]
  generalize ev ρ c = x
  cases x <;> rfl
@[simp] theorem awp_block {id : Nat} {c : Code} : awp P (.block id c) Q ρ σ = awp P c (inBlockA id Q) ρ σ := by simp only [awp]
@[simp] theorem awp_exit {id : Nat} : awp P (.exit id) Q ρ σ = Q (.exit id) ρ σ := propext Iff.rfl
@[simp] theorem awp_ret : awp P .ret Q ρ σ = Q .ret ρ σ := propext Iff.rfl
end

/-- The way slices grow may be chosen anew at a call. -/
theorem Inv.switch {σ : St} {g : G} {wE w : World} (hI : Inv σ g wE w) (b : Bool) : Inv { σ with mv := b } g wE w :=
  { below := hI.below, imm := hI.imm, box := hI.box, vcap := hI.vcap, mp := hI.mp, bxw := hI.bxw, bxinj := hI.bxinj, front := hI.front, histw := hI.histw, histinj := hI.histinj, fresh := hI.fresh, histpos := hI.histpos, histle := hI.histle, quiet := hI.quiet, qb := hI.qb, entry := hI.entry }
theorem acalls_mv {f : FuncId} {args : List AV} {σ : St} {K : AV → St → Prop} (b : Bool) (h : ACalls P f args { σ with mv := b } fun v σ' => K v { σ' with mv := σ.mv }) : ACalls P f args σ K :=
  ⟨h.1, fun g wE w vals h1 h2 => (h.2 g wE w vals h1 (h2.switch b)).mono fun e w' ⟨av, σ', g', v, k1, k2, k3, k4, k5⟩ => ⟨av, { σ' with mv := σ.mv }, g', v, k1, k2, k3, k4, k5.switch _⟩⟩

/-- A vector that is only read from now on. -/
theorem acalls_freeze {f : FuncId} {args : List AV} {σ : St} {K : AV → St → Prop}
    (h : ACalls P f args σ fun v σ' => K v σ' ∨ ∃ id n sz cs, (v = .vec id n sz ∧ σ'.box id = some cs ∧ K (.sl .raw n cs) { σ' with box := upd σ'.box id none }) ∨
      ∃ rest, v = .tup (.vec id n sz :: rest) ∧ σ'.box id = some cs ∧ K (.tup (.sl .raw n cs :: rest)) { σ' with box := upd σ'.box id none }) : ACalls P f args σ K :=
  ⟨h.1, fun g wE w vals h1 h2 => (h.2 g wE w vals h1 h2).mono fun e w' ⟨av, σ', g', v, k1, k2, k3, k4, k5⟩ => by
    have key : ∀ id n sz cs y, Rep g' (.vec id n sz) y → σ'.box id = some cs → ∃ g2, g'.le g2 ∧ Rep g2 (.sl .raw n cs) y ∧ Inv { σ' with box := upd σ'.box id none } g2 wE w' := fun id n sz cs y hy hc => by
      simp only [Rep] at hy
      obtain ⟨b, cap, hb, hv, rfl, c1, c2⟩ := hy
      obtain ⟨g2, q1, q2, q3⟩ := k5.freeze hc hb
      refine ⟨g2, q1, ?_, q3⟩
      simp only [Rep, OwnOK]
      exact ⟨_, cap, rfl, c1, c2, .inr ⟨b, 0, rfl, q2⟩, trivial⟩
    rcases k1 with k1 | ⟨id, n, sz, cs, ⟨rfl, hc, k1⟩ | ⟨rest, rfl, hc, k1⟩⟩
    · exact ⟨av, σ', g', v, k1, k2, k3, k4, k5⟩
    · obtain ⟨g2, q1, q2, q3⟩ := key id n sz cs v k4 hc
      exact ⟨_, _, g2, v, k1, k2, k3.trans q1, q2, q3⟩
    · simp only [Rep] at k4
      obtain ⟨arr, rfl, k4⟩ := k4
      obtain ⟨l⟩ := arr
      simp only [RepL] at k4
      obtain ⟨y, r, rfl, k4, k4'⟩ := k4
      obtain ⟨g2, q1, q2, q3⟩ := key id n sz cs y k4 hc
      refine ⟨_, _, g2, _, k1, k2, k3.trans q1, ?_, q3⟩
      simp only [Rep]
      exact ⟨_, rfl, by simp only [repL_cons]; exact ⟨q2, RepL.mono q1 _ _ k4'⟩⟩⟩

/-- A contract that tells of values and worlds, met by the walk: what is called hands back a value without memory, and turns nothing of what is there. -/
theorem acalls_ext {f : FuncId} {args : List AV} {σ : St} {K : AV → St → Prop} (hE : Enterable P f) {x : Value}
    (h : ∀ (g : G) (wE w : World) (vals : Array Value), RepL g args vals.toList → Inv σ g wE w → Calls P f vals w fun e w' => e = .returned x ∧ Below w.heap.size w w') (hk : K (.v x) σ) : ACalls P f args σ K :=
  ⟨hE, fun g wE w vals h1 h2 => (h g wE w vals h1 h2).mono fun e w' ⟨k1, k2⟩ => ⟨.v x, σ, g, x, hk, k1, G.le.refl _, by simp only [Rep], h2.grows k2⟩⟩

/-- A loop: whatever one round hands on, a smaller state of the same relation. -/
theorem loop_ind {ι : Type} {c : Code} {Q : Exit → List AV → St → Prop} (R : ι → List AV → St → Prop) (μ : ι → Nat)
    (h : ∀ x ρ σ, R x ρ σ → ∀ next : List AV → St → Prop, (∀ y ρ' σ', R y ρ' σ' → μ y < μ x → next ρ' σ') → awp P c (thenA next Q) ρ σ) (x : ι) (ρ : List AV) (σ : St) (hR : R x ρ σ) : awp P (.loop c) Q ρ σ := by
  refine awp_loop (μ x + 1) ?_
  have key : ∀ n x ρ σ, R x ρ σ → μ x < n → roundsA P c Q n ρ σ := by
    intro n
    induction n with
    | zero => intro x ρ σ _ hn; omega
    | succ n ih =>
      intro x ρ σ hR hn
      exact h x ρ σ hR _ fun y ρ' σ' hy hlt => ih y ρ' σ' hy (by omega)
  exact key _ x ρ σ hR (by omega)

/-- May a slice be appended to? -/
def Ap (σ : St) (o : Own) (n : Nat) : Prop :=
  match o with
  | .raw => False
  | .full => True
  | .own t => σ.front t = some n ∧ t < σ.nxt

/-- What every function may ask of the state. -/
def St.Wf (σ : St) : Prop := σ.qb ≤ σ.nxt ∧ σ.mv = false

/-- The state has grown: nothing that it knew has turned. -/
structure Ext (σ σ' : St) : Prop where
  nxt : σ.nxt ≤ σ'.nxt
  box : ∀ i, i < σ.nxt → σ'.box i = σ.box i
  front : ∀ i, i < σ.nxt → σ'.front i = σ.front i
  mp : ∀ i, i < σ.nxt → σ'.mp i = σ.mp i
  q : σ'.q = σ.q
  qb : σ'.qb = σ.qb
  mv : σ'.mv = σ.mv

theorem Ext.refl (σ : St) : Ext σ σ := ⟨Nat.le_refl _, fun _ _ => rfl, fun _ _ => rfl, fun _ _ => rfl, rfl, rfl, rfl⟩
theorem Ext.trans {a b c : St} (h : Ext a b) (k : Ext b c) : Ext a c :=
  ⟨Nat.le_trans h.nxt k.nxt, fun i hi => (k.box i (Nat.lt_of_lt_of_le hi h.nxt)).trans (h.box i hi), fun i hi => (k.front i (Nat.lt_of_lt_of_le hi h.nxt)).trans (h.front i hi), fun i hi => (k.mp i (Nat.lt_of_lt_of_le hi h.nxt)).trans (h.mp i hi), k.q.trans h.q, k.qb.trans h.qb, k.mv.trans h.mv⟩
theorem Ext.wf {σ σ' : St} (h : Ext σ σ') (k : σ.Wf) : σ'.Wf := ⟨by have := h.nxt; have := k.1; rw [h.qb]; omega, h.mv.trans k.2⟩
theorem Ext.ap {σ σ' : St} (h : Ext σ σ') {o : Own} {n : Nat} (k : Ap σ o n) : Ap σ' o n := by
  cases o with
  | raw => exact k
  | full => exact k
  | own t => exact ⟨(h.front t k.2).trans k.1, Nat.lt_of_lt_of_le k.2 h.nxt⟩

/-- A slice has grown out of another one: beside its token nothing has turned. -/
structure Grew (σ : St) (o : Own) (σ' : St) (o' : Own) (n' : Nat) : Prop where
  nxt : σ.nxt ≤ σ'.nxt
  box : ∀ i, i < σ.nxt → σ'.box i = σ.box i
  front : ∀ t, t < σ.nxt → o ≠ .own t → σ'.front t = σ.front t
  heir : ∀ t, o' = .own t → σ.nxt ≤ t ∨ o = .own t
  ap : Ap σ' o' n'
  mp : ∀ i, i < σ.nxt → σ'.mp i = σ.mp i
  q : (∀ t, o = .own t → σ.qb ≤ t) → σ'.q = σ.q
  qb : σ'.qb = σ.qb
  mv : σ'.mv = σ.mv

theorem Grew.refl {σ : St} {o : Own} {n : Nat} (h : Ap σ o n) : Grew σ o σ o n := ⟨Nat.le_refl _, fun _ _ => rfl, fun _ _ _ => rfl, fun t e => .inr e, h, fun _ _ => rfl, fun _ => rfl, rfl, rfl⟩
theorem Grew.wf {σ σ' : St} {o o' : Own} {n' : Nat} (h : Grew σ o σ' o' n') (k : σ.Wf) : σ'.Wf := ⟨by have := h.nxt; have := k.1; rw [h.qb]; omega, h.mv.trans k.2⟩
theorem Grew.trans {a b c : St} {o o1 o2 : Own} {n1 n2 : Nat} (hwf : a.Wf) (h : Grew a o b o1 n1) (k : Grew b o1 c o2 n2) : Grew a o c o2 n2 where
  nxt := Nat.le_trans h.nxt k.nxt
  box := fun i hi => (k.box i (Nat.lt_of_lt_of_le hi h.nxt)).trans (h.box i hi)
  front := fun t ht hne => (k.front t (Nat.lt_of_lt_of_le ht h.nxt) (fun e => by
    rcases h.heir t e with h1 | h1
    · omega
    · exact hne h1)).trans (h.front t ht hne)
  heir := fun t e => by
    rcases k.heir t e with h1 | h1
    · exact .inl (Nat.le_trans h.nxt h1)
    · exact h.heir t h1
  ap := k.ap
  mp := fun i hi => (k.mp i (Nat.lt_of_lt_of_le hi h.nxt)).trans (h.mp i hi)
  mv := k.mv.trans h.mv
  q := fun ht => (k.q fun t e => by
    rw [h.qb]
    rcases h.heir t e with h1 | h1
    · exact Nat.le_trans hwf.1 h1
    · exact ht t h1).trans (h.q ht)
  qb := k.qb.trans h.qb
theorem Grew.ext {a b c : St} {o o1 : Own} {n1 : Nat} (h : Grew a o b o1 n1) (k : Ext b c) : Grew a o c o1 n1 where
  nxt := Nat.le_trans h.nxt k.nxt
  box := fun i hi => (k.box i (Nat.lt_of_lt_of_le hi h.nxt)).trans (h.box i hi)
  front := fun t ht hne => (k.front t (Nat.lt_of_lt_of_le ht h.nxt)).trans (h.front t ht hne)
  heir := h.heir
  ap := k.ap h.ap
  mp := fun i hi => (k.mp i (Nat.lt_of_lt_of_le hi h.nxt)).trans (h.mp i hi)
  mv := k.mv.trans h.mv
  q := fun ht => k.q.trans (h.q ht)
  qb := k.qb.trans h.qb
/-- Out of a slice that is always moved: nothing that was there has turned. -/
theorem Grew.full {a b : St} {o1 : Own} {n1 : Nat} (h : Grew a .full b o1 n1) : Ext a b :=
  ⟨h.nxt, h.box, fun t ht => h.front t ht (by simp), h.mp, h.q (by simp), h.qb, h.mv⟩
/-- Another slice may still be appended to. -/
theorem Grew.other {a b : St} {o o1 o2 : Own} {n1 n2 : Nat} (h : Grew a o b o1 n1) (k : Ap a o2 n2) (hne : ∀ t, o2 = .own t → o ≠ .own t) : Ap b o2 n2 := by
  cases o2 with
  | raw => exact k
  | full => exact k
  | own t => exact ⟨(h.front t k.2 (hne t rfl)).trans k.1, Nat.lt_of_lt_of_le k.2 h.nxt⟩

theorem append_ok {σ : St} {o : Own} {n m sz by_ e : Nat} {t tx : TypeId} {cs ds : List AV} {x : AV} (ha : Ap σ o n) (he : elemA P t = some (e, sz, by_)) (hs : srcA P tx sz x = some (m, ds)) (hl : cs.length = n * sz)
    (hb : (n + m) * by_ ≤ 140737488355328) (hn : n + m ≤ 9223372036854775807) (hq : σ.Wf) :
    ∃ o' σ', appendA P σ t tx (.sl o n cs) x = some (.sl o' (n + m) (cs ++ ds), σ') ∧ Grew σ o σ' o' (n + m) := by
  unfold appendA
  simp only [he, hs, hl, true_and, hb, hn, if_true]
  cases o with
  | raw => exact ha.elim
  | full =>
    by_cases hm : m = 0
    · subst hm
      have hds : ds = [] := by
        unfold srcA at hs
        split at hs
        · split at hs
          · rename_i hc; obtain ⟨rfl, rfl⟩ := pair_inj hs; exact List.length_eq_zero_iff.1 (by rw [hc.1]; simp)
          · cases hs
        · split at hs
          · rename_i s _ _
            obtain ⟨h1, rfl⟩ := pair_inj hs
            have : s.data.toList.length = 0 := by simpa using h1
            rw [List.length_eq_zero_iff.1 this]
            rfl
          · cases hs
        · cases hs
      subst hds
      refine ⟨.full, σ, by simp, Grew.refl trivial⟩
    · refine ⟨.own σ.nxt, σ.addTok (n + m), by simp [hm, hq.2], ?_⟩
      exact ⟨by simp [St.addTok], fun i hi => rfl, fun t ht _ => by simp [St.addTok, upd, Nat.ne_of_lt ht], fun t e => .inl (by injection e with e; omega), ⟨by simp [St.addTok, upd], by simp [St.addTok]⟩, fun _ _ => rfl, fun _ => rfl, rfl, rfl⟩
  | own k =>
    simp only [ha.1, if_true]
    refine ⟨.own k, σ.setTok k (n + m), rfl, ?_⟩
    exact ⟨Nat.le_refl _, fun i hi => rfl, fun t ht hne => by simp only [St.setTok]; rw [upd_ne]; rintro rfl; exact hne rfl, fun t e => .inr e, ⟨by simp [St.setTok, upd], ha.2⟩, fun _ _ => rfl, fun ht => by simp [St.setTok, ht k rfl], rfl, rfl⟩

theorem srcA_sl {tx e : TypeId} {sz m : Nat} {o : Own} {ds : List AV} (hu : P.underlying tx = some (.slice e)) (hl : ds.length = m * sz) (ha : ds.all atomA = true) : srcA P tx sz (.sl o m ds) = some (m, ds) := by
  simp only [srcA, hu, hl, ha, and_self, if_true]
theorem srcA_str {tx : TypeId} {s : ByteArray} (hu : P.underlying tx = some .string) : srcA P tx 1 (.v (.string s)) = some (s.size, s.data.toList.map fun b => .v (.int .u8 b.toNat)) := by
  simp only [srcA, hu, if_true]

/-- One more element of one cell. -/
theorem append1 {σ : St} {o : Own} {n by_ e e' : Nat} {t tx : TypeId} {cs : List AV} {c : AV} (ha : Ap σ o n) (he : elemA P t = some (e, 1, by_)) (hu : P.underlying tx = some (.slice e')) (hl : cs.length = n) (hc : atomA c = true)
    (hb : (n + 1) * by_ ≤ 140737488355328) (hn : n + 1 ≤ 9223372036854775807) (hq : σ.Wf) :
    ∃ o' σ', appendA P σ t tx (.sl o n cs) (.sl .full 1 [c]) = some (.sl o' (n + 1) (cs ++ [c]), σ') ∧ Grew σ o σ' o' (n + 1) :=
  append_ok ha he (srcA_sl hu (by simp) (by simp [hc])) (by omega) hb hn hq

end
end Go.AW
end

section
set_option linter.unusedVariables false
set_option linter.unusedSimpArgs false
namespace Go.AW
open Go.RowKit

section
variable {σ : St} {cs : List AV} {id i t n : Nat} {k : IntKind} {l : List (Int × AV)}
@[simp] theorem setBox_same : (σ.setBox id cs).box id = some cs := by simp [St.setBox, upd]
@[simp] theorem setBox_ne (h : i ≠ id) : (σ.setBox id cs).box i = σ.box i := by simp [St.setBox, upd, h]
@[simp] theorem setBox_nxt : (σ.setBox id cs).nxt = σ.nxt := by simp [St.setBox]
@[simp] theorem setBox_front : (σ.setBox id cs).front = σ.front := by simp [St.setBox]
@[simp] theorem setBox_mp : (σ.setBox id cs).mp = σ.mp := by simp [St.setBox]
@[simp] theorem setBox_mv : (σ.setBox id cs).mv = σ.mv := by simp [St.setBox]
@[simp] theorem setBox_qb : (σ.setBox id cs).qb = σ.qb := by simp [St.setBox]
@[simp] theorem setBox_q : (σ.setBox id cs).q = (σ.q && decide (σ.qb ≤ id)) := by simp [St.setBox]
@[simp] theorem addBox_same : (σ.addBox cs).box σ.nxt = some cs := by simp [St.addBox, upd]
@[simp] theorem addBox_ne (h : i ≠ σ.nxt) : (σ.addBox cs).box i = σ.box i := by simp [St.addBox, upd, h]
@[simp] theorem addBox_nxt : (σ.addBox cs).nxt = σ.nxt + 1 := by simp [St.addBox]
@[simp] theorem addBox_front : (σ.addBox cs).front = σ.front := by simp [St.addBox]
@[simp] theorem addBox_mp : (σ.addBox cs).mp = σ.mp := by simp [St.addBox]
@[simp] theorem addBox_mv : (σ.addBox cs).mv = σ.mv := by simp [St.addBox]
@[simp] theorem addBox_qb : (σ.addBox cs).qb = σ.qb := by simp [St.addBox]
@[simp] theorem addBox_q : (σ.addBox cs).q = σ.q := by simp [St.addBox]
@[simp] theorem mvBox_new : (σ.mvBox id cs).box σ.nxt = some cs := by simp [St.mvBox, upd]
@[simp] theorem mvBox_old (h : id ≠ σ.nxt) : (σ.mvBox id cs).box id = none := by simp [St.mvBox, upd, h]
@[simp] theorem mvBox_ne (h : i ≠ σ.nxt) (h' : i ≠ id) : (σ.mvBox id cs).box i = σ.box i := by simp [St.mvBox, upd, h, h']
@[simp] theorem mvBox_nxt : (σ.mvBox id cs).nxt = σ.nxt + 1 := by simp [St.mvBox]
@[simp] theorem mvBox_front : (σ.mvBox id cs).front = σ.front := by simp [St.mvBox]
@[simp] theorem mvBox_mp : (σ.mvBox id cs).mp = σ.mp := by simp [St.mvBox]
@[simp] theorem mvBox_mv : (σ.mvBox id cs).mv = σ.mv := by simp [St.mvBox]
@[simp] theorem mvBox_qb : (σ.mvBox id cs).qb = σ.qb := by simp [St.mvBox]
@[simp] theorem mvBox_q : (σ.mvBox id cs).q = (σ.q && decide (σ.qb ≤ id)) := by simp [St.mvBox]
@[simp] theorem addTok_box : (σ.addTok n).box = σ.box := by simp [St.addTok]
@[simp] theorem addTok_mp : (σ.addTok n).mp = σ.mp := by simp [St.addTok]
@[simp] theorem addTok_mv : (σ.addTok n).mv = σ.mv := by simp [St.addTok]
@[simp] theorem addTok_nxt : (σ.addTok n).nxt = σ.nxt + 1 := by simp [St.addTok]
@[simp] theorem setTok_box : (σ.setTok t n).box = σ.box := by simp [St.setTok]
@[simp] theorem setTok_mp : (σ.setTok t n).mp = σ.mp := by simp [St.setTok]
@[simp] theorem setTok_mv : (σ.setTok t n).mv = σ.mv := by simp [St.setTok]
@[simp] theorem setTok_nxt : (σ.setTok t n).nxt = σ.nxt := by simp [St.setTok]
@[simp] theorem addMap_same : (σ.addMap k).mp σ.nxt = some (k, []) := by simp [St.addMap, upd]
@[simp] theorem addMap_ne (h : i ≠ σ.nxt) : (σ.addMap k).mp i = σ.mp i := by simp [St.addMap, upd, h]
@[simp] theorem addMap_box : (σ.addMap k).box = σ.box := by simp [St.addMap]
@[simp] theorem addMap_front : (σ.addMap k).front = σ.front := by simp [St.addMap]
@[simp] theorem addMap_nxt : (σ.addMap k).nxt = σ.nxt + 1 := by simp [St.addMap]
@[simp] theorem addMap_mv : (σ.addMap k).mv = σ.mv := by simp [St.addMap]
@[simp] theorem addMap_q : (σ.addMap k).q = σ.q := by simp [St.addMap]
@[simp] theorem addMap_qb : (σ.addMap k).qb = σ.qb := by simp [St.addMap]
@[simp] theorem setMap_same : (σ.setMap id k l).mp id = some (k, l) := by simp [St.setMap, upd]
@[simp] theorem setMap_ne (h : i ≠ id) : (σ.setMap id k l).mp i = σ.mp i := by simp [St.setMap, upd, h]
@[simp] theorem setMap_box : (σ.setMap id k l).box = σ.box := by simp [St.setMap]
@[simp] theorem setMap_front : (σ.setMap id k l).front = σ.front := by simp [St.setMap]
@[simp] theorem setMap_nxt : (σ.setMap id k l).nxt = σ.nxt := by simp [St.setMap]
@[simp] theorem setMap_mv : (σ.setMap id k l).mv = σ.mv := by simp [St.setMap]
@[simp] theorem setMap_q : (σ.setMap id k l).q = (σ.q && decide (σ.qb ≤ id)) := by simp [St.setMap]
@[simp] theorem setMap_qb : (σ.setMap id k l).qb = σ.qb := by simp [St.setMap]
end

/-- Nothing of what was there has turned, but for the boxes L. -/
structure ExtB (L : List Nat) (σ σ' : St) : Prop where
  nxt : σ.nxt ≤ σ'.nxt
  box : ∀ i, i < σ.nxt → i ∉ L → σ'.box i = σ.box i
  front : ∀ i, i < σ.nxt → σ'.front i = σ.front i
  mp : ∀ i, i < σ.nxt → i ∉ L → σ'.mp i = σ.mp i
  q : (∀ i ∈ L, σ.qb ≤ i) → σ'.q = σ.q
  qb : σ'.qb = σ.qb
  mv : σ'.mv = σ.mv

theorem ExtB.refl (L : List Nat) (σ : St) : ExtB L σ σ := ⟨Nat.le_refl _, fun _ _ _ => rfl, fun _ _ => rfl, fun _ _ _ => rfl, fun _ => rfl, rfl, rfl⟩
theorem ExtB.trans {L : List Nat} {a b c : St} (h : ExtB L a b) (k : ExtB L b c) : ExtB L a c :=
  ⟨Nat.le_trans h.nxt k.nxt, fun i hi hL => (k.box i (Nat.lt_of_lt_of_le hi h.nxt) hL).trans (h.box i hi hL), fun i hi => (k.front i (Nat.lt_of_lt_of_le hi h.nxt)).trans (h.front i hi), fun i hi hL => (k.mp i (Nat.lt_of_lt_of_le hi h.nxt) hL).trans (h.mp i hi hL),
    fun hL => (k.q (fun i hi => by rw [h.qb]; exact hL i hi)).trans (h.q hL), k.qb.trans h.qb, k.mv.trans h.mv⟩
theorem ExtB.mono {L L' : List Nat} {a b : St} (h : ExtB L a b) (hL : ∀ i ∈ L, i ∈ L') : ExtB L' a b :=
  ⟨h.nxt, fun i hi hn => h.box i hi fun q => hn (hL i q), h.front, fun i hi hn => h.mp i hi fun q => hn (hL i q), fun hq => h.q fun i hi => hq i (hL i hi), h.qb, h.mv⟩
theorem ExtB.wf {L : List Nat} {σ σ' : St} (h : ExtB L σ σ') (k : σ.Wf) : σ'.Wf := ⟨by have := h.nxt; have := k.1; rw [h.qb]; omega, h.mv.trans k.2⟩
theorem ExtB.ap {L : List Nat} {σ σ' : St} (h : ExtB L σ σ') {o : Own} {n : Nat} (k : Ap σ o n) : Ap σ' o n := by
  cases o with
  | raw => exact k
  | full => exact k
  | own t => exact ⟨(h.front t k.2).trans k.1, Nat.lt_of_lt_of_le k.2 h.nxt⟩
theorem Ext.b {σ σ' : St} (h : Ext σ σ') (L : List Nat) : ExtB L σ σ' := ⟨h.nxt, fun i hi _ => h.box i hi, h.front, fun i hi _ => h.mp i hi, fun _ => h.q, h.qb, h.mv⟩
theorem ExtB.ext {σ σ' : St} (h : ExtB [] σ σ') : Ext σ σ' := ⟨h.nxt, fun i hi => h.box i hi (by simp), h.front, fun i hi => h.mp i hi (by simp), h.q (by simp), h.qb, h.mv⟩
/-- What is new since is nobody's else. -/
theorem ExtB.new {L L' : List Nat} {a b c : St} (h : ExtB L a b) (k : ExtB L' b c) (ha : a.Wf) (hL : ∀ i ∈ L', i ∈ L ∨ a.nxt ≤ i) : ExtB L a c :=
  ⟨Nat.le_trans h.nxt k.nxt,
    fun i hi hn => (k.box i (Nat.lt_of_lt_of_le hi h.nxt) fun q => by rcases hL i q with r | r; exact hn r; omega).trans (h.box i hi hn),
    fun i hi => (k.front i (Nat.lt_of_lt_of_le hi h.nxt)).trans (h.front i hi),
    fun i hi hn => (k.mp i (Nat.lt_of_lt_of_le hi h.nxt) fun q => by rcases hL i q with r | r; exact hn r; omega).trans (h.mp i hi hn),
    fun hq => (k.q fun i hi => by rw [h.qb]; rcases hL i hi with r | r; exact hq i r; exact Nat.le_trans ha.1 r).trans (h.q hq), k.qb.trans h.qb, k.mv.trans h.mv⟩
theorem ExtB.setBox (σ : St) (id : Nat) (cs : List AV) : ExtB [id] σ (σ.setBox id cs) :=
  ⟨by simp, fun i _ hn => setBox_ne (by simpa using hn), fun _ _ => by simp, fun _ _ _ => by simp, fun h => by have := h id (by simp); simp [this], by simp, by simp⟩
theorem ExtB.addBox (σ : St) (cs : List AV) : ExtB [] σ (σ.addBox cs) :=
  ⟨by simp, fun i h _ => addBox_ne (by omega), fun _ _ => by simp, fun _ _ _ => by simp, fun _ => by simp, by simp, by simp⟩
theorem ExtB.mvBox (σ : St) (id : Nat) (cs : List AV) : ExtB [id] σ (σ.mvBox id cs) :=
  ⟨by simp, fun i h hn => mvBox_ne (by omega) (by simpa using hn), fun _ _ => by simp, fun _ _ _ => by simp, fun h => by have := h id (by simp); simp [this], by simp, by simp⟩
theorem ExtB.addMap (σ : St) (k : IntKind) : ExtB [] σ (σ.addMap k) :=
  ⟨by simp, fun _ _ _ => by simp, fun _ _ => by simp, fun i h _ => addMap_ne (by omega), fun _ => by simp, by simp, by simp⟩
theorem ExtB.setMap (σ : St) (id : Nat) (k : IntKind) (l : List (Int × AV)) : ExtB [id] σ (σ.setMap id k l) :=
  ⟨by simp, fun _ _ _ => by simp, fun _ _ => by simp, fun i _ hn => setMap_ne (by simpa using hn), fun h => by have := h id (by simp); simp [this], by simp, by simp⟩

/-- A slice that may be appended to, made since. -/
structure Own1 (σ0 σ : St) (o : Own) (n : Nat) : Prop where
  ap : Ap σ o n
  fresh : ∀ t, o = .own t → σ0.nxt ≤ t
theorem Own1.nil (σ0 σ : St) : Own1 σ0 σ .full 0 := ⟨trivial, fun t e => by cases e⟩
theorem Own1.full (σ0 σ : St) (n : Nat) : Own1 σ0 σ .full n := ⟨trivial, fun t e => by cases e⟩
theorem ExtB.grew {L : List Nat} {a b c : St} {o o' : Own} {n n' : Nat} (h : ExtB L a b) (ha : a.Wf) (ho : Own1 a b o n) (k : Grew b o c o' n') : ExtB L a c ∧ Own1 a c o' n' :=
  ⟨⟨Nat.le_trans h.nxt k.nxt, fun i hi hn => (k.box i (Nat.lt_of_lt_of_le hi h.nxt)).trans (h.box i hi hn), fun i hi => (k.front i (Nat.lt_of_lt_of_le hi h.nxt) fun e => by have := ho.fresh i e; omega).trans (h.front i hi),
    fun i hi hn => (k.mp i (Nat.lt_of_lt_of_le hi h.nxt)).trans (h.mp i hi hn), fun hL => (k.q fun t e => by rw [h.qb]; exact Nat.le_trans ha.1 (ho.fresh t e)).trans (h.q hL), k.qb.trans h.qb, k.mv.trans h.mv⟩,
   ⟨k.ap, fun t e => by rcases k.heir t e with r | r; exact Nat.le_trans h.nxt r; exact ho.fresh t r⟩⟩
theorem Own1.ext {L : List Nat} {a b c : St} {o : Own} {n : Nat} (ho : Own1 a b o n) (k : ExtB L b c) : Own1 a c o n := ⟨k.ap ho.ap, ho.fresh⟩
theorem Own1.self {a : St} {o : Own} {n : Nat} (h : o = .full) : Own1 a a o n := by subst h; exact Own1.full _ _ _
/-- Seen from a later state still. -/
theorem Own1.of {a b : St} {o : Own} {n : Nat} (h : Own1 a b o n) : Ap b o n := h.ap

section
variable {P : Program} {t e : TypeId} {s : ByteArray} {o : Own} {n sz : Nat} {cs : List AV} {k k' : IntKind} {a b : Int}
theorem clampS {a : Int} {n : Nat} : (0 ≤ a ∧ a.toNat ≤ n) ↔ (0 ≤ a ∧ a ≤ n) := by omega
@[simp] theorem sliceA_str2 (h1 : P.underlying t = some .string) : sliceA P t (.v (.string s)) (some (.v (.int k a))) (some (.v (.int k' b))) = if 0 ≤ a ∧ a ≤ b ∧ b ≤ s.size then some (.v (.string (s.extract a.toNat b.toNat))) else none := by
  by_cases ha : 0 ≤ a <;> by_cases hb : 0 ≤ b <;> simp [sliceA, h1, natOf, lowA, highA, ha, hb]
  · rw [Int.max_eq_left ha]
  · intro _; omega
@[simp] theorem sliceA_str1 (h1 : P.underlying t = some .string) : sliceA P t (.v (.string s)) (some (.v (.int k a))) none = if 0 ≤ a ∧ a ≤ s.size then some (.v (.string (s.extract a.toNat s.size))) else none := by
  by_cases ha : 0 ≤ a <;> simp [sliceA, h1, natOf, lowA, highA, ha]
@[simp] theorem sliceA_str0 (h1 : P.underlying t = some .string) : sliceA P t (.v (.string s)) none (some (.v (.int k' b))) = if 0 ≤ b ∧ b ≤ s.size then some (.v (.string (s.extract 0 b.toNat))) else none := by
  by_cases hb : 0 ≤ b <;> simp [sliceA, h1, natOf, lowA, highA, hb]
@[simp] theorem sliceA_sl2 (h1 : P.underlying t = some (.slice e)) (h2 : szT P e = some sz) : sliceA P t (.sl o n cs) (some (.v (.int k a))) (some (.v (.int k' b))) = if 0 ≤ a ∧ a ≤ b ∧ b ≤ n then some (.sl .raw (b.toNat - a.toNat) ((cs.drop (a.toNat * sz)).take ((b.toNat - a.toNat) * sz))) else none := by
  by_cases ha : 0 ≤ a <;> by_cases hb : 0 ≤ b <;> simp [sliceA, h1, h2, natOf, lowA, highA, ha, hb]
  · rw [Int.max_eq_left ha]
  · intro _; omega
@[simp] theorem sliceA_sl1 (h1 : P.underlying t = some (.slice e)) (h2 : szT P e = some sz) : sliceA P t (.sl o n cs) (some (.v (.int k a))) none = if 0 ≤ a ∧ a ≤ n then some (.sl .raw (n - a.toNat) ((cs.drop (a.toNat * sz)).take ((n - a.toNat) * sz))) else none := by
  by_cases ha : 0 ≤ a <;> simp [sliceA, h1, h2, natOf, lowA, highA, ha]
@[simp] theorem sliceA_sl0 (h1 : P.underlying t = some (.slice e)) (h2 : szT P e = some sz) : sliceA P t (.sl o n cs) none (some (.v (.int k' b))) = if 0 ≤ b ∧ b ≤ n then some (.sl .raw b.toNat (cs.take (b.toNat * sz))) else none := by
  by_cases hb : 0 ≤ b <;> simp [sliceA, h1, h2, natOf, lowA, highA, hb]
end

end Go.AW
end
