/-
  ABSTRACT WALKS, part 0: values without memory ('AV'), what they stand for in a world ('Rep'), what holds of a world between two steps ('Inv'). Over any program. No program in sight.
-/
import Derived.Calls
import Derived.Control
import Derived.Below
import Derived.Deep.Quiet
import Derived.WalkKit
import Derived.Deep.MidRow
import Derived.WalkLawsBesides
import Derived.WideLaws
import Derived.MapKept

section
set_option linter.unusedVariables false
set_option linter.unusedSimpArgs false
namespace Go.AW
open Go.RowKit

/-- How a slice may be appended to: not at all (its spare places are not known), always by moving (it has none), or as the newest slice of a token. -/
inductive Own where
  | raw
  | full
  | own (t : Nat)

inductive AV where
  | v (x : Value)
  | sl (o : Own) (n : Nat) (cells : List AV)
  | msl (id off n cap : Nat)
  | vec (id n sz : Nat)
  | mp (id : Nat)
  | ptr (id off : Nat)
  | eptr (cells : List AV) (k : Nat)
  | fn (f : Fn) (first caps : List AV)
  | agg (cells : List AV)
  | tup (vs : List AV)
  deriving Inhabited

/-- What is told of the world for good: the world in which all began, cells that stay as they are, the blocks of boxes, where a token's slices lie. -/
structure G where
  w0 : World
  imm : Nat → Nat → Option Value
  bx : Nat → Option Nat
  hist : Nat → Nat → Option (Nat × Nat × Nat)
  vcap : Nat → Option (Nat × Nat)

structure G.le (g g' : G) : Prop where
  w0 : g'.w0 = g.w0
  imm : ∀ b o y, g.imm b o = some y → g'.imm b o = some y
  bx : ∀ i b, g.bx i = some b → g'.bx i = some b
  hist : ∀ t n x, g.hist t n = some x → g'.hist t n = some x
  vcap : ∀ i x, g.vcap i = some x → g'.vcap i = some x

theorem G.le.refl (g : G) : g.le g := ⟨rfl, fun _ _ _ h => h, fun _ _ h => h, fun _ _ _ h => h, fun _ _ h => h⟩
theorem G.le.trans {a b c : G} (h : a.le b) (k : b.le c) : a.le c :=
  ⟨k.w0.trans h.w0, fun _ _ _ e => k.imm _ _ _ (h.imm _ _ _ e), fun _ _ e => k.bx _ _ (h.bx _ _ e), fun _ _ _ e => k.hist _ _ _ (h.hist _ _ _ e), fun _ _ e => k.vcap _ _ (h.vcap _ _ e)⟩

def OwnOK (g : G) : Own → Nat → Nat → Option Addr → Nat → Prop
  | .raw, _, _, _, _ => True
  | .full, _, n, _, cap => cap = n
  | .own t, l, n, a, cap => ∃ b sz, a = some ⟨b, 0, none⟩ ∧ g.hist t n = some (b, cap, sz) ∧ l = n * sz

mutual
def Rep (g : G) : AV → Value → Prop
  | .v x, y => y = x
  | .sl o n cs, y => ∃ a cap, y = .slice a n cap ∧ n ≤ cap ∧ cap ≤ maxLen ∧ (cs = [] ∨ ∃ b off, a = some ⟨b, off, none⟩ ∧ RepAt g cs b off) ∧ OwnOK g o cs.length n a cap
  | .msl id off n cap, y => ∃ b, g.bx id = some b ∧ y = .slice (some ⟨b, off, none⟩) n cap ∧ n ≤ cap ∧ cap ≤ maxLen
  | .vec id n sz, y => ∃ b cap, g.bx id = some b ∧ g.vcap id = some (cap, sz) ∧ y = .slice (some ⟨b, 0, none⟩) n cap ∧ n ≤ cap ∧ cap ≤ maxLen
  | .mp id, y => ∃ b, g.bx id = some b ∧ y = .map (some b)
  | .ptr id off, y => ∃ b, g.bx id = some b ∧ y = .pointer (some ⟨b, off, none⟩)
  | .eptr cs k, y => ∃ b off, y = .pointer (some ⟨b, off + k, none⟩) ∧ RepAt g cs b off
  | .fn f fs cs, y => ∃ a1 a2 : Array Value, y = .func f a1 a2 ∧ RepL g fs a1.toList ∧ RepL g cs a2.toList
  | .agg cs, y => ∃ a : Array Value, y = .agg a ∧ RepL g cs a.toList
  | .tup vs, y => ∃ a : Array Value, y = .tuple a ∧ RepL g vs a.toList
def RepAt (g : G) : List AV → Nat → Nat → Prop
  | [], _, _ => True
  | c :: cs, b, o => (∃ y, g.imm b o = some y ∧ Rep g c y) ∧ RepAt g cs b (o + 1)
def RepL (g : G) : List AV → List Value → Prop
  | [], ys => ys = []
  | c :: cs, ys => ∃ y r, ys = y :: r ∧ Rep g c y ∧ RepL g cs r
end

mutual
theorem Rep.mono {g g' : G} (h : g.le g') : ∀ (c : AV) (y : Value), Rep g c y → Rep g' c y
  | .v x, y, k => by simpa only [Rep] using k
  | .sl o n cs, y, k => by
    simp only [Rep] at k ⊢
    obtain ⟨a, cap, e, h1, h2, h3, h4⟩ := k
    refine ⟨a, cap, e, h1, h2, ?_, ?_⟩
    · rcases h3 with h3 | ⟨b, off, ea, h3⟩
      · exact .inl h3
      · exact .inr ⟨b, off, ea, RepAt.mono h cs b off h3⟩
    · cases o with
      | raw => trivial
      | full => exact h4
      | own t => obtain ⟨b, sz, ea, hb, hl⟩ := h4; exact ⟨b, sz, ea, h.hist _ _ _ hb, hl⟩
  | .msl id off n cap, y, k => by
    simp only [Rep] at k ⊢
    obtain ⟨b, hb, r⟩ := k
    exact ⟨b, h.bx _ _ hb, r⟩
  | .vec id n sz, y, k => by
    simp only [Rep] at k ⊢
    obtain ⟨b, cap, hb, hv, r⟩ := k
    exact ⟨b, cap, h.bx _ _ hb, h.vcap _ _ hv, r⟩
  | .mp id, y, k => by
    simp only [Rep] at k ⊢
    obtain ⟨b, hb, r⟩ := k
    exact ⟨b, h.bx _ _ hb, r⟩
  | .ptr id off, y, k => by
    simp only [Rep] at k ⊢
    obtain ⟨b, hb, r⟩ := k
    exact ⟨b, h.bx _ _ hb, r⟩
  | .eptr cs j, y, k => by
    simp only [Rep] at k ⊢
    obtain ⟨b, off, e, r⟩ := k
    exact ⟨b, off, e, RepAt.mono h cs b off r⟩
  | .fn f fs cs, y, k => by
    simp only [Rep] at k ⊢
    obtain ⟨a1, a2, e, h1, h2⟩ := k
    exact ⟨a1, a2, e, RepL.mono h fs _ h1, RepL.mono h cs _ h2⟩
  | .agg cs, y, k => by
    simp only [Rep] at k ⊢
    obtain ⟨a, e, h1⟩ := k
    exact ⟨a, e, RepL.mono h cs _ h1⟩
  | .tup cs, y, k => by
    simp only [Rep] at k ⊢
    obtain ⟨a, e, h1⟩ := k
    exact ⟨a, e, RepL.mono h cs _ h1⟩
theorem RepAt.mono {g g' : G} (h : g.le g') : ∀ (cs : List AV) (b o : Nat), RepAt g cs b o → RepAt g' cs b o
  | [], _, _, _ => by simp only [RepAt]
  | c :: cs, b, o, k => by
    simp only [RepAt] at k ⊢
    obtain ⟨⟨y, hy, hc⟩, k⟩ := k
    exact ⟨⟨y, h.imm _ _ _ hy, Rep.mono h c y hc⟩, RepAt.mono h cs b (o + 1) k⟩
theorem RepL.mono {g g' : G} (h : g.le g') : ∀ (cs : List AV) (ys : List Value), RepL g cs ys → RepL g' cs ys
  | [], ys, k => by simpa only [RepL] using k
  | c :: cs, ys, k => by
    simp only [RepL] at k ⊢
    obtain ⟨y, r, e, hc, k⟩ := k
    exact ⟨y, r, e, Rep.mono h c y hc, RepL.mono h cs r k⟩
end

theorem repL_nil {g : G} : RepL g [] [] := by simp only [RepL]
theorem repL_cons {g : G} {c : AV} {cs : List AV} {y : Value} {ys : List Value} : RepL g (c :: cs) (y :: ys) ↔ Rep g c y ∧ RepL g cs ys := by
  simp only [RepL]
  constructor
  · rintro ⟨y', r, e, h1, h2⟩
    injection e with e1 e2
    subst e1; subst e2
    exact ⟨h1, h2⟩
  · rintro ⟨h1, h2⟩
    exact ⟨y, ys, rfl, h1, h2⟩
theorem repL_length {g : G} : ∀ {cs : List AV} {ys : List Value}, RepL g cs ys → cs.length = ys.length
  | [], ys, h => by simp only [RepL] at h; subst h; rfl
  | c :: cs, ys, h => by
    simp only [RepL] at h
    obtain ⟨y, r, rfl, _, h⟩ := h
    simp [repL_length h]
theorem repL_get {g : G} : ∀ {cs : List AV} {ys : List Value}, RepL g cs ys → ∀ (i : Nat) (c : AV), cs[i]? = some c → ∃ y, ys[i]? = some y ∧ Rep g c y
  | [], ys, h, i, c, e => by simp at e
  | c0 :: cs, ys, h, i, c, e => by
    simp only [RepL] at h
    obtain ⟨y, r, rfl, h1, h2⟩ := h
    cases i with
    | zero => simp at e; subst e; exact ⟨y, by simp, h1⟩
    | succ i => simp at e; obtain ⟨y', hy', hr⟩ := repL_get h2 i c e; exact ⟨y', by simpa using hy', hr⟩
theorem repL_set {g : G} : ∀ {cs : List AV} {ys : List Value}, RepL g cs ys → ∀ (i : Nat) (c : AV) (y : Value), Rep g c y → RepL g (cs.set i c) (ys.set i y)
  | [], ys, h, i, c, y, k => by simp only [RepL] at h; subst h; simp [RepL]
  | c0 :: cs, ys, h, i, c, y, k => by
    simp only [RepL] at h
    obtain ⟨y0, r, rfl, h1, h2⟩ := h
    cases i with
    | zero => simp only [List.set_cons_zero, repL_cons]; exact ⟨k, h2⟩
    | succ i => simp only [List.set_cons_succ, repL_cons]; exact ⟨h1, repL_set h2 i c y k⟩
theorem repL_append {g : G} : ∀ {cs ds : List AV} {ys zs : List Value}, RepL g cs ys → RepL g ds zs → RepL g (cs ++ ds) (ys ++ zs)
  | [], ds, ys, zs, h, k => by simp only [RepL] at h; subst h; simpa using k
  | c0 :: cs, ds, ys, zs, h, k => by
    simp only [RepL] at h
    obtain ⟨y0, r, rfl, h1, h2⟩ := h
    simp only [List.cons_append, repL_cons]
    exact ⟨h1, repL_append h2 k⟩
theorem repL_take {g : G} : ∀ {cs : List AV} {ys : List Value}, RepL g cs ys → ∀ n, RepL g (cs.take n) (ys.take n)
  | [], ys, h, n => by simp only [RepL] at h; subst h; simp [RepL]
  | c0 :: cs, ys, h, n => by
    simp only [RepL] at h
    obtain ⟨y0, r, rfl, h1, h2⟩ := h
    cases n with
    | zero => simp [RepL]
    | succ n => simp only [List.take_succ_cons, repL_cons]; exact ⟨h1, repL_take h2 n⟩
theorem repL_drop {g : G} : ∀ {cs : List AV} {ys : List Value}, RepL g cs ys → ∀ n, RepL g (cs.drop n) (ys.drop n)
  | [], ys, h, n => by simp only [RepL] at h; subst h; simp [RepL]
  | c0 :: cs, ys, h, n => by
    simp only [RepL] at h
    obtain ⟨y0, r, rfl, h1, h2⟩ := h
    cases n with
    | zero => simp only [List.drop_zero, repL_cons]; exact ⟨h1, h2⟩
    | succ n => simp only [List.drop_succ_cons]; exact repL_drop h2 n
theorem repAt_get {g : G} : ∀ {cs : List AV} {b o : Nat}, RepAt g cs b o → ∀ (i : Nat) (c : AV), cs[i]? = some c → ∃ y, g.imm b (o + i) = some y ∧ Rep g c y
  | [], b, o, h, i, c, e => by simp at e
  | c0 :: cs, b, o, h, i, c, e => by
    simp only [RepAt] at h
    obtain ⟨⟨y, hy, h1⟩, h2⟩ := h
    cases i with
    | zero => simp at e; subst e; exact ⟨y, by simpa using hy, h1⟩
    | succ i =>
      simp at e
      obtain ⟨y', hy', hr⟩ := repAt_get h2 i c e
      exact ⟨y', by rw [show o + (i + 1) = o + 1 + i from by omega]; exact hy', hr⟩
theorem repAt_of {g : G} : ∀ {cs : List AV} {b o : Nat}, (∀ (i : Nat) (c : AV), cs[i]? = some c → ∃ y, g.imm b (o + i) = some y ∧ Rep g c y) → RepAt g cs b o
  | [], b, o, h => by simp only [RepAt]
  | c0 :: cs, b, o, h => by
    simp only [RepAt]
    refine ⟨by simpa using h 0 c0 (by simp), repAt_of fun i c e => ?_⟩
    obtain ⟨y, hy, hr⟩ := h (i + 1) c (by simpa using e)
    exact ⟨y, by rw [show o + 1 + i = o + (i + 1) from by omega]; exact hy, hr⟩
theorem repAt_drop {g : G} {cs : List AV} {b o : Nat} (h : RepAt g cs b o) (n : Nat) : RepAt g (cs.drop n) b (o + n) :=
  repAt_of fun i c e => by
    obtain ⟨y, hy, hr⟩ := repAt_get h (n + i) c (by simpa using e)
    exact ⟨y, by rw [show o + n + i = o + (n + i) from by omega]; exact hy, hr⟩
theorem repAt_take {g : G} {cs : List AV} {b o : Nat} (h : RepAt g cs b o) (n : Nat) : RepAt g (cs.take n) b o :=
  repAt_of fun i c e => by
    have : cs[i]? = some c := by
      rw [List.getElem?_take] at e
      split at e
      · exact e
      · simp at e
    exact repAt_get h i c this

/-- A map's entries, in their order; its keys are whole numbers of one kind. -/
def RepM (g : G) (k : IntKind) : List (Int × AV) → List MapEntry → Prop
  | [], es => es = []
  | (x, v) :: l, es => ∃ e r, es = e :: r ∧ e.key = .int k x ∧ Rep g v e.val ∧ RepM g k l r
theorem RepM.mono {g g' : G} (h : g.le g') {k : IntKind} : ∀ {l : List (Int × AV)} {es : List MapEntry}, RepM g k l es → RepM g' k l es
  | [], es, q => q
  | (x, v) :: l, es, q => by
    obtain ⟨e, r, h1, h2, h3, h4⟩ := q
    exact ⟨e, r, h1, h2, Rep.mono h _ _ h3, RepM.mono h h4⟩

/-- What is known between two steps: the next free name; what the boxes hold; how long a token's newest slice is; whether nothing of what was there when the function began has been turned; which names are older than that; what the maps hold; whether slices that begin to grow are to be vectors. -/
structure St where
  nxt : Nat
  box : Nat → Option (List AV)
  front : Nat → Option Nat
  q : Bool
  qb : Nat
  mp : Nat → Option (IntKind × List (Int × AV))
  mv : Bool

def St.live (σ : St) (i : Nat) : Prop := σ.box i ≠ none ∨ σ.mp i ≠ none

structure Inv (σ : St) (g : G) (wE w : World) : Prop where
  below : Below g.w0.heap.size g.w0 w
  imm : ∀ b o y, g.imm b o = some y → w.cell? ⟨b, o, none⟩ = some y
  box : ∀ i cs, σ.box i = some cs → ∃ b arr ty, g.bx i = some b ∧ w.heap[b]? = some (.cells arr ty (0, 0)) ∧ cs.length ≤ arr.size ∧ RepL g cs (arr.toList.take cs.length) ∧ (∀ o, g.imm b o = none)
  vcap : ∀ i cap sz, g.vcap i = some (cap, sz) → σ.box i ≠ none → ∃ b arr ty, g.bx i = some b ∧ w.heap[b]? = some (.cells arr ty (0, 0)) ∧ arr.size = cap * sz
  mp : ∀ i k l, σ.mp i = some (k, l) → ∃ b es c, g.bx i = some b ∧ w.heap[b]? = some (.map es c) ∧ RepM g k l es.toList
  bxw : ∀ i b, g.bx i = some b → g.w0.heap.size ≤ b ∧ b < w.heap.size ∧ (σ.q = true → σ.qb ≤ i → wE.heap.size ≤ b)
  bxinj : ∀ i j b, g.bx i = some b → g.bx j = some b → σ.live i → σ.live j → i = j
  front : ∀ t n, σ.front t = some n → ∃ b cap arr ty sz, g.hist t n = some (b, cap, sz) ∧ w.heap[b]? = some (.cells arr ty (0, 0)) ∧ arr.size = cap * sz ∧ (∀ o, n * sz ≤ o → g.imm b o = none) ∧ (∀ i, σ.live i → g.bx i ≠ some b)
  histw : ∀ t n b cap sz, g.hist t n = some (b, cap, sz) → g.w0.heap.size ≤ b ∧ b < w.heap.size ∧ (σ.qb ≤ t → wE.heap.size ≤ b)
  histinj : ∀ t t' n n' b cap cap' sz sz', g.hist t n = some (b, cap, sz) → g.hist t' n' = some (b, cap', sz') → t = t'
  fresh : ∀ i, σ.nxt ≤ i → g.bx i = none ∧ (∀ n, g.hist i n = none) ∧ g.vcap i = none ∧ σ.box i = none ∧ σ.front i = none ∧ σ.mp i = none
  histpos : ∀ t n x, g.hist t n = some x → 0 < n
  histle : ∀ t n x, g.hist t n = some x → ∃ m, σ.front t = some m ∧ n ≤ m
  quiet : σ.q = true → Below wE.heap.size wE w
  qb : σ.qb ≤ σ.nxt
  entry : wE.heap.size ≤ w.heap.size

end Go.AW
end

section
set_option linter.unusedVariables false
set_option linter.unusedSimpArgs false
namespace Go.AW
open Go.RowKit

def absC1 : Value → AV
  | .slice none 0 0 => .sl .full 0 []
  | x => .v x
def absC : Value → AV
  | .slice none 0 0 => .sl .full 0 []
  | .agg cs => .agg (cs.toList.map absC1)
  | x => .v x

/-- What a temporary holds. -/
def slot (ρ : List AV) (t : Nat) : AV := ρ.getD t (.v undef)
def setS (ρ : List AV) (t : Nat) (v : AV) : List AV := ρ.set t v

def ev (ρ : List AV) : Operand → AV
  | .tmp t => slot ρ t
  | .const c => absC c
  | .global g => .v (.pointer (some ⟨g, 0, none⟩))
  | .func f => .fn (.func f) [] []

def byteAt (s : ByteArray) (k : Nat) : UInt8 := s.data.toList.getD k 0

def rowT (P : Program) (t : TypeId) : Option Bool := (P.underlying t).map fun d => d.isRow
def szT (P : Program) (t : TypeId) : Option Nat := (P.info? t).map (·.size)

/-- A variable of type t, k cells on. -/
def partA (P : Program) (t : TypeId) (cs : List AV) (k : Nat) : Option AV :=
  match rowT P t, szT P t with
  | some true, some sz => if k + sz ≤ cs.length then some (.agg ((cs.drop k).take sz)) else none
  | some false, _ => cs[k]?
  | _, _ => none

def intBin (op : BinOp) (k : IntKind) (a b : Int) : Option Value :=
  match op with
  | .add => some (.int k (k.wrap (a + b)))
  | .sub => some (.int k (k.wrap (a - b)))
  | .mul => some (.int k (k.wrap (a * b)))
  | .quo => if b = 0 then none else some (.int k (k.wrap (a.tdiv b)))
  | .rem => if b = 0 then none else some (.int k (a.tmod b))
  | .and => some (.int k (bits .and k a b))
  | .or => some (.int k (bits .or k a b))
  | .xor => some (.int k (bits .xor k a b))
  | .andNot => some (.int k (bits .andNot k a b))
  | .eql => some (.bool (a == b))
  | .neq => some (.bool (a != b))
  | .lss => some (.bool (decide (a < b)))
  | .leq => some (.bool (decide (a ≤ b)))
  | .gtr => some (.bool (decide (a > b)))
  | .geq => some (.bool (decide (a ≥ b)))
  | .shl => if b < 0 then none else some (.int k (k.wrap (a * 2 ^ (min b.toNat k.bits))))
  | .shr => if b < 0 then none else some (.int k (a.fdiv (2 ^ (min b.toNat k.bits))))

def strBin (op : BinOp) (x y : ByteArray) : Option Value :=
  match op with
  | .add => if x.size + y.size ≤ 9223372036854775807 then some (.string (x ++ y)) else none
  | .eql => some (.bool (x.toList == y.toList))
  | .neq => some (.bool (!(x.toList == y.toList)))
  | .lss => some (.bool (Op.bytesLess x.toList y.toList))
  | .leq => some (.bool (Op.bytesLess x.toList y.toList || x.toList == y.toList))
  | .gtr => some (.bool (!(Op.bytesLess x.toList y.toList || x.toList == y.toList)))
  | .geq => some (.bool (!(Op.bytesLess x.toList y.toList)))
  | _ => none

def isShift : BinOp → Bool
  | .shl | .shr => true
  | _ => false

def eqOp (op : BinOp) (b : Bool) : Option Value :=
  match op with
  | .eql => some (.bool b)
  | .neq => some (.bool (!b))
  | _ => none

def binA (P : Program) (op : BinOp) (t : TypeId) (x y : AV) : Option AV :=
  match x, y with
  | .v (.int k a), .v (.int k' b) => if isShift op = true ∨ k = k' then (intBin op k a b).map .v else none
  | .v (.string a), .v (.string b) => (strBin op a b).map .v
  | .v (.bool a), .v (.bool b) => match P.underlying t with
    | some .bool => (eqOp op (a == b)).map .v
    | _ => none
  | .ptr _ _, .v (.pointer none) => match P.underlying t with
    | some (.pointer _) => (eqOp op false).map .v
    | _ => none
  | _, _ => none

theorem absC1_rep (g : G) (c : Value) : Rep g (absC1 c) c := by
  unfold absC1
  split
  · simp only [Rep, RepAt, OwnOK]; exact ⟨none, 0, rfl, Nat.le_refl _, by simp [maxLen], .inl trivial, rfl⟩
  · simp only [Rep]
theorem absC_rep (g : G) (c : Value) : Rep g (absC c) c := by
  unfold absC
  split
  · simp only [Rep, RepAt, OwnOK]; exact ⟨none, 0, rfl, Nat.le_refl _, by simp [maxLen], .inl trivial, rfl⟩
  · rename_i cs
    simp only [Rep]
    refine ⟨cs, rfl, ?_⟩
    generalize cs.toList = l
    induction l with
    | nil => simp [RepL]
    | cons c l ih => simp only [List.map_cons, repL_cons]; exact ⟨absC1_rep g c, ih⟩
  · simp only [Rep]

theorem ev_rep {g : G} {ρ : List AV} {a : Act} (h : RepL g ρ a.tmps.toList) : ∀ x : Operand, Rep g (ev ρ x) (a.eval x)
  | .tmp t => by
    simp only [ev, slot, Act.eval]
    have hl := repL_length h
    cases e : ρ[t]? with
    | none =>
      have h1 : ρ.length ≤ t := by simpa using e
      have h2 : a.tmps[t]? = none := by simp only [Array.length_toList] at hl; simp; omega
      simp only [List.getD_eq_getElem?_getD, e, Option.getD_none, Array.getD_eq_getD_getElem?, h2, Rep]
    | some c =>
      obtain ⟨y, hy, hr⟩ := repL_get h t c e
      have h2 : a.tmps[t]? = some y := by simpa using hy
      simpa only [List.getD_eq_getElem?_getD, e, Option.getD_some, Array.getD_eq_getD_getElem?, h2] using hr
  | .const c => absC_rep g c
  | .global i => by simp only [ev, Act.eval, Rep]
  | .func f => by simp only [ev, Act.eval, Rep, RepL]; exact ⟨#[], #[], rfl, rfl, rfl⟩

theorem evs_rep {g : G} {ρ : List AV} {a : Act} (h : RepL g ρ a.tmps.toList) : ∀ xs : List Operand, RepL g (xs.map (ev ρ)) (xs.map a.eval)
  | [] => by simp [RepL]
  | x :: xs => by simp only [List.map_cons, repL_cons]; exact ⟨ev_rep h x, evs_rep h xs⟩

section
variable {P : Program}

theorem intBin_run {op : BinOp} {k k' : IntKind} {a b : Int} {t : TypeId} {y : Value} (h : intBin op k a b = some y) (hk : isShift op = true ∨ k = k') (w : World) :
    (binOp op t (.int k a) (.int k' b)).run P w = .ok y w := by
  cases op <;> simp only [intBin, isShift, Bool.false_eq_true, false_or] at h hk <;> (try subst hk) <;> (try (injection h with h; subst h)) <;>
    first
    | (simp [binOp, Op.intArith, Op.intCmp, Op.intBits, bits]; done)
    | (split at h
       · simp at h
       · rename_i h0; injection h with h; subst h; simp [binOp, Op.intDiv, Op.shift, h0]; done)

theorem strBin_run {op : BinOp} {a b : ByteArray} {t : TypeId} {y : Value} (h : strBin op a b = some y) (w : World) :
    (binOp op t (.string a) (.string b)).run P w = .ok y w := by
  cases op <;> simp only [strBin] at h <;> (try (simp at h; done)) <;> (try (injection h with h; subst h)) <;>
    first
    | (simp [binOp, Op.stringOp]; done)
    | (split at h
       · rename_i h0; injection h with h; subst h; simp [binOp, Op.stringOp, IntKind.max, IntKind.bits, IntKind.signed]; omega
       · simp at h)

theorem eqGuard_plain {op : BinOp} {t : TypeId} {x y : Operand} {a b : Value} (w : World) (h1 : ∀ c d, a = .agg c → b = .agg d → False) (h2 : a = .nilIface → b = .nilIface → False) :
    (eqGuard op t x y a b).run P w = .ok () w := by
  unfold eqGuard
  cases op <;> cases a <;> cases b <;> simp_all

theorem equalIn_bool {t : TypeId} (d : Nat) (a b : Bool) (ht : P.underlying t = some .bool) (w : World) : (Op.equalIn (d + 1) t (.bool a) (.bool b)).run P w = .ok (a == b) w := by
  simp only [Op.equalIn, Sem.run_bind, run_underlying ht, Result.andThen_ok, Sem.run_pure]
theorem equal_bool {t : TypeId} (a b : Bool) (ht : P.underlying t = some .bool) (w : World) : (Op.equal t (.bool a) (.bool b)).run P w = .ok (a == b) w :=
  equalIn_bool 9999 a b ht w
theorem equalIn_ptr_nil {t e : TypeId} (d : Nat) (a : Addr) (ht : P.underlying t = some (.pointer e)) (w : World) : (Op.equalIn (d + 1) t (.pointer (some a)) (.pointer none)).run P w = .ok false w := by
  simp only [Op.equalIn, Sem.run_bind, run_underlying ht, Result.andThen_ok, Sem.run_pure]
theorem equal_ptr_nil {t e : TypeId} (a : Addr) (ht : P.underlying t = some (.pointer e)) (w : World) : (Op.equal t (.pointer (some a)) (.pointer none)).run P w = .ok false w :=
  equalIn_ptr_nil 9999 a ht w

theorem binA_run {op : BinOp} {t : TypeId} {x y r : AV} {g : G} {a b : Value} {ox oy : Operand} (h : binA P op t x y = some r) (hx : Rep g x a) (hy : Rep g y b) :
    ∃ v, Rep g r v ∧ ∀ w, (do eqGuard op t ox oy a b; binOp op t a b : Sem Value).run P w = .ok v w := by
  unfold binA at h
  split at h
  · rename_i k a' k' b'
    simp only [Rep] at hx hy
    subst hx hy
    split at h
    · rename_i hk
      obtain ⟨v, hv, rfl⟩ := Option.map_eq_some_iff.1 h
      refine ⟨v, by simp only [Rep], fun w => ?_⟩
      rw [Sem.run_bind, eqGuard_plain w (by simp) (by simp)]
      exact intBin_run hv hk w
    · simp at h
  · simp only [Rep] at hx hy
    subst hx hy
    obtain ⟨v, hv, rfl⟩ := Option.map_eq_some_iff.1 h
    refine ⟨v, by simp only [Rep], fun w => ?_⟩
    rw [Sem.run_bind, eqGuard_plain w (by simp) (by simp)]
    exact strBin_run hv w
  · rename_i a' b'
    simp only [Rep] at hx hy
    subst hx hy
    split at h
    · rename_i ht
      obtain ⟨v, hv, rfl⟩ := Option.map_eq_some_iff.1 h
      refine ⟨v, by simp only [Rep], fun w => ?_⟩
      rw [Sem.run_bind, eqGuard_plain w (by simp) (by simp)]
      cases op <;> simp [eqOp] at hv <;> subst hv <;> simp only [Result.andThen_ok, binOp, Sem.run_bind, equal_bool _ _ ht, Sem.run_pure]
    · simp at h
  · rename_i id off
    simp only [Rep] at hx hy
    obtain ⟨bk, _, rfl⟩ := hx
    subst hy
    split at h
    · rename_i el ht
      obtain ⟨v, hv, rfl⟩ := Option.map_eq_some_iff.1 h
      refine ⟨v, by simp only [Rep], fun w => ?_⟩
      rw [Sem.run_bind, eqGuard_plain w (by simp) (by simp)]
      cases op <;> simp [eqOp] at hv <;> subst hv <;> simp only [Result.andThen_ok, binOp, Sem.run_bind, equal_ptr_nil _ ht, Sem.run_pure] <;> rfl
    · simp at h
  · simp at h
end
end Go.AW
end

section
set_option linter.unusedVariables false
set_option linter.unusedSimpArgs false
namespace Go.AW
open Go.RowKit

section
variable {P : Program}

/-- Pointwise to a list. -/
theorem choose_list {g : G} : ∀ {cs : List AV} {F : Nat → Value → Prop}, (∀ (i : Nat) (c : AV), cs[i]? = some c → ∃ y, F i y ∧ Rep g c y) →
    ∃ ys : List Value, (∀ (i : Nat) (y : Value), ys[i]? = some y → F i y) ∧ RepL g cs ys
  | [], F, _ => ⟨[], by simp, repL_nil⟩
  | c :: cs, F, h => by
    obtain ⟨y, hy, hr⟩ := h 0 c (by simp)
    obtain ⟨ys, h1, h2⟩ := choose_list (cs := cs) (F := fun i => F (i + 1)) (fun i c e => h (i + 1) c (by simpa using e))
    refine ⟨y :: ys, fun i y' e => ?_, repL_cons.2 ⟨hr, h2⟩⟩
    cases i with
    | zero => simp at e; subst e; exact hy
    | succ i => exact h1 i y' (by simpa using e)

theorem isAgg_run {t : TypeId} {d : TypeDesc} (hu : P.underlying t = some d) (w : World) : (isAgg t).run P w = .ok d.isRow w := by
  unfold isAgg
  rw [Sem.run_bind, run_underlying hu w]
  cases d <;> simp [TypeDesc.isRow]

theorem rowT_some {t : TypeId} {b : Bool} (h : rowT P t = some b) : ∃ d, P.underlying t = some d ∧ d.isRow = b := by
  unfold rowT at h
  simpa using h

/-- A load: the cells are told for a class of worlds. -/
theorem load_run {C : World → Prop} {g : G} {t : TypeId} {cs : List AV} {k b off : Nat} {r : AV} (h : partA P t cs k = some r)
    (hc : ∀ (i : Nat) (c : AV), cs[i]? = some c → ∃ y, (∀ w, C w → w.cell? ⟨b, off + i, none⟩ = some y) ∧ Rep g c y) :
    ∃ y, Rep g r y ∧ ∀ w, C w → (loadVar t ⟨b, off + k, none⟩).run P w = .ok y w := by
  unfold partA at h
  split at h
  · rename_i sz hr hs
    split at h
    · rename_i hle
      injection h with h
      subst h
      obtain ⟨ys, h1, h2⟩ := choose_list (g := g) (cs := (cs.drop k).take sz) (F := fun i y => ∀ w, C w → w.cell? ⟨b, off + k + i, none⟩ = some y) (fun i c e => by
        have : cs[k + i]? = some c := by
          rw [List.getElem?_take] at e
          split at e
          · simpa using e
          · simp at e
        obtain ⟨y, hy, hr⟩ := hc _ _ this
        exact ⟨y, fun w hw => by rw [Nat.add_assoc]; exact hy w hw, hr⟩)
      have hl := repL_length h2
      obtain ⟨d, hu, hd⟩ := rowT_some hr
      refine ⟨.agg ys.toArray, by simp only [Rep]; exact ⟨_, rfl, by simpa using h2⟩, fun w hw => ?_⟩
      refine run_loadVar_mid w b (off + k) t ys d (fun j v e => h1 j v e w hw) hu hd ?_
      unfold szT at hs
      rw [hs, ← hl]
      simp
      omega
    · simp at h
  · rename_i hr
    obtain ⟨d, hu, hd⟩ := rowT_some hr
    obtain ⟨y, hy, hrep⟩ := hc k r h
    refine ⟨y, hrep, fun w hw => ?_⟩
    simp only [loadVar, Sem.run_bind, isAgg_run hu, Result.andThen_ok, hd, Bool.false_eq_true, if_false, run_load, hy w hw]
  · simp at h

/-- A part of a value. -/
theorem part_run {g : G} {t : TypeId} {cs : List AV} {arr : Array Value} {k : Nat} {r : AV} (h : partA P t cs k = some r) (hc : RepL g cs arr.toList) :
    ∃ y, Rep g r y ∧ ∀ w, (part t arr k).run P w = .ok y w := by
  unfold partA at h
  split at h
  · rename_i sz hr hs
    split at h
    · rename_i hle
      injection h with h
      subst h
      obtain ⟨d, hu, hd⟩ := rowT_some hr
      refine ⟨.agg (arr.extract k (k + sz)), ?_, fun w => ?_⟩
      · simp only [Rep]
        refine ⟨_, rfl, ?_⟩
        have := repL_take (repL_drop hc k) sz
        have e : (arr.extract k (k + sz)).toList = (arr.toList.drop k).take sz := by
          simp [Array.toList_extract, List.extract_eq_take_drop]
        rw [e]
        exact this
      · unfold szT at hs
        cases hi : P.info? t with
        | none => simp [hi] at hs
        | some i =>
          simp [hi] at hs
          simp [part, isAgg_run hu, hd, sizeOf, typeInfo, hi, hs]
    · simp at h
  · rename_i hr
    obtain ⟨d, hu, hd⟩ := rowT_some hr
    obtain ⟨y, hy, hrep⟩ := repL_get hc k r h
    refine ⟨y, hrep, fun w => ?_⟩
    have hy' : arr[k]? = some y := by simpa using hy
    simp [part, isAgg_run hu, hd, hy']
  · simp at h

theorem sizeOf_run {t : TypeId} {sz : Nat} (h : szT P t = some sz) (w : World) : (sizeOf t).run P w = .ok sz w := by
  unfold szT at h
  cases hi : P.info? t with
  | none => simp [hi] at h
  | some i =>
    simp [hi] at h
    simp [sizeOf, typeInfo, hi, h]

/-- An address so many cells on. -/
def addA : AV → Nat → Option AV
  | .ptr id off, n => some (.ptr id (off + n))
  | .eptr cs k, n => some (.eptr cs (k + n))
  | _, _ => none

theorem addA_rep {g : G} {x r : AV} {n : Nat} {y : Value} (h : addA x n = some r) (hx : Rep g x y) : ∃ b o, y = .pointer (some ⟨b, o, none⟩) ∧ Rep g r (.pointer (some ⟨b, o + n, none⟩)) := by
  unfold addA at h
  split at h
  · injection h with h
    subst h
    simp only [Rep] at hx ⊢
    obtain ⟨b, hb, rfl⟩ := hx
    exact ⟨b, _, rfl, b, hb, rfl⟩
  · injection h with h
    subst h
    simp only [Rep] at hx ⊢
    obtain ⟨b, o, rfl, hc⟩ := hx
    exact ⟨b, _, rfl, b, o, by rw [Nat.add_assoc], hc⟩
  · simp at h

def fieldOff (P : Program) (s f : Nat) : Option (Nat × TypeId) :=
  match P.underlying s with
  | some (.struct fs) => (fs[f]?).map fun fd => (fd.offset, fd.type)
  | _ => none

def fieldAddrA (P : Program) (s : TypeId) (x : AV) (f : Nat) : Option AV :=
  match fieldOff P s f with
  | some (off, t) => match szT P t with
    | some (_ + 1) => addA x off
    | _ => none
  | none => none

theorem fieldAddr_run {g : G} {s : TypeId} {x r : AV} {f : Nat} {y : Value} (h : fieldAddrA P s x f = some r) (hx : Rep g x y) :
    ∃ v, Rep g r v ∧ ∀ w, (Instr.fieldAt s y f).run P w = .ok v w := by
  unfold fieldAddrA at h
  split at h
  · rename_i off t ho
    split at h
    · rename_i n hs
      obtain ⟨b, o, rfl, hr⟩ := addA_rep h hx
      refine ⟨_, hr, fun w => ?_⟩
      unfold fieldOff at ho
      split at ho
      · rename_i fs hu
        obtain ⟨fd, hfd, he⟩ := Option.map_eq_some_iff.1 ho
        injection he with he1 he2
        subst he1 he2
        simp [Instr.fieldAt, run_underlying hu, hfd, Instr.sureAddr, fieldPlace, sizeOf_run hs, Addr.add_mid]
      · simp at ho
    · simp at h
  · simp at h

def fieldA (P : Program) (s : TypeId) (x : AV) (f : Nat) : Option AV :=
  match fieldOff P s f, x with
  | some (off, t), .agg cs => partA P t cs off
  | _, _ => none

theorem field_run {g : G} {s : TypeId} {x r : AV} {f : Nat} {y : Value} (h : fieldA P s x f = some r) (hx : Rep g x y) :
    ∃ v, Rep g r v ∧ ∀ w, (Instr.field s y f).run P w = .ok v w := by
  unfold fieldA at h
  split at h
  · rename_i off t cs ho
    simp only [Rep] at hx
    obtain ⟨arr, rfl, hc⟩ := hx
    obtain ⟨v, hv, hrun⟩ := part_run h hc
    refine ⟨v, hv, fun w => ?_⟩
    unfold fieldOff at ho
    split at ho
    · rename_i fs hu
      obtain ⟨fd, hfd, he⟩ := Option.map_eq_some_iff.1 ho
      injection he with he1 he2
      subst he1 he2
      simp [Instr.field, run_underlying hu, hfd, asAgg, hrun]
    · simp at ho
  · simp at h

def indexAddrA (P : Program) (t : TypeId) (x ix : AV) : Option AV :=
  match ix with
  | .v (.int k i) => match P.underlying t with
    | some (.array len e) => match szT P e with
      | some sz => if 0 ≤ i ∧ i < len then addA x (i.toNat * sz) else none
      | none => none
    | some (.slice e) => match szT P e, x with
      | some sz, .sl o n cs => if 0 ≤ i ∧ i < n ∧ i.toNat * sz < cs.length then some (.eptr cs (i.toNat * sz)) else none
      | some sz, .msl id off n cap => if 0 ≤ i ∧ i < n then some (.ptr id (off + i.toNat * sz)) else none
      | some sz, .vec id n _ => if 0 ≤ i ∧ i < n then some (.ptr id (i.toNat * sz)) else none
      | _, _ => none
    | _ => none
  | _ => none

theorem indexAddr_run {g : G} {t : TypeId} {x ix r : AV} {y j : Value} (h : indexAddrA P t x ix = some r) (hx : Rep g x y) (hi : Rep g ix j) :
    ∃ v, Rep g r v ∧ ∀ w, (Instr.indexAt t y j).run P w = .ok v w := by
  unfold indexAddrA at h
  split at h
  · rename_i k i
    simp only [Rep] at hi
    subst hi
    split at h
    · rename_i len e hu
      split at h
      · rename_i sz hs
        split at h
        · rename_i hb
          obtain ⟨b, o, rfl, hr⟩ := addA_rep h hx
          refine ⟨_, hr, fun w => ?_⟩
          simp [Instr.indexAt, asIntOf, run_underlying hu, Instr.sureAddr, sizeOf_run hs, Addr.add_mid, hb]
        · simp at h
      · simp at h
    · rename_i e hu
      split at h
      · rename_i sz o n cs hs
        split at h
        · rename_i hb
          injection h with h
          subst h
          simp only [Rep] at hx
          obtain ⟨a, cap, rfl, h1, h2, h3, h4⟩ := hx
          rcases h3 with h3 | ⟨b, off, rfl, h3⟩
          · subst h3; simp at hb
          · refine ⟨.pointer (some ⟨b, off + i.toNat * sz, none⟩), by simp only [Rep]; exact ⟨b, off, rfl, h3⟩, fun w => ?_⟩
            simp [Instr.indexAt, asIntOf, run_underlying hu, sizeOf_run hs, Addr.add_mid, hb.1, hb.2.1]
        · simp at h
      · rename_i sz id off n cap hs
        split at h
        · rename_i hb
          injection h with h
          subst h
          simp only [Rep] at hx
          obtain ⟨b, hbx, rfl, h1, h2⟩ := hx
          refine ⟨.pointer (some ⟨b, off + i.toNat * sz, none⟩), by simp only [Rep]; exact ⟨b, hbx, rfl⟩, fun w => ?_⟩
          simp [Instr.indexAt, asIntOf, run_underlying hu, sizeOf_run hs, Addr.add_mid, hb.1, hb.2]
        · simp at h
      · rename_i sz id n sz' hs
        split at h
        · rename_i hb
          injection h with h
          subst h
          simp only [Rep] at hx
          obtain ⟨b, cap, hbx, hv, rfl, h1, h2⟩ := hx
          refine ⟨.pointer (some ⟨b, i.toNat * sz, none⟩), by simp only [Rep]; exact ⟨b, hbx, rfl⟩, fun w => ?_⟩
          simp [Instr.indexAt, asIntOf, run_underlying hu, sizeOf_run hs, Addr.add_mid, hb.1, hb.2]
        · simp at h
      · simp at h
    · simp at h
  · simp at h

def indexA (P : Program) (t : TypeId) (x ix : AV) : Option AV :=
  match ix, x with
  | .v (.int k i), .v (.string s) => match P.underlying t with
    | some .string => if 0 ≤ i ∧ i < s.size then some (.v (.int .u8 (byteAt s i.toNat).toNat)) else none
    | _ => none
  | .v (.int k i), .agg cs => match P.underlying t with
    | some (.array len e) => match szT P e with
      | some sz => if 0 ≤ i ∧ i < len then partA P e cs (i.toNat * sz) else none
      | none => none
    | _ => none
  | _, _ => none

theorem byteAt_get (s : ByteArray) (k : Nat) (h : k < s.size) : s[k]? = some (byteAt s k) := by
  have h' : k < s.data.toList.length := by simpa using h
  unfold byteAt
  rw [List.getD_eq_getElem?_getD, List.getElem?_eq_getElem h', Option.getD_some]
  rw [getElem?_pos s k h]
  rfl

theorem index_run {g : G} {t : TypeId} {x ix r : AV} {y j : Value} (h : indexA P t x ix = some r) (hx : Rep g x y) (hi : Rep g ix j) :
    ∃ v, Rep g r v ∧ ∀ w, (Instr.index t y j).run P w = .ok v w := by
  unfold indexA at h
  split at h
  · rename_i k i s
    simp only [Rep] at hi hx
    subst hi hx
    split at h
    · rename_i hu
      split at h
      · rename_i hb
        injection h with h
        subst h
        refine ⟨.int .u8 (byteAt s i.toNat).toNat, by simp only [Rep], fun w => ?_⟩
        have hg := byteAt_get s i.toNat (by omega)
        simp [Instr.index, asIntOf, run_underlying hu, hb.1, hg]
      · simp at h
    · simp at h
  · rename_i k i cs
    simp only [Rep] at hi hx
    subst hi
    obtain ⟨arr, rfl, hc⟩ := hx
    split at h
    · rename_i len e hu
      split at h
      · rename_i sz hs
        split at h
        · rename_i hb
          obtain ⟨v, hv, hrun⟩ := part_run h hc
          refine ⟨v, hv, fun w => ?_⟩
          simp [Instr.index, asIntOf, run_underlying hu, hb, sizeOf_run hs, hrun]
        · simp at h
      · simp at h
    · simp at h
  · simp at h

/-- Bounds of a cut. -/
def natOf : AV → Option Nat
  | .v (.int _ i) => if 0 ≤ i then some i.toNat else none
  | _ => none
def lowA : Option AV → Option Nat
  | none => some 0
  | some a => natOf a
def highA (n : Nat) : Option AV → Option Nat
  | none => some n
  | some a => natOf a
/-- Two optional operands. -/
def RepO (g : G) : Option AV → Option Value → Prop
  | none, none => True
  | some a, some b => Rep g a b
  | _, _ => False
theorem natOf_some {a : AV} {n : Nat} (h : natOf a = some n) : ∃ k i, a = .v (.int k i) ∧ 0 ≤ i ∧ i.toNat = n := by
  unfold natOf at h
  split at h
  · rename_i k i
    split at h
    · rename_i h0
      injection h with h
      exact ⟨k, i, rfl, h0, h⟩
    · simp at h
  · simp at h

def sliceA (P : Program) (t : TypeId) (x : AV) (lo hi : Option AV) : Option AV :=
  match x with
  | .v (.string s) => match P.underlying t, lowA lo, highA s.size hi with
    | some .string, some l, some h => if l ≤ h ∧ h ≤ s.size then some (.v (.string (s.extract l h))) else none
    | _, _, _ => none
  | .sl o n cs => match P.underlying t, lowA lo, highA n hi with
    | some (.slice e), some l, some h => match szT P e with
      | some sz => if l ≤ h ∧ h ≤ n then some (.sl .raw (h - l) ((cs.drop (l * sz)).take ((h - l) * sz))) else none
      | none => none
    | _, _, _ => none
  | _ => none

theorem bound_run {g : G} {a : AV} {b : Value} {n m : Nat} {c : BoundsCode} (h : natOf a = some n) (hr : Rep g a b) (hle : n ≤ m) (w : World) : (Instr.sliceBound b m c).run P w = .ok n w := by
  obtain ⟨k, i, rfl, h0, rfl⟩ := natOf_some h
  simp only [Rep] at hr
  subst hr
  have : i ≤ m := by omega
  simp [Instr.sliceBound, asIntOf, h0, this]

theorem sliceBounds_run {g : G} {isS : Bool} {lo hi : Option AV} {l h n cap : Nat} {ylo yhi : Option Value} (e1 : lowA lo = some l) (e2 : highA n hi = some h)
    (h1 : RepO g lo ylo) (h2 : RepO g hi yhi) (hle : l ≤ h) (hcap : h ≤ cap) (w : World) : (Instr.sliceBounds isS n cap ylo yhi none).run P w = .ok (l, h, cap) w := by
  unfold Instr.sliceBounds
  cases hi <;> cases yhi <;> simp only [RepO] at h2 <;> cases lo <;> cases ylo <;> simp only [RepO] at h1 <;> simp only [lowA, highA, Option.some.injEq] at e1 e2
  · subst e1 e2; simp
  · subst e2; simp [bound_run e1 h1 hle]
  · subst e1; simp [bound_run e2 h2 hcap]
  · simp [bound_run e1 h1 hle, bound_run e2 h2 hcap]

theorem slice_run {g : G} {t : TypeId} {x r : AV} {lo hi : Option AV} {y : Value} {ylo yhi : Option Value} (h : sliceA P t x lo hi = some r) (hx : Rep g x y)
    (h1 : RepO g lo ylo) (h2 : RepO g hi yhi) :
    ∃ v, Rep g r v ∧ ∀ w, (Instr.sliceAt t y ylo yhi none).run P w = .ok v w := by
  unfold sliceA at h
  split at h
  · rename_i s
    simp only [Rep] at hx
    subst hx
    split at h
    · rename_i l hh hu e1 e2
      split at h
      · rename_i hb
        injection h with h
        subst h
        refine ⟨.string (s.extract l hh), by simp only [Rep], fun w => ?_⟩
        have := sliceBounds_run (P := P) (isS := false) (cap := s.size) e1 e2 h1 h2 hb.1 hb.2 w
        simp [Instr.sliceAt, Instr.slice, run_underlying hu, this]
      · simp at h
    · simp at h
  · rename_i o n cs
    simp only [Rep] at hx
    obtain ⟨a, cap, rfl, c1, c2, c3, c4⟩ := hx
    split at h
    · rename_i e l hh hu e1 e2
      split at h
      · rename_i sz hs
        split at h
        · rename_i hb
          injection h with h
          subst h
          have := sliceBounds_run (P := P) (isS := true) (cap := cap) e1 e2 h1 h2 hb.1 (by omega) 
          refine ⟨.slice (if cap = l then a else a.map (·.add (l * sz))) (hh - l) (cap - l), ?_, fun w => ?_⟩
          · simp only [Rep]
            refine ⟨_, _, rfl, by omega, by omega, ?_, trivial⟩
            by_cases hz : (cs.drop (l * sz)).take ((hh - l) * sz) = []
            · exact .inl hz
            · right
              have hlt : l < hh := by
                rcases Nat.lt_or_ge l hh with h | h
                · exact h
                · exact absurd (by rw [show hh - l = 0 from by omega]; simp) hz
              have hcl : cap ≠ l := by omega
              rcases c3 with c3 | ⟨b, off, rfl, c3⟩
              · subst c3; simp at hz
              · exact ⟨b, off + l * sz, by rw [if_neg hcl]; simp [Addr.add_mid], repAt_take (repAt_drop c3 _) _⟩
          · simp [Instr.sliceAt, Instr.slice, run_underlying hu, this w, sizeOf_run hs]
        · simp at h
      · simp at h
    · simp at h
  · simp at h

end
end Go.AW
end

section
set_option linter.unusedVariables false
set_option linter.unusedSimpArgs false
namespace Go.AW
open Go.RowKit

section
variable {P : Program}

/-- Bytes out of cells. -/
def bytesA : List AV → Option (List UInt8)
  | [] => some []
  | .v (.int .u8 n) :: r => (bytesA r).map (UInt8.ofNat n.toNat :: ·)
  | _ :: _ => none

def unA (op : UnOp) (x : AV) : Option AV :=
  match op, x with
  | .neg, .v (.int k n) => some (.v (.int k (k.wrap (0 - n))))
  | .xor, .v (.int k n) => some (.v (.int k (bits .xor k (if k.signed then -1 else k.max) n)))
  | .not, .v (.bool b) => some (.v (.bool (!b)))
  | _, _ => none

theorem un_run {g : G} {op : UnOp} {x r : AV} {y : Value} (h : unA op x = some r) (hx : Rep g x y) : ∃ v, Rep g r v ∧ ∀ w, (Op.unary op y).run P w = .ok v w := by
  unfold unA at h
  split at h
  · rename_i k n
    injection h with h
    subst h
    simp only [Rep] at hx
    subst hx
    exact ⟨.int k (k.wrap (0 - n)), by simp only [Rep], fun w => rfl⟩
  · rename_i k n
    injection h with h
    subst h
    simp only [Rep] at hx
    subst hx
    exact ⟨.int k (bits .xor k (if k.signed then -1 else k.max) n), by simp only [Rep], fun w => rfl⟩
  · rename_i b
    injection h with h
    subst h
    simp only [Rep] at hx
    subst hx
    exact ⟨.bool (!b), by simp only [Rep], fun w => rfl⟩
  · simp at h

/-- The cells of a slice, as the state knows them. -/
def cellsOfA (σ : St) : AV → Option (List AV)
  | .sl _ _ cs => some cs
  | .msl id off n cap => (σ.box id).map fun cs => (cs.drop off).take n
  | .vec id n _ => (σ.box id).map fun cs => cs.take n
  | _ => none

def convA (P : Program) (σ : St) (src dst : TypeId) (x : AV) : Option AV :=
  match P.underlying src, P.underlying dst, x with
  | some _, some (.int k), .v (.int _ n) => some (.v (.int k (k.wrap n)))
  | some _, some .string, .v (.string s) => some (.v (.string s))
  | some (.slice e), some .string, x => match P.underlying e, x with
    | some (.int .u8), .sl _ n cs => if cs.length = n then (bytesA cs).map fun l => .v (.string ⟨l.toArray⟩) else none
    | some (.int .u8), .msl id off n cap => ((σ.box id).bind fun cs => if off + n ≤ cs.length then bytesA ((cs.drop off).take n) else none).map fun l => .v (.string ⟨l.toArray⟩)
    | some (.int .u8), .vec id n _ => ((σ.box id).bind fun cs => if cs.length = n then bytesA cs else none).map fun l => .v (.string ⟨l.toArray⟩)
    | _, _ => none
  | _, _, _ => none

theorem bytesA_cells {g : G} : ∀ {cs : List AV} {ys : List Value} {l : List UInt8}, bytesA cs = some l → RepL g cs ys → ∃ ns : List Int, ys = ns.map (Value.int .u8) ∧ l = ns.map fun n => UInt8.ofNat n.toNat
  | [], ys, l, h, hr => by simp only [RepL] at hr; subst hr; simp [bytesA] at h; subst h; exact ⟨[], rfl, rfl⟩
  | c :: cs, ys, l, h, hr => by
    unfold bytesA at h
    split at h
    · rename_i e; cases e
    · rename_i n r e
      injection e with e1 e2
      subst e1 e2
      obtain ⟨l', hl', rfl⟩ := Option.map_eq_some_iff.1 h
      simp only [RepL, Rep] at hr
      obtain ⟨y, q, rfl, rfl, hr⟩ := hr
      obtain ⟨ns, rfl, rfl⟩ := bytesA_cells hl' hr
      exact ⟨n :: ns, rfl, rfl⟩
    · simp at h

theorem imm_cls {σ : St} {g : G} {wE w w' : World} (hI : Inv σ g wE w) (hb : Below w.heap.size w w') {b o : Nat} {y : Value} (h : g.imm b o = some y) : w'.cell? ⟨b, o, none⟩ = some y := by
  have h1 := hI.imm b o y h
  have h2 := World.block_lt_of_cell? w ⟨b, o, none⟩ h1
  rw [hb.cell h2]
  exact h1

theorem box_cls {σ : St} {g : G} {wE w : World} (hI : Inv σ g wE w) {i : Nat} {cs : List AV} (h : σ.box i = some cs) :
    ∃ b arr ty, g.bx i = some b ∧ RepL g cs (arr.toList.take cs.length) ∧ ∀ w', Below w.heap.size w w' → w'.heap[b]? = some (.cells arr ty (0, 0)) := by
  obtain ⟨b, arr, ty, h1, h2, _, h3, _⟩ := hI.box i cs h
  refine ⟨b, arr, ty, h1, h3, fun w' hb => ?_⟩
  rw [hb.block b (hI.bxw i b h1).2.1]
  exact h2

theorem cell_of_block {w : World} {b o : Nat} {arr : Array Value} {ty : TypeId} {fz : Nat × Nat} {y : Value} (h : w.heap[b]? = some (.cells arr ty fz)) (hy : arr.toList[o]? = some y) : w.cell? ⟨b, o, none⟩ = some y := by
  simp only [World.cell?, h, Option.isSome_none, Bool.false_eq_true, if_false]
  simpa using hy

/-- The cells behind an address: in every world of the class. -/
theorem cells_at {σ : St} {g : G} {wE w : World} (hI : Inv σ g wE w) {cs : List AV} {b off : Nat} (h : RepAt g cs b off) (i : Nat) (c : AV) (e : cs[i]? = some c) :
    ∃ y, (∀ w', Below w.heap.size w w' → w'.cell? ⟨b, off + i, none⟩ = some y) ∧ Rep g c y := by
  obtain ⟨y, hy, hr⟩ := repAt_get h i c e
  exact ⟨y, fun w' hb => imm_cls hI hb hy, hr⟩
theorem cells_box {g : G} {w : World} {cs : List AV} {b : Nat} {arr : Array Value} {ty : TypeId} (h3 : RepL g cs (arr.toList.take cs.length)) (h : ∀ w', Below w.heap.size w w' → w'.heap[b]? = some (.cells arr ty (0, 0))) (i : Nat) (c : AV) (e : cs[i]? = some c) :
    ∃ y, (∀ w', Below w.heap.size w w' → w'.cell? ⟨b, 0 + i, none⟩ = some y) ∧ Rep g c y := by
  obtain ⟨y, hy, hr⟩ := repL_get h3 i c e
  have hy : arr.toList[i]? = some y := by
    rw [List.getElem?_take] at hy
    split at hy
    · exact hy
    · cases hy
  exact ⟨y, fun w' hb => by rw [Nat.zero_add]; exact cell_of_block (h w' hb) hy, hr⟩

/-- A conversion of bytes to a string, the cells being told for a class of worlds. -/
theorem conv_bytes {C : World → Prop} {g : G} {src dst e : TypeId} (hs : P.underlying src = some (.slice e)) (he : P.underlying e = some (.int .u8)) (hd : P.underlying dst = some .string)
    {cs : List AV} {l : List UInt8} (h : bytesA cs = some l) {b off n cap : Nat} (hn : cs.length = n)
    (hc : ∀ (i : Nat) (c : AV), cs[i]? = some c → ∃ y, (∀ w, C w → w.cell? ⟨b, off + i, none⟩ = some y) ∧ Rep g c y) :
    ∀ w, C w → (convert src dst (.slice (some ⟨b, off, none⟩) n cap)).run P w = .ok (.string ⟨l.toArray⟩) w := by
  obtain ⟨ys, h1, h2⟩ := choose_list hc
  obtain ⟨ns, rfl, rfl⟩ := bytesA_cells h h2
  have hl := repL_length h2
  intro w hw
  refine run_convert_bytes_arg w src e hs he b off n cap ns (by rw [List.length_map] at hl; omega) (fun i hi => ?_) dst hd
  refine h1 i _ ?_ w hw
  rw [List.length_map] at hl
  rw [List.getElem?_map, List.getElem?_eq_getElem (show i < ns.length by omega), Option.map_some, List.getD_eq_getElem?_getD, List.getElem?_eq_getElem (show i < ns.length by omega), Option.getD_some]

theorem conv_run {σ : St} {g : G} {wE w : World} (hI : Inv σ g wE w) {src dst : TypeId} {x r : AV} {y : Value} (h : convA P σ src dst x = some r) (hx : Rep g x y) :
    ∃ v, Rep g r v ∧ ∀ w', Below w.heap.size w w' → (convert src dst y).run P w' = .ok v w' := by
  unfold convA at h
  split at h
  · rename_i d k k' n hs hd
    injection h with h
    subst h
    simp only [Rep] at hx
    subst hx
    exact ⟨.int k (k.wrap n), by simp only [Rep], fun w' _ => by simp [convert, run_underlying hs, run_underlying hd, Conv.intToInt]⟩
  · rename_i d s hs hd
    injection h with h
    subst h
    simp only [Rep] at hx
    subst hx
    exact ⟨.string s, by simp only [Rep], fun w' _ => by simp [convert, run_underlying hs, run_underlying hd]⟩
  · rename_i e hs hd _
    split at h
    · rename_i o n cs he _
      split at h
      · rename_i hn
        obtain ⟨l, hl, rfl⟩ := Option.map_eq_some_iff.1 h
        simp only [Rep] at hx
        obtain ⟨a, cap, rfl, c1, c2, c3, c4⟩ := hx
        refine ⟨.string ⟨l.toArray⟩, by simp only [Rep], ?_⟩
        rcases c3 with c3 | ⟨b, off, rfl, c3⟩
        · subst c3
          simp [bytesA] at hl
          subst hl
          simp at hn
          subst hn
          intro w' _
          rw [run_convert_bytes_string w' src dst e a 0 cap hs he hd]
          cases a with
          | none => simp [Conv.bytesToString]; rfl
          | some a =>
            rw [run_bytesToString w' a 0 cap [] (by simp [loadCells, loadCellsFrom])]
            rfl
        · exact conv_bytes hs he hd hl hn (fun i c e' => cells_at hI c3 i c e')
      · simp at h
    · rename_i id off n cap he _
      obtain ⟨l, hl, rfl⟩ := Option.map_eq_some_iff.1 h
      obtain ⟨cs, hcs, hl⟩ := Option.bind_eq_some_iff.1 hl
      split at hl
      · rename_i hle
        obtain ⟨b, arr, ty, hb, h3, h4⟩ := box_cls hI hcs
        simp only [Rep] at hx
        obtain ⟨b', hb', rfl, c1, c2⟩ := hx
        rw [hb] at hb'
        injection hb' with hb'
        subst hb'
        refine ⟨.string ⟨l.toArray⟩, by simp only [Rep], ?_⟩
        refine conv_bytes (g := g) hs he hd hl (by simp; omega) (fun i c e' => ?_)
        have : cs[off + i]? = some c := by
          rw [List.getElem?_take] at e'
          split at e'
          · simpa using e'
          · simp at e'
        obtain ⟨y, hy, hr⟩ := cells_box h3 h4 (off + i) c this
        exact ⟨y, fun w' hw' => by have := hy w' hw'; rwa [Nat.zero_add] at this, hr⟩
      · simp at hl
    · rename_i id n sz' he _
      obtain ⟨l, hl, rfl⟩ := Option.map_eq_some_iff.1 h
      obtain ⟨cs, hcs, hl⟩ := Option.bind_eq_some_iff.1 hl
      split at hl
      · rename_i hn
        obtain ⟨b, arr, ty, hb, h3, h4⟩ := box_cls hI hcs
        simp only [Rep] at hx
        obtain ⟨b', cap, hb', hv, rfl, c1, c2⟩ := hx
        rw [hb] at hb'
        injection hb' with hb'
        subst hb'
        refine ⟨.string ⟨l.toArray⟩, by simp only [Rep], ?_⟩
        exact conv_bytes (g := g) hs he hd hl hn (fun i c e' => by
          obtain ⟨y, hy, hr⟩ := cells_box h3 h4 i c e'
          exact ⟨y, hy, hr⟩)
      · simp at hl
    · simp at h
  · simp at h

def pickA (t : Bool) (a b : AV) : AV :=
  match a, b with
  | .v (.bool x), .v (.bool y) => .v (.bool (if t then x else y))
  | a, b => if t then a else b

theorem pickA_true (a b : AV) : pickA true a b = a := by unfold pickA; split <;> rfl
theorem pickA_false (a b : AV) : pickA false a b = b := by unfold pickA; split <;> rfl

def lenA (P : Program) (t : TypeId) (x : AV) : Option AV :=
  match P.underlying t, x with
  | some .string, .v (.string s) => some (.v (.int .i64 s.size))
  | some (.slice _), .sl _ n _ => some (.v (.int .i64 n))
  | some (.slice _), .msl _ _ n _ => some (.v (.int .i64 n))
  | some (.slice _), .vec _ n _ => some (.v (.int .i64 n))
  | some (.array n _), _ => some (.v (.int .i64 n))
  | _, _ => none

def minA (x y : AV) : Option AV :=
  match x, y with
  | .v (.int k a), .v (.int k' b) => some (.v (.int k (if b < a then b else a)))
  | _, _ => none
def maxA (x y : AV) : Option AV :=
  match x, y with
  | .v (.int k a), .v (.int k' b) => some (.v (.int k (if b > a then b else a)))
  | _, _ => none

def nilA : AV → Option AV
  | .ptr i o => some (.ptr i o)
  | .eptr cs k => some (.eptr cs k)
  | .fn (.func f) a b => some (.fn (.func f) a b)
  | _ => none

def builtinQ (P : Program) (b : Builtin) (ts : List TypeId) (xs : List AV) : Option AV :=
  match b, ts, xs with
  | .len, t :: _, x :: _ => lenA P t x
  | .min, _, [x, y] => minA x y
  | .max, _, [x, y] => maxA x y
  | _, _, _ => none

/-- Maps by whole numbers. -/
def findM : List (Int × AV) → Int → Option AV
  | [], _ => none
  | (k, v) :: l, n => if n = k then some v else findM l n
def setM : List (Int × AV) → Int → AV → List (Int × AV)
  | [], n, v => [(n, v)]
  | (k, x) :: l, n, v => if n = k then (k, v) :: l else (k, x) :: setM l n v
def zero1 (P : Program) (t : TypeId) : Option AV := ((P.info? t).bind (·.zero)).map absC
def mlenA (P : Program) (σ : St) (b : Builtin) (ts : List TypeId) (xs : List AV) : Option AV :=
  match b, ts, xs with
  | .len, [t], [.mp id] => match P.underlying t, σ.mp id with
    | some (.map _ _), some (_, l) => some (.v (.int .i64 l.length))
    | _, _ => none
  | _, _, _ => none
def mapK (P : Program) (t : TypeId) : Option (IntKind × TypeId) :=
  match P.underlying t with
  | some (.map kt et) => match P.underlying kt with
    | some (.int k) => some (k, et)
    | _ => none
  | _ => none
def lookupA (P : Program) (σ : St) (t : TypeId) (x ix : AV) : Option AV :=
  match mapK P t, x, ix with
  | some (k0, et), .mp id, .v (.int k n) => match σ.mp id with
    | some (k1, l) => if k0 = k ∧ k1 = k then (match findM l n with | some v => some v | none => zero1 P et) else none
    | none => none
  | _, _, _ => none

def evalQ (P : Program) (σ : St) (ρ : List AV) : Op → Option AV
  | .move x => some (ev ρ x)
  | .assign x => some (ev ρ x)
  | .pick c a b => match ev ρ c with
    | .v (.bool t) => some (pickA t (ev ρ a) (ev ρ b))
    | _ => none
  | .load t x => match ev ρ x with
    | .ptr id off => (σ.box id).bind fun cs => partA P t cs off
    | .eptr cs k => partA P t cs k
    | _ => none
  | .nilCheck x => nilA (ev ρ x)
  | .binOp op t x y _ => binA P op t (ev ρ x) (ev ρ y)
  | .unOp op _ x => unA op (ev ρ x)
  | .convert s d x => convA P σ s d (ev ρ x)
  | .makeFunc fn first caps => some (.fn fn (first.toList.map (ev ρ)) (caps.toList.map (ev ρ)))
  | .slice t x lo hi none => sliceA P t (ev ρ x) (lo.map (ev ρ)) (hi.map (ev ρ))
  | .fieldAddr s x f => fieldAddrA P s (ev ρ x) f
  | .field s x f => fieldA P s (ev ρ x) f
  | .indexAddr t x ix => indexAddrA P t (ev ρ x) (ev ρ ix)
  | .index t x ix => indexA P t (ev ρ x) (ev ρ ix)
  | .extract x i => match ev ρ x with
    | .tup vs => vs[i]?
    | _ => none
  | .call c => match c.callee with
    | .builtin b => (builtinQ P b c.argTypes.toList (c.args.toList.map (ev ρ))).or (mlenA P σ b c.argTypes.toList (c.args.toList.map (ev ρ)))
    | _ => none
  | .lookup t x ix false => lookupA P σ t (ev ρ x) (ev ρ ix)
  | _ => none

theorem mapK_some {t et : TypeId} {k : IntKind} (h : mapK P t = some (k, et)) : ∃ kt, P.underlying t = some (.map kt et) ∧ P.underlying kt = some (.int k) := by
  unfold mapK at h
  split at h
  · rename_i kt et' hu
    split at h
    · rename_i k' hk
      injection h with h
      injection h with h1 h2
      subst h1 h2
      exact ⟨kt, hu, hk⟩
    · cases h
  · cases h

theorem findM_run {g : G} {k : IntKind} {n : Int} : ∀ {l : List (Int × AV)} {es : List MapEntry} (i : Nat), RepM g k l es →
    (findM l n = none ∧ Instr.findNow (.int k) (.int k n) es i = some none) ∨
    ∃ j v e, findM l n = some v ∧ Instr.findNow (.int k) (.int k n) es i = some (some (i + j, e.val)) ∧ es[j]? = some e ∧ e.key = .int k n ∧ Rep g v e.val ∧ ∀ v' e', e'.key = .int k n → Rep g v' e'.val → RepM g k (setM l n v') (es.set j e')
  | [], es, i, h => by
    simp only [RepM] at h
    subst h
    exact .inl ⟨rfl, rfl⟩
  | (x, v) :: l, es, i, h => by
    simp only [RepM] at h
    obtain ⟨e, r, rfl, hk, hv, hr⟩ := h
    by_cases hx : n = x
    · subst hx
      refine .inr ⟨0, v, e, by simp [findM], by simp [Instr.findNow, Instr.sameNow, hk], rfl, hk, hv, fun v' e' hk' hv' => ?_⟩
      simp only [setM, if_true, List.set_cons_zero, RepM]
      exact ⟨e', r, rfl, hk', hv', hr⟩
    · have hb : (n == x) = false := by simp [hx]
      rcases findM_run (n := n) (i + 1) hr with ⟨q1, q2⟩ | ⟨j, v1, e1, q1, q2, q3, q4, q5, q6⟩
      · exact .inl ⟨by simp [findM, hx, q1], by simp only [Instr.findNow, Instr.sameNow, hk, if_true, hb, q2]⟩
      · refine .inr ⟨j + 1, v1, e1, by simp [findM, hx, q1], by simp only [Instr.findNow, Instr.sameNow, hk, if_true, hb, q2]; rw [Nat.add_assoc, Nat.add_comm 1 j], by simpa using q3, q4, q5, fun v' e' hk' hv' => ?_⟩
        simp only [setM, if_neg hx, List.set_cons_succ, RepM]
        exact ⟨e, _, rfl, hk, hv, q6 v' e' hk' hv'⟩
theorem setM_end {g : G} {k : IntKind} {n : Int} {v : AV} {e : MapEntry} (hk : e.key = .int k n) (hv : Rep g v e.val) : ∀ {l : List (Int × AV)} {es : List MapEntry}, findM l n = none → RepM g k l es → RepM g k (setM l n v) (es ++ [e])
  | [], es, _, h => by
    simp only [RepM] at h
    subst h
    exact ⟨e, [], rfl, hk, hv, rfl⟩
  | (x, v0) :: l, es, hf, h => by
    simp only [RepM] at h
    obtain ⟨e0, r, rfl, hk0, hv0, hr⟩ := h
    simp only [findM] at hf
    split at hf
    · cases hf
    · rename_i hx
      simp only [setM, if_neg hx, List.cons_append, RepM]
      exact ⟨e0, _, rfl, hk0, hv0, setM_end hk hv hf hr⟩
theorem repM_length {g : G} {k : IntKind} : ∀ {l : List (Int × AV)} {es : List MapEntry}, RepM g k l es → l.length = es.length
  | [], es, h => by simp only [RepM] at h; subst h; rfl
  | (x, v0) :: l, es, h => by
    simp only [RepM] at h
    obtain ⟨e0, r, rfl, hk0, hv0, hr⟩ := h
    simp [repM_length hr]

theorem map_cls {σ : St} {g : G} {wE w : World} (hI : Inv σ g wE w) {i : Nat} {k : IntKind} {l : List (Int × AV)} (h : σ.mp i = some (k, l)) :
    ∃ b es c, g.bx i = some b ∧ RepM g k l es.toList ∧ ∀ w', Below w.heap.size w w' → w'.heap[b]? = some (.map es c) := by
  obtain ⟨b, es, c, h1, h2, h3⟩ := hI.mp i k l h
  refine ⟨b, es, c, h1, h3, fun w' hb => ?_⟩
  rw [hb.block b (hI.bxw i b h1).2.1]
  exact h2

theorem zero1_run {t : TypeId} {r : AV} (h : zero1 P t = some r) (g : G) : ∃ z, Rep g r z ∧ ∀ w, (zeroValue t).run P w = .ok z w := by
  unfold zero1 at h
  obtain ⟨z, hz, rfl⟩ := Option.map_eq_some_iff.1 h
  obtain ⟨i, hi, hz⟩ := Option.bind_eq_some_iff.1 hz
  exact ⟨z, absC_rep g z, fun w => by simp [zeroValue, typeInfo, hi, hz]⟩

theorem lookup_run {σ : St} {g : G} {wE w : World} (hI : Inv σ g wE w) {t : TypeId} {x ix r : AV} {y j : Value} (h : lookupA P σ t x ix = some r) (hx : Rep g x y) (hj : Rep g ix j) :
    ∃ v, Rep g r v ∧ ∀ w', Below w.heap.size w w' → (Instr.lookup t y j false).run P w' = .ok v w' := by
  unfold lookupA at h
  split at h
  · rename_i k0 et id k n hm
    split at h
    · rename_i k1 l hl
      split at h
      · rename_i hk
        obtain ⟨rfl, rfl⟩ := hk
        obtain ⟨kt, hu, hkt⟩ := mapK_some hm
        obtain ⟨b, es, c, hb, hr, hh⟩ := map_cls hI hl
        simp only [Rep] at hx hj
        obtain ⟨b', hb', rfl⟩ := hx
        subst hj
        rw [hb] at hb'
        injection hb' with hb'
        subst hb'
        have hcheck := fun w' => MapKept.run_checkKey (P := P) (w := w') (k := Value.int k1 n) hkt (by simp [MapKept.IsKey]) es.isEmpty 9999
        rcases findM_run (n := n) 0 hr with ⟨q1, q2⟩ | ⟨i, v, e, q1, q2, q3, q4, q5, _⟩
        · rw [q1] at h
          obtain ⟨z, hz, hzr⟩ := zero1_run h g
          refine ⟨z, hz, fun w' hw' => ?_⟩
          have hf := MapKept.run_findKey (w := w') hkt q2
          simp [Instr.lookup, run_underlying hu, MapKept.run_getObj_map (hh w' hw'), hcheck w', hf, hzr w']
        · rw [q1] at h
          injection h with h
          subst h
          refine ⟨e.val, q5, fun w' hw' => ?_⟩
          have hf := MapKept.run_findKey (w := w') hkt q2
          simp [Instr.lookup, run_underlying hu, MapKept.run_getObj_map (hh w' hw'), hcheck w', hf]
      · cases h
    · cases h
  · cases h

theorem mlen_run {σ : St} {g : G} {wE w : World} (hI : Inv σ g wE w) {b : Builtin} {ts : List TypeId} {ty : TypeId} {xs : List AV} {ys : Array Value} {r : AV} {consts : Array Bool} (h : mlenA P σ b ts xs = some r) (hx : RepL g xs ys.toList) :
    ∃ v, Rep g r v ∧ ∀ w', Below w.heap.size w w' → (builtin b ts.toArray ty consts ys).run P w' = .ok (.value v) w' := by
  unfold mlenA at h
  split at h
  · rename_i t id
    split at h
    · rename_i kt et k l hu hl
      injection h with h
      subst h
      obtain ⟨b, es, c, hb, hr, hh⟩ := map_cls hI hl
      obtain ⟨ys⟩ := ys
      simp only [RepL] at hx
      obtain ⟨y, yr, e, hx, rfl⟩ := hx
      subst e
      simp only [Rep] at hx
      obtain ⟨b', hb', rfl⟩ := hx
      rw [hb] at hb'
      injection hb' with hb'
      subst hb'
      have hl := repM_length hr
      simp only [Array.length_toList] at hl
      refine ⟨.int .i64 l.length, by simp only [Rep], fun w' hw' => ?_⟩
      simp [builtin, Builtin.len_, run_underlying hu, goInt, MapKept.run_getObj_map (hh w' hw'), hl]
    · cases h
  · cases h

theorem builtinQ_run {g : G} {b : Builtin} {ts : List TypeId} {ty : TypeId} {xs : List AV} {ys : Array Value} {r : AV} {consts : Array Bool} (h : builtinQ P b ts xs = some r) (hx : RepL g xs ys.toList) :
    ∃ v, Rep g r v ∧ ∀ w, (builtin b ts.toArray ty consts ys).run P w = .ok (.value v) w := by
  unfold builtinQ at h
  split at h
  · rename_i t tr x xr
    obtain ⟨ys⟩ := ys
    simp only [RepL] at hx
    obtain ⟨y, yr, e, hx, _⟩ := hx
    subst e
    unfold lenA at h
    split at h
    · rename_i s hu
      injection h with h
      subst h
      simp only [Rep] at hx
      subst hx
      exact ⟨.int .i64 s.size, by simp only [Rep], fun w => by simp [builtin, Builtin.len_, run_underlying hu, goInt]⟩
    · rename_i e o n cs hu
      injection h with h
      subst h
      simp only [Rep] at hx
      obtain ⟨a, cap, rfl, _⟩ := hx
      exact ⟨.int .i64 n, by simp only [Rep], fun w => by simp [builtin, Builtin.len_, run_underlying hu, goInt]⟩
    · rename_i e id off n cap hu
      injection h with h
      subst h
      simp only [Rep] at hx
      obtain ⟨a, _, rfl, _⟩ := hx
      exact ⟨.int .i64 n, by simp only [Rep], fun w => by simp [builtin, Builtin.len_, run_underlying hu, goInt]⟩
    · rename_i e id n sz' hu
      injection h with h
      subst h
      simp only [Rep] at hx
      obtain ⟨a, _, _, _, rfl, _⟩ := hx
      exact ⟨.int .i64 n, by simp only [Rep], fun w => by simp [builtin, Builtin.len_, run_underlying hu, goInt]⟩
    · rename_i n e hu
      injection h with h
      subst h
      exact ⟨.int .i64 n, by simp only [Rep], fun w => by simp [builtin, Builtin.len_, run_underlying hu, goInt]⟩
    · simp at h
  · rename_i x y
    obtain ⟨ys⟩ := ys
    simp only [RepL] at hx
    obtain ⟨a, yr, e, hx, b, yr', e', hy, e''⟩ := hx
    subst e e' e''
    unfold minA at h
    split at h
    · rename_i k p k' q
      injection h with h
      subst h
      simp only [Rep] at hx hy
      subst hx hy
      exact ⟨.int k (if q < p then q else p), by simp only [Rep], fun w => by simp [builtin, Builtin.min_, Builtin.min2]⟩
    · simp at h
  · rename_i x y
    obtain ⟨ys⟩ := ys
    simp only [RepL] at hx
    obtain ⟨a, yr, e, hx, b, yr', e', hy, e''⟩ := hx
    subst e e' e''
    unfold maxA at h
    split at h
    · rename_i k p k' q
      injection h with h
      subst h
      simp only [Rep] at hx hy
      subst hx hy
      exact ⟨.int k (if q > p then q else p), by simp only [Rep], fun w => by simp [builtin, Builtin.max_, Builtin.max2]⟩
    · simp at h
  · simp at h

theorem nilA_run {g : G} {x r : AV} {y : Value} (h : nilA x = some r) (hx : Rep g x y) : Rep g r y ∧ ∀ w : World, ((match (generalizing := false) y with
    | .pointer none | .nilIface | .nilFunc => runtimePanic .nilDeref
    | .func (.method name) first captured =>
      match (first[0]? : Option Value) with
      | some .nilIface => runtimePanic .nilDeref
      | some (.iface t w) => do
        if (← nilAhead ((← program).types.size + Made.depth) t w name) != some false then
          unsupported (.noEntry "op/nilCheck.the method's receiver behind this interface value is a nil pointer, or cannot be seen to be none, and the arguments act or may panic (ledger 612)")
        pure (.value (.func (.method name) first captured))
      | _ => pure (.value (.func (.method name) first captured))
    | x => pure (.value x)) : Sem Next).run P w = .ok (.value y) w := by
  unfold nilA at h
  split at h
  · injection h with h
    subst h
    refine ⟨hx, fun w => ?_⟩
    simp only [Rep] at hx
    obtain ⟨b, _, rfl⟩ := hx
    rfl
  · injection h with h
    subst h
    refine ⟨hx, fun w => ?_⟩
    simp only [Rep] at hx
    obtain ⟨b, o, rfl, _⟩ := hx
    rfl
  · injection h with h
    subst h
    refine ⟨hx, fun w => ?_⟩
    simp only [Rep] at hx
    obtain ⟨a1, a2, rfl, _⟩ := hx
    rfl
  · simp at h

theorem evalQ_run {σ : St} {g : G} {wE w : World} {ρ : List AV} {a : Act} {o : Oper} {r : AV} (hI : Inv σ g wE w) (hρ : RepL g ρ a.tmps.toList) (h : evalQ P σ ρ o.op = some r) :
    ∃ v, Rep g r v ∧ ∀ w', Below w.heap.size w w' → (execOp a.eval o).run P w' = .ok (.value v) w' := by
  obtain ⟨dst, op, ty, pos, after, guard⟩ := o
  dsimp only at h
  unfold evalQ at h
  unfold execOp
  have hE := ev_rep hρ
  cases op <;> dsimp only at h ⊢ <;> try (simp at h; done)
  case move x => injection h with h; subst h; exact ⟨_, hE x, fun w' _ => rfl⟩
  case assign x => injection h with h; subst h; exact ⟨_, hE x, fun w' _ => rfl⟩
  case pick c x y =>
    split at h
    · rename_i t e
      injection h with h
      subst h
      have hc := hE c
      rw [e] at hc
      simp only [Rep] at hc
      cases t with
      | true => rw [pickA_true]; exact ⟨_, hE x, fun w' _ => by simp [hc, asBool]⟩
      | false => rw [pickA_false]; exact ⟨_, hE y, fun w' _ => by simp [hc, asBool]⟩
    · simp at h
  case load t x =>
    have hx := hE x
    split at h
    · rename_i id off e
      obtain ⟨cs, hcs, h⟩ := Option.bind_eq_some_iff.1 h
      obtain ⟨b, arr, tt, hb, h3, h4⟩ := box_cls hI hcs
      rw [e] at hx
      simp only [Rep] at hx
      obtain ⟨b', hb', hx⟩ := hx
      rw [hb] at hb'
      injection hb' with hb'
      subst hb'
      obtain ⟨y, hy, hrun⟩ := load_run (P := P) (C := fun w' => Below w.heap.size w w') h (cells_box h3 h4)
      refine ⟨y, hy, fun w' hw' => ?_⟩
      have := hrun w' hw'
      rw [Nat.zero_add] at this
      simp [hx, Instr.loadAt, Instr.sureAddr, this]
    · rename_i cs k e
      rw [e] at hx
      simp only [Rep] at hx
      obtain ⟨b, off, hx, hat⟩ := hx
      obtain ⟨y, hy, hrun⟩ := load_run (P := P) (C := fun w' => Below w.heap.size w w') h (cells_at hI hat)
      exact ⟨y, hy, fun w' hw' => by simp [hx, Instr.loadAt, Instr.sureAddr, hrun w' hw']⟩
    · simp at h
  case nilCheck x =>
    obtain ⟨h1, h2⟩ := nilA_run (P := P) h (hE x)
    exact ⟨_, h1, fun w' _ => h2 w'⟩
  case binOp op t x y yt =>
    obtain ⟨v, hv, hrun⟩ := binA_run (ox := x) (oy := y) h (hE x) (hE y)
    exact ⟨v, hv, fun w' _ => by have := hrun w'; simp only [Sem.run_bind] at this ⊢; rw [this]; rfl⟩
  case unOp op t x =>
    obtain ⟨v, hv, hrun⟩ := un_run (P := P) h (hE x)
    exact ⟨v, hv, fun w' _ => by simp [hrun w']⟩
  case convert s d x =>
    obtain ⟨v, hv, hrun⟩ := conv_run (P := P) hI h (hE x)
    exact ⟨v, hv, fun w' hw' => by simp [hrun w' hw']⟩
  case makeFunc fn first caps =>
    injection h with h
    subst h
    refine ⟨.func fn (first.map a.eval) (caps.map a.eval), ?_, fun w' _ => rfl⟩
    simp only [Rep]
    exact ⟨_, _, rfl, by simpa using evs_rep hρ first.toList, by simpa using evs_rep hρ caps.toList⟩
  case slice t x lo hi mx =>
    cases mx with
    | some m => simp at h
    | none =>
      dsimp only at h
      have hlo : RepO g (lo.map (ev ρ)) (lo.map a.eval) := by cases lo <;> simp [RepO, hE]
      have hhi : RepO g (hi.map (ev ρ)) (hi.map a.eval) := by cases hi <;> simp [RepO, hE]
      obtain ⟨v, hv, hrun⟩ := slice_run (P := P) h (hE x) hlo hhi
      exact ⟨v, hv, fun w' _ => by simp [hrun w']⟩
  case fieldAddr s x f =>
    obtain ⟨v, hv, hrun⟩ := fieldAddr_run (P := P) h (hE x)
    exact ⟨v, hv, fun w' _ => by simp [hrun w']⟩
  case field s x f =>
    obtain ⟨v, hv, hrun⟩ := field_run (P := P) h (hE x)
    exact ⟨v, hv, fun w' _ => by simp [hrun w']⟩
  case indexAddr t x ix =>
    obtain ⟨v, hv, hrun⟩ := indexAddr_run (P := P) h (hE x) (hE ix)
    exact ⟨v, hv, fun w' _ => by simp [hrun w']⟩
  case index t x ix =>
    obtain ⟨v, hv, hrun⟩ := index_run (P := P) h (hE x) (hE ix)
    exact ⟨v, hv, fun w' _ => by simp [hrun w']⟩
  case extract x i =>
    have hx := hE x
    split at h
    · rename_i vs e
      rw [e] at hx
      simp only [Rep] at hx
      obtain ⟨arr, hx, hr⟩ := hx
      obtain ⟨y, hy, hrep⟩ := repL_get hr i r h
      have hy' : arr[i]? = some y := by simpa using hy
      exact ⟨y, hrep, fun w' _ => by simp [hx, Instr.extract, hy']⟩
    · simp at h
  case call c =>
    obtain ⟨callee, args, argTypes⟩ := c
    dsimp only at h
    cases callee <;> dsimp only at h <;> try (simp at h; done)
    case builtin b =>
      rcases Option.or_eq_some_iff.1 h with h | ⟨_, h⟩
      · obtain ⟨v, hv, hrun⟩ := builtinQ_run (P := P) (ts := argTypes.toList) (ty := ty) (ys := args.map a.eval) (consts := args.map fun | .const _ => true | _ => false) h (by simpa using evs_rep hρ args.toList)
        exact ⟨v, hv, fun w' _ => by simp only [resolve, Sem.run_bind, Sem.run_pure, Result.andThen_ok, invoke]; exact hrun w'⟩
      · obtain ⟨v, hv, hrun⟩ := mlen_run (P := P) hI (ts := argTypes.toList) (ty := ty) (ys := args.map a.eval) (consts := args.map fun | .const _ => true | _ => false) h (by simpa using evs_rep hρ args.toList)
        exact ⟨v, hv, fun w' hw' => by simp only [resolve, Sem.run_bind, Sem.run_pure, Result.andThen_ok, invoke]; exact hrun w' hw'⟩
  case lookup t x ix ok =>
    cases ok with
    | true => simp at h
    | false =>
      dsimp only at h
      obtain ⟨v, hv, hrun⟩ := lookup_run (P := P) hI h (hE x) (hE ix)
      exact ⟨v, hv, fun w' hw' => by simp [hrun w' hw']⟩

end
end Go.AW
end

section
set_option linter.unusedVariables false
set_option linter.unusedSimpArgs false
namespace Go.AW
open Go.RowKit

def upd {β : Type} (f : Nat → β) (k : Nat) (v : β) : Nat → β := fun i => if i = k then v else f i
theorem upd_same {β : Type} (f : Nat → β) (k : Nat) (v : β) : upd f k v k = v := by simp [upd]
theorem upd_ne {β : Type} (f : Nat → β) (k i : Nat) (v : β) (h : i ≠ k) : upd f k v i = f i := by simp [upd, h]

theorem heap_lt {w : World} {b : Nat} {o : Obj} (h : w.heap[b]? = some o) : b < w.heap.size := by
  rcases Nat.lt_or_ge b w.heap.size with h1 | h1
  · exact h1
  · simp [Array.getElem?_eq_none h1] at h

theorem imm_lt {σ : St} {g : G} {wE w : World} (hI : Inv σ g wE w) {b o : Nat} {y : Value} (h : g.imm b o = some y) : b < w.heap.size :=
  World.block_lt_of_cell? w ⟨b, o, none⟩ (hI.imm b o y h)

/-- New blocks lie behind; what lay lies as it lay. -/
theorem Inv.grows {σ : St} {g : G} {wE w w' : World} (hI : Inv σ g wE w) (hb : Below w.heap.size w w') : Inv σ g wE w' where
  below := hI.below.trans (hb.mono hI.below.size)
  imm := fun b o y h => imm_cls hI hb h
  box := fun i cs h => by
    obtain ⟨b, arr, ty, h1, h2, h3, h4⟩ := hI.box i cs h
    exact ⟨b, arr, ty, h1, by rw [hb.block b (heap_lt h2)]; exact h2, h3, h4⟩
  vcap := fun i cap sz h hl => by
    obtain ⟨b, arr, ty, h1, h2, h3⟩ := hI.vcap i cap sz h hl
    exact ⟨b, arr, ty, h1, by rw [hb.block b (heap_lt h2)]; exact h2, h3⟩
  mp := fun i k l h => by
    obtain ⟨b, es, c, h1, h2, h3⟩ := hI.mp i k l h
    exact ⟨b, es, c, h1, by rw [hb.block b (heap_lt h2)]; exact h2, h3⟩
  bxw := fun i b h => by
    obtain ⟨h1, h2, h3⟩ := hI.bxw i b h
    exact ⟨h1, Nat.lt_of_lt_of_le h2 hb.size, h3⟩
  bxinj := hI.bxinj
  front := fun t n h => by
    obtain ⟨b, cap, arr, ty, sz, h1, h2, h3⟩ := hI.front t n h
    exact ⟨b, cap, arr, ty, sz, h1, by rw [hb.block b (heap_lt h2)]; exact h2, h3⟩
  histw := fun t n b cap sz h => by
    obtain ⟨h1, h2, h3⟩ := hI.histw t n b cap sz h
    exact ⟨h1, Nat.lt_of_lt_of_le h2 hb.size, h3⟩
  histinj := hI.histinj
  fresh := hI.fresh
  histpos := hI.histpos
  histle := hI.histle
  quiet := fun h => (hI.quiet h).trans (hb.mono hI.entry)
  qb := hI.qb
  entry := Nat.le_trans hI.entry hb.size

theorem live_upd {σ σ' : St} {id i : Nat} (h1 : ∀ j, j ≠ id → σ'.box j = σ.box j) (h2 : ∀ j, j ≠ id → σ'.mp j = σ.mp j) (hi : i ≠ id) : σ'.live i ↔ σ.live i := by
  unfold St.live
  rw [h1 i hi, h2 i hi]

/-- A new name: block b; a box or a map. -/
theorem Inv.newname {σ : St} {g : G} {wE w w' : World} (hI : Inv σ g wE w) (hb : Below w.heap.size w w') {b : Nat} (bv : Option (List AV)) (mv : Option (IntKind × List (Int × AV))) (vc : Option (Nat × Nat))
    (h1 : w.heap.size ≤ b) (h2 : b < w'.heap.size)
    (h3 : ∀ cs, bv = some cs → ∃ arr ty, w'.heap[b]? = some (.cells arr ty (0, 0)) ∧ cs.length ≤ arr.size ∧ RepL g cs (arr.toList.take cs.length))
    (h4 : ∀ k l, mv = some (k, l) → ∃ es c, w'.heap[b]? = some (.map es c) ∧ RepM g k l es.toList)
    (h5 : ∀ cap sz, vc = some (cap, sz) → ∃ arr ty, w'.heap[b]? = some (.cells arr ty (0, 0)) ∧ arr.size = cap * sz) :
    ∃ g', g.le g' ∧ g'.bx σ.nxt = some b ∧ g'.vcap σ.nxt = vc ∧ Inv { σ with nxt := σ.nxt + 1, box := upd σ.box σ.nxt bv, mp := upd σ.mp σ.nxt mv } g' wE w' := by
  have hI' := hI.grows hb
  have hfr := hI.fresh
  have hle : g.le { g with bx := upd g.bx σ.nxt (some b), vcap := upd g.vcap σ.nxt vc } := ⟨rfl, fun _ _ _ h => h, fun i c h => by
    have : i ≠ σ.nxt := by rintro rfl; rw [(hfr σ.nxt (Nat.le_refl _)).1] at h; cases h
    simp only [upd_ne _ _ _ _ this]; exact h, fun _ _ _ h => h, fun i x h => by
    have : i ≠ σ.nxt := by rintro rfl; rw [(hfr σ.nxt (Nat.le_refl _)).2.2.1] at h; cases h
    simp only [upd_ne _ _ _ _ this]; exact h⟩
  have hlive : ∀ i, i ≠ σ.nxt → (St.live { σ with nxt := σ.nxt + 1, box := upd σ.box σ.nxt bv, mp := upd σ.mp σ.nxt mv } i ↔ σ.live i) := fun i hi =>
    live_upd (id := σ.nxt) (fun j hj => upd_ne _ _ _ _ hj) (fun j hj => upd_ne _ _ _ _ hj) hi
  refine ⟨{ g with bx := upd g.bx σ.nxt (some b), vcap := upd g.vcap σ.nxt vc }, hle, upd_same _ _ _, upd_same _ _ _, ?_⟩
  exact
  { below := hI'.below
    imm := hI'.imm
    box := fun i cs' h => by
      by_cases e : i = σ.nxt
      · subst e
        simp only [upd_same] at h ⊢
        obtain ⟨arr, ty, q1, q2, q3⟩ := h3 cs' h
        refine ⟨b, arr, ty, rfl, q1, q2, RepL.mono hle _ _ q3, fun o => ?_⟩
        cases hi : g.imm b o with
        | none => rfl
        | some y => exact absurd (imm_lt hI hi) (by omega)
      · simp only [upd_ne _ _ _ _ e] at h ⊢
        obtain ⟨b', arr', ty', k1, k2, k3, k4, k5⟩ := hI'.box i cs' h
        exact ⟨b', arr', ty', k1, k2, k3, RepL.mono hle _ _ k4, k5⟩
    vcap := fun i cap sz h hl => by
      by_cases e : i = σ.nxt
      · subst e
        simp only [upd_same] at h ⊢
        obtain ⟨arr, ty, q1, q2⟩ := h5 cap sz h
        exact ⟨b, arr, ty, rfl, q1, q2⟩
      · simp only [upd_ne _ _ _ _ e] at h hl ⊢
        exact hI'.vcap i cap sz h hl
    mp := fun i k l h => by
      by_cases e : i = σ.nxt
      · subst e
        simp only [upd_same] at h ⊢
        obtain ⟨es, c, q1, q2⟩ := h4 k l h
        exact ⟨b, es, c, rfl, q1, RepM.mono hle q2⟩
      · simp only [upd_ne _ _ _ _ e] at h ⊢
        obtain ⟨b', es, c, k1, k2, k3⟩ := hI'.mp i k l h
        exact ⟨b', es, c, k1, k2, RepM.mono hle k3⟩
    bxw := fun i b' h => by
      by_cases e : i = σ.nxt
      · subst e
        simp only [upd_same] at h
        injection h with h
        subst h
        exact ⟨Nat.le_trans hI.below.size h1, h2, fun _ _ => Nat.le_trans hI.entry h1⟩
      · simp only [upd_ne _ _ _ _ e] at h
        exact hI'.bxw i b' h
    bxinj := fun i j c hi hj li lj => by
      by_cases ei : i = σ.nxt <;> by_cases ej : j = σ.nxt
      · rw [ei, ej]
      · subst ei
        simp only [upd_same, upd_ne _ _ _ _ ej] at hi hj
        injection hi with hi
        subst hi
        exact absurd (hI.bxw j _ hj).2.1 (by omega)
      · subst ej
        simp only [upd_same, upd_ne _ _ _ _ ei] at hi hj
        injection hj with hj
        subst hj
        exact absurd (hI.bxw i _ hi).2.1 (by omega)
      · simp only [upd_ne _ _ _ _ ei, upd_ne _ _ _ _ ej] at hi hj
        exact hI.bxinj i j c hi hj ((hlive i ei).1 li) ((hlive j ej).1 lj)
    front := fun t n h => by
      obtain ⟨b', cap, arr', ty', sz, k1, k2, k3, k4, k5⟩ := hI'.front t n h
      refine ⟨b', cap, arr', ty', sz, k1, k2, k3, k4, fun i li => ?_⟩
      by_cases e : i = σ.nxt
      · subst e
        simp only [upd_same]
        intro hb'
        injection hb' with hb'
        subst hb'
        exact absurd (hI.histw t n _ _ _ k1).2.1 (by omega)
      · simp only [upd_ne _ _ _ _ e]
        exact k5 i ((hlive i e).1 li)
    histw := hI'.histw
    histinj := hI'.histinj
    fresh := fun i h => by
      have h' : σ.nxt ≤ i := by dsimp only at h; omega
      have e : i ≠ σ.nxt := by dsimp only at h; omega
      obtain ⟨k1, k2, k3, k4, k5, k6⟩ := hI.fresh i h'
      exact ⟨by simp only [upd_ne _ _ _ _ e]; exact k1, k2, by simp only [upd_ne _ _ _ _ e]; exact k3, by simp only [upd_ne _ _ _ _ e]; exact k4, k5, by simp only [upd_ne _ _ _ _ e]; exact k6⟩
    histpos := hI'.histpos
    histle := hI'.histle
    quiet := hI'.quiet
    qb := by have := hI.qb; dsimp only; omega
    entry := hI'.entry }

theorem upd_none {β : Type} (f : Nat → Option β) (k : Nat) (h : f k = none) : upd f k none = f := by
  funext i
  unfold upd
  split
  · rename_i e; subst e; exact h.symm
  · rfl

/-- A new box: block b. -/
theorem Inv.newbox {σ : St} {g : G} {wE w w' : World} (hI : Inv σ g wE w) (hb : Below w.heap.size w w') {b : Nat} {arr : Array Value} {ty : TypeId} {cs : List AV} (vc : Option (Nat × Nat))
    (h1 : w.heap.size ≤ b) (h2 : w'.heap[b]? = some (.cells arr ty (0, 0))) (hl : cs.length ≤ arr.size) (h3 : RepL g cs (arr.toList.take cs.length)) (h5 : ∀ cap sz, vc = some (cap, sz) → arr.size = cap * sz) :
    ∃ g', g.le g' ∧ g'.bx σ.nxt = some b ∧ g'.vcap σ.nxt = vc ∧ Inv { σ with nxt := σ.nxt + 1, box := upd σ.box σ.nxt (some cs) } g' wE w' := by
  obtain ⟨g', k1, k2, k3, k4⟩ := hI.newname hb (b := b) (some cs) none vc h1 (heap_lt h2) (fun cs' e => by injection e with e; subst e; exact ⟨arr, ty, h2, hl, h3⟩) (fun k l e => by cases e) (fun cap sz e => ⟨arr, ty, h2, h5 cap sz e⟩)
  refine ⟨g', k1, k2, k3, ?_⟩
  rw [upd_none _ _ (hI.fresh σ.nxt (Nat.le_refl _)).2.2.2.2.2] at k4
  exact k4

/-- A new map: block b. -/
theorem Inv.newmap {σ : St} {g : G} {wE w w' : World} (hI : Inv σ g wE w) (hb : Below w.heap.size w w') {b : Nat} {es : Array MapEntry} {c : Nat} {k : IntKind} {l : List (Int × AV)}
    (h1 : w.heap.size ≤ b) (h2 : w'.heap[b]? = some (.map es c)) (h3 : RepM g k l es.toList) :
    ∃ g', g.le g' ∧ g'.bx σ.nxt = some b ∧ Inv { σ with nxt := σ.nxt + 1, mp := upd σ.mp σ.nxt (some (k, l)) } g' wE w' := by
  obtain ⟨g', k1, k2, k3, k4⟩ := hI.newname hb (b := b) none (some (k, l)) none h1 (heap_lt h2) (fun cs' e => by cases e) (fun k' l' e => by injection e with e; injection e with e1 e2; subst e1 e2; exact ⟨es, c, h2, h3⟩) (fun cap sz e => by cases e)
  refine ⟨g', k1, k2, ?_⟩
  rw [upd_none _ _ (hI.fresh σ.nxt (Nat.le_refl _)).2.2.2.1] at k4
  exact k4

/-- A box is given up. -/
theorem Inv.kill {σ : St} {g : G} {wE w : World} (hI : Inv σ g wE w) (id : Nat) : Inv { σ with box := upd σ.box id none } g wE w := by
  have hb : ∀ i cs, upd σ.box id none i = some cs → σ.box i = some cs := fun i cs h => by
    unfold upd at h
    split at h
    · cases h
    · exact h
  have hl : ∀ i, St.live { σ with box := upd σ.box id none } i → σ.live i := fun i h => by
    unfold St.live at h ⊢
    rcases h with h | h
    · left
      intro q
      apply h
      show upd σ.box id none i = none
      unfold upd
      split
      · rfl
      · exact q
    · exact .inr h
  exact
  { below := hI.below, imm := hI.imm, box := fun i cs h => hI.box i cs (hb i cs h)
    vcap := fun i cap sz h q => hI.vcap i cap sz h (fun e => by
      rcases hx : upd σ.box id none i with _ | cs
      · exact q hx
      · rw [hb i cs hx] at e; cases e)
    mp := hI.mp, bxw := hI.bxw, bxinj := fun i j b h1 h2 l1 l2 => hI.bxinj i j b h1 h2 (hl i l1) (hl j l2)
    front := fun t n h => by
      obtain ⟨b', cap, arr', ty', sz, k1, k2, k3, k4, k5⟩ := hI.front t n h
      exact ⟨b', cap, arr', ty', sz, k1, k2, k3, k4, fun i q => k5 i (hl i q)⟩
    histw := hI.histw, histinj := hI.histinj
    fresh := fun i h => by
      obtain ⟨k1, k2, k3, k4, k5⟩ := hI.fresh i h
      refine ⟨k1, k2, k3, ?_, k5⟩
      show upd σ.box id none i = none
      unfold upd
      split
      · rfl
      · exact k4
    histpos := hI.histpos, histle := hI.histle, quiet := hI.quiet, qb := hI.qb, entry := hI.entry }

theorem Inv.weaken {σ : St} {g : G} {wE w : World} (hI : Inv σ g wE w) (c : Bool) : Inv { σ with q := σ.q && c } g wE w :=
  { below := hI.below, imm := hI.imm, box := hI.box, vcap := hI.vcap, mp := hI.mp,
    bxw := fun i b h => ⟨(hI.bxw i b h).1, (hI.bxw i b h).2.1, fun q => (hI.bxw i b h).2.2 (by simp only [Bool.and_eq_true] at q; exact q.1)⟩,
    bxinj := hI.bxinj, front := hI.front, histw := hI.histw, histinj := hI.histinj, histpos := hI.histpos, fresh := hI.fresh, histle := hI.histle,
    quiet := fun h => hI.quiet (by simp only [Bool.and_eq_true] at h; exact h.1), qb := hI.qb, entry := hI.entry }

/-- A box gets a new name. -/
theorem Inv.rename {σ : St} {g : G} {wE w : World} (hI : Inv σ g wE w) {id b : Nat} {cs : List AV} (hc : σ.box id = some cs) (hb : g.bx id = some b) :
    ∃ g', g.le g' ∧ g'.bx σ.nxt = some b ∧ g'.vcap σ.nxt = g.vcap id ∧ Inv { σ with nxt := σ.nxt + 1, box := upd (upd σ.box id none) σ.nxt (some cs), q := σ.q && decide (σ.qb ≤ id) } g' wE w := by
  have hfr := hI.fresh
  have hid : id ≠ σ.nxt := by rintro rfl; rw [(hfr _ (Nat.le_refl _)).1] at hb; cases hb
  have hmp : σ.mp id = none := by
    cases hm : σ.mp id with
    | none => rfl
    | some kl =>
      obtain ⟨b1, es, c, q1, q2, _⟩ := hI.mp id kl.1 kl.2 hm
      obtain ⟨b2, arr, ty, p1, p2, _⟩ := hI.box id cs hc
      rw [q1] at p1
      injection p1 with p1
      subst p1
      rw [q2] at p2
      cases p2
  have hle : g.le { g with bx := upd g.bx σ.nxt (some b), vcap := upd g.vcap σ.nxt (g.vcap id) } := ⟨rfl, fun _ _ _ h => h, fun i c h => by
    have : i ≠ σ.nxt := by rintro rfl; rw [(hfr σ.nxt (Nat.le_refl _)).1] at h; cases h
    simp only [upd_ne _ _ _ _ this]; exact h, fun _ _ _ h => h, fun i x h => by
    have : i ≠ σ.nxt := by rintro rfl; rw [(hfr σ.nxt (Nat.le_refl _)).2.2.1] at h; cases h
    simp only [upd_ne _ _ _ _ this]; exact h⟩
  have hlive : ∀ i, i ≠ σ.nxt → St.live { σ with nxt := σ.nxt + 1, box := upd (upd σ.box id none) σ.nxt (some cs), q := σ.q && decide (σ.qb ≤ id) } i → i ≠ id ∧ σ.live i := fun i hi h => by
    unfold St.live at h ⊢
    simp only [upd_ne _ _ _ _ hi] at h
    by_cases e : i = id
    · subst e
      simp only [upd_same, ne_eq, not_true_eq_false, false_or] at h
      exact absurd hmp h
    · simp only [upd_ne _ _ _ _ e] at h
      exact ⟨e, h⟩
  have lid : σ.live id := .inl (by rw [hc]; simp)
  refine ⟨{ g with bx := upd g.bx σ.nxt (some b), vcap := upd g.vcap σ.nxt (g.vcap id) }, hle, upd_same _ _ _, upd_same _ _ _, ?_⟩
  exact
  { below := hI.below
    imm := hI.imm
    box := fun i cs' h => by
      by_cases e : i = σ.nxt
      · subst e
        simp only [upd_same] at h ⊢
        injection h with h
        subst h
        obtain ⟨b', arr', ty', k1, k2, k3, k4, k5⟩ := hI.box id cs hc
        rw [hb] at k1
        injection k1 with k1
        subst k1
        exact ⟨b, arr', ty', rfl, k2, k3, RepL.mono hle _ _ k4, k5⟩
      · simp only [upd_ne _ _ _ _ e] at h ⊢
        by_cases e2 : i = id
        · subst e2; simp only [upd_same] at h; cases h
        · simp only [upd_ne _ _ _ _ e2] at h
          obtain ⟨b', arr', ty', k1, k2, k3, k4, k5⟩ := hI.box i cs' h
          exact ⟨b', arr', ty', k1, k2, k3, RepL.mono hle _ _ k4, k5⟩
    vcap := fun i cap sz h hl => by
      by_cases e : i = σ.nxt
      · subst e
        simp only [upd_same] at h ⊢
        obtain ⟨b', arr', ty', k1, k2, k3⟩ := hI.vcap id cap sz h (by rw [hc]; simp)
        rw [hb] at k1
        injection k1 with k1
        subst k1
        exact ⟨b, arr', ty', rfl, k2, k3⟩
      · simp only [upd_ne _ _ _ _ e] at h hl ⊢
        by_cases e2 : i = id
        · subst e2; simp only [upd_same] at hl; exact absurd rfl hl
        · simp only [upd_ne _ _ _ _ e2] at hl
          exact hI.vcap i cap sz h hl
    mp := fun i k l h => by
      have e : i ≠ σ.nxt := by
        rintro rfl
        have h : σ.mp σ.nxt = _ := h
        rw [(hfr _ (Nat.le_refl _)).2.2.2.2.2] at h
        cases h
      simp only [upd_ne _ _ _ _ e]
      obtain ⟨b', es, c, k1, k2, k3⟩ := hI.mp i k l h
      exact ⟨b', es, c, k1, k2, RepM.mono hle k3⟩
    bxw := fun i b' h => by
      by_cases e : i = σ.nxt
      · subst e
        simp only [upd_same] at h
        injection h with h
        subst h
        obtain ⟨q1, q2, q3⟩ := hI.bxw id b hb
        refine ⟨q1, q2, fun hq _ => ?_⟩
        simp only [Bool.and_eq_true, decide_eq_true_eq] at hq
        exact q3 hq.1 hq.2
      · simp only [upd_ne _ _ _ _ e] at h
        obtain ⟨q1, q2, q3⟩ := hI.bxw i b' h
        refine ⟨q1, q2, fun hq => ?_⟩
        simp only [Bool.and_eq_true] at hq
        exact q3 hq.1
    bxinj := fun i j c hi hj li lj => by
      by_cases ei : i = σ.nxt <;> by_cases ej : j = σ.nxt
      · rw [ei, ej]
      · subst ei
        obtain ⟨n1, l1⟩ := hlive j ej lj
        simp only [upd_same, upd_ne _ _ _ _ ej] at hi hj
        injection hi with hi
        subst hi
        exact absurd (hI.bxinj j id _ hj hb l1 lid) n1
      · subst ej
        obtain ⟨n1, l1⟩ := hlive i ei li
        simp only [upd_same, upd_ne _ _ _ _ ei] at hi hj
        injection hj with hj
        subst hj
        exact absurd (hI.bxinj i id _ hi hb l1 lid) n1
      · simp only [upd_ne _ _ _ _ ei, upd_ne _ _ _ _ ej] at hi hj
        exact hI.bxinj i j c hi hj (hlive i ei li).2 (hlive j ej lj).2
    front := fun t n h => by
      obtain ⟨b', cap, arr', ty', sz, k1, k2, k3, k4, k5⟩ := hI.front t n h
      refine ⟨b', cap, arr', ty', sz, k1, k2, k3, k4, fun i li => ?_⟩
      by_cases e : i = σ.nxt
      · subst e
        simp only [upd_same]
        intro hb'
        injection hb' with hb'
        subst hb'
        exact k5 id lid hb
      · simp only [upd_ne _ _ _ _ e]
        exact k5 i (hlive i e li).2
    histw := hI.histw
    histinj := hI.histinj
    fresh := fun i h => by
      have h' : σ.nxt ≤ i := by dsimp only at h; omega
      have e : i ≠ σ.nxt := by dsimp only at h; omega
      obtain ⟨k1, k2, k3, k4, k5, k6⟩ := hI.fresh i h'
      refine ⟨by simp only [upd_ne _ _ _ _ e]; exact k1, k2, by simp only [upd_ne _ _ _ _ e]; exact k3, ?_, k5, k6⟩
      simp only [upd_ne _ _ _ _ e]
      unfold upd
      split
      · rfl
      · exact k4
    histpos := hI.histpos
    histle := hI.histle
    quiet := fun h => hI.quiet (by simp only [Bool.and_eq_true] at h; exact h.1)
    qb := by have := hI.qb; dsimp only; omega
    entry := hI.entry }

/-- A box stays as it is from now on: its cells may be told. -/
theorem Inv.freeze {σ : St} {g : G} {wE w : World} (hI : Inv σ g wE w) {id b : Nat} {cs : List AV} (hc : σ.box id = some cs) (hb : g.bx id = some b) :
    ∃ g', g.le g' ∧ RepAt g' cs b 0 ∧ Inv { σ with box := upd σ.box id none } g' wE w := by
  have hK := hI.kill id
  obtain ⟨b0, arr, ty, k1, k2, hn, h3, hnone⟩ := hI.box id cs hc
  rw [hb] at k1
  injection k1 with k1
  subst k1
  have lid : σ.live id := .inl (by rw [hc]; simp)
  let imm' : Nat → Nat → Option Value := fun b' o => if b' = b then (if o < cs.length then arr[o]? else none) else g.imm b' o
  have him : ∀ b' o, b' ≠ b → imm' b' o = g.imm b' o := fun b' o e => by simp only [imm', if_neg e]
  have hle : g.le { g with imm := imm' } := ⟨rfl, fun b' o y h => by
    have e : b' ≠ b := by rintro rfl; rw [hnone] at h; cases h
    show imm' b' o = some y
    rw [him b' o e]
    exact h, fun _ _ h => h, fun _ _ _ h => h, fun _ _ h => h⟩
  refine ⟨{ g with imm := imm' }, hle, ?_, ?_⟩
  · refine repAt_of fun i c e => ?_
    obtain ⟨y, hy, hr⟩ := repL_get h3 i c e
    have hi : i < cs.length := by
      rcases Nat.lt_or_ge i cs.length with h | h
      · exact h
      · simp [List.getElem?_eq_none h] at e
    refine ⟨y, ?_, Rep.mono hle _ _ hr⟩
    show imm' b (0 + i) = some y
    simp only [imm', Nat.zero_add, if_true, if_pos hi]
    rw [List.getElem?_take, if_pos hi] at hy
    simpa using hy
  · exact
    { below := hI.below
      imm := fun b' o y h => by
        by_cases e : b' = b
        · subst e
          have h : imm' b' o = some y := h
          simp only [imm', if_true] at h
          split at h
          · exact cell_of_block k2 (by simpa using h)
          · cases h
        · have h : imm' b' o = some y := h
          rw [him _ _ e] at h
          exact hI.imm b' o y h
      box := fun i cs' h => by
        obtain ⟨b', arr', ty', q1, q2, q3, q4, q5⟩ := hK.box i cs' h
        refine ⟨b', arr', ty', q1, q2, q3, RepL.mono hle _ _ q4, fun o => ?_⟩
        have e : b' ≠ b := by
          rintro rfl
          have hi : i ≠ id := by rintro rfl; simp only [upd_same] at h; cases h
          simp only [upd_ne _ _ _ _ hi] at h
          exact hi (hI.bxinj i id _ q1 hb (.inl (by rw [h]; simp)) lid)
        show imm' b' o = none
        rw [him _ _ e]
        exact q5 o
      vcap := hK.vcap
      mp := fun i k l h => by
        obtain ⟨b', es, c, q1, q2, q3⟩ := hI.mp i k l h
        exact ⟨b', es, c, q1, q2, RepM.mono hle q3⟩
      bxw := hK.bxw
      bxinj := hK.bxinj
      front := fun t n h => by
        obtain ⟨b', cap, arr', ty', sz, q1, q2, q3, q4, q5⟩ := hI.front t n h
        obtain ⟨_, _, _, _, _, p1, _, _, _, p5⟩ := hK.front t n h
        rw [q1] at p1
        injection p1 with p1
        injection p1 with p1 _
        subst p1
        refine ⟨b', cap, arr', ty', sz, q1, q2, q3, fun o ho => ?_, p5⟩
        have e : b' ≠ b := by rintro rfl; exact q5 id lid hb
        show imm' b' o = none
        rw [him _ _ e]
        exact q4 o ho
      histw := hI.histw
      histinj := hI.histinj
      fresh := hK.fresh
      histpos := hI.histpos
      histle := hI.histle
      quiet := hI.quiet
      qb := hI.qb
      entry := hI.entry }

/-- A new row that stays as it is: block b, its first cells. -/
theorem Inv.newrow {σ : St} {g : G} {wE w w' : World} (hI : Inv σ g wE w) (hb : Below w.heap.size w w') {b : Nat} {arr : Array Value} {ty : TypeId} {fz : Nat × Nat} {cs : List AV}
    (h1 : w.heap.size ≤ b) (h2 : w'.heap[b]? = some (.cells arr ty fz)) (hn : cs.length ≤ arr.size) (h3 : RepL g cs (arr.toList.take cs.length)) :
    ∃ g', g.le g' ∧ RepAt g' cs b 0 ∧ (∀ b' o, b' ≠ b → g'.imm b' o = g.imm b' o) ∧ (∀ o, cs.length ≤ o → g'.imm b o = none) ∧ g'.bx = g.bx ∧ g'.hist = g.hist ∧ Inv σ g' wE w' := by
  have hI' := hI.grows hb
  have hnone : ∀ o, g.imm b o = none := fun o => by
    cases hi : g.imm b o with
    | none => rfl
    | some y => exact absurd (imm_lt hI hi) (by omega)
  let imm' : Nat → Nat → Option Value := fun b' o => if b' = b then (if o < cs.length then arr[o]? else none) else g.imm b' o
  have him : ∀ b' o, b' ≠ b → imm' b' o = g.imm b' o := fun b' o e => by simp only [imm', if_neg e]
  have hle : g.le { g with imm := imm' } := ⟨rfl, fun b' o y h => by
    have e : b' ≠ b := by rintro rfl; rw [hnone] at h; cases h
    show imm' b' o = some y
    rw [him b' o e]
    exact h, fun _ _ h => h, fun _ _ _ h => h, fun _ _ h => h⟩
  refine ⟨{ g with imm := imm' }, hle, ?_, him, fun o ho => ?_, rfl, rfl, ?_⟩
  · refine repAt_of fun i c e => ?_
    obtain ⟨y, hy, hr⟩ := repL_get h3 i c e
    have hi : i < cs.length := by
      rcases Nat.lt_or_ge i cs.length with h | h
      · exact h
      · simp [List.getElem?_eq_none h] at e
    refine ⟨y, ?_, Rep.mono hle _ _ hr⟩
    show imm' b (0 + i) = some y
    simp only [imm', Nat.zero_add, if_true, if_pos hi]
    rw [List.getElem?_take, if_pos hi] at hy
    simpa using hy
  · show imm' b o = none
    simp only [imm', if_true, if_neg (Nat.not_lt.2 ho)]
  · exact
    { below := hI'.below
      imm := fun b' o y h => by
        by_cases e : b' = b
        · subst e
          have h : imm' b' o = some y := h
          simp only [imm', if_true] at h
          split at h
          · exact cell_of_block h2 (by simpa using h)
          · cases h
        · have h : imm' b' o = some y := h
          rw [him _ _ e] at h
          exact hI'.imm b' o y h
      box := fun i cs' h => by
        obtain ⟨b', arr', ty', k1, k2, k3, k4, k5⟩ := hI'.box i cs' h
        refine ⟨b', arr', ty', k1, k2, k3, RepL.mono hle _ _ k4, fun o => ?_⟩
        have e : b' ≠ b := by rintro rfl; exact absurd (hI.bxw i _ k1).2.1 (by omega)
        show imm' b' o = none
        rw [him _ _ e]
        exact k5 o
      vcap := hI'.vcap
      mp := fun i k l h => by
        obtain ⟨b', es, c, q1, q2, q3⟩ := hI'.mp i k l h
        exact ⟨b', es, c, q1, q2, RepM.mono hle q3⟩
      bxw := hI'.bxw
      bxinj := hI'.bxinj
      front := fun t n h => by
        obtain ⟨b', cap, arr', ty', sz, k1, k2, k3, k4, k5⟩ := hI'.front t n h
        refine ⟨b', cap, arr', ty', sz, k1, k2, k3, fun o ho => ?_, k5⟩
        have e : b' ≠ b := by rintro rfl; exact absurd (hI.histw t n _ _ _ k1).2.1 (by omega)
        show imm' b' o = none
        rw [him _ _ e]
        exact k4 o ho
      histw := hI'.histw
      histinj := hI'.histinj
      fresh := hI'.fresh
      histpos := hI'.histpos
      histle := hI'.histle
      quiet := hI'.quiet
      qb := hI'.qb
      entry := hI'.entry }

/-- A row that lies becomes a token's newest slice. -/
theorem Inv.settok {σ : St} {g : G} {wE w : World} (hI : Inv σ g wE w) {t n nxt b cap sz : Nat} {arr : Array Value} {ty : TypeId} (hn : σ.nxt ≤ nxt) (ht : t < nxt)
    (hnew : ∀ m x, g.hist t m = some x → m < n) (hpos : 0 < n)
    (h2 : w.heap[b]? = some (.cells arr ty (0, 0))) (hs : arr.size = cap * sz) (hB : g.w0.heap.size ≤ b) (hE : σ.qb ≤ t → wE.heap.size ≤ b)
    (hi : ∀ o, n * sz ≤ o → g.imm b o = none) (hx : ∀ i, σ.live i → g.bx i ≠ some b) (hh : ∀ t' m c s, g.hist t' m = some (b, c, s) → t' = t) :
    ∃ g', g.le g' ∧ g'.hist t n = some (b, cap, sz) ∧ g'.imm = g.imm ∧ g'.bx = g.bx ∧ Inv { σ with nxt := nxt, front := upd σ.front t (some n) } g' wE w := by
  let hist' : Nat → Nat → Option (Nat × Nat × Nat) := fun t' m => if t' = t ∧ m = n then some (b, cap, sz) else g.hist t' m
  have hsame : hist' t n = some (b, cap, sz) := by simp [hist']
  have hold : ∀ t' m x, g.hist t' m = some x → hist' t' m = some x := fun t' m x h => by
    have e : ¬ (t' = t ∧ m = n) := by rintro ⟨rfl, rfl⟩; exact absurd (hnew _ _ h) (by omega)
    simp only [hist', if_neg e]
    exact h
  have hcase : ∀ t' m x, hist' t' m = some x → (t' = t ∧ m = n ∧ x = (b, cap, sz)) ∨ g.hist t' m = some x := fun t' m x h => by
    simp only [hist'] at h
    split at h
    · rename_i e; injection h with h; exact .inl ⟨e.1, e.2, h.symm⟩
    · exact .inr h
  have hle : g.le { g with hist := hist' } := ⟨rfl, fun _ _ _ h => h, fun _ _ h => h, hold, fun _ _ h => h⟩
  refine ⟨{ g with hist := hist' }, hle, hsame, rfl, rfl, ?_⟩
  exact
  { below := hI.below
    imm := hI.imm
    box := fun i cs' h => by
      obtain ⟨b', arr', ty', k1, k2, k3, k4, k5⟩ := hI.box i cs' h
      exact ⟨b', arr', ty', k1, k2, k3, RepL.mono hle _ _ k4, k5⟩
    vcap := hI.vcap
    mp := fun i k l h => by
      obtain ⟨b', es, c, q1, q2, q3⟩ := hI.mp i k l h
      exact ⟨b', es, c, q1, q2, RepM.mono hle q3⟩
    bxw := hI.bxw
    bxinj := hI.bxinj
    front := fun t' m h => by
      by_cases e : t' = t
      · subst e
        simp only [upd_same] at h
        injection h with h
        subst h
        exact ⟨b, cap, arr, ty, sz, hsame, h2, hs, hi, hx⟩
      · simp only [upd_ne _ _ _ _ e] at h
        obtain ⟨b', cap', arr', ty', sz', k1, k2, k3, k4, k5⟩ := hI.front t' m h
        exact ⟨b', cap', arr', ty', sz', hold _ _ _ k1, k2, k3, k4, k5⟩
    histw := fun t' m b' c s h => by
      rcases hcase t' m _ h with ⟨q1, q2, hx'⟩ | u
      · injection hx' with e1 e2
        rw [q1, e1]
        exact ⟨hB, heap_lt h2, hE⟩
      · exact hI.histw t' m b' c s u
    histinj := fun t1 t' m m' b' c c' s s' h h' => by
      rcases hcase t1 m _ h with ⟨q1, q2, hx1⟩ | u <;> rcases hcase t' m' _ h' with ⟨q3, q4, hx2⟩ | u'
      · rw [q1, q3]
      · injection hx1 with e1 e2
        rw [e1] at u'
        rw [q1]
        exact (hh _ _ _ _ u').symm
      · injection hx2 with e1 e2
        rw [e1] at u
        rw [q3]
        exact hh _ _ _ _ u
      · exact hI.histinj t1 t' m m' b' c c' s s' u u'
    fresh := fun i h => by
      have h' : σ.nxt ≤ i := by dsimp only at h; omega
      have e : i ≠ t := by dsimp only at h; omega
      obtain ⟨k1, k2, k3, k4, k5, k6⟩ := hI.fresh i h'
      exact ⟨k1, fun m => by show hist' i m = none; simp only [hist', if_neg (show ¬ (i = t ∧ m = n) from fun q => e q.1)]; exact k2 m, k3, k4, by simp only [upd_ne _ _ _ _ e]; exact k5, k6⟩
    histpos := fun t' m x h => by
      rcases hcase t' m _ h with ⟨q1, q2, _⟩ | u
      · omega
      · exact hI.histpos t' m x u
    histle := fun t' m x h => by
      rcases hcase t' m _ h with ⟨q1, q2, _⟩ | u
      · exact ⟨n, by rw [q1]; simp only [upd_same], by omega⟩
      · by_cases e : t' = t
        · rw [e] at u
          exact ⟨n, by rw [e]; simp only [upd_same], Nat.le_of_lt (hnew _ _ u)⟩
        · obtain ⟨m', k1, k2⟩ := hI.histle t' m x u
          exact ⟨m', by simp only [upd_ne _ _ _ _ e]; exact k1, k2⟩
    quiet := hI.quiet
    qb := by have := hI.qb; dsimp only; omega
    entry := hI.entry }

/-- Stores one behind the other. -/
def setsL {α : Type} (l : List α) : Nat → List α → List α
  | _, [] => l
  | o, v :: r => setsL (l.set o v) (o + 1) r
theorem setsL_length {α : Type} : ∀ (vs : List α) (l : List α) (o : Nat), (setsL l o vs).length = l.length
  | [], l, o => rfl
  | v :: r, l, o => by simp only [setsL, setsL_length r, List.length_set]
theorem repL_sets {g : G} : ∀ {vs : List AV} {ys : List Value} {cs : List AV} {zs : List Value} (o : Nat), RepL g cs zs → RepL g vs ys → RepL g (setsL cs o vs) (setsL zs o ys)
  | [], ys, cs, zs, o, h, k => by simp only [RepL] at k; subst k; exact h
  | v :: r, ys, cs, zs, o, h, k => by
    simp only [RepL] at k
    obtain ⟨y, q, rfl, k1, k2⟩ := k
    exact repL_sets (o + 1) (repL_set h o v y k1) k2
theorem setsL_get_lt {α : Type} : ∀ (vs l : List α) (o i : Nat), i < o → (setsL l o vs)[i]? = l[i]?
  | [], l, o, i, h => rfl
  | v :: r, l, o, i, h => by
    simp only [setsL]
    rw [setsL_get_lt r _ _ _ (by omega), List.getElem?_set_ne (by omega)]
theorem setsL_get_in {α : Type} : ∀ (vs l : List α) (o j : Nat) (v : α), vs[j]? = some v → o + vs.length ≤ l.length → (setsL l o vs)[o + j]? = some v
  | [], l, o, j, v, h, hl => by simp at h
  | v0 :: r, l, o, j, v, h, hl => by
    simp only [setsL]
    simp only [List.length_cons] at hl
    cases j with
    | zero =>
      simp at h
      subst h
      show (setsL (l.set o v0) (o + 1) r)[o]? = _
      rw [setsL_get_lt r (l.set o v0) (o + 1) o (by omega), List.getElem?_set_self (by omega)]
    | succ j =>
      rw [show o + (j + 1) = o + 1 + j from by omega]
      exact setsL_get_in r _ _ j v (by simpa using h) (by simp; omega)

theorem setCells_block {b : Nat} {ty : TypeId} {fz : Nat × Nat} : ∀ (vs : List Value) (o : Nat) (w : World) (arr : Array Value), w.heap[b]? = some (.cells arr ty fz) →
    ∃ arr' : Array Value, (w.setCells b o vs).heap[b]? = some (.cells arr' ty fz) ∧ arr'.toList = setsL arr.toList o vs
  | [], o, w, arr, h => ⟨arr, h, rfl⟩
  | v :: r, o, w, arr, h => by
    have h1 : (w.setCell ⟨b, o, none⟩ v).heap[b]? = some (.cells (arr.setIfInBounds o v) ty fz) := by
      simp [World.setCell, Array.getElem?_modify, h]
    obtain ⟨arr', k1, k2⟩ := setCells_block r (o + 1) _ _ h1
    refine ⟨arr', k1, ?_⟩
    rw [k2]
    simp [setsL]
theorem setCells_other {b b' : Nat} (hne : b' ≠ b) : ∀ (vs : List Value) (o : Nat) (w : World), (w.setCells b o vs).heap[b']? = w.heap[b']?
  | [], o, w => rfl
  | v :: r, o, w => by
    rw [World.setCells, setCells_other hne r]
    exact Below.heap_setCell _ _ _ _ hne
theorem setCells_rest {b : Nat} : ∀ (vs : List Value) (o : Nat) (w : World), (w.setCells b o vs).os = w.os ∧ (w.setCells b o vs).tape = w.tape ∧ (w.setCells b o vs).output = w.output ∧ (w.setCells b o vs).heap.size = w.heap.size
  | [], o, w => ⟨rfl, rfl, rfl, rfl⟩
  | v :: r, o, w => by
    rw [World.setCells]
    obtain ⟨h1, h2, h3, h4⟩ := setCells_rest r (o + 1) (w.setCell ⟨b, o, none⟩ v)
    exact ⟨h1.trans rfl, h2.trans rfl, h3.trans rfl, h4.trans (by simp [World.setCell])⟩
theorem setCells_below {b B : Nat} (h : B ≤ b) (vs : List Value) (o : Nat) (w : World) : Below B w (w.setCells b o vs) := by
  obtain ⟨h1, h2, h3, h4⟩ := setCells_rest (b := b) vs o w
  exact ⟨h1, h2, h3, by omega, fun k hk => setCells_other (by omega) vs o w⟩

theorem block_cell {w : World} {b o : Nat} {arr : Array Value} {ty : TypeId} {fz : Nat × Nat} (h : w.heap[b]? = some (.cells arr ty fz)) : w.cell? ⟨b, o, none⟩ = arr.toList[o]? := by
  simp only [World.cell?, h, Option.isSome_none, Bool.false_eq_true, if_false]
  simp
theorem other_cell {w w' : World} {b o : Nat} (h : w'.heap[b]? = w.heap[b]?) : w'.cell? ⟨b, o, none⟩ = w.cell? ⟨b, o, none⟩ := by
  simp only [World.cell?, h]

theorem setsL_take {α : Type} : ∀ (vs l : List α) (o n : Nat), o + vs.length ≤ n → (setsL l o vs).take n = setsL (l.take n) o vs
  | [], l, o, n, h => rfl
  | v :: r, l, o, n, h => by
    simp only [List.length_cons] at h
    simp only [setsL]
    rw [setsL_take r _ _ _ (by omega), List.take_set]
theorem setsL_end {α : Type} : ∀ (vs l : List α) (o : Nat), o + vs.length ≤ l.length → (setsL l o vs).take (o + vs.length) = l.take o ++ vs
  | [], l, o, h => by simp [setsL]
  | v :: r, l, o, h => by
    simp only [List.length_cons] at h
    simp only [setsL, List.length_cons]
    rw [show o + (r.length + 1) = o + 1 + r.length from by omega, setsL_end r _ _ (by simp; omega)]
    rw [List.take_succ_eq_append_getElem (by simp; omega)]
    simp [List.take_set_of_le]

/-- A box is written. -/
theorem Inv.setbox' {σ : St} {g : G} {wE w : World} (hI : Inv σ g wE w) {id b o : Nat} {cs cs' : List AV} {ys : List Value} (hc : σ.box id = some cs) (hb : g.bx id = some b)
    (hnew : ∀ arr : Array Value, (∃ ty, w.heap[b]? = some (.cells arr ty (0, 0))) → cs.length ≤ arr.size → RepL g cs (arr.toList.take cs.length) → cs'.length ≤ arr.size ∧ RepL g cs' ((setsL arr.toList o ys).take cs'.length)) :
    Inv { σ with box := upd σ.box id (some cs'), q := σ.q && decide (σ.qb ≤ id) } g wE (w.setCells b o ys) := by
  obtain ⟨b0, arr, ty, k1, k2, k3, k4, k5⟩ := hI.box id cs hc
  rw [hb] at k1
  injection k1 with k1
  subst k1
  obtain ⟨n1, n2⟩ := hnew arr ⟨ty, k2⟩ k3 k4
  obtain ⟨h1, h2, h3⟩ := hI.bxw id b hb
  obtain ⟨arr', a1, a2⟩ := setCells_block (b := b) ys o w arr k2
  have hsize : arr'.size = arr.size := by
    have : arr'.toList.length = arr.toList.length := by rw [a2, setsL_length]
    simpa using this
  have hsz := (setCells_rest (b := b) ys o w).2.2.2
  have hne : ∀ b' o' y, g.imm b' o' = some y → b' ≠ b := fun b' o' y h e => by subst e; rw [k5] at h; cases h
  have lid : σ.live id := .inl (by rw [hc]; simp)
  have hlive : ∀ i, St.live { σ with box := upd σ.box id (some cs'), q := σ.q && decide (σ.qb ≤ id) } i → σ.live i := fun i h => by
    by_cases e : i = id
    · subst e; exact lid
    · exact (live_upd (σ := σ) (σ' := { σ with box := upd σ.box id (some cs'), q := σ.q && decide (σ.qb ≤ id) }) (id := id) (fun j hj => upd_ne _ _ _ _ hj) (fun j hj => rfl) e).1 h
  exact
  { below := hI.below.trans (setCells_below h1 ys o w)
    imm := fun b' o' y h => by rw [other_cell (setCells_other (hne b' o' y h) ys o w)]; exact hI.imm b' o' y h
    box := fun i cs2 h => by
      by_cases e : i = id
      · subst e
        simp only [upd_same] at h
        injection h with h
        subst h
        exact ⟨b, arr', ty, hb, a1, by rw [hsize]; exact n1, by rw [a2]; exact n2, k5⟩
      · simp only [upd_ne _ _ _ _ e] at h
        obtain ⟨b', arr2, ty2, j1, j2, j3⟩ := hI.box i cs2 h
        have hb' : b' ≠ b := fun e' => e (hI.bxinj i id b (e' ▸ j1) hb (.inl (by rw [h]; simp)) lid)
        exact ⟨b', arr2, ty2, j1, by rw [setCells_other hb' ys o w]; exact j2, j3⟩
    vcap := fun i cap sz h hl => by
      by_cases e : i = id
      · subst e
        obtain ⟨b', arr2, ty2, j1, j2, j3⟩ := hI.vcap i cap sz h (by rw [hc]; simp)
        rw [hb] at j1
        injection j1 with j1
        subst j1
        rw [k2] at j2
        injection j2 with j2
        injection j2 with j2
        subst j2
        exact ⟨b, arr', ty, hb, a1, by rw [hsize]; exact j3⟩
      · simp only [upd_ne _ _ _ _ e] at hl
        obtain ⟨b', arr2, ty2, j1, j2, j3⟩ := hI.vcap i cap sz h hl
        have hb' : b' ≠ b := fun e' => e (hI.bxinj i id b (e' ▸ j1) hb (.inl hl) lid)
        exact ⟨b', arr2, ty2, j1, by rw [setCells_other hb' ys o w]; exact j2, j3⟩
    mp := fun i k l h => by
      obtain ⟨b', es, c, q1, q2, q3⟩ := hI.mp i k l h
      have hb' : b' ≠ b := by rintro rfl; rw [k2] at q2; cases q2
      exact ⟨b', es, c, q1, by rw [setCells_other hb' ys o w]; exact q2, q3⟩
    bxw := fun i b' h => by
      rw [hsz]
      obtain ⟨q1, q2, q3⟩ := hI.bxw i b' h
      refine ⟨q1, q2, fun hq => ?_⟩
      simp only [Bool.and_eq_true] at hq
      exact q3 hq.1
    bxinj := fun i j c hi hj li lj => hI.bxinj i j c hi hj (hlive i li) (hlive j lj)
    front := fun t n h => by
      obtain ⟨b', cap, arr2, ty2, sz, j1, j2, j3, j4, j5⟩ := hI.front t n h
      have hb' : b' ≠ b := fun e' => j5 id lid (e' ▸ hb)
      exact ⟨b', cap, arr2, ty2, sz, j1, by rw [setCells_other hb' ys o w]; exact j2, j3, j4, fun i li => j5 i (hlive i li)⟩
    histw := fun t n b' cap sz h => by rw [hsz]; exact hI.histw t n b' cap sz h
    histinj := hI.histinj
    fresh := fun i h => by
      obtain ⟨j1, j2, j3, j4, j5⟩ := hI.fresh i h
      have e : i ≠ id := by rintro rfl; rw [j1] at hb; cases hb
      exact ⟨j1, j2, j3, by simp only [upd_ne _ _ _ _ e]; exact j4, j5⟩
    histpos := hI.histpos
    histle := hI.histle
    quiet := fun h => by
      simp only [Bool.and_eq_true, decide_eq_true_eq] at h
      exact (hI.quiet h.1).trans (setCells_below (h3 h.1 h.2) ys o w)
    qb := hI.qb
    entry := by rw [hsz]; exact hI.entry }

theorem Inv.setbox {σ : St} {g : G} {wE w : World} (hI : Inv σ g wE w) {id b o : Nat} {cs vs : List AV} {ys : List Value} (hc : σ.box id = some cs) (hb : g.bx id = some b) (hv : RepL g vs ys) (ho : o + vs.length ≤ cs.length) :
    Inv { σ with box := upd σ.box id (some (setsL cs o vs)), q := σ.q && decide (σ.qb ≤ id) } g wE (w.setCells b o ys) :=
  hI.setbox' hc hb fun arr _ h1 h2 => by
    rw [setsL_length]
    refine ⟨h1, ?_⟩
    have hl := repL_length hv
    rw [setsL_take _ _ _ _ (by omega)]
    exact repL_sets o h2 hv

/-- A box grows at its end. -/
theorem Inv.growbox {σ : St} {g : G} {wE w : World} (hI : Inv σ g wE w) {id b : Nat} {cs vs : List AV} {ys : List Value} (hc : σ.box id = some cs) (hb : g.bx id = some b) (hv : RepL g vs ys)
    (ho : ∀ arr ty, w.heap[b]? = some (.cells arr ty (0, 0)) → cs.length + vs.length ≤ arr.size) :
    Inv { σ with box := upd σ.box id (some (cs ++ vs)), q := σ.q && decide (σ.qb ≤ id) } g wE (w.setCells b cs.length ys) :=
  hI.setbox' hc hb fun arr ⟨ty, h0⟩ h1 h2 => by
    have h := ho arr ty h0
    have hl := repL_length hv
    rw [List.length_append]
    refine ⟨h, ?_⟩
    rw [hl, setsL_end _ _ _ (by simp; omega)]
    exact repL_append h2 hv

/-- A map is written. -/
theorem Inv.setmap {σ : St} {g : G} {wE w w' : World} (hI : Inv σ g wE w) {id b c : Nat} {k : IntKind} {l l' : List (Int × AV)} {es' : Array MapEntry} (hm : σ.mp id = some (k, l)) (hb : g.bx id = some b)
    (hs : w'.heap.size = w.heap.size) (ho : w'.os = w.os) (ht : w'.tape = w.tape) (hp : w'.output = w.output) (hoth : ∀ b', b' ≠ b → w'.heap[b']? = w.heap[b']?) (hnew : w'.heap[b]? = some (.map es' c)) (hr : RepM g k l' es'.toList) :
    Inv { σ with mp := upd σ.mp id (some (k, l')), q := σ.q && decide (σ.qb ≤ id) } g wE w' := by
  obtain ⟨b0, es, c0, k1, k2, k3⟩ := hI.mp id k l hm
  rw [hb] at k1
  injection k1 with k1
  subst k1
  obtain ⟨h1, h2, h3⟩ := hI.bxw id b hb
  have hbel : ∀ B, B ≤ b → Below B w w' := fun B hB => ⟨ho, ht, hp, by omega, fun j hj => hoth j (by omega)⟩
  have hne : ∀ b' o' y, g.imm b' o' = some y → b' ≠ b := fun b' o' y h e => by
    subst e
    have := hI.imm b' o' y h
    simp [World.cell?, k2] at this
  have lid : σ.live id := .inr (by rw [hm]; simp)
  have hlive : ∀ i, St.live { σ with mp := upd σ.mp id (some (k, l')), q := σ.q && decide (σ.qb ≤ id) } i → σ.live i := fun i h => by
    by_cases e : i = id
    · subst e; exact lid
    · exact (live_upd (σ := σ) (σ' := { σ with mp := upd σ.mp id (some (k, l')), q := σ.q && decide (σ.qb ≤ id) }) (id := id) (fun j hj => rfl) (fun j hj => upd_ne _ _ _ _ hj) e).1 h
  have hcells : ∀ b' arr ty, w.heap[b']? = some (.cells arr ty (0, 0)) → b' ≠ b := fun b' arr ty h e => by subst e; rw [k2] at h; cases h
  exact
  { below := hI.below.trans (hbel _ h1)
    imm := fun b' o' y h => by rw [other_cell (hoth _ (hne b' o' y h))]; exact hI.imm b' o' y h
    box := fun i cs2 h => by
      obtain ⟨b', arr2, ty2, j1, j2, j3⟩ := hI.box i cs2 h
      exact ⟨b', arr2, ty2, j1, by rw [hoth _ (hcells _ _ _ j2)]; exact j2, j3⟩
    vcap := fun i cap sz h hl => by
      obtain ⟨b', arr2, ty2, j1, j2, j3⟩ := hI.vcap i cap sz h hl
      exact ⟨b', arr2, ty2, j1, by rw [hoth _ (hcells _ _ _ j2)]; exact j2, j3⟩
    mp := fun i k' l2 h => by
      by_cases e : i = id
      · subst e
        simp only [upd_same] at h
        injection h with h
        injection h with e1 e2
        subst e1 e2
        exact ⟨b, es', c, hb, hnew, hr⟩
      · simp only [upd_ne _ _ _ _ e] at h
        obtain ⟨b', es2, c2, q1, q2, q3⟩ := hI.mp i k' l2 h
        have hb' : b' ≠ b := fun e' => e (hI.bxinj i id b (e' ▸ q1) hb (.inr (by rw [h]; simp)) lid)
        exact ⟨b', es2, c2, q1, by rw [hoth _ hb']; exact q2, q3⟩
    bxw := fun i b' h => by
      rw [hs]
      obtain ⟨q1, q2, q3⟩ := hI.bxw i b' h
      refine ⟨q1, q2, fun hq => ?_⟩
      simp only [Bool.and_eq_true] at hq
      exact q3 hq.1
    bxinj := fun i j c hi hj li lj => hI.bxinj i j c hi hj (hlive i li) (hlive j lj)
    front := fun t n h => by
      obtain ⟨b', cap, arr2, ty2, sz, j1, j2, j3, j4, j5⟩ := hI.front t n h
      exact ⟨b', cap, arr2, ty2, sz, j1, by rw [hoth _ (hcells _ _ _ j2)]; exact j2, j3, j4, fun i li => j5 i (hlive i li)⟩
    histw := fun t n b' cap sz h => by rw [hs]; exact hI.histw t n b' cap sz h
    histinj := hI.histinj
    fresh := fun i h => by
      obtain ⟨j1, j2, j3, j4, j5, j6⟩ := hI.fresh i h
      have e : i ≠ id := by rintro rfl; rw [j1] at hb; cases hb
      exact ⟨j1, j2, j3, j4, j5, by simp only [upd_ne _ _ _ _ e]; exact j6⟩
    histpos := hI.histpos
    histle := hI.histle
    quiet := fun h => by
      simp only [Bool.and_eq_true, decide_eq_true_eq] at h
      exact (hI.quiet h.1).trans (hbel _ (h3 h.1 h.2))
    qb := hI.qb
    entry := by rw [hs]; exact hI.entry }

/-- A token's newest slice grows in place. -/
theorem Inv.push {σ : St} {g : G} {wE w : World} (hI : Inv σ g wE w) {t n m b cap sz : Nat} {vs : List AV} {ys : List Value} (hf : σ.front t = some n) (hh : g.hist t n = some (b, cap, sz))
    (hv : RepL g vs ys) (hl : vs.length = m * sz) (hm : 0 < m) (hcap : n + m ≤ cap) :
    ∃ g', g.le g' ∧ RepAt g' vs b (n * sz) ∧ g'.hist t (n + m) = some (b, cap, sz) ∧
      Inv { σ with front := upd σ.front t (some (n + m)), q := σ.q && decide (σ.qb ≤ t) } g' wE (w.setCells b (n * sz) ys) := by
  obtain ⟨b0, cap0, arr, ty, sz0, k1, k2, k3, k4, k5⟩ := hI.front t n hf
  rw [hh] at k1
  injection k1 with k1
  injection k1 with e1 k1
  injection k1 with e2 e3
  subst e1 e2 e3
  obtain ⟨h1, h2, h3⟩ := hI.histw t n b cap sz hh
  have hyl := repL_length hv
  have hfit : n * sz + ys.length ≤ arr.toList.length := by
    rw [← hyl, hl, Array.length_toList, k3, ← Nat.add_mul]
    exact Nat.mul_le_mul_right _ hcap
  obtain ⟨arr', a1, a2⟩ := setCells_block (b := b) ys (n * sz) w arr k2
  have hsz := (setCells_rest (b := b) ys (n * sz) w).2.2.2
  let imm' : Nat → Nat → Option Value := fun b' o => if b' = b ∧ n * sz ≤ o then ys[o - n * sz]? else g.imm b' o
  let hist' : Nat → Nat → Option (Nat × Nat × Nat) := fun t' k => if t' = t ∧ k = n + m then some (b, cap, sz) else g.hist t' k
  have himm : ∀ b' o y, g.imm b' o = some y → imm' b' o = some y := fun b' o y h => by
    have e : ¬ (b' = b ∧ n * sz ≤ o) := by rintro ⟨rfl, ho⟩; rw [k4 o ho] at h; cases h
    simp only [imm', if_neg e]; exact h
  have hhist : ∀ t' k x, g.hist t' k = some x → hist' t' k = some x := fun t' k x h => by
    have e : ¬ (t' = t ∧ k = n + m) := by
      rintro ⟨rfl, rfl⟩
      obtain ⟨m', q1, q2⟩ := hI.histle _ _ _ h
      rw [hf] at q1
      injection q1 with q1
      omega
    simp only [hist', if_neg e]; exact h
  have hcase : ∀ t' k x, hist' t' k = some x → (t' = t ∧ k = n + m ∧ x = (b, cap, sz)) ∨ g.hist t' k = some x := fun t' k x h => by
    simp only [hist'] at h
    split at h
    · rename_i e; injection h with h; exact .inl ⟨e.1, e.2, h.symm⟩
    · exact .inr h
  have hle : g.le { g with imm := imm', hist := hist' } := ⟨rfl, himm, fun _ _ h => h, hhist, fun _ _ h => h⟩
  refine ⟨{ g with imm := imm', hist := hist' }, hle, ?_, by simp [hist'], ?_⟩
  · refine repAt_of fun i c e => ?_
    obtain ⟨y, hy, hr⟩ := repL_get hv i c e
    refine ⟨y, ?_, Rep.mono hle _ _ hr⟩
    show imm' b (n * sz + i) = some y
    simp only [imm', if_pos (show b = b ∧ n * sz ≤ n * sz + i from ⟨rfl, by omega⟩)]
    rw [show n * sz + i - n * sz = i from by omega]
    exact hy
  · exact
    { below := hI.below.trans (setCells_below h1 ys _ w)
      imm := fun b' o y h => by
        have h : imm' b' o = some y := h
        by_cases e : b' = b
        · subst e
          rw [block_cell a1, a2]
          by_cases ho : n * sz ≤ o
          · simp only [imm', if_pos (show b' = b' ∧ n * sz ≤ o from ⟨rfl, ho⟩)] at h
            have := setsL_get_in ys arr.toList (n * sz) (o - n * sz) y h hfit
            rwa [show n * sz + (o - n * sz) = o from by omega] at this
          · simp only [imm', if_neg (show ¬ (b' = b' ∧ n * sz ≤ o) from fun q => ho q.2)] at h
            rw [setsL_get_lt ys _ _ _ (by omega), ← block_cell k2]
            exact hI.imm b' o y h
        · simp only [imm', if_neg (show ¬ (b' = b ∧ n * sz ≤ o) from fun q => e q.1)] at h
          rw [other_cell (setCells_other e ys _ w)]
          exact hI.imm b' o y h
      box := fun i cs' h => by
        obtain ⟨b', arr2, ty2, j1, j2, j3, j4, j5⟩ := hI.box i cs' h
        have hb' : b' ≠ b := fun e' => k5 i (.inl (by rw [h]; simp)) (e' ▸ j1)
        refine ⟨b', arr2, ty2, j1, by rw [setCells_other hb' ys _ w]; exact j2, j3, RepL.mono hle _ _ j4, fun o => ?_⟩
        show imm' b' o = none
        simp only [imm', if_neg (show ¬ (b' = b ∧ n * sz ≤ o) from fun q => hb' q.1)]
        exact j5 o
      vcap := fun i cap sz h hl => by
        obtain ⟨b', arr2, ty2, j1, j2, j3⟩ := hI.vcap i cap sz h hl
        have hb' : b' ≠ b := fun e' => k5 i (.inl hl) (e' ▸ j1)
        exact ⟨b', arr2, ty2, j1, by rw [setCells_other hb' ys _ w]; exact j2, j3⟩
      mp := fun i k' l2 h => by
        obtain ⟨b', es2, c2, q1, q2, q3⟩ := hI.mp i k' l2 h
        have hb' : b' ≠ b := fun e' => k5 i (.inr (by rw [h]; simp)) (e' ▸ q1)
        exact ⟨b', es2, c2, q1, by rw [setCells_other hb' ys _ w]; exact q2, RepM.mono hle q3⟩
      bxw := fun i b' h => by
        rw [hsz]
        obtain ⟨q1, q2, q3⟩ := hI.bxw i b' h
        refine ⟨q1, q2, fun hq => ?_⟩
        simp only [Bool.and_eq_true] at hq
        exact q3 hq.1
      bxinj := hI.bxinj
      front := fun t' k h => by
        by_cases e : t' = t
        · subst e
          simp only [upd_same] at h
          injection h with h
          subst h
          refine ⟨b, cap, arr', ty, sz, by simp [hist'], a1, ?_, fun o ho => ?_, k5⟩
          · have : arr'.toList.length = arr.toList.length := by rw [a2, setsL_length]
            simp only [Array.length_toList] at this
            omega
          · show imm' b o = none
            have hmul : (n + m) * sz = n * sz + m * sz := Nat.add_mul _ _ _
            simp only [imm', if_pos (show b = b ∧ n * sz ≤ o from ⟨rfl, by omega⟩)]
            exact List.getElem?_eq_none (by omega)
        · simp only [upd_ne _ _ _ _ e] at h
          obtain ⟨b', cap', arr2, ty2, sz', j1, j2, j3, j4, j5⟩ := hI.front t' k h
          have hb' : b' ≠ b := fun e' => e (hI.histinj t' t k n b _ _ _ _ (e' ▸ j1) hh)
          refine ⟨b', cap', arr2, ty2, sz', hhist _ _ _ j1, by rw [setCells_other hb' ys _ w]; exact j2, j3, fun o ho => ?_, j5⟩
          show imm' b' o = none
          simp only [imm', if_neg (show ¬ (b' = b ∧ n * sz ≤ o) from fun q => hb' q.1)]
          exact j4 o ho
      histw := fun t' k b' c s h => by
        rw [hsz]
        rcases hcase t' k _ h with ⟨q1, q2, hx'⟩ | u
        · injection hx' with e1 e2
          rw [q1, e1]
          exact ⟨h1, h2, h3⟩
        · exact hI.histw t' k b' c s u
      histinj := fun t1 t' k k' b' c c' s s' h h' => by
        rcases hcase t1 k _ h with ⟨q1, q2, hx1⟩ | u <;> rcases hcase t' k' _ h' with ⟨q3, q4, hx2⟩ | u'
        · rw [q1, q3]
        · injection hx1 with e1 e2
          rw [e1] at u'
          rw [q1]
          exact hI.histinj _ _ _ _ _ _ _ _ _ hh u'
        · injection hx2 with e1 e2
          rw [e1] at u
          rw [q3]
          exact hI.histinj _ _ _ _ _ _ _ _ _ u hh
        · exact hI.histinj t1 t' k k' b' c c' s s' u u'
      fresh := fun i h => by
        obtain ⟨j1, j2, j3, j4, j5, j6⟩ := hI.fresh i h
        have e : i ≠ t := by rintro rfl; rw [j5] at hf; cases hf
        exact ⟨j1, fun k => by show hist' i k = none; simp only [hist', if_neg (show ¬ (i = t ∧ k = n + m) from fun q => e q.1)]; exact j2 k, j3, j4, by simp only [upd_ne _ _ _ _ e]; exact j5, j6⟩
      histpos := fun t' k x h => by
        rcases hcase t' k _ h with ⟨q3, q4, _⟩ | u
        · omega
        · exact hI.histpos t' k x u
      histle := fun t' k x h => by
        rcases hcase t' k _ h with ⟨q3, q4, _⟩ | u
        · exact ⟨n + m, by rw [q3]; simp only [upd_same], by omega⟩
        · obtain ⟨m', q1, q2⟩ := hI.histle _ _ _ u
          by_cases e : t' = t
          · subst e
            rw [hf] at q1
            injection q1 with q1
            exact ⟨n + m, by simp only [upd_same], by omega⟩
          · exact ⟨m', by simp only [upd_ne _ _ _ _ e]; exact q1, q2⟩
      quiet := fun h => by
        simp only [Bool.and_eq_true, decide_eq_true_eq] at h
        exact (hI.quiet h.1).trans (setCells_below (h3 h.2) ys _ w)
      qb := hI.qb
      entry := by rw [hsz]; exact hI.entry }

end Go.AW
end
