/-
  PLAIN LAWS, part 0: numbers that wrap, bytes, a number's bytes ('uintB'). No program.
-/
import Derived.Test.YtdfeadgholpcgaaMc
import Derived.IntWalk
import Derived.Lib.BitFns

section
set_option linter.unusedVariables false
set_option linter.unusedSimpArgs false
namespace Go.Spec
open Go.AW Go.RowKit

theorem i64w {n : Int} (h : -9223372036854775808 ≤ n) (h' : n ≤ 9223372036854775807) : IntKind.i64.wrap n = n := IntWalk.i64_in n ⟨h, h'⟩
theorem u64w {n : Nat} (h : n < 18446744073709551616) : IntKind.u64.wrap (n : Int) = n := by rw [IntKind.wrap_u64]; omega
theorem u8w (n : Nat) : IntKind.u8.wrap (n : Int) = ((UInt8.ofNat n).toNat : Int) := by
  rw [IntKind.wrap_u8]
  simp
theorem shrN (x j : Nat) : ((x : Nat) : Int).fdiv (2 ^ j) = ((x / 2 ^ j : Nat) : Int) := by
  rw [Int.ofNat_fdiv]
  simp

@[simp] theorem bits_i64 : IntKind.i64.bits = 64 := rfl
@[simp] theorem bits_u64 : IntKind.u64.bits = 64 := rfl
@[simp] theorem bits_u8 : IntKind.u8.bits = 8 := rfl
@[simp] theorem bits_u32 : IntKind.u32.bits = 32 := rfl
@[simp] theorem bits_i32 : IntKind.i32.bits = 32 := rfl
theorem fdiv0 (x k : Nat) : ((x : Int).fdiv (2 ^ k) = 0) ↔ x < 2 ^ k := by
  rw [shrN]
  have : (2 : Nat) ^ k ≠ 0 := Nat.pos_iff_ne_zero.1 (Nat.two_pow_pos k)
  constructor
  · intro h
    have h : x / 2 ^ k = 0 := by omega
    rcases Nat.div_eq_zero_iff.1 h with h | h
    · exact absurd h this
    · exact h
  · intro h
    rw [Nat.div_eq_of_lt h]
    rfl
theorem bitsN (op : BinOp) (a b : Nat) (ha : a < 18446744073709551616) (hb : b < 18446744073709551616) :
    bits .or .u64 (a : Int) (b : Int) = ((a ||| b : Nat) : Int) ∧ bits .and .u64 (a : Int) (b : Int) = ((a &&& b : Nat) : Int) ∧ bits .xor .u64 (a : Int) (b : Int) = ((a ^^^ b : Nat) : Int) := by
  have e : ∀ c : Nat, c < 18446744073709551616 → (BitVec.ofInt 64 (c : Int)).toNat = c := fun c hc => by
    simp [BitVec.ofInt_natCast]; omega
  have lor := Nat.or_lt_two_pow (n := 64) ha hb
  have lxor := Nat.xor_lt_two_pow (n := 64) ha hb
  have land := Nat.and_lt_two_pow (n := 64) a hb
  refine ⟨?_, ?_, ?_⟩
  · show IntKind.u64.wrap (((BitVec.ofInt 64 (a : Int)) ||| (BitVec.ofInt 64 (b : Int))).toNat : Int) = _
    rw [BitVec.toNat_or, e a ha, e b hb]
    exact u64w lor
  · show IntKind.u64.wrap (((BitVec.ofInt 64 (a : Int)) &&& (BitVec.ofInt 64 (b : Int))).toNat : Int) = _
    rw [BitVec.toNat_and, e a ha, e b hb]
    exact u64w land
  · show IntKind.u64.wrap (((BitVec.ofInt 64 (a : Int)) ^^^ (BitVec.ofInt 64 (b : Int))).toNat : Int) = _
    rw [BitVec.toNat_xor, e a ha, e b hb]
    exact u64w lxor
theorem or64 {a b : Nat} (ha : a < 18446744073709551616) (hb : b < 18446744073709551616) : bits .or .u64 (a : Int) (b : Int) = ((a ||| b : Nat) : Int) := (bitsN .or a b ha hb).1
theorem and64 {a b : Nat} (ha : a < 18446744073709551616) (hb : b < 18446744073709551616) : bits .and .u64 (a : Int) (b : Int) = ((a &&& b : Nat) : Int) := (bitsN .or a b ha hb).2.1
theorem xor64 {a b : Nat} (ha : a < 18446744073709551616) (hb : b < 18446744073709551616) : bits .xor .u64 (a : Int) (b : Int) = ((a ^^^ b : Nat) : Int) := (bitsN .or a b ha hb).2.2
theorem or_pow {n k : Nat} (h : n < 2 ^ k) : n ||| 2 ^ k = n + 2 ^ k := by
  have := Nat.two_pow_add_eq_or_of_lt h 1
  rw [Nat.mul_one] at this
  rw [Nat.or_comm, ← this, Nat.add_comm]
theorem or_14 {n : Nat} (h : n < 16384) : bits .or .u64 (n : Int) 16384 = ((n + 16384 : Nat) : Int) := by
  rw [← or_pow (k := 14) h]; exact or64 (b := 16384) (by omega) (by omega)
theorem or_31 {n : Nat} (h : n < 2147483648) : bits .or .u64 (n : Int) 2147483648 = ((n + 2147483648 : Nat) : Int) := by
  rw [← or_pow (k := 31) h]; exact or64 (b := 2147483648) (by omega) (by omega)

/-- A byte's cell; bytes' cells. -/
def bcell (b : UInt8) : AV := .v (.int .u8 (b.toNat : Int))
def bcs (l : List UInt8) : List AV := l.map bcell
@[simp] theorem bcs_nil : bcs [] = [] := rfl
theorem bcs_cons (b : UInt8) (l : List UInt8) : bcs (b :: l) = bcell b :: bcs l := rfl
theorem bcs_append (a b : List UInt8) : bcs (a ++ b) = bcs a ++ bcs b := by simp [bcs]
@[simp] theorem bcs_length (l : List UInt8) : (bcs l).length = l.length := by simp [bcs]
@[simp] theorem bcs_atoms (l : List UInt8) : (bcs l).all atomA = true := by simp [bcs, bcell]
theorem bytesA_bcs : ∀ l : List UInt8, bytesA (bcs l) = some l
  | [] => rfl
  | b :: l => by simp [bcs_cons, bcell, bytesA, bytesA_bcs l]

/-- The low n bytes of a number, the highest first. -/
def beB (x : Nat) : Nat → List UInt8
  | 0 => []
  | n + 1 => UInt8.ofNat (x / 2 ^ (8 * n)) :: beB x n
@[simp] theorem beB_length (x : Nat) : ∀ n, (beB x n).length = n
  | 0 => rfl
  | n + 1 => by simp [beB, beB_length x n]

/-- A number's bytes. -/
def uintB (x : Nat) : List UInt8 :=
  if x < 64 then [UInt8.ofNat x] else if x < 16384 then beB (x + 16384) 2 else if x < 1073741824 then beB (x + 2147483648) 4 else 192 :: beB x 8
theorem uintB_length (x : Nat) : (uintB x).length ≤ 9 := by unfold uintB; split <;> (try split) <;> (try split) <;> simp
theorem uintB_pos (x : Nat) : 0 < (uintB x).length := by unfold uintB; split <;> (try split) <;> (try split) <;> simp

/-- A text's cell; its bytes behind its length. -/
def scell (s : ByteArray) : AV := .v (.string s)
def scs (l : List ByteArray) : List AV := l.map scell
@[simp] theorem scs_length (l : List ByteArray) : (scs l).length = l.length := by simp [scs]
@[simp] theorem scs_atoms (l : List ByteArray) : (scs l).all atomA = true := by simp [scs, scell]
theorem scs_get {l : List ByteArray} {i : Nat} {s : ByteArray} (h : l[i]? = some s) : (scs l)[i]? = some (scell s) := by simp [scs, h]
@[simp] theorem scs_getElem {l : List ByteArray} {i : Nat} (h : i < (scs l).length) : (scs l)[i] = .v (.string (l[i]'(by simpa using h))) := by simp [scs, scell]
theorem bcs_eq (l : List UInt8) : (l.map fun b => AV.v (.int .u8 b.toNat)) = bcs l := rfl
def textB (s : ByteArray) : List UInt8 := uintB s.size ++ s.data.toList
def textsB (l : List ByteArray) : List UInt8 := l.flatMap textB
@[simp] theorem size_toList (s : ByteArray) : s.data.toList.length = s.size := by simp
@[simp] theorem textsB_nil : textsB [] = [] := rfl
theorem textsB_take_succ {l : List ByteArray} {k : Nat} (h : k < l.length) : textsB (l.take (k + 1)) = textsB (l.take k) ++ textB l[k] := by
  rw [List.take_succ_eq_append_getElem h, textsB, List.flatMap_append]; simp only [textsB, List.flatMap_cons, List.flatMap_nil, List.append_nil]
theorem textsB_take_le (l : List ByteArray) (k : Nat) : (textsB (l.take k)).length ≤ (textsB l).length := by
  have : textsB l = textsB (l.take k) ++ textsB (l.drop k) := by simp only [textsB, ← List.flatMap_append, List.take_append_drop]
  rw [this]; simp
theorem textB_length (s : ByteArray) : (textB s).length = (uintB s.size).length + s.size := by simp [textB]
end Go.Spec
end

section
set_option linter.unusedVariables false
set_option linter.unusedSimpArgs false
namespace Go.Spec
open Go.AW Go.RowKit

@[simp] theorem intBeq0 (a : Nat) : ((a : Int) == 0) = (a == 0) := by rw [Bool.eq_iff_iff, beq_iff_eq, beq_iff_eq]; omega
@[simp] theorem intBeq (a b : Nat) : ((a : Int) == (b : Int)) = (a == b) := by rw [Bool.eq_iff_iff, beq_iff_eq, beq_iff_eq]; omega
@[simp] theorem intBne (a b : Nat) : ((a : Int) != (b : Int)) = (a != b) := by simp [bne]
@[simp] theorem intBne0 (a : Nat) : ((a : Int) != 0) = (a != 0) := by simp [bne]
@[simp] theorem natNeg (n : Nat) : ((n : Int) < 0) = False := by simp only [eq_iff_iff, iff_false]; omega
/-- Bytes, as a string. -/
def bs (l : List UInt8) : ByteArray := ⟨l.toArray⟩
theorem bs_inv (s : ByteArray) : bs s.data.toList = s := by simp [bs]
@[simp] theorem bs_data (l : List UInt8) : (bs l).data.toList = l := by simp [bs]
@[simp] theorem bs_size (l : List UInt8) : (bs l).size = l.length := by simp [bs, ByteArray.size]
@[simp] theorem bs_toList (l : List UInt8) : (bs l).toList = l := by rw [ByteArray.toList_eq]; simp [bs]
theorem bs_inj {a b : List UInt8} : bs a = bs b ↔ a = b := ⟨fun h => by have := congrArg (fun s : ByteArray => s.data.toList) h; simpa using this, fun h => by rw [h]⟩
theorem bs_append (a b : List UInt8) : bs a ++ bs b = bs (a ++ b) := by
  apply ByteArray.ext
  simp [bs]
theorem bs_extract (l : List UInt8) (a b : Nat) : (bs l).extract a b = bs ((l.drop a).take (b - a)) := by
  apply ByteArray.ext
  simp [bs, List.extract_eq_take_drop]
theorem bs_extract_end (l : List UInt8) (a b : Nat) (h : l.length ≤ b) : (bs l).extract a b = bs (l.drop a) := by
  rw [bs_extract, List.take_of_length_le (by simp; omega)]
theorem byteAt_bs (l : List UInt8) (k : Nat) : byteAt (bs l) k = l.getD k 0 := by simp [byteAt]
@[simp] theorem mk_toArray (l : List UInt8) : (⟨l.toArray⟩ : ByteArray) = bs l := rfl
@[simp] theorem size_data (s : ByteArray) : s.data.size = s.size := rfl
theorem toList_length (s : ByteArray) : s.toList.length = s.size := by rw [ByteArray.toList_eq]; simp
theorem toList_data (s : ByteArray) : s.toList = s.data.toList := ByteArray.toList_eq s

theorem bcs_map (l : List UInt8) : (l.map fun b => AV.v (.int .u8 b.toNat)) = bcs l := rfl
theorem bcs_take (l : List UInt8) (n : Nat) : (bcs l).take n = bcs (l.take n) := by simp [bcs]
theorem bcs_drop (l : List UInt8) (n : Nat) : (bcs l).drop n = bcs (l.drop n) := by simp [bcs]
@[simp] theorem bcs_getElem {l : List UInt8} {i : Nat} (h : i < (bcs l).length) : (bcs l)[i] = .v (.int .u8 ((l[i]'(by simpa using h)).toNat : Int)) := by simp [bcs, bcell]
def sizeS (b : UInt8) : Nat := if b.toNat < 64 then 1 else if b.toNat < 128 then 2 else if b.toNat < 192 then 4 else 9
def leastS (n : Nat) : Nat := if n = 2 then 64 else if n = 4 then 16384 else if n = 9 then 1073741824 else 0
def beV (x : Nat) (l : List UInt8) : Nat := l.foldl (fun x c => x * 256 + c.toNat) x
theorem beV_take_succ {x : Nat} {l : List UInt8} {k : Nat} (h : k < l.length) : beV x (l.take (k + 1)) = beV x (l.take k) * 256 + l[k].toNat := by
  rw [List.take_succ_eq_append_getElem h, beV, List.foldl_append]; rfl
theorem beV_lt : ∀ (l : List UInt8) (x X : Nat), x < X → beV x l < X * 256 ^ l.length
  | [], x, X, h => by simpa [beV] using h
  | c :: l, x, X, h => by
    have hc : c.toNat < 256 := c.toNat_lt
    have := beV_lt l (x * 256 + c.toNat) (X * 256) (by omega)
    simp only [beV, List.foldl_cons, List.length_cons] at this ⊢
    rw [Nat.pow_succ, Nat.mul_comm (256 ^ l.length) 256, ← Nat.mul_assoc]
    exact this
/-- The number that comes next, what is behind it, an error's number. -/
def nextS (l : List UInt8) : Nat × List UInt8 × Nat :=
  match l with
  | [] => (0, [], 2)
  | b :: r =>
    if 192 < b.toNat then (0, b :: r, 5)
    else if r.length + 1 < sizeS b then (0, b :: r, 2)
    else if beV (b.toNat % 64) (r.take (sizeS b - 1)) < leastS (sizeS b) then (0, b :: r, 5)
    else (beV (b.toNat % 64) (r.take (sizeS b - 1)), (b :: r).drop (sizeS b), 0)
theorem nextS_lt (l : List UInt8) : (nextS l).1 < 18446744073709551616 := by
  unfold nextS
  split
  · simp
  · rename_i b r
    have hb : b.toNat % 64 < 64 := by omega
    split
    · simp
    · split
      · simp
      · rename_i h1 h2
        split
        · simp
        · simp only
          unfold sizeS at h2 ⊢
          by_cases q1 : b.toNat < 64
          · simp only [q1, if_true] at h2 ⊢
            have := beV_lt (r.take (1 - 1)) _ 64 hb
            simp at this ⊢; omega
          · by_cases q2 : b.toNat < 128
            · simp only [q1, q2, if_true, if_false] at h2 ⊢
              have := beV_lt (r.take (2 - 1)) _ 64 hb
              rw [List.length_take, Nat.min_eq_left (by omega)] at this
              omega
            · by_cases q3 : b.toNat < 192
              · simp only [q1, q2, q3, if_true, if_false] at h2 ⊢
                have := beV_lt (r.take (4 - 1)) _ 64 hb
                rw [List.length_take, Nat.min_eq_left (by omega)] at this
                omega
              · simp only [q1, q2, q3, if_false] at h2 ⊢
                have e : b.toNat % 64 = 0 := by omega
                rw [e]
                have := beV_lt (r.take (9 - 1)) 0 1 (by omega)
                rw [List.length_take, Nat.min_eq_left (by omega)] at this
                omega
theorem nextS_rest (l : List UInt8) : ((nextS l).2.2 = 0 → (nextS l).2.1.length < l.length) ∧ ((nextS l).2.2 ≠ 0 → (nextS l).2.1 = l ∧ (nextS l).1 = 0) := by
  unfold nextS
  split
  · simp
  · rename_i b r
    have : 1 ≤ sizeS b := by unfold sizeS; split <;> (try split) <;> (try split) <;> omega
    split
    · simp
    · split
      · simp
      · split
        · simp
        · simp; omega
theorem nextS_err (l : List UInt8) : (nextS l).2.2 = 0 ∨ (nextS l).2.2 = 2 ∨ (nextS l).2.2 = 5 := by
  unfold nextS
  split
  · simp
  · split
    · simp
    · split
      · simp
      · split <;> simp

/-- A cursor's steps: what is read, what is left, the first error. -/
def uintS (r : List UInt8) (e : Nat) : Nat × List UInt8 × Nat := if e = 0 then nextS r else (0, r, e)
def textS (most : Nat) (r : List UInt8) (e : Nat) : List UInt8 × List UInt8 × Nat :=
  if e = 0 then
    if (nextS r).2.2 = 0 then
      if most < (nextS r).1 then ([], r, 3)
      else if (nextS r).2.1.length < (nextS r).1 then ([], r, 2)
      else ((nextS r).2.1.take (nextS r).1, (nextS r).2.1.drop (nextS r).1, 0)
    else ([], r, (nextS r).2.2)
  else ([], r, e)
def byteS (r : List UInt8) (e : Nat) : Nat × List UInt8 × Nat :=
  if e = 0 then (match r with | [] => (0, [], 2) | b :: t => (b.toNat, t, 0)) else (0, r, e)
def doneS (r : List UInt8) (e : Nat) : Nat := if e = 0 ∧ r ≠ [] then 5 else e

/-- A cursor's cells. -/
def cuC (r : List UInt8) (e : Nat) : List AV := [.v (.string (bs r)), .v (.int .i64 (e : Int))]
theorem fdivN (x j : Nat) : ((x : Nat) : Int).fdiv (j : Nat) = ((x / j : Nat) : Int) := by rw [Int.ofNat_fdiv]
theorem and8 (b c : UInt8) : bits .and .u8 (b.toNat : Int) (c.toNat : Int) = ((b.toNat &&& c.toNat : Nat) : Int) := by
  have e : ∀ c : UInt8, (BitVec.ofInt 8 (c.toNat : Int)).toNat = c.toNat := fun c => by
    have := c.toNat_lt
    simp [BitVec.ofInt_natCast]
  show IntKind.u8.wrap (((BitVec.ofInt 8 (b.toNat : Int)) &&& (BitVec.ofInt 8 (c.toNat : Int))).toNat : Int) = _
  rw [BitVec.toNat_and, e b, e c]
  rw [IntKind.wrap_u8]
  have := Nat.and_le_left (n := b.toNat) (m := c.toNat)
  have := b.toNat_lt
  omega
theorem and63 (b : UInt8) : bits .and .u8 (b.toNat : Int) 63 = ((b.toNat % 64 : Nat) : Int) := by
  have := and8 b 63
  rw [show ((63 : UInt8).toNat : Int) = 63 from rfl] at this
  rw [this, show (63 : UInt8).toNat = 2 ^ 6 - 1 from rfl, Nat.and_two_pow_sub_one_eq_mod]
theorem or_byte {x : Nat} (c : UInt8) (h : x * 256 + c.toNat < 18446744073709551616) : bits .or .u64 ((x * 256 : Nat) : Int) (c.toNat : Int) = ((x * 256 + c.toNat : Nat) : Int) := by
  have hc : c.toNat < 256 := c.toNat_lt
  have hx : x * 256 < 18446744073709551616 := Nat.lt_of_le_of_lt (Nat.le_add_right _ _) h
  have hc' : c.toNat < 18446744073709551616 := Nat.lt_of_le_of_lt (Nat.le_add_left _ _) h
  refine (or64 hx hc').trans ?_
  have := Nat.two_pow_add_eq_or_of_lt (i := 8) (b := c.toNat) (by omega) x
  rw [Nat.mul_comm x 256, show (256 : Nat) = 2 ^ 8 from rfl, ← this]
end Go.Spec
end

section
set_option linter.unusedVariables false
set_option linter.unusedSimpArgs false
namespace Go.Spec
open Go.AW Go.RowKit

def ltB (a b : ByteArray) : Bool := Op.bytesLess a.toList b.toList
def ncell (n : Nat) : AV := .v (.int .u64 (n : Int))
def ncs (l : List Nat) : List AV := l.map ncell
@[simp] theorem ncs_length (l : List Nat) : (ncs l).length = l.length := by simp [ncs]
@[simp] theorem ncs_atoms (l : List Nat) : (ncs l).all atomA = true := by simp [ncs, ncell]
@[simp] theorem ncs_getElem {l : List Nat} {i : Nat} (h : i < (ncs l).length) : (ncs l)[i] = .v (.int .u64 ((l[i]'(by simpa using h) : Nat) : Int)) := by simp [ncs, ncell]
def orAll (l : List Nat) : Nat := l.foldl (· ||| ·) 0
theorem orAll_take_succ {l : List Nat} {k : Nat} (h : k < l.length) : orAll (l.take (k + 1)) = orAll (l.take k) ||| l[k] := by
  rw [List.take_succ_eq_append_getElem h, orAll, List.foldl_append]; rfl
theorem orAll_lt : ∀ {l : List Nat}, (∀ n ∈ l, n < 18446744073709551616) → orAll l < 18446744073709551616 := by
  have key : ∀ (l : List Nat) (a : Nat), (∀ n ∈ l, n < 18446744073709551616) → a < 18446744073709551616 → l.foldl (· ||| ·) a < 18446744073709551616 := by
    intro l
    induction l with
    | nil => intro a _ h; exact h
    | cons n l ih =>
      intro a h ha
      exact ih _ (fun m hm => h m (List.mem_cons_of_mem _ hm)) (Nat.or_lt_two_pow (n := 64) ha (h n List.mem_cons_self))
  intro l h
  exact key l 0 h (by omega)
def widthN (l : List Nat) : Nat := Lib.bitLen (orAll l)
theorem bytes_toList_eq {a b : ByteArray} (h : a.toList = b.toList) : a = b := by
  rw [ByteArray.toList_eq, ByteArray.toList_eq] at h
  exact ByteArray.ext (Array.toList_inj.mp h)

/-- A text, and what is behind it. -/
def textE (most : Nat) (r : List UInt8) : Except Nat (List UInt8 × List UInt8) :=
  if (textS most r 0).2.2 = 0 then .ok ((textS most r 0).1, (textS most r 0).2.1) else .error (textS most r 0).2.2
def uintE (r : List UInt8) : Except Nat (Nat × List UInt8) := if (nextS r).2.2 = 0 then .ok ((nextS r).1, (nextS r).2.1) else .error (nextS r).2.2
def byteE (r : List UInt8) : Except Nat (Nat × List UInt8) := match r with | [] => .error 2 | b :: t => .ok (b.toNat, t)
def countE (r : List UInt8) : Except Nat (Nat × List UInt8) :=
  match uintE r with
  | .error e => .error e
  | .ok (n, r') => if 65536 < n then .error 3 else .ok (n, r')
def getE : Nat → List ByteArray → List UInt8 → Except Nat (List ByteArray × List UInt8)
  | 0, acc, r => .ok (acc, r)
  | n + 1, acc, r => match textE 64 r with
    | .error e => .error e
    | .ok (t, r') => getE n (acc ++ [bs t]) r'
def ordE : Nat → List ByteArray → List UInt8 → Except Nat (List ByteArray × List UInt8)
  | 0, acc, r => .ok (acc, r)
  | n + 1, acc, r => match textE 64 r with
    | .error e => .error e
    | .ok (t, r') => if (acc.getLast?.any fun x => !ltB x (bs t)) = true then .error 4 else ordE n (acc ++ [bs t]) r'
/-- A number out of bytes, the lowest first. -/
def leN : List UInt8 → Nat
  | [] => 0
  | b :: l => b.toNat + 256 * leN l
def unpackN (s : List UInt8) (n w : Nat) : List Nat := (List.range n).map fun i => leN s / 2 ^ (i * w) % 2 ^ w
def fitsE (s : List UInt8) (n : Nat) : Nat :=
  if s.length < (n + 7) / 8 then 2 else if (n + 7) / 8 < s.length then 3 else if leN s < 2 ^ n then 0 else 5
def unpackE (s : List UInt8) (n w : Nat) : Except Nat (List Nat) :=
  if fitsE s (n * w) = 0 then .ok (unpackN s n w) else .error (fitsE s (n * w))
def numE (n : Nat) (r : List UInt8) : Except Nat (List Nat × Nat × List UInt8) :=
  match byteE r with
  | .error e => .error e
  | .ok (w, r') =>
    if 64 < w then .error 4 else if r'.length < (n * w + 7) / 8 then .error 2 else
    match unpackE (r'.take ((n * w + 7) / 8)) n w with
    | .error e => .error e
    | .ok l => .ok (l, w, r'.drop ((n * w + 7) / 8))
def dictE (r : List UInt8) : Except Nat (List ByteArray × List UInt8) :=
  match countE r with
  | .error e => .error e
  | .ok (m, r1) => ordE m [] r1
def chosenE (n : Nat) (r : List UInt8) : Except Nat (List ByteArray × List UInt8) :=
  match dictE r with
  | .error e => .error e
  | .ok (d, r2) => match numE n r2 with
    | .error e => .error e
    | .ok (l, w, r3) => if (∀ k ∈ l, k < d.length) ∧ (∀ k, k < d.length → k ∈ l) ∧ widthN l = w then .ok (l.map fun k => d.getD k (bs []), r3) else .error 4
def doneE {α : Type} (x : Except Nat (α × List UInt8)) : Except Nat α :=
  match x with
  | .error e => .error e
  | .ok (a, r) => if r = [] then .ok a else .error 5
def readE (s : List UInt8) : Except Nat (List ByteArray) :=
  match byteE s with
  | .error e => .error e
  | .ok (k, r) => if 2 ≤ k then .error 4 else
    match countE r with
    | .error e => .error e
    | .ok (n, r1) => doneE (if k = 1 then chosenE n r1 else getE n [] r1)

theorem textS_err (most : Nat) (r : List UInt8) : (textS most r 0).2.2 = 0 ∨ (textS most r 0).2.2 = 2 ∨ (textS most r 0).2.2 = 3 ∨ (textS most r 0).2.2 = 5 := by
  unfold textS
  have := nextS_err r
  simp only [if_true]
  split
  · split
    · simp
    · split <;> simp
  · simp only; omega
theorem textS_rest (most : Nat) (r : List UInt8) : (textS most r 0).2.1.length ≤ r.length := by
  unfold textS
  simp only [if_true]
  split
  · split
    · simp
    · split
      · simp
      · have := (nextS_rest r).1 (by assumption)
        simp; omega
  · simp
end Go.Spec
end

section
set_option linter.unusedVariables false
set_option linter.unusedSimpArgs false
namespace Go.Spec
open Go.AW Go.RowKit

theorem leN_lt : ∀ s : List UInt8, leN s < 256 ^ s.length
  | [] => by simp [leN]
  | b :: l => by
    have := leN_lt l
    have hb : b.toNat < 256 := b.toNat_lt
    simp only [leN, List.length_cons, Nat.pow_succ]
    omega
theorem leN_div (b : UInt8) (l : List UInt8) : leN (b :: l) / 256 = leN l := by
  have hb : b.toNat < 256 := b.toNat_lt
  simp only [leN]; omega
theorem leN_mod (b : UInt8) (l : List UInt8) : leN (b :: l) % 256 = b.toNat := by
  have hb : b.toNat < 256 := b.toNat_lt
  simp only [leN]; omega
theorem leN_byte : ∀ (s : List UInt8) (k : Nat), leN s / 256 ^ k % 256 = (s.getD k 0).toNat
  | [], k => by simp [leN]
  | b :: l, 0 => by simpa using leN_mod b l
  | b :: l, k + 1 => by
    rw [Nat.pow_succ, Nat.mul_comm, ← Nat.div_div_eq_div_mul, leN_div]
    simpa using leN_byte l k
theorem pow256 (k : Nat) : 256 ^ k = 2 ^ (8 * k) := by rw [Nat.pow_mul]
theorem byte_part (s : List UInt8) (at_ t : Nat) (h : at_ % 8 + t ≤ 8) : (s.getD (at_ / 8) 0).toNat / 2 ^ (at_ % 8) % 2 ^ t = leN s / 2 ^ at_ % 2 ^ t := by
  rw [← leN_byte]
  have e1 : leN s / 2 ^ at_ = leN s / 256 ^ (at_ / 8) / 2 ^ (at_ % 8) := by
    rw [Nat.div_div_eq_div_mul, pow256, ← Nat.pow_add]
    congr 2
    omega
  rw [e1]
  generalize leN s / 256 ^ (at_ / 8) = M
  have e2 : (256 : Nat) = 2 ^ (at_ % 8) * 2 ^ (8 - at_ % 8) := by
    rw [← Nat.pow_add, show at_ % 8 + (8 - at_ % 8) = 8 by omega]
  rw [e2, Nat.mod_mul_right_div_self]
  exact Nat.mod_mod_of_dvd _ (Nat.pow_dvd_pow 2 (by omega))
theorem mod_step (x d t : Nat) : x % 2 ^ (d + t) = x % 2 ^ d + 2 ^ d * (x / 2 ^ d % 2 ^ t) := by rw [Nat.pow_add, Nat.mod_mul]
theorem fits_last (s : List UInt8) (n : Nat) (h : s.length = (n + 7) / 8) : leN s < 2 ^ n ↔ ¬ (n % 8 ≠ 0 ∧ (s.getD ((n + 7) / 8 - 1) 0).toNat / 2 ^ (n % 8) ≠ 0) := by
  have hlt := leN_lt s
  by_cases h0 : n % 8 = 0
  · have e : 256 ^ s.length = 2 ^ n := by rw [pow256, h]; congr 1; omega
    rw [e] at hlt
    simp [h0, hlt]
  · have hk : (n + 7) / 8 = n / 8 + 1 := by omega
    rw [hk, Nat.add_sub_cancel, ← leN_byte]
    rw [h, hk] at hlt
    have e1 : leN s / 256 ^ (n / 8) < 256 := by
      rw [Nat.div_lt_iff_lt_mul (Nat.pow_pos (by omega)), Nat.mul_comm, ← Nat.pow_succ]
      exact hlt
    rw [Nat.mod_eq_of_lt e1]
    have e2 : 2 ^ n = 2 ^ (n % 8) * 256 ^ (n / 8) := by
      rw [pow256, ← Nat.pow_add]
      congr 1; omega
    rw [e2, ← Nat.div_lt_iff_lt_mul (Nat.pow_pos (by omega))]
    simp only [ne_eq, h0, not_false_eq_true, true_and, Decidable.not_not]
    rw [Nat.div_eq_zero_iff]
    have := Nat.two_pow_pos (n % 8)
    omega

/-- So many bytes of a number, the lowest first. -/
def leB (N : Nat) : Nat → List UInt8
  | 0 => []
  | k + 1 => UInt8.ofNat N :: leB (N / 256) k
@[simp] theorem leB_length (N k : Nat) : (leB N k).length = k := by
  induction k generalizing N with
  | zero => rfl
  | succ k ih => simp [leB, ih]
theorem leB_snoc (N k : Nat) : leB N (k + 1) = leB N k ++ [UInt8.ofNat (N / 256 ^ k)] := by
  induction k generalizing N with
  | zero => simp [leB]
  | succ k ih =>
    rw [leB, ih, leB, List.cons_append, Nat.div_div_eq_div_mul, Nat.pow_succ, Nat.mul_comm 256]
theorem ofNat_mod (x y : Nat) (h : x % 256 = y % 256) : UInt8.ofNat x = UInt8.ofNat y := by
  apply UInt8.toNat_inj.1
  simpa using h
theorem leB_add (N c k : Nat) : leB (N + c * 256 ^ k) k = leB N k := by
  induction k generalizing N c with
  | zero => rfl
  | succ k ih =>
    simp only [leB]
    have e : N + c * 256 ^ (k + 1) = N + 256 * (c * 256 ^ k) := by rw [Nat.pow_succ]; ac_rfl
    rw [e, Nat.add_mul_div_left _ _ (by omega : 0 < 256), ih]
    rw [ofNat_mod (N + 256 * (c * 256 ^ k)) N (by omega)]
theorem leN_leB (N k : Nat) : leN (leB N k) = N % 256 ^ k := by
  induction k generalizing N with
  | zero => simp [leB, leN, Nat.mod_one]
  | succ k ih =>
    simp only [leB, leN, ih]
    rw [Nat.pow_succ, Nat.mul_comm (256 ^ k), Nat.mod_mul]
    simp
theorem leB_leN : ∀ s : List UInt8, leB (leN s) s.length = s
  | [] => rfl
  | b :: l => by
    simp only [List.length_cons, leB, leN_div, leB_leN l]
    congr 1
    apply UInt8.toNat_inj.1
    simp only [UInt8.toNat_ofNat']
    exact leN_mod b l

/-- Numbers of w bits each, as one number. -/
def packN (w : Nat) : List Nat → Nat
  | [] => 0
  | n :: l => n + 2 ^ w * packN w l
theorem packN_snoc (w : Nat) : ∀ (l : List Nat) (n : Nat), packN w (l ++ [n]) = packN w l + n * 2 ^ (l.length * w)
  | [], n => by simp [packN]
  | m :: l, n => by
    simp only [List.cons_append, packN, packN_snoc w l n, List.length_cons]
    rw [Nat.mul_add, ← Nat.add_assoc, show (l.length + 1) * w = w + l.length * w by rw [Nat.add_mul, Nat.one_mul, Nat.add_comm], Nat.pow_add]
    congr 1
    ac_rfl
theorem packN_take {w : Nat} {l : List Nat} {k : Nat} (h : k < l.length) : packN w (l.take (k + 1)) = packN w (l.take k) + l[k] * 2 ^ (k * w) := by
  rw [List.take_succ_eq_append_getElem h, packN_snoc, List.length_take, Nat.min_eq_left (by omega)]
theorem packN_lt (w : Nat) : ∀ l : List Nat, (∀ n ∈ l, n < 2 ^ w) → packN w l < 2 ^ (l.length * w)
  | [], h => by simp [packN]
  | n :: l, h => by
    have h1 := packN_lt w l fun m hm => h m (List.mem_cons_of_mem _ hm)
    have h2 := h n List.mem_cons_self
    simp only [packN, List.length_cons]
    rw [show (l.length + 1) * w = w + l.length * w by rw [Nat.add_mul, Nat.one_mul, Nat.add_comm], Nat.pow_add]
    have : 2 ^ w * (packN w l + 1) ≤ 2 ^ w * 2 ^ (l.length * w) := Nat.mul_le_mul_left _ h1
    rw [Nat.mul_add] at this
    omega
def packB (w : Nat) (l : List Nat) : List UInt8 := leB (packN w l) ((l.length * w + 7) / 8)
theorem or_disj {x c k : Nat} (h : x < 2 ^ k) : x ||| c * 2 ^ k = x + c * 2 ^ k := by
  have := Nat.two_pow_add_eq_or_of_lt h c
  rw [Nat.or_comm, Nat.mul_comm c, ← this, Nat.add_comm]
theorem leB_last (N c h k : Nat) (hk : k = h / 8) (hN : N < 2 ^ h) : leB (N + c * 2 ^ h) (k + 1) = leB N k ++ [UInt8.ofNat (N / 256 ^ k + c * 2 ^ (h % 8))] := by
  have e : 2 ^ h = 2 ^ (h % 8) * 256 ^ k := by rw [pow256, ← Nat.pow_add]; congr 1; omega
  have e2 : N + c * 2 ^ h = N + (c * 2 ^ (h % 8)) * 256 ^ k := by rw [e]; ac_rfl
  rw [leB_snoc, e2, leB_add, Nat.add_mul_div_right _ _ (Nat.pow_pos (by omega))]
theorem last_lt (N h k : Nat) (hk : k = h / 8) (hN : N < 2 ^ h) : N / 256 ^ k < 2 ^ (h % 8) := by
  rw [Nat.div_lt_iff_lt_mul (Nat.pow_pos (by omega)), pow256, ← Nat.pow_add]
  rwa [show h % 8 + 8 * k = h by omega]
end Go.Spec
end

section
set_option linter.unusedVariables false
set_option linter.unusedSimpArgs false
namespace Go.Spec
open Go.AW Go.RowKit

theorem bl_leq : ∀ a b : List UInt8, (Op.bytesLess a b || a == b) = !Op.bytesLess b a
  | [], [] => by simp [Op.bytesLess]
  | [], b :: bs => by simp [Op.bytesLess]
  | a :: as, [] => by simp [Op.bytesLess]
  | a :: as, b :: bs => by
    have ih := bl_leq as bs
    simp only [Op.bytesLess]
    rcases (Classical.em (a = b)).elim (fun e => Or.inl e) (fun e => Or.inr (UInt8.lt_or_lt_of_ne e)) with rfl | h | h
    · have h1 : decide (a < a) = false := by simp
      rw [h1]
      simpa using ih
    · have h1 : decide (b < a) = false := by simp only [decide_eq_false_iff_not]; exact fun q => UInt8.lt_asymm h q
      have h2 : (b == a) = false := by simp only [beq_eq_false_iff_ne]; rintro rfl; exact UInt8.lt_irrefl _ h
      simp [h, h1, h2]
    · have h1 : decide (a < b) = false := by simp only [decide_eq_false_iff_not]; exact fun q => UInt8.lt_asymm h q
      have h2 : (a == b) = false := by simp only [beq_eq_false_iff_ne]; rintro rfl; exact UInt8.lt_irrefl _ h
      have h3 : (a :: as == b :: bs) = false := by
        simp only [beq_eq_false_iff_ne]; intro e; injection e with e; subst e; exact UInt8.lt_irrefl _ h
      simp [h, h1, h2, h3]
theorem ltB_leq (a b : ByteArray) : (Op.bytesLess a.toList b.toList || a.toList == b.toList) = !ltB b a := bl_leq _ _
theorem bl_irrefl : ∀ a : List UInt8, Op.bytesLess a a = false
  | [] => rfl
  | a :: l => by simp [Op.bytesLess, bl_irrefl l]
theorem bl_trans : ∀ a b c : List UInt8, Op.bytesLess a b = true → Op.bytesLess b c = true → Op.bytesLess a c = true
  | _, _, [], _, h2 => by simp [Op.bytesLess] at h2
  | [], _, c :: cs, _, _ => by simp [Op.bytesLess]
  | a :: as, [], c :: cs, h1, h2 => by simp [Op.bytesLess] at h1
  | a :: as, b :: bs, c :: cs, h1, h2 => by
    simp only [Op.bytesLess, Bool.or_eq_true, decide_eq_true_eq, Bool.and_eq_true, beq_iff_eq] at h1 h2 ⊢
    rcases h1 with h1 | ⟨rfl, h1⟩ <;> rcases h2 with h2 | ⟨rfl, h2⟩
    · exact .inl (UInt8.lt_trans h1 h2)
    · exact .inl h1
    · exact .inl h2
    · exact .inr ⟨rfl, bl_trans _ _ _ h1 h2⟩
theorem bl_total (a b : List UInt8) : Op.bytesLess a b = true ∨ a = b ∨ Op.bytesLess b a = true := by
  have := bl_leq a b
  cases h : Op.bytesLess b a with
  | true => simp
  | false =>
    rw [h] at this
    simp at this
    rcases this with h | h
    · simp [h]
    · simp [h]
end Go.Spec
end

section
set_option linter.unusedVariables false
set_option linter.unusedSimpArgs false
namespace Go.Spec
open Go.AW Go.RowKit

theorem nodup_le : ∀ (N : Nat) (l : List Nat), l.Nodup → (∀ x ∈ l, x < N) → l.length ≤ N
  | 0, l, _, h => by
    cases l with
    | nil => simp
    | cons a l => have := h a List.mem_cons_self; omega
  | N + 1, l, hn, h => by
    by_cases hm : N ∈ l
    · have := nodup_le N (l.erase N) (hn.erase N) fun x hx => by
        have h1 := h x (List.mem_of_mem_erase hx)
        have h2 : x ≠ N := fun e => by subst e; exact (List.Nodup.not_mem_erase hn) hx
        omega
      rw [List.length_erase_of_mem hm] at this
      have := List.length_pos_of_mem hm
      omega
    · have := nodup_le N l hn fun x hx => by
        have h1 := h x hx
        have h2 : x ≠ N := fun e => hm (e ▸ hx)
        omega
      omega
theorem nodup_all : ∀ (N : Nat) (l : List Nat), l.Nodup → (∀ x ∈ l, x < N) → (l.length = N ↔ ∀ j, j < N → j ∈ l)
  | 0, l, _, h => by
    cases l with
    | nil => simp
    | cons a l => have := h a List.mem_cons_self; omega
  | N + 1, l, hn, h => by
    by_cases hm : N ∈ l
    · have he : ∀ x ∈ l.erase N, x < N := fun x hx => by
        have h1 := h x (List.mem_of_mem_erase hx)
        have h2 : x ≠ N := fun e => by subst e; exact (List.Nodup.not_mem_erase hn) hx
        omega
      have ih := nodup_all N (l.erase N) (hn.erase N) he
      have hl := List.length_erase_of_mem hm
      have hp := List.length_pos_of_mem hm
      constructor
      · intro hN j hj
        rcases Nat.lt_or_ge j N with q | q
        · exact List.mem_of_mem_erase (ih.1 (by omega) j q)
        · rw [show j = N by omega]; exact hm
      · intro hall
        have := ih.2 fun j hj => (List.mem_erase_of_ne (by omega)).2 (hall j (by omega))
        omega
    · constructor
      · intro hN
        have := nodup_le N l hn fun x hx => by
          have h1 := h x hx
          have h2 : x ≠ N := fun e => hm (e ▸ hx)
          omega
        omega
      · intro hall; exact absurd (hall N (by omega)) hm

/-- Numbers, each once, in the order in which they come. -/
def onceN (l : List Nat) : List Nat := l.foldl (fun acc x => if x ∈ acc then acc else acc ++ [x]) []
theorem onceN_snoc (l : List Nat) (x : Nat) : onceN (l ++ [x]) = if x ∈ onceN l then onceN l else onceN l ++ [x] := by rw [onceN, List.foldl_append]; rfl
theorem onceN_spec (l : List Nat) : (onceN l).Nodup ∧ ∀ x, x ∈ onceN l ↔ x ∈ l := by
  have key : ∀ k, k ≤ l.length → (onceN (l.take k)).Nodup ∧ ∀ x, x ∈ onceN (l.take k) ↔ x ∈ l.take k := by
    intro k
    induction k with
    | zero => intro _; simp [onceN]
    | succ k ih =>
      intro hk
      obtain ⟨h1, h2⟩ := ih (by omega)
      rw [List.take_succ_eq_append_getElem (by omega), onceN_snoc]
      split
      · rename_i hm
        refine ⟨h1, fun x => ?_⟩
        rw [List.mem_append, List.mem_singleton, h2]
        exact ⟨.inl, fun h => h.elim id fun e => by rw [e]; exact (h2 _).1 hm⟩
      · rename_i hm
        refine ⟨?_, fun x => by rw [List.mem_append, List.mem_append, List.mem_singleton, h2]⟩
        rw [List.nodup_append]
        exact ⟨h1, by simp, fun a ha b hb => by rw [List.mem_singleton] at hb; subst hb; rintro rfl; exact hm ha⟩
  have := key l.length (Nat.le_refl _)
  rwa [List.take_length] at this
theorem once_all {l : List Nat} {N : Nat} (h : ∀ x ∈ l, x < N) : (onceN l).length = N ↔ ∀ j, j < N → j ∈ l := by
  obtain ⟨h1, h2⟩ := onceN_spec l
  rw [nodup_all N (onceN l) h1 fun x hx => h x ((h2 x).1 hx)]
  exact forall_congr' fun j => imp_congr_right fun _ => h2 j
theorem numE_lt {n w : Nat} {r r' : List UInt8} {l : List Nat} (h : numE n r = .ok (l, w, r')) : ∀ x ∈ l, x < 18446744073709551616 := by
  unfold numE at h
  split at h
  · cases h
  · rename_i w1 r1 _
    split at h
    · cases h
    · rename_i hw
      split at h
      · cases h
      · split at h
        · cases h
        · rename_i l1 hu
          injection h with h
          injection h with h1 h2
          subst h1
          unfold unpackE at hu
          split at hu
          · injection hu with hu
            subst hu
            intro x hx
            unfold unpackN at hx
            obtain ⟨i, _, rfl⟩ := List.mem_map.1 hx
            have : leN (r1.take ((n * w1 + 7) / 8)) / 2 ^ (i * w1) % 2 ^ w1 < 2 ^ w1 := Nat.mod_lt _ (Nat.two_pow_pos _)
            exact Nat.lt_of_lt_of_le this (Nat.pow_le_pow_right (by omega) (by omega : w1 ≤ 64))
          · cases hu
/-- Keys of a map, its values whole numbers. -/
def usedM (M : List (Int × AV)) (l : List Nat) : Prop := M.map (·.1) = (onceN l).map fun x => ((x : Nat) : Int)
theorem findM_none : ∀ {M : List (Int × AV)} {x : Int}, x ∉ M.map (·.1) → findM M x = none
  | [], x, h => rfl
  | (k, v) :: M, x, h => by
    simp only [List.map_cons, List.mem_cons, not_or] at h
    simp [findM, h.1, findM_none h.2]
theorem setM_keys : ∀ (M : List (Int × AV)) (x : Int) (v : AV), (setM M x v).map (·.1) = if x ∈ M.map (·.1) then M.map (·.1) else M.map (·.1) ++ [x]
  | [], x, v => by simp [setM]
  | (k, u) :: M, x, v => by
    by_cases h : x = k
    · simp [setM, h]
    · have := setM_keys M x v
      simp only [setM, h, if_false, List.map_cons, List.mem_cons, false_or, this]
      split <;> simp
theorem findM_setM : ∀ (M : List (Int × AV)) (x y : Int) (v : AV), findM (setM M x v) y = if y = x then some v else findM M y
  | [], x, y, v => by simp [setM, findM]
  | (k, u) :: M, x, y, v => by
    by_cases h : x = k
    · subst h
      by_cases h2 : y = x
      · simp [setM, findM, h2]
      · simp [setM, findM, h2]
    · by_cases h2 : y = k
      · have : y ≠ x := fun e => h (e ▸ h2)
        simp [setM, h, findM, h2]
        intro e; exact absurd e.symm h
      · simp [setM, h, findM, h2, findM_setM M x y v]
end Go.Spec
end

section
set_option linter.unusedVariables false
set_option linter.unusedSimpArgs false
namespace Go.Spec
open Go.AW Go.RowKit

theorem bitLenAux_iff : ∀ (f x k : Nat), x < 2 ^ f → (Lib.bitLenAux f x ≤ k ↔ x < 2 ^ k)
  | 0, x, k, h => by
    have : x = 0 := by simpa using h
    subst this
    simp [Lib.bitLenAux, Nat.two_pow_pos]
  | f + 1, x, k, h => by
    simp only [Lib.bitLenAux]
    split
    · rename_i h0; subst h0; simp [Nat.two_pow_pos]
    · cases k with
      | zero => simp; omega
      | succ k =>
        have := bitLenAux_iff f (x / 2) k (by rw [Nat.pow_succ] at h; omega)
        rw [Nat.pow_succ]
        omega
theorem bitLen_iff {x : Nat} (k : Nat) (h : x < 18446744073709551616) : Lib.bitLen x ≤ k ↔ x < 2 ^ k := bitLenAux_iff 64 x k h
theorem or_lt_iff {a b k : Nat} : a ||| b < 2 ^ k ↔ a < 2 ^ k ∧ b < 2 ^ k :=
  ⟨fun h => ⟨Nat.lt_of_le_of_lt Nat.left_le_or h, Nat.lt_of_le_of_lt Nat.right_le_or h⟩, fun ⟨h1, h2⟩ => Nat.or_lt_two_pow h1 h2⟩
theorem orAll_iff (l : List Nat) (k : Nat) : orAll l < 2 ^ k ↔ ∀ n ∈ l, n < 2 ^ k := by
  have key : ∀ (l : List Nat) (a : Nat), l.foldl (· ||| ·) a < 2 ^ k ↔ a < 2 ^ k ∧ ∀ n ∈ l, n < 2 ^ k := by
    intro l
    induction l with
    | nil => intro a; simp
    | cons n l ih =>
      intro a
      rw [List.foldl_cons, ih, or_lt_iff]
      simp only [List.mem_cons, forall_eq_or_imp]
      exact and_assoc
  have := key l 0
  simpa [orAll, Nat.two_pow_pos] using this
theorem widthN_iff {l : List Nat} (k : Nat) (h : ∀ n ∈ l, n < 18446744073709551616) : widthN l ≤ k ↔ ∀ n ∈ l, n < 2 ^ k := by
  unfold widthN
  rw [bitLen_iff k (orAll_lt h), orAll_iff]
end Go.Spec
end
