/-
  PLAIN LAWS, part 9: a number's bytes by their definition. No program.
-/
import Derived.Test.YtdfeadgholpcgaaMs
import Derived.Test.YtdfeadgholpcgaaMy

section
set_option linter.unusedVariables false
set_option linter.unusedSimpArgs false
namespace Go.Spec
open Go.AW Go.RowKit

/-- Byte j of a number of so many bytes, with a mark in the first one. -/
def refByte (size mark n j : Nat) : UInt8 :=
  (if size - 1 - j < 8 then UInt8.ofNat (n / 2 ^ (8 * (size - 1 - j))) else 0) + (if j = 0 then UInt8.ofNat mark else 0)
def refU (size mark n : Nat) : List UInt8 := (List.range size).map (refByte size mark n)
def refSize (n : Nat) : Nat := if n < 64 then 1 else if n < 16384 then 2 else if n < 1073741824 then 4 else 9
def refMark (n : Nat) : Nat := if n < 64 then 0 else if n < 16384 then 64 else if n < 1073741824 then 128 else 192
theorem refU_eq (n : Nat) : refU (refSize n) (refMark n) n = uintB n := by
  unfold refSize refMark uintB
  by_cases h1 : n < 64
  · simp [h1, refU, refByte, List.range_succ]
  · by_cases h2 : n < 16384
    · simp only [h1, h2, if_true, if_false, refU, refByte, List.range_succ, List.range_zero, List.nil_append, List.map_append, List.map_cons, List.map_nil, List.cons_append, beB]
      simp only [List.cons.injEq, and_true]
      refine ⟨?_, ?_⟩
      · apply UInt8.toNat_inj.1; simp <;> omega
      · apply UInt8.toNat_inj.1; simp <;> omega
    · by_cases h3 : n < 1073741824
      · simp only [h1, h2, h3, if_true, if_false, refU, refByte, List.range_succ, List.range_zero, List.nil_append, List.map_append, List.map_cons, List.map_nil, List.cons_append, beB]
        simp only [List.cons.injEq, and_true]
        refine ⟨?_, ?_, ?_, ?_⟩ <;> (apply UInt8.toNat_inj.1; simp <;> omega)
      · simp only [h1, h2, h3, if_false, refU, refByte, List.range_succ, List.range_zero, List.nil_append, List.map_append, List.map_cons, List.map_nil, List.cons_append, beB]
        simp
theorem u8add (a b : UInt8) : IntKind.u8.wrap ((a.toNat : Int) + (b.toNat : Int)) = ((a + b).toNat : Int) := by
  rw [IntKind.wrap_u8, UInt8.toNat_add]; omega
/-- Comparisons with a numeral, back among the natural numbers. -/
theorem nI1 (n k : Nat) : (((n : Nat) : Int) < (no_index (@OfNat.ofNat Int k instOfNat))) = (n < (@OfNat.ofNat Nat k (instOfNatNat k))) := by
  simp only [eq_iff_iff]; exact Int.ofNat_lt
theorem nI2 (n k : Nat) : ((no_index (@OfNat.ofNat Int k instOfNat)) < ((n : Nat) : Int)) = ((@OfNat.ofNat Nat k (instOfNatNat k)) < n) := by
  simp only [eq_iff_iff]; exact Int.ofNat_lt
theorem nI3 (n k : Nat) : (((n : Nat) : Int) ≤ (no_index (@OfNat.ofNat Int k instOfNat))) = (n ≤ (@OfNat.ofNat Nat k (instOfNatNat k))) := by
  simp only [eq_iff_iff]; exact Int.ofNat_le
theorem nI4 (n k : Nat) : ((no_index (@OfNat.ofNat Int k instOfNat)) ≤ ((n : Nat) : Int)) = ((@OfNat.ofNat Nat k (instOfNatNat k)) ≤ n) := by
  simp only [eq_iff_iff]; exact Int.ofNat_le
theorem nI5 (n k : Nat) : (((n : Nat) : Int) = (no_index (@OfNat.ofNat Int k instOfNat))) = (n = (@OfNat.ofNat Nat k (instOfNatNat k))) := by
  simp only [eq_iff_iff]; exact Int.ofNat_inj
theorem nI6 (n k : Nat) : (((n : Nat) : Int) == (no_index (@OfNat.ofNat Int k instOfNat))) = (n == (@OfNat.ofNat Nat k (instOfNatNat k))) := by
  rw [Bool.eq_iff_iff, beq_iff_eq, beq_iff_eq]; exact Int.ofNat_inj
theorem nI7 (n k : Nat) : (((n : Nat) : Int) != (no_index (@OfNat.ofNat Int k instOfNat))) = (n != (@OfNat.ofNat Nat k (instOfNatNat k))) := by simp only [bne, nI6]
end Go.Spec
end

section
set_option linter.unusedVariables false
set_option linter.unusedSimpArgs false
namespace Go.Spec
open Go.AW Go.RowKit

def bitN (N k : Nat) : Bool := decide (N / 2 ^ k % 2 = 1)
def tcell (b : Bool) : AV := .v (.bool b)
def tcs (l : List Bool) : List AV := l.map tcell
@[simp] theorem tcs_length (l : List Bool) : (tcs l).length = l.length := by simp [tcs]
@[simp] theorem tcs_getElem {l : List Bool} {i : Nat} (h : i < (tcs l).length) : (tcs l)[i] = .v (.bool (l[i]'(by simpa using h))) := by simp [tcs, tcell]
def bitsOf (N n : Nat) : List Bool := (List.range n).map (bitN N)
@[simp] theorem bitsOf_length (N n : Nat) : (bitsOf N n).length = n := by simp [bitsOf]
theorem bitsOf_succ (N n : Nat) : bitsOf N (n + 1) = bitsOf N n ++ [bitN N n] := by simp [bitsOf, List.range_succ]
theorem bitsOf_get {N n k : Nat} (h : k < n) : (bitsOf N n)[k]'(by simpa using h) = bitN N k := by simp [bitsOf]
/-- Bits as a number. -/
def bitsV : List Bool → Nat
  | [] => 0
  | b :: l => (if b then 1 else 0) + 2 * bitsV l
theorem bitsV_snoc (l : List Bool) (b : Bool) : bitsV (l ++ [b]) = bitsV l + (if b then 2 ^ l.length else 0) := by
  induction l with
  | nil => simp [bitsV]
  | cons c l ih =>
    simp only [List.cons_append, bitsV, ih, List.length_cons, Nat.pow_succ]
    cases b <;> simp <;> omega
theorem bitsV_lt (l : List Bool) : bitsV l < 2 ^ l.length := by
  induction l with
  | nil => simp [bitsV]
  | cons c l ih => simp only [bitsV, List.length_cons, Nat.pow_succ]; cases c <;> simp <;> omega
theorem bit_step (N k : Nat) : N % 2 ^ (k + 1) = N % 2 ^ k + (if bitN N k then 2 ^ k else 0) := by
  rw [mod_step]
  unfold bitN
  have : N / 2 ^ k % 2 ^ 1 = 0 ∨ N / 2 ^ k % 2 ^ 1 = 1 := by omega
  rcases this with h | h
  · have h' : N / 2 ^ k % 2 = 0 := h
    simp [h']
  · have h' : N / 2 ^ k % 2 = 1 := h
    simp [h']
theorem bitsV_of (N n : Nat) : bitsV (bitsOf N n) = N % 2 ^ n := by
  induction n with
  | zero => simp [bitsOf, bitsV, Nat.mod_one]
  | succ n ih => rw [bitsOf_succ, bitsV_snoc, ih, bitsOf_length, bit_step]
def bitsL (w : Nat) (l : List Nat) : List Bool := l.flatMap fun n => bitsOf n w
theorem bitsL_length (w : Nat) (l : List Nat) : (bitsL w l).length = l.length * w := by
  induction l with
  | nil => simp [bitsL]
  | cons n l ih =>
    have : bitsL w (n :: l) = bitsOf n w ++ bitsL w l := by simp [bitsL]
    rw [this, List.length_append, ih, bitsOf_length, List.length_cons, Nat.add_mul, Nat.one_mul, Nat.add_comm]
theorem bitsV_append (a b : List Bool) : bitsV (a ++ b) = bitsV a + 2 ^ a.length * bitsV b := by
  induction a with
  | nil => simp [bitsV]
  | cons c a ih => simp only [List.cons_append, bitsV, ih, List.length_cons, Nat.pow_succ]; rw [Nat.mul_add, ← Nat.mul_assoc, Nat.mul_comm 2 (2 ^ a.length)]; omega
theorem bitsV_L {w : Nat} : ∀ {l : List Nat}, (∀ n ∈ l, n < 2 ^ w) → bitsV (bitsL w l) = packN w l
  | [], _ => rfl
  | n :: l, h => by
    have e : bitsL w (n :: l) = bitsOf n w ++ bitsL w l := by simp [bitsL]
    rw [e, bitsV_append, bitsV_of, bitsOf_length, bitsV_L fun m hm => h m (List.mem_cons_of_mem _ hm), packN, Nat.mod_eq_of_lt (h n List.mem_cons_self)]
theorem bitsL_take {w : Nat} {l : List Nat} {k : Nat} (h : k < l.length) : bitsL w (l.take (k + 1)) = bitsL w (l.take k) ++ bitsOf l[k] w := by
  rw [List.take_succ_eq_append_getElem h, bitsL, List.flatMap_append]; simp only [bitsL, List.flatMap_cons, List.flatMap_nil, List.append_nil]
theorem leB_set : ∀ (m k N c : Nat), k < m → N / 256 ^ k % 256 + c < 256 → leB (N + c * 256 ^ k) m = (leB N m).set k (UInt8.ofNat (N / 256 ^ k % 256 + c))
  | 0, k, N, c, hk, _ => by omega
  | m + 1, 0, N, c, _, hc => by
    simp only [Nat.pow_zero, Nat.div_one, Nat.mul_one] at hc ⊢
    simp only [leB, List.set_cons_zero]
    have e : (N + c) / 256 = N / 256 := by omega
    rw [e, ofNat_mod (N + c) (N % 256 + c) (by omega)]
  | m + 1, k + 1, N, c, hk, hc => by
    have e1 : N / 256 ^ (k + 1) = N / 256 / 256 ^ k := by rw [Nat.pow_succ, Nat.mul_comm, Nat.div_div_eq_div_mul]
    rw [e1] at hc ⊢
    have e2 : N + c * 256 ^ (k + 1) = N + 256 * (c * 256 ^ k) := by rw [Nat.pow_succ]; ac_rfl
    simp only [leB, List.set_cons_succ]
    rw [e2, Nat.add_mul_div_left _ _ (by omega : 0 < 256), leB_set m k (N / 256) c (by omega) hc]
    rw [ofNat_mod (N + 256 * (c * 256 ^ k)) N (by omega)]
theorem leB_zero (m : Nat) : leB 0 m = List.replicate m 0 := by
  induction m with
  | zero => rfl
  | succ m ih => simp [leB, ih, List.replicate_succ]
theorem leB_get {m k N : Nat} (h : k < m) : (leB N m)[k]'(by simpa using h) = UInt8.ofNat (N / 256 ^ k) := by
  induction m generalizing k N with
  | zero => omega
  | succ m ih =>
    cases k with
    | zero => simp [leB]
    | succ k =>
      simp only [leB, List.getElem_cons_succ]
      rw [ih (by omega), Nat.div_div_eq_div_mul, Nat.pow_succ, Nat.mul_comm 256]
def bytesOfBits (l : List Bool) : List UInt8 := leB (bitsV l) ((l.length + 7) / 8)
theorem width_take {l : List Nat} (h : ∀ n ∈ l, n < 18446744073709551616) {k : Nat} (hk : k < l.length) (w : Nat) : widthN (l.take (k + 1)) ≤ w ↔ widthN (l.take k) ≤ w ∧ l[k] < 2 ^ w := by
  rw [widthN_iff w fun n hn => h n (List.mem_of_mem_take hn), widthN_iff w fun n hn => h n (List.mem_of_mem_take hn), List.take_succ_eq_append_getElem hk]
  simp only [List.mem_append, List.mem_singleton]
  constructor
  · intro q; exact ⟨fun n hn => q n (.inl hn), q _ (.inr rfl)⟩
  · rintro ⟨q1, q2⟩ n (hn | rfl)
    · exact q1 n hn
    · exact q2
end Go.Spec
end

section
set_option linter.unusedVariables false
set_option linter.unusedSimpArgs false
namespace Go.Proofs.Ytdfeadgholpcgaa
open Go.AW Go.RowKit Go.Spec Go.Proofs.Ytdfeadgholpcgaa.Ty

attribute [local irreducible] awp awpOps awpX stepA stepX plainA plainX bindA bindE bindL gstep condA callA thenA inBlockA retA
section
set_option maxRecDepth 100000
set_option maxHeartbeats 1000000
theorem r_uint_calls (x : Nat) (xi : Int) (exi : xi = x) (σ : St) (K : AV → St → Prop) (hq : σ.Wf) (hx64 : x < 18446744073709551616) (h : ∀ σ', Ext σ σ' → K (.v (.string (bs (uintB x)))) σ') :
    ACalls Try.prog 23 [.v (.int .u64 xi)] σ K := by
  subst exi
  rw [← refU_eq] at h
  refine acalls_of hm Try.func23 rfl (by decide) rfl rfl (by kernel_rfl) ?_
  have cs : (refSize x = 1 ∧ refMark x = 0 ∧ (x : Int) < 64) ∨ (refSize x = 2 ∧ refMark x = 64 ∧ ¬ (x : Int) < 64 ∧ (x : Int) < 16384) ∨ (refSize x = 4 ∧ refMark x = 128 ∧ ¬ (x : Int) < 64 ∧ ¬ (x : Int) < 16384 ∧ (x : Int) < 1073741824) ∨
      (refSize x = 9 ∧ refMark x = 192 ∧ ¬ (x : Int) < 64 ∧ ¬ (x : Int) < 16384 ∧ ¬ (x : Int) < 1073741824) := by
    unfold refSize refMark
    by_cases h1 : x < 64
    · exact .inl ⟨by simp [h1], by simp [h1], by omega⟩
    · by_cases h2 : x < 16384
      · exact .inr (.inl ⟨by simp [h1, h2], by simp [h1, h2], by omega, by omega⟩)
      · by_cases h3 : x < 1073741824
        · exact .inr (.inr (.inl ⟨by simp [h1, h2, h3], by simp [h1, h2, h3], by omega, by omega, by omega⟩))
        · exact .inr (.inr (.inr ⟨by simp [h1, h2, h3], by simp [h1, h2, h3], by omega, by omega, by omega⟩))
  have hs9 : refSize x ≤ 9 ∧ 1 ≤ refSize x := by rcases cs with ⟨h, _⟩ | ⟨h, _⟩ | ⟨h, _⟩ | ⟨h, _⟩ <;> omega
  have hm256 : refMark x < 256 := by rcases cs with ⟨_, h, _⟩ | ⟨_, h, _⟩ | ⟨_, h, _⟩ | ⟨_, h, _⟩ <;> omega
  generalize hsz : refSize x = sz at *
  generalize hmk : refMark x = mk at *
  rcases cs with ⟨hs, hk, d1⟩ | ⟨hs, hk, d1, d2⟩ | ⟨hs, hk, d1, d2, d3⟩ | ⟨hs, hk, d1, d2, d3⟩
  all_goals
    simp [Try.f23, *, -hs, -hk, i64w]
    refine loop_ind (fun (j : Nat) ρ σ1 => ∃ o, ρ.length = 45 ∧ slot ρ 0 = .v (.int .u64 x) ∧ slot ρ 3 = .v (.int .i64 sz) ∧ slot ρ 4 = .v (.int .u64 mk) ∧ slot ρ 5 = .sl o j (bcs ((refU sz mk x).take j)) ∧ slot ρ 6 = .v (.int .i64 ((sz : Int) - 1 - j)) ∧ j ≤ sz ∧
      ExtB [] σ σ1 ∧ Own1 σ σ1 o j) (fun j => sz - j) ?_ 0 _ _ ?start
    case start => exact ⟨.full, rfl, rfl, by rw [hs]; rfl, by rw [hk]; rfl, rfl, by rw [hs]; rfl, Nat.zero_le _, ExtB.refl _ _, Own1.nil _ _⟩
    rintro j ρ σ1 ⟨o, hlen, g0, g3, g4, g5, g6, hj, hx, ho⟩ next hnext
    by_cases hlt : j < sz
    · have c1 : (0 : Int) ≤ (sz : Int) - 1 - j := by omega
      have c2 : IntKind.i64.wrap ((sz : Int) - 1) = (sz : Int) - 1 := i64w (by omega) (by omega)
      have c3 : IntKind.i64.wrap ((sz : Int) - 1 - j - 1) = (sz : Int) - 1 - ((j + 1 : Nat) : Int) := by rw [i64w (by omega) (by omega)]; omega
      have c4 := u8w mk
      have c4' : IntKind.u8.wrap ((UInt8.ofNat mk).toNat : Int) = ((UInt8.ofNat mk).toNat : Int) := by have := u8add 0 (UInt8.ofNat mk); simpa using this
      have hrl : (refU sz mk x).length = sz := by simp [refU]
      obtain ⟨o3, σ3, e3, hg3⟩ := append1 (P := Try.prog) (t := 34) (tx := 34) (cs := bcs ((refU sz mk x).take j)) (c := bcell (refByte sz mk x j)) ho.ap elem34 u34 (by simp [hrl]; omega) rfl (by omega) (by omega) (hx.wf hq)
      obtain ⟨hx3, ho3⟩ := hx.grew hq ho hg3
      have htk : bcs ((refU sz mk x).take (j + 1)) = bcs ((refU sz mk x).take j) ++ [bcell (refByte sz mk x j)] := by
        rw [List.take_succ_eq_append_getElem (by omega), bcs_append]; simp [refU, bcs]
      simp only [bcell] at e3 htk
      generalize bcs ((refU sz mk x).take j) = acc at *
      obtain ⟨i, hi⟩ : ∃ i : Nat, sz - 1 - j = i := ⟨_, rfl⟩
      have hi' : (sz : Int) - 1 - j = i := by omega
      rw [hi'] at c1 c3 g6
      have c5 : IntKind.i64.wrap (8 * (i : Int)) = ((8 * i : Nat) : Int) := by rw [i64w (by omega) (by omega)]; omega
      have c6 : IntKind.u64.wrap ((8 * i : Nat) : Int) = ((8 * i : Nat) : Int) := u64n (by omega)
      have c8 : min (8 * i) 64 = 8 * i := by omega
      have c9 := shrN x (8 * i)
      have c10 := u8w (x / 2 ^ (8 * i))
      have c11 : ((i : Int) = (sz : Int) - 1) = (j = 0) := by simp only [eq_iff_iff]; omega
      have c12 : ((i : Int) == (sz : Int) - 1) = decide (j = 0) := by rw [Bool.eq_iff_iff]; simp; omega
      have hrb : refByte sz mk x j = (if i < 8 then UInt8.ofNat (x / 2 ^ (8 * i)) else 0) + (if j = 0 then UInt8.ofNat mk else 0) := by unfold refByte; rw [hi]
      have fin : ∀ ρ', ρ'.length = 45 → slot ρ' 0 = .v (.int .u64 x) → slot ρ' 3 = .v (.int .i64 sz) → slot ρ' 4 = .v (.int .u64 mk) → slot ρ' 5 = .sl o3 (j + 1) (acc ++ [.v (.int .u8 (refByte sz mk x j).toNat)]) → slot ρ' 6 = .v (.int .i64 ((sz : Int) - 1 - ((j + 1 : Nat) : Int))) → next ρ' σ3 := fun ρ' p1 p2 p3 p4 p5 p6 =>
        hnext (j + 1) ρ' σ3 ⟨o3, p1, p2, p3, p4, by rw [htk]; exact p5, p6, by omega, hx3, ho3⟩ (by omega)
      clear hnext htk
      rw [hrb] at e3 fin
      by_cases i8 : i < 8 <;> by_cases j0 : j = 0
      all_goals
        simp only [i8, j0, if_true, if_false, UInt8.add_zero, UInt8.zero_add, UInt8.toNat_zero, Int.natCast_zero] at e3 fin
        simp [hlen, g0, g3, g4, g5, g6, c1, c2, c3, c4, c4', c5, c6, c8, c9, c10, c11, c12, i8, j0, e3, nI1, u8add, -Int.natCast_add, -Int.natCast_mul, -Int.natCast_ediv, -UInt8.toNat_ofNat', -UInt8.toNat_add]
        refine fin _ ?_ ?_ ?_ ?_ ?_ ?_
        · simp [hlen]
        · simp [hlen, g0]
        · simp [hlen, g3]
        · simp [hlen, g4]
        · simp [hlen, -UInt8.toNat_ofNat', -UInt8.toNat_add]
        · simp [hlen, j0, -Int.natCast_add]
    · have hje : j = sz := by omega
      subst hje
      have hrl : (refU j mk x).take j = refU j mk x := List.take_of_length_le (by simp [refU])
      have hrl2 : (refU j mk x).length = j := by simp [refU]
      rw [hrl] at g5
      have c1 : ¬ (0 : Int) ≤ (j : Int) - 1 - j := by omega
      generalize (j : Int) - 1 - j = i at *
      simp [hlen, g0, g3, g4, g5, g6, c1, hrl2, bytesA_bcs]
      exact h σ1 hx.ext
theorem r_text_calls (s : ByteArray) (σ : St) (K : AV → St → Prop) (hq : σ.Wf) (hs : s.size ≤ 4611686018427387904) (h : ∀ σ', Ext σ σ' → K (.v (.string (bs (textB s)))) σ') :
    ACalls Try.prog 25 [.v (.string s)] σ K := by
  refine acalls_of hm Try.func25 rfl (by decide) rfl rfl (by kernel_rfl) ?_
  have hu := uintB_length s.size
  simp [Try.f25]
  refine r_uint_calls s.size _ (u64n (by omega)) σ _ hq (by omega) fun σ1 hx => ?_
  have hb : bs (uintB s.size) ++ s = bs (textB s) := by
    rw [← bs_inv s, bs_append, textB, bs_inv]
  have hle : (uintB s.size).length + s.size ≤ 9223372036854775807 := by omega
  simp [strBin, hb, hle]
  exact h σ1 hx
end
end Go.Proofs.Ytdfeadgholpcgaa
end

section
set_option linter.unusedVariables false
set_option linter.unusedSimpArgs false
namespace Go.Proofs.Ytdfeadgholpcgaa
open Go.AW Go.RowKit Go.Spec Go.Proofs.Ytdfeadgholpcgaa.Ty

attribute [local irreducible] awp awpOps awpX stepA stepX plainA plainX bindA bindE bindL gstep condA callA thenA inBlockA retA
/-- A reference's cursor's cells. -/
def rcC (s : List UInt8) (a e : Nat) : List AV := [.v (.string (bs s)), .v (.int .i64 (a : Int)), .v (.int .i64 (e : Int))]
theorem len_least {x n : Nat} (h : (n = 1 ∧ x < 64) ∨ (n = 2 ∧ x < 16384) ∨ (n = 4 ∧ x < 1073741824) ∨ (n = 9 ∧ x < 18446744073709551616)) : (uintB x).length = n ↔ ¬ x < leastS n := by
  unfold uintB leastS
  rcases h with ⟨rfl, h⟩ | ⟨rfl, h⟩ | ⟨rfl, h⟩ | ⟨rfl, h⟩ <;> by_cases h1 : x < 64 <;> by_cases h2 : x < 16384 <;> by_cases h3 : x < 1073741824 <;> simp [h1, h2, h3] <;> omega
section
set_option maxRecDepth 100000
set_option maxHeartbeats 1000000
theorem r_left_calls (id : Nat) (s : List UInt8) (a e : Nat) (σ : St) (K : AV → St → Prop) (hl : s.length ≤ 9223372036854775807) (ha : a ≤ s.length) (hb : σ.box id = some (rcC s a e)) (h : K (.v (.int .i64 ((s.length - a : Nat) : Int))) σ) :
    ACalls Try.prog 60 [.ptr id 0] σ K := by
  refine acalls_of hm Try.func60 rfl (by decide) rfl rfl (by kernel_rfl) ?_
  have c1 : IntKind.i64.wrap ((s.length : Int) - a) = ((s.length - a : Nat) : Int) := by rw [i64w (by omega) (by omega)]; omega
  simp [Try.f60, hb, rcC, c1]
  exact h
theorem r_fail_calls (id : Nat) (s : List UInt8) (a : Nat) (e' : Int) (e'' : Nat) (he : e' = e'') (σ : St) (K : AV → St → Prop) (hb : σ.box id = some (rcC s a 0)) (h : ∀ σ', ExtB [id] σ σ' → σ'.box id = some (rcC s a e'') → K (.tup []) σ') :
    ACalls Try.prog 61 [.ptr id 0, .v (.int .i64 e')] σ K := by
  subst he
  refine acalls_of hm Try.func61 rfl (by decide) rfl rfl (by kernel_rfl) ?_
  simp [Try.f61, hb, rcC]
  exact h _ (ExtB.setBox _ _ _) (by simp [rcC])
theorem r_size_calls (b : UInt8) (σ : St) (K : AV → St → Prop) (h : K (.v (.int .i64 (sizeS b : Int))) σ) :
    ACalls Try.prog 74 [.v (.int .u8 (b.toNat : Int))] σ K := by
  refine acalls_of hm Try.func74 rfl (by decide) rfl rfl (by kernel_rfl) ?_
  unfold sizeS at h
  by_cases h1 : b.toNat < 64
  · simp [Try.f74, nI1, h1]; simpa [h1] using h
  · by_cases h2 : b.toNat < 128
    · simp [Try.f74, nI1, h1, h2]; simpa [h1, h2] using h
    · by_cases h3 : b.toNat < 192
      · simp [Try.f74, nI1, h1, h2, h3]; simpa [h1, h2, h3] using h
      · simp [Try.f74, nI1, h1, h2, h3]; simpa [h1, h2, h3] using h
theorem r_done_calls (id : Nat) (s : List UInt8) (a e : Nat) (σ : St) (K : AV → St → Prop) (hl : s.length ≤ 9223372036854775807) (ha : a ≤ s.length) (hb : σ.box id = some (rcC s a e)) (h : K (.v (.int .i64 (doneS (s.drop a) e : Int))) σ) :
    ACalls Try.prog 40 [.ptr id 0] σ K := by
  refine acalls_of hm Try.func40 rfl (by decide) rfl rfl (by kernel_rfl) ?_
  by_cases he : e = 0
  · subst he
    simp [Try.f40, hb, rcC, pickA_bool]
    refine r_left_calls id s a 0 σ _ hl ha hb ?_
    by_cases hr : s.length - a = 0
    · have : s.drop a = [] := List.drop_of_length_le (by omega)
      simp [nI2, hr, pickA_bool, hb, rcC]
      simpa [doneS, this] using h
    · have : s.drop a ≠ [] := fun q => hr (by have := congrArg List.length q; simpa using this)
      have hr' : 0 < s.length - a := by omega
      simp [nI2, hr', pickA_bool]
      simpa [doneS, this] using h
  · have he' : (e == 0) = false := by simpa using he
    simp [Try.f40, hb, rcC, pickA_bool, he']
    simpa [doneS, he] using h
theorem r_byte_calls (id : Nat) (s : List UInt8) (a e : Nat) (σ : St) (K : AV → St → Prop) (hl : s.length < 9223372036854775807) (ha : a ≤ s.length) (hb : σ.box id = some (rcC s a e))
    (h : ∀ a' σ', a' ≤ s.length → s.drop a' = (byteS (s.drop a) e).2.1 → ExtB [id] σ σ' → σ'.box id = some (rcC s a' (byteS (s.drop a) e).2.2) → K (.v (.int .i64 ((byteS (s.drop a) e).1 : Int))) σ') :
    ACalls Try.prog 36 [.ptr id 0] σ K := by
  refine acalls_of hm Try.func36 rfl (by decide) rfl rfl (by kernel_rfl) ?_
  by_cases he : e = 0
  · subst he
    simp [Try.f36, hb, rcC]
    refine r_left_calls id s a 0 σ _ (by omega) ha hb ?_
    by_cases hr : s.length - a = 0
    · have hd : s.drop a = [] := List.drop_of_length_le (by omega)
      simp [nI1, hr]
      refine r_fail_calls id s a 2 2 rfl σ _ hb fun σ1 hx hb1 => ?_
      simp
      have := h a σ1 ha (by simp [hd, byteS]) hx (by simpa [hd, byteS] using hb1)
      simpa [hd, byteS] using this
    · have hr' : ¬ s.length - a < 1 := by omega
      have hlt : a < s.length := by omega
      obtain ⟨b, hbv⟩ : ∃ b, s[a] = b := ⟨_, rfl⟩
      have hd : s.drop a = b :: s.drop (a + 1) := by rw [← hbv]; exact List.drop_eq_getElem_cons hlt
      rw [hd] at h
      have hb256 : b.toNat < 256 := b.toNat_lt
      have c1 : IntKind.i64.wrap ((a : Int) + 1) = ((a + 1 : Nat) : Int) := i64w (n := ((a + 1 : Nat) : Int)) (by omega) (by omega)
      have c2 : IntKind.i64.wrap (((a + 1 : Nat) : Int) - 1) = (a : Int) := by rw [i64w (by omega) (by omega)]; omega
      have c3 : IntKind.i64.wrap (b.toNat : Int) = b.toNat := i64n (by omega)
      simp [nI1, hr', hb, rcC, c1, c2, c3, hlt, hbv, byteAt_bs, -Int.natCast_add]
      have := h (a + 1) (σ.setBox id (rcC s (a + 1) 0)) (by omega) (by simp [byteS]) (ExtB.setBox _ _ _) (by simp [byteS])
      simpa [byteS, rcC] using this
  · simp [Try.f36, hb, rcC, he]
    have := h a σ ha (by simp [byteS, he]) (ExtB.refl _ _) (by simpa [byteS, he] using hb)
    simpa [byteS, he] using this
theorem r_peek_calls (id : Nat) (s : List UInt8) (a e : Nat) (σ : St) (K : AV → St → Prop) (hq : σ.Wf) (hid : id < σ.nxt) (hl : s.length ≤ 4611686018427387904) (ha : a ≤ s.length) (hb : σ.box id = some (rcC s a e))
    (h : ∀ n σ', Ext σ σ' → ((nextS (s.drop a)).2.2 = 0 → a + n ≤ s.length ∧ n ≤ 9 ∧ (nextS (s.drop a)).2.1 = s.drop (a + n)) → K (.tup [.v (.int .u64 ((nextS (s.drop a)).1 : Int)), .v (.int .i64 (n : Nat)), .v (.int .i64 ((nextS (s.drop a)).2.2 : Int))]) σ') :
    ACalls Try.prog 62 [.ptr id 0] σ K := by
  refine acalls_of hm Try.func62 rfl (by decide) rfl rfl (by kernel_rfl) ?_
  simp [Try.f62]
  refine r_left_calls id s a e σ _ (by omega) ha hb ?_
  by_cases hr : s.length - a = 0
  · have hd : s.drop a = [] := List.drop_of_length_le (by omega)
    simp [nI1, hr]
    simpa [hd, nextS] using h 0 σ (Ext.refl _) (by simp [hd, nextS])
  · have hr' : ¬ s.length - a < 1 := by omega
    have hlt : a < s.length := by omega
    have hd : s.drop a = s[a] :: s.drop (a + 1) := List.drop_eq_getElem_cons hlt
    have hdl : (s.drop (a + 1)).length = s.length - a - 1 := by simp; omega
    rw [hd] at h
    obtain ⟨b, hbv⟩ : ∃ b, s[a] = b := ⟨_, rfl⟩
    obtain ⟨t, ht⟩ : ∃ t, s.drop (a + 1) = t := ⟨_, rfl⟩
    rw [hbv] at h hd
    rw [ht] at h hd hdl
    have hb256 : b.toNat < 256 := b.toNat_lt
    have hbne : ∀ p : Prop, ((b.toNat != 192) = true) = ¬ (b.toNat = 192) := fun _ => by simp
    simp [nI1, hr', hb, rcC, hlt, byteAt_bs, hbv]
    refine callX_fn (.int .i64 (sizeS b)) (fun σ' _ => ACalls.quiet (r_size_calls b _ _ ⟨rfl, rfl⟩)) ?_
    have hn : (sizeS b = 1 ∧ b.toNat < 64) ∨ (sizeS b = 2 ∧ b.toNat < 128) ∨ (sizeS b = 4 ∧ b.toNat < 192) ∨ (sizeS b = 9 ∧ 192 ≤ b.toNat) := by
      unfold sizeS; split <;> (try split) <;> (try split) <;> omega
    have hE : nextS (b :: t) = if 192 < b.toNat then (0, b :: t, 5) else if t.length + 1 < sizeS b then (0, b :: t, 2) else if beV (b.toNat % 64) (t.take (sizeS b - 1)) < leastS (sizeS b) then (0, b :: t, 5) else (beV (b.toNat % 64) (t.take (sizeS b - 1)), (b :: t).drop (sizeS b), 0) := rfl
    have hn9 : sizeS b ≤ 9 ∧ 1 ≤ sizeS b := by omega
    have c9 : (sizeS b = 9) = (192 ≤ b.toNat) := by simp only [eq_iff_iff]; omega
    obtain ⟨n, hnn⟩ : ∃ n, sizeS b = n := ⟨_, rfl⟩
    rw [hnn] at hn hE hn9 c9 ⊢
    have hbeq : ((n == 9) : Bool) = decide (192 ≤ b.toNat) := by rw [Bool.eq_iff_iff, beq_iff_eq, decide_eq_true_eq, c9]
    by_cases h1 : 192 < b.toNat
    · have q1 : 192 ≤ b.toNat := by omega
      have q2 : b.toNat ≠ 192 := by omega
      rw [if_pos h1] at hE
      rw [hE] at h
      simp [hb, rcC, hlt, byteAt_bs, hbv, nI5, nI6, nI7, hbeq, q1, q2, pickA_bool]
      exact h 0 σ (Ext.refl _) (by simp)
    · rw [if_neg h1] at hE
      have q3 : 192 ≤ b.toNat → b.toNat = 192 := by omega
      have hle : s.length - a = t.length + 1 := by omega
      have hb64 : b.toNat % 64 < 64 := by omega
      have d1 : (b.toNat : Int).tmod 64 = ((b.toNat % 64 : Nat) : Int) := tmodN b.toNat 64
      have d2 : IntKind.u64.wrap ((b.toNat % 64 : Nat) : Int) = ((b.toNat % 64 : Nat) : Int) := u64n (by omega)
      have hb9 : n = 9 → b.toNat % 64 = 0 := fun h9 => by rw [c9] at h9; omega
      generalize hx0 : b.toNat % 64 = x0 at *
      by_cases q1 : 192 ≤ b.toNat
      all_goals
        simp [hb, rcC, hlt, byteAt_bs, hbv, nI5, nI6, nI7, hbeq, q1, q3, pickA_bool]
        refine r_left_calls id s a e σ _ (by omega) ha hb ?_
        by_cases h2 : t.length + 1 < n
        · have h2' : s.length - a < n := by omega
          rw [if_pos h2] at hE
          rw [hE] at h
          simp [h2']
          exact h 0 σ (Ext.refl _) (by simp)
        · have h2' : ¬ s.length - a < n := by omega
          rw [if_neg h2] at hE
          simp [hb, rcC, hlt, byteAt_bs, hbv, h2', d1, d2, -Int.natCast_emod]
          refine loop_ind (fun (k : Nat) ρ σ1 => ρ.length = 77 ∧ slot ρ 0 = .ptr id 0 ∧ slot ρ 5 = .v (.int .i64 n) ∧ slot ρ 6 = .v (.int .u64 (beV x0 (t.take k) : Nat)) ∧ slot ρ 7 = .v (.int .i64 ((k + 1 : Nat) : Int)) ∧ k + 1 ≤ n ∧ σ1 = σ) (fun k => n - k) ?_ 0 _ _ ?start
          case start => exact ⟨rfl, rfl, rfl, by simp [beV], rfl, by omega, rfl⟩
          rintro k ρ σ1 ⟨hlen, g0, g5, g6, g7, hk, rfl⟩ next hnext
          by_cases hk2 : k + 1 < n
          · have hkt : k < t.length := by omega
            have hdec : n - (k + 1) < n - k := by omega
            have hkb := beV_lt (t.take (k + 1)) x0 (x0 + 1) (by omega)
            rw [List.length_take, Nat.min_eq_left (by omega), beV_take_succ hkt] at hkb
            have hbd : beV x0 (t.take k) * 256 + t[k].toNat < 18446744073709551616 := by
              rcases (show n ≤ 4 ∨ n = 9 by omega) with q | q
              · have p1 : (256 : Nat) ^ (k + 1) ≤ 256 ^ 3 := Nat.pow_le_pow_right (by omega) (by omega)
                have p2 : (x0 + 1) * 256 ^ (k + 1) ≤ 64 * 256 ^ 3 := Nat.mul_le_mul (by omega) p1
                omega
              · rw [hb9 q] at hkb ⊢
                have p1 : (256 : Nat) ^ (k + 1) ≤ 256 ^ 8 := Nat.pow_le_pow_right (by omega) (by omega)
                omega
            have f1 : IntKind.u64.wrap (256 * (beV x0 (t.take k) : Int)) = ((beV x0 (t.take k) * 256 : Nat) : Int) := by
              have := u64n (n := beV x0 (t.take k) * 256) (by omega); rw [← this]; congr 1; omega
            have f2 : IntKind.u64.wrap (((beV x0 (t.take k) * 256 : Nat) : Int) + (t[k].toNat : Int)) = ((beV x0 (t.take k) * 256 + t[k].toNat : Nat) : Int) := by
              have := u64n (n := beV x0 (t.take k) * 256 + t[k].toNat) hbd; rw [← this]; congr 1
            have f3 : IntKind.u64.wrap (t[k].toNat : Int) = t[k].toNat := u64n (by have := t[k].toNat_lt; omega)
            have f4 : IntKind.i64.wrap ((a : Int) + ((k + 1 : Nat) : Int)) = ((a + (k + 1) : Nat) : Int) := by rw [i64w (by omega) (by omega)]; omega
            have f5 : IntKind.i64.wrap (((k + 1 : Nat) : Int) + 1) = ((k + 1 + 1 : Nat) : Int) := by rw [i64w (by omega) (by omega)]; omega
            have f6 : a + (k + 1) < s.length := by omega
            have f7 : s[a + (k + 1)] = t[k] := by simp only [← ht, List.getElem_drop]; congr 1; omega
            simp [hlen, g0, g5, g6, g7, hb, rcC, byteAt_bs, hk2, f1, f2, f3, f4, f5, f6, f7, -Int.natCast_add, -Int.natCast_mul]
            refine hnext (k + 1) _ _ ?_ hdec
            refine ⟨?_, ?_, ?_, ?_, ?_, ?_, rfl⟩
            · simp [hlen]
            · simp [hlen, g0]
            · simp [hlen, g5]
            · rw [beV_take_succ hkt]; simp [hlen, -Int.natCast_add, -Int.natCast_mul]
            · simp [hlen, -Int.natCast_add]
            · exact hk2
          · have hke : n = k + 1 := by omega
            subst hke
            have hbl := beV_lt (t.take k) x0 (x0 + 1) (by omega)
            rw [List.length_take, Nat.min_eq_left (by omega)] at hbl
            have hXb : (k + 1 = 1 ∧ beV x0 (t.take k) < 64) ∨ (k + 1 = 2 ∧ beV x0 (t.take k) < 16384) ∨ (k + 1 = 4 ∧ beV x0 (t.take k) < 1073741824) ∨ (k + 1 = 9 ∧ beV x0 (t.take k) < 18446744073709551616) := by
              rcases hn with ⟨q, _⟩ | ⟨q, _⟩ | ⟨q, _⟩ | ⟨q, _⟩
              · have hk0 : k = 0 := by omega
                subst hk0
                exact .inl ⟨rfl, by simp [beV]; omega⟩
              · have hk0 : k = 1 := by omega
                subst hk0
                exact .inr (.inl ⟨rfl, by omega⟩)
              · have hk0 : k = 3 := by omega
                subst hk0
                exact .inr (.inr (.inl ⟨rfl, by omega⟩))
              · have hk0 : k = 8 := by omega
                subst hk0
                have := hb9 rfl
                subst this
                exact .inr (.inr (.inr ⟨rfl, by omega⟩))
            have hll := len_least hXb
            rw [Nat.add_sub_cancel] at hE
            generalize hXX : beV x0 (t.take k) = X at *
            simp [hlen, g0, g5, g6, g7]
            refine r_uint_calls X _ rfl σ1 _ hq (by omega) fun σ2 hx2 => ?_
            by_cases hle2 : X < leastS (k + 1)
            · have hne : (uintB X).length ≠ k + 1 := fun q => (hll.1 q) hle2
              have hne' : ((uintB X).length != k + 1) = true := by simpa using hne
              rw [if_pos hle2] at hE
              rw [hE] at h
              simp [hlen, g5, hne, hne', -Int.natCast_add]
              exact h 0 σ2 hx2 (by simp)
            · have heq := hll.2 hle2
              rw [if_neg hle2] at hE
              rw [hE] at h
              simp [hlen, g5, g6, heq, -Int.natCast_add]
              refine h (k + 1) σ2 hx2 fun _ => ⟨by omega, hn9.1, ?_⟩
              simp only [List.drop_succ_cons, ← ht, List.drop_drop]
              congr 1; omega
end
end Go.Proofs.Ytdfeadgholpcgaa
end

section
set_option linter.unusedVariables false
set_option linter.unusedSimpArgs false
namespace Go.Proofs.Ytdfeadgholpcgaa
open Go.AW Go.RowKit Go.Spec Go.Proofs.Ytdfeadgholpcgaa.Ty

attribute [local irreducible] awp awpOps awpX stepA stepX plainA plainX bindA bindE bindL gstep condA callA thenA inBlockA retA
section
set_option maxRecDepth 100000
set_option maxHeartbeats 1000000
theorem r_cuint_calls (id : Nat) (s : List UInt8) (a e : Nat) (σ : St) (K : AV → St → Prop) (hq : σ.Wf) (hid : id < σ.nxt) (hl : s.length ≤ 4611686018427387904) (ha : a ≤ s.length) (hb : σ.box id = some (rcC s a e))
    (h : ∀ a' σ', a' ≤ s.length → s.drop a' = (uintS (s.drop a) e).2.1 → ExtB [id] σ σ' → σ'.box id = some (rcC s a' (uintS (s.drop a) e).2.2) → K (.v (.int .u64 ((uintS (s.drop a) e).1 : Int))) σ') :
    ACalls Try.prog 37 [.ptr id 0] σ K := by
  refine acalls_of hm Try.func37 rfl (by decide) rfl rfl (by kernel_rfl) ?_
  by_cases he : e = 0
  · subst he
    simp [Try.f37, hb, rcC]
    refine r_peek_calls id s a 0 σ _ hq hid hl ha hb fun n σ1 hx1 hn => ?_
    have hb1 := (hx1.box id hid).trans hb
    simp only [uintS, if_true] at h
    have hrest := nextS_rest (s.drop a)
    by_cases h1 : (nextS (s.drop a)).2.2 = 0
    · obtain ⟨q1, q2, q3⟩ := hn h1
      have c1 : IntKind.i64.wrap ((a : Int) + n) = ((a + n : Nat) : Int) := i64w (n := ((a + n : Nat) : Int)) (by omega) (by omega)
      simp [h1, hb1, rcC, c1, -Int.natCast_add]
      exact h (a + n) _ q1 q3.symm ((hx1.b _).trans (ExtB.setBox _ _ _)) (by simp [rcC, h1])
    · simp [h1]
      refine r_fail_calls id s a _ _ rfl σ1 _ hb1 fun σ2 hx2 hb2 => ?_
      simp
      obtain ⟨r1, r2⟩ := hrest.2 h1
      have := h a σ2 ha r1.symm ((hx1.b _).trans hx2) hb2
      simpa [r2] using this
  · simp [Try.f37, hb, rcC, he]
    have := h a σ ha (by simp [uintS, he]) (ExtB.refl _ _) (by simpa [uintS, he] using hb)
    simpa [uintS, he] using this

theorem r_ctext_calls (most id : Nat) (s : List UInt8) (a e : Nat) (σ : St) (K : AV → St → Prop) (hmost : most ≤ 9223372036854775807) (hq : σ.Wf) (hid : id < σ.nxt) (hl : s.length ≤ 4611686018427387904) (ha : a ≤ s.length) (hb : σ.box id = some (rcC s a e))
    (h : ∀ a' σ', a' ≤ s.length → s.drop a' = (textS most (s.drop a) e).2.1 → ExtB [id] σ σ' → σ'.box id = some (rcC s a' (textS most (s.drop a) e).2.2) → K (.v (.string (bs (textS most (s.drop a) e).1))) σ') :
    ACalls Try.prog 63 [.ptr id 0, .v (.int .i64 (most : Int))] σ K := by
  refine acalls_of hm Try.func63 rfl (by decide) rfl rfl (by kernel_rfl) ?_
  by_cases he : e = 0
  · subst he
    simp [Try.f63, hb, rcC]
    refine r_peek_calls id s a 0 σ _ hq hid hl ha hb fun n σ1 hx1 hn => ?_
    have hb1 := (hx1.box id hid).trans hb
    have hrest := nextS_rest (s.drop a)
    by_cases h1 : (nextS (s.drop a)).2.2 = 0
    · obtain ⟨q1, q2, q3⟩ := hn h1
      have w1 : IntKind.u64.wrap (most : Int) = most := u64w (by omega)
      by_cases h2 : most < (nextS (s.drop a)).1
      · have h2' : (most : Int) < (nextS (s.drop a)).1 := by omega
        have e0 : textS most (s.drop a) 0 = ([], s.drop a, 3) := by simp [textS, h1, h2]
        rw [e0] at h
        simp [h1, h2, h2', w1, pickA_bool]
        refine r_fail_calls id s a 3 3 rfl σ1 _ hb1 fun σ2 hx2 hb2 => ?_
        simp
        exact h a σ2 ha rfl ((hx1.b _).trans hx2) hb2
      · have h2' : ¬ (most : Int) < (nextS (s.drop a)).1 := by omega
        have hrl : (nextS (s.drop a)).2.1.length = s.length - (a + n) := by rw [q3]; simp
        have hx64 : (nextS (s.drop a)).1 < 18446744073709551616 := nextS_lt _
        have w2 : IntKind.i64.wrap (((s.length - a : Nat) : Int) - n) = ((s.length - (a + n) : Nat) : Int) := by rw [i64w (by omega) (by omega)]; omega
        have w3 : IntKind.u64.wrap ((s.length - (a + n) : Nat) : Int) = ((s.length - (a + n) : Nat) : Int) := u64n (by omega)
        simp [h1, h2, h2', w1, pickA_bool]
        refine r_left_calls id s a 0 σ1 _ (by omega) ha hb1 ?_
        by_cases h3 : (nextS (s.drop a)).2.1.length < (nextS (s.drop a)).1
        · have h3' : s.length - (a + n) < (nextS (s.drop a)).1 := by omega
          have e0 : textS most (s.drop a) 0 = ([], s.drop a, 2) := by simp [textS, h1, h2, h3]
          rw [e0] at h
          simp [w2, w3, h3']
          refine r_fail_calls id s a 2 2 rfl σ1 _ hb1 fun σ2 hx2 hb2 => ?_
          simp
          exact h a σ2 ha rfl ((hx1.b _).trans hx2) hb2
        · have h3' : ¬ s.length - (a + n) < (nextS (s.drop a)).1 := by omega
          have e0 : textS most (s.drop a) 0 = ((nextS (s.drop a)).2.1.take (nextS (s.drop a)).1, (nextS (s.drop a)).2.1.drop (nextS (s.drop a)).1, 0) := by simp [textS, h1, h2, h3]
          rw [e0, q3] at h
          generalize (nextS (s.drop a)).1 = x at *
          have w4 : IntKind.i64.wrap ((a : Int) + n) = ((a + n : Nat) : Int) := i64w (n := ((a + n : Nat) : Int)) (by omega) (by omega)
          have w5 : IntKind.i64.wrap (x : Int) = x := i64n (by omega)
          have w6 : IntKind.i64.wrap (((a + n : Nat) : Int) + x) = ((a + n + x : Nat) : Int) := by rw [i64w (by omega) (by omega)]; omega
          have w7 : IntKind.i64.wrap ((n : Int) + x) = ((n + x : Nat) : Int) := i64w (n := ((n + x : Nat) : Int)) (by omega) (by omega)
          have w8 : IntKind.i64.wrap ((a : Int) + ((n + x : Nat) : Int)) = ((a + n + x : Nat) : Int) := by rw [i64w (by omega) (by omega)]; omega
          have w9 : ((a + n : Nat) : Int) ≤ ((a + n + x : Nat) : Int) := by omega
          have w10 : a + n + x ≤ s.length := by omega
          have w11 : a + n + x - (a + n) = x := by omega
          simp [w2, w3, h3', hb1, rcC, w4, w5, w6, w7, w8, w9, w10, w11, bs_extract, -Int.natCast_add]
          exact h (a + n + x) _ w10 (by simp) ((hx1.b _).trans (ExtB.setBox _ _ _)) (by simp [rcC])
    · simp [h1]
      refine r_fail_calls id s a _ _ rfl σ1 _ hb1 fun σ2 hx2 hb2 => ?_
      simp
      have e0 : textS most (s.drop a) 0 = ([], s.drop a, (nextS (s.drop a)).2.2) := by simp [textS, h1]
      rw [e0] at h
      exact h a σ2 ha rfl ((hx1.b _).trans hx2) hb2
  · simp [Try.f63, hb, rcC, he]
    have := h a σ ha (by simp [textS, he]) (ExtB.refl _ _) (by simpa [textS, he] using hb)
    simpa [textS, he] using this
end
end Go.Proofs.Ytdfeadgholpcgaa
end

section
set_option linter.unusedVariables false
set_option linter.unusedSimpArgs false
namespace Go.Proofs.Ytdfeadgholpcgaa
open Go.AW Go.RowKit Go.Spec Go.Proofs.Ytdfeadgholpcgaa.Ty

attribute [local irreducible] awp awpOps awpX stepA stepX plainA plainX bindA bindE bindL gstep condA callA thenA inBlockA retA
section
set_option maxRecDepth 100000
set_option maxHeartbeats 1000000
theorem r_bit_calls (s : List UInt8) (k : Nat) (σ : St) (K : AV → St → Prop) (hk : k < 8 * s.length) (hb : k ≤ 4611686018427387904) (h : K (.v (.bool (bitN (leN s) k))) σ) :
    ACalls Try.prog 88 [.v (.string (bs s)), .v (.int .i64 (k : Int))] σ K := by
  refine acalls_of hm Try.func88 rfl (by decide) rfl rfl (by kernel_rfl) ?_
  have c1 : (k : Int).tdiv 8 = ((k / 8 : Nat) : Int) := tdivN k 8
  have c2 : IntKind.i64.wrap ((k / 8 : Nat) : Int) = ((k / 8 : Nat) : Int) := i64n (by omega)
  have c3 : (k : Int).tmod 8 = ((k % 8 : Nat) : Int) := tmodN k 8
  have c4 : IntKind.u64.wrap ((k % 8 : Nat) : Int) = ((k % 8 : Nat) : Int) := u64n (by omega)
  have c5 : min (k % 8) 8 = k % 8 := by omega
  have c6 : k / 8 < s.length := by omega
  have c7 := shrN s[k / 8].toNat (k % 8)
  have c8 : ((s[k / 8].toNat / 2 ^ (k % 8) : Nat) : Int).tmod 2 = ((s[k / 8].toNat / 2 ^ (k % 8) % 2 : Nat) : Int) := tmodN _ 2
  have hbp := byte_part s k 1 (by omega)
  have c9 : (s.getD (k / 8) 0) = s[k / 8] := by simp [List.getD_eq_getElem?_getD, c6]
  rw [c9] at hbp
  have c10 : ((s[k / 8].toNat / 2 ^ (k % 8) % 2 == 1) : Bool) = bitN (leN s) k := by
    unfold bitN; rw [Bool.eq_iff_iff, beq_iff_eq, decide_eq_true_eq]
    rw [show (2 : Nat) = 2 ^ 1 from rfl] at *
    rw [hbp]
  generalize k / 8 = q at *
  generalize k % 8 = m at *
  generalize s[q].toNat / 2 ^ m = y at *
  simp [Try.f88, c1, c2, c3, c4, c5, c6, c7, c8, byteAt_bs, nI6, c10, -Int.natCast_emod, -Int.natCast_ediv]
  exact h
theorem r_unbits_calls (s : List UInt8) (n : Nat) (ni : Int) (hni : ni = n) (σ : St) (K : AV → St → Prop) (hq : σ.Wf) (hn : n ≤ 1099511627776)
    (hok : ∀ o σ', fitsE s n = 0 → Ext σ σ' → K (.tup [.sl o n (tcs (bitsOf (leN s) n)), .v (.int .i64 0)]) σ')
    (herr : ∀ σ', fitsE s n ≠ 0 → Ext σ σ' → K (.tup [.sl .full 0 [], .v (.int .i64 (fitsE s n : Int))]) σ') :
    ACalls Try.prog 75 [.v (.string (bs s)), .v (.int .i64 ni)] σ K := by
  subst hni
  refine acalls_of hm Try.func75 rfl (by decide) rfl rfl (by kernel_rfl) ?_
  have e1 : IntKind.i64.wrap ((n : Int) + 7) = ((n + 7 : Nat) : Int) := i64w (n := ((n + 7 : Nat) : Int)) (by omega) (by omega)
  have e2 : ((n + 7 : Nat) : Int).tdiv 8 = (((n + 7) / 8 : Nat) : Int) := tdivN (n + 7) 8
  have e3 : IntKind.i64.wrap (((n + 7) / 8 : Nat) : Int) = (((n + 7) / 8 : Nat) : Int) := i64n (by omega)
  obtain ⟨m, hm'⟩ : ∃ m, (n + 7) / 8 = m := ⟨_, rfl⟩
  rw [hm'] at e2 e3
  by_cases h1 : s.length < m
  · have hf : fitsE s n = 2 := by simp [fitsE, hm', h1]
    rw [hf] at herr
    simp [Try.f75, e1, e2, e3, h1, -Int.natCast_add]
    exact herr σ (by omega) (Ext.refl _)
  · by_cases h2 : m < s.length
    · have hf : fitsE s n = 3 := by simp [fitsE, hm', h1, h2]
      rw [hf] at herr
      simp [Try.f75, e1, e2, e3, h1, h2, -Int.natCast_add]
      exact herr σ (by omega) (Ext.refl _)
    · have hl : s.length = m := by omega
      have hlt := leN_lt s
      rw [hl, pow256] at hlt
      have hfit : fitsE s n = if leN s < 2 ^ n then 0 else 5 := by simp [fitsE, hm', h1, h2]
      obtain ⟨N, hN⟩ : ∃ N, leN s = N := ⟨_, rfl⟩
      rw [hN] at hlt hfit hok
      have e4 : IntKind.i64.wrap (8 * (m : Int)) = ((8 * m : Nat) : Int) := by rw [i64w (by omega) (by omega)]; omega
      simp [Try.f75, e1, e2, e3, h1, h2, -Int.natCast_add]
      refine loop_ind (fun (k : Nat) ρ σ1 => ∃ o, ρ.length = 44 ∧ slot ρ 0 = .v (.string (bs s)) ∧ slot ρ 1 = .v (.int .i64 n) ∧ slot ρ 6 = .v (.int .i64 m) ∧ slot ρ 7 = .sl o (min k n) (tcs (bitsOf N (min k n))) ∧ slot ρ 8 = .v (.int .i64 k) ∧ k ≤ 8 * m ∧ (n ≤ k → N % 2 ^ k < 2 ^ n) ∧
        ExtB [] σ σ1 ∧ Own1 σ σ1 o (min k n)) (fun k => 8 * m - k) ?_ 0 _ _ ?start
      case start =>
        refine ⟨.full, rfl, rfl, rfl, rfl, ?_, rfl, Nat.zero_le _, ?_, ExtB.refl _ _, ?_⟩
        · rw [Nat.zero_min]; rfl
        · intro h0
          have : n = 0 := by omega
          subst this
          simp [Nat.mod_one]
        · rw [Nat.zero_min]; exact Own1.nil _ _
      rintro k ρ σ1 ⟨o, hlen, g0, g1, g6, g7, g8, hk, hmod, hx, ho⟩ next hnext
      by_cases hlt' : k < 8 * m
      · have c1 : IntKind.i64.wrap ((k : Int) + 1) = ((k + 1 : Nat) : Int) := i64w (n := ((k + 1 : Nat) : Int)) (by omega) (by omega)
        simp [hlen, g0, g1, g6, g7, g8, e4, hlt', -Int.natCast_mul]
        refine r_bit_calls s k σ1 _ (by omega) (by omega) ?_
        rw [hN]
        have hdec : 8 * m - (k + 1) < 8 * m - k := by omega
        by_cases hkn : k < n
        · have hmin : min k n = k := by omega
          have hmin' : min (k + 1) n = k + 1 := by omega
          rw [hmin] at g7 ho
          obtain ⟨o3, σ3, e5, hg3⟩ := append1 (P := Try.prog) (t := 76) (tx := 76) (cs := tcs (bitsOf N k)) (c := tcell (bitN N k)) ho.ap elem76 u76 (by simp) rfl (by omega) (by omega) (hx.wf hq)
          obtain ⟨hx3, ho3⟩ := hx.grew hq ho hg3
          have hts : tcs (bitsOf N (k + 1)) = tcs (bitsOf N k) ++ [.v (.bool (bitN N k))] := by rw [bitsOf_succ, tcs, List.map_append]; rfl
          simp only [tcell] at e5
          have hnk : ¬ n ≤ k := by omega
          generalize tcs (bitsOf N k) = acc at *
          simp [hlen, g0, g1, g6, g7, g8, hkn, hnk, e5, c1, pickA_bool, -Int.natCast_add]
          refine hnext (k + 1) _ _ ⟨o3, ?_, ?_, ?_, ?_, ?_, ?_, by omega, ?_, hx3, ?_⟩ hdec
          · simp [hlen]
          · simp [hlen, g0]
          · simp [hlen, g1]
          · simp [hlen, g6]
          · rw [hmin', hts]; simp [hlen]
          · simp [hlen, -Int.natCast_add]
          · intro h0
            have : k + 1 = n := by omega
            rw [this]; exact Nat.mod_lt _ (Nat.two_pow_pos n)
          · rw [hmin']; exact ho3
        · have hmin : min k n = n := by omega
          have hmin' : min (k + 1) n = n := by omega
          have hnk : n ≤ k := by omega
          cases hbit : bitN N k with
          | true =>
            have h5 : ¬ N < 2 ^ n := by
              have hs := bit_step N k
              rw [hbit, if_pos rfl] at hs
              have h1 : N % 2 ^ (k + 1) ≤ N := Nat.mod_le _ _
              have h2 : 2 ^ n ≤ 2 ^ k := Nat.pow_le_pow_right (by omega) hnk
              omega
            rw [if_neg h5] at hfit
            rw [hfit] at herr
            simp [hlen, g0, g1, g6, g7, g8, hkn, hnk, pickA_bool, -Int.natCast_add]
            exact herr σ1 (by omega) hx.ext
          | false =>
            simp [hlen, g0, g1, g6, g7, g8, hkn, hnk, c1, pickA_bool, -Int.natCast_add]
            refine hnext (k + 1) _ _ ⟨o, ?_, ?_, ?_, ?_, ?_, ?_, by omega, ?_, hx, ?_⟩ hdec
            · simp [hlen]
            · simp [hlen, g0]
            · simp [hlen, g1]
            · simp [hlen, g6]
            · rw [hmin'] ; rw [hmin] at g7; simp [hlen, g7]
            · simp [hlen, -Int.natCast_add]
            · intro _
              rw [bit_step, hbit]
              simpa using hmod hnk
            · rw [hmin']; rwa [hmin] at ho
      · have hke : k = 8 * m := by omega
        have hnm : n ≤ 8 * m := by omega
        have hmin : min k n = n := by omega
        rw [hmin] at g7 ho
        have hfin := hmod (by omega)
        rw [hke, Nat.mod_eq_of_lt hlt] at hfin
        rw [if_pos hfin] at hfit
        have hkk : ¬ k < 8 * m := hlt'
        simp [hlen, g0, g1, g6, g7, g8, e4, hkk, -Int.natCast_mul]
        exact hok o σ1 hfit hx.ext
end
end Go.Proofs.Ytdfeadgholpcgaa
end

section
set_option linter.unusedVariables false
set_option linter.unusedSimpArgs false
namespace Go.Proofs.Ytdfeadgholpcgaa
open Go.AW Go.RowKit Go.Spec Go.Proofs.Ytdfeadgholpcgaa.Ty

attribute [local irreducible] awp awpOps awpX stepA stepX plainA plainX bindA bindE bindL gstep condA callA thenA inBlockA retA
section
set_option maxRecDepth 100000
set_option maxHeartbeats 1000000
theorem r_unpack_calls (s : List UInt8) (n w : Nat) (σ : St) (K : AV → St → Prop) (hq : σ.Wf) (hn : n ≤ 65536) (hw : w ≤ 64)
    (hok : ∀ l o σ', unpackE s n w = .ok l → l.length = n → Ext σ σ' → Own1 σ σ' o n → K (.tup [.sl o n (ncs l), .v (.int .i64 0)]) σ')
    (herr : ∀ (e : Nat) σ', unpackE s n w = .error e → e ≠ 0 → Ext σ σ' → K (.tup [.sl .full 0 [], .v (.int .i64 (e : Int))]) σ') :
    ACalls Try.prog 64 [.v (.string (bs s)), .v (.int .i64 (n : Int)), .v (.int .i64 (w : Int))] σ K := by
  refine acalls_of hm Try.func64 rfl (by decide) rfl rfl (by kernel_rfl) ?_
  have c2 : ¬ 64 < w := by omega
  have c4 : ¬ 65536 < n := by omega
  have hnw : n * w ≤ 65536 * 64 := Nat.mul_le_mul hn hw
  have c5 : IntKind.i64.wrap ((n : Int) * w) = ((n * w : Nat) : Int) := by
    have := i64n (n := n * w) (by omega); rw [← this]; simp
  simp [Try.f64, nI2, c2, c4, c5, pickA_bool, -Int.natCast_mul]
  refine r_unbits_calls s (n * w) _ rfl σ _ hq (by omega) (fun ob σ1 h0 hx1 => ?_) fun σ1 h0 hx1 => ?_
  · have hE : unpackE s n w = .ok (unpackN s n w) := by simp [unpackE, h0]
    simp
    refine loop_ind (fun (i : Nat) ρ σ2 => ∃ o, ρ.length = 67 ∧ slot ρ 1 = .v (.int .i64 n) ∧ slot ρ 2 = .v (.int .i64 w) ∧ slot ρ 8 = .sl ob (n * w) (tcs (bitsOf (leN s) (n * w))) ∧ slot ρ 10 = .sl o i (ncs (unpackN s i w)) ∧ slot ρ 11 = .v (.int .i64 i) ∧ i ≤ n ∧
      ExtB [] σ σ2 ∧ Own1 σ σ2 o i) (fun i => n - i) ?_ 0 _ _ ?start
    case start => exact ⟨.full, rfl, rfl, rfl, rfl, rfl, rfl, Nat.zero_le _, hx1.b _, Own1.nil _ _⟩
    rintro i ρ σ2 ⟨o, hlen, g1, g2, g8, g10, g11, hi, hx, ho⟩ next hnext
    by_cases hlt : i < n
    · have hiw : (i + 1) * w ≤ n * w := Nat.mul_le_mul_right _ hlt
      rw [Nat.add_mul, Nat.one_mul] at hiw
      have c6 : IntKind.i64.wrap ((i : Int) + 1) = ((i + 1 : Nat) : Int) := i64w (n := ((i + 1 : Nat) : Int)) (by omega) (by omega)
      have c7 : IntKind.i64.wrap ((i : Int) * w) = ((i * w : Nat) : Int) := by
        have := i64n (n := i * w) (by omega); rw [← this]; simp
      have hun : ncs (unpackN s (i + 1) w) = ncs (unpackN s i w) ++ [ncell (leN s / 2 ^ (i * w) % 2 ^ w)] := by simp [unpackN, List.range_succ, ncs]
      have hul : (unpackN s i w).length = i := by simp [unpackN]
      simp [hlen, g1, g2, g8, g10, g11, hlt]
      refine loop_ind (fun (j : Nat) ρ' σ3 => ρ'.length = 67 ∧ slot ρ' 1 = .v (.int .i64 n) ∧ slot ρ' 2 = .v (.int .i64 w) ∧ slot ρ' 8 = .sl ob (n * w) (tcs (bitsOf (leN s) (n * w))) ∧ slot ρ' 10 = .sl o i (ncs (unpackN s i w)) ∧ slot ρ' 11 = .v (.int .i64 i) ∧ slot ρ' 12 = .v (.int .u64 ((leN s / 2 ^ (i * w) % 2 ^ j : Nat) : Int)) ∧ slot ρ' 13 = .v (.int .i64 j) ∧ j ≤ w ∧ σ3 = σ2) (fun j => w - j) ?_ 0 _ _ ?start2
      case start2 => exact ⟨by simp [hlen], by simp [hlen, g1], by simp [hlen, g2], by simp [hlen, g8], by simp [hlen, g10], by simp [hlen, g11], by simp [hlen, Nat.mod_one], by simp [hlen], Nat.zero_le _, rfl⟩
      rintro j ρ' σ3 ⟨klen, k1, k2, k8, k10, k11, k12, k13, hj, rfl⟩ next2 hnext2
      by_cases hjw : j < w
      · have d1 : IntKind.i64.wrap (((i * w : Nat) : Int) + j) = ((i * w + j : Nat) : Int) := i64w (n := ((i * w + j : Nat) : Int)) (by omega) (by omega)
        have d2 : i * w + j < n * w := by omega
        have d3 := bitsOf_get (N := leN s) (n := n * w) d2
        have d4 : IntKind.i64.wrap ((j : Int) + 1) = ((j + 1 : Nat) : Int) := i64w (n := ((j + 1 : Nat) : Int)) (by omega) (by omega)
        have d5 : IntKind.u64.wrap (j : Int) = j := u64n (by omega)
        have d6 : min j 64 = j := by omega
        have d7 : (2 : Nat) ^ j < 2 ^ 64 := Nat.pow_lt_pow_right (by omega) (by omega)
        have d8 : IntKind.u64.wrap ((2 : Int) ^ j) = ((2 ^ j : Nat) : Int) := by have := u64n (n := 2 ^ j) d7; rw [← this]; simp
        have d9 := bit_step (leN s / 2 ^ (i * w)) j
        have d10 : bitN (leN s / 2 ^ (i * w)) j = bitN (leN s) (i * w + j) := by unfold bitN; rw [Nat.div_div_eq_div_mul, ← Nat.pow_add]
        have d11 : leN s / 2 ^ (i * w) % 2 ^ (j + 1) < 2 ^ 64 := lt_2p (Nat.mod_lt _ (Nat.two_pow_pos (j + 1))) (by omega)
        have d12 : (bitsOf (leN s) (n * w)).length = n * w := by simp
        have hdec : w - (j + 1) < w - j := by omega
        have hjw' : j + 1 ≤ w := hjw
        rw [d10] at d9
        cases hbit : bitN (leN s) (i * w + j) with
        | true =>
          rw [hbit] at d3 d9
          rw [if_pos rfl] at d9
          have d13 : IntKind.u64.wrap (((leN s / 2 ^ (i * w) % 2 ^ j : Nat) : Int) + ((2 ^ j : Nat) : Int)) = ((leN s / 2 ^ (i * w) % 2 ^ (j + 1) : Nat) : Int) := by
            have := u64n d11; rw [← this, d9]; congr 1
          clear d9
          simp [klen, k1, k2, k8, k10, k11, k12, k13, hjw, c7, d1, d2, d3, d4, d5, d6, d8, d12, d13, -Int.natCast_add, -Int.natCast_mul, -Int.natCast_emod, -Int.natCast_pow, -Int.natCast_ediv]
          refine hnext2 (j + 1) _ _ ⟨?_, ?_, ?_, ?_, ?_, ?_, ?_, ?_, hjw', rfl⟩ hdec
          · simp [klen]
          · simp [klen, k1]
          · simp [klen, k2]
          · simp [klen, k8]
          · simp [klen, k10]
          · simp [klen, k11]
          · simp [klen, -Int.natCast_emod]
          · simp [klen, -Int.natCast_add]
        | false =>
          rw [hbit] at d3 d9
          rw [if_neg (by simp), Nat.add_zero] at d9
          simp [klen, k1, k2, k8, k10, k11, k12, k13, hjw, c7, d1, d2, d3, d4, d5, d6, d8, d12, -Int.natCast_add, -Int.natCast_mul, -Int.natCast_emod, -Int.natCast_pow, -Int.natCast_ediv]
          refine hnext2 (j + 1) _ _ ⟨?_, ?_, ?_, ?_, ?_, ?_, ?_, ?_, hjw', rfl⟩ hdec
          · simp [klen]
          · simp [klen, k1]
          · simp [klen, k2]
          · simp [klen, k8]
          · simp [klen, k10]
          · simp [klen, k11]
          · rw [d9]; simp [klen, k12]
          · simp [klen, -Int.natCast_add]
      · have hje : j = w := by omega
        subst hje
        obtain ⟨o4, σ4, e4, hg4⟩ := append1 (P := Try.prog) (t := 43) (tx := 43) (cs := ncs (unpackN s i j)) (c := ncell (leN s / 2 ^ (i * j) % 2 ^ j)) ho.ap elem43 u43 (by simp [hul]) rfl (by omega) (by omega) (hx.wf hq)
        obtain ⟨hx4, ho4⟩ := hx.grew hq ho hg4
        simp only [ncell] at e4 hun
        generalize ncs (unpackN s i j) = acc at *
        simp [klen, k1, k2, k8, k10, k11, k12, k13, e4, c6, -Int.natCast_add, -Int.natCast_mul, -Int.natCast_emod, -Int.natCast_pow, -Int.natCast_ediv]
        refine hnext (i + 1) _ _ ⟨o4, ?_, ?_, ?_, ?_, ?_, ?_, by omega, hx4, ho4⟩ (by omega)
        · simp [klen]
        · simp [klen, k1]
        · simp [klen, k2]
        · simp [klen, k8]
        · rw [hun]; simp [klen]
        · simp [klen, -Int.natCast_add]
    · have hie : i = n := by omega
      subst hie
      simp [hlen, g1, g2, g8, g10, g11]
      exact hok _ o σ2 hE (by simp [unpackN]) hx.ext ho
  · simp [h0]
    exact herr _ σ1 (by simp [unpackE, h0]) h0 hx1

theorem r_fits_calls (x w : Nat) (σ : St) (K : AV → St → Prop) (hx : x < 18446744073709551616) (hw : w ≤ 9223372036854775807) (h : K (.v (.bool (decide (x < 2 ^ w)))) σ) :
    ACalls Try.prog 53 [.v (.int .u64 (x : Int)), .v (.int .i64 (w : Int))] σ K := by
  refine acalls_of hm Try.func53 rfl (by decide) rfl rfl (by kernel_rfl) ?_
  by_cases h64 : 64 ≤ w
  · have : decide (x < 2 ^ w) = true := by rw [decide_eq_true_eq]; exact lt_2p (k := 64) hx h64
    rw [this] at h
    simp [Try.f53, nI4, h64, pickA_bool]
    exact h
  · have d5 : IntKind.u64.wrap (w : Int) = w := u64n (by omega)
    have d6 : min w 64 = w := by omega
    have d7 : (2 : Nat) ^ w < 2 ^ 64 := Nat.pow_lt_pow_right (by omega) (by omega)
    have d8 : IntKind.u64.wrap ((2 : Int) ^ w) = ((2 ^ w : Nat) : Int) := by have := u64n (n := 2 ^ w) d7; rw [← this]; simp
    simp [Try.f53, nI4, h64, pickA_bool, d5, d6, d8, -Int.natCast_pow]
    exact h
end
end Go.Proofs.Ytdfeadgholpcgaa
end

section
set_option linter.unusedVariables false
set_option linter.unusedSimpArgs false
namespace Go.Proofs.Ytdfeadgholpcgaa
open Go.AW Go.RowKit Go.Spec Go.Proofs.Ytdfeadgholpcgaa.Ty

attribute [local irreducible] awp awpOps awpX stepA stepX plainA plainX bindA bindE bindL gstep condA callA thenA inBlockA retA
section
set_option maxRecDepth 100000
set_option maxHeartbeats 1000000
theorem r_width_calls (ol : AW.Own) (l : List Nat) (σ : St) (K : AV → St → Prop) (hl : l.length ≤ 4611686018427387904) (hb : ∀ n ∈ l, n < 18446744073709551616) (h : K (.v (.int .i64 (widthN l))) σ) :
    ACalls Try.prog 27 [.sl ol l.length (ncs l)] σ K := by
  refine acalls_of hm Try.func27 rfl (by decide) rfl rfl (by kernel_rfl) ?_
  simp [Try.f27]
  have h64 : ∀ k, widthN (l.take k) ≤ 64 := fun k => (widthN_iff 64 fun n hn => hb n (List.mem_of_mem_take hn)).2 fun n hn => hb n (List.mem_of_mem_take hn)
  refine loop_ind (fun (i : Nat) ρ σ1 => ρ.length = 21 ∧ slot ρ 0 = .sl ol l.length (ncs l) ∧ slot ρ 3 = .v (.int .i64 (widthN (l.take i) : Nat)) ∧ slot ρ 4 = .v (.int .i64 i) ∧ i ≤ l.length ∧ σ1 = σ) (fun i => l.length - i) ?_ 0 _ _ ?start
  case start => exact ⟨rfl, rfl, rfl, rfl, Nat.zero_le _, rfl⟩
  rintro i ρ σ1 ⟨hlen, g0, g3, g4, hi, rfl⟩ next hnext
  by_cases hlt : i < l.length
  · have c6 : IntKind.i64.wrap ((i : Int) + 1) = ((i + 1 : Nat) : Int) := i64w (n := ((i + 1 : Nat) : Int)) (by omega) (by omega)
    have hmem := hb l[i] (List.getElem_mem hlt)
    have hwt := width_take hb hlt
    have h641 := h64 (i + 1)
    simp [hlen, g0, g3, g4, hlt]
    refine loop_ind (fun (w : Nat) ρ' σ2 => ρ'.length = 21 ∧ slot ρ' 0 = .sl ol l.length (ncs l) ∧ slot ρ' 3 = .v (.int .i64 w) ∧ slot ρ' 4 = .v (.int .i64 i) ∧ widthN (l.take i) ≤ w ∧ w ≤ widthN (l.take (i + 1)) ∧ σ2 = σ1) (fun w => 64 - w) ?_ (widthN (l.take i)) _ _ ?start2
    case start2 => exact ⟨by simp [hlen], by simp [hlen, g0], by simp [hlen, g3], by simp [hlen, g4], Nat.le_refl _, ((hwt _).1 (Nat.le_refl _)).1, rfl⟩
    rintro w ρ' σ2 ⟨klen, k0, k3, k4, hw1, hw2, rfl⟩ next2 hnext2
    simp [klen, k0, k3, k4, hlt]
    refine r_fits_calls l[i] w σ2 _ hmem (by omega) ?_
    by_cases hf : l[i] < 2 ^ w
    · have heq : w = widthN (l.take (i + 1)) := Nat.le_antisymm hw2 ((hwt w).2 ⟨hw1, hf⟩)
      simp [klen, k0, k3, k4, hf, c6, -Int.natCast_add]
      refine hnext (i + 1) _ _ ⟨?_, ?_, ?_, ?_, by omega, rfl⟩ (by omega)
      · simp [klen]
      · simp [klen, k0]
      · rw [← heq]; simp [klen, k3]
      · simp [klen, -Int.natCast_add]
    · have hlt2 : w + 1 ≤ widthN (l.take (i + 1)) := by
        rcases Nat.lt_or_ge w (widthN (l.take (i + 1))) with q | q
        · exact q
        · exact absurd ((hwt w).1 q).2 hf
      have c7 : IntKind.i64.wrap ((w : Int) + 1) = ((w + 1 : Nat) : Int) := i64w (n := ((w + 1 : Nat) : Int)) (by omega) (by omega)
      simp [klen, k0, k3, k4, hf, c7, -Int.natCast_add]
      refine hnext2 (w + 1) _ _ ⟨?_, ?_, ?_, ?_, by omega, hlt2, rfl⟩ (by omega)
      · simp [klen]
      · simp [klen, k0]
      · simp [klen, -Int.natCast_add]
      · simp [klen, k4]
  · have hie : i = l.length := by omega
    subst hie
    rw [List.take_length] at g3
    simp [hlen, g0, g3, g4]
    exact h

theorem r_bytes_calls (ol : AW.Own) (l : List Bool) (σ : St) (K : AV → St → Prop) (hq : σ.Wf) (hl : l.length ≤ 1099511627776) (h : ∀ σ', Ext σ σ' → K (.v (.string (bs (bytesOfBits l)))) σ') :
    ACalls Try.prog 54 [.sl ol l.length (tcs l)] σ K := by
  refine acalls_of hm Try.func54 rfl (by decide) rfl rfl (by kernel_rfl) ?_
  have e1 : IntKind.i64.wrap ((l.length : Int) + 7) = ((l.length + 7 : Nat) : Int) := i64w (n := ((l.length + 7 : Nat) : Int)) (by omega) (by omega)
  have e2 : ((l.length + 7 : Nat) : Int).tdiv 8 = (((l.length + 7) / 8 : Nat) : Int) := tdivN (l.length + 7) 8
  have e3 : IntKind.i64.wrap (((l.length + 7) / 8 : Nat) : Int) = (((l.length + 7) / 8 : Nat) : Int) := i64n (by omega)
  unfold bytesOfBits at h
  obtain ⟨m, hm'⟩ : ∃ m, (l.length + 7) / 8 = m := ⟨_, rfl⟩
  rw [hm'] at e2 e3 h
  have hz : (List.map (fun i => [AV.v (.int .u8 0)][i % 1]?.getD (.v undef)) (List.range m)) = bcs (leB 0 m) := by
    rw [leB_zero]
    apply List.ext_getElem
    · simp
    · intro i h1 h2
      simp [bcs, bcell, Nat.mod_one]
  have hmb : (m : Int) ≤ 140737488355328 := by omega
  have hmb2 : (m : Int) ≤ 9223372036854775807 := by omega
  simp [Try.f54, e1, e2, e3, hz, hmb, hmb2, hq.2, -Int.natCast_add]
  refine loop_ind (fun (i : Nat) ρ σ1 => ρ.length = 33 ∧ slot ρ 0 = .sl ol l.length (tcs l) ∧ slot ρ 3 = .msl σ.nxt 0 m m ∧ slot ρ 4 = .v (.int .i64 i) ∧ i ≤ l.length ∧ σ1.box σ.nxt = some (bcs (leB (bitsV (l.take i)) m)) ∧ ExtB [σ.nxt] (σ.addBox (bcs (leB 0 m))) σ1) (fun i => l.length - i) ?_ 0 _ _ ?start
  case start => exact ⟨rfl, rfl, rfl, rfl, Nat.zero_le _, by simp [bitsV], ExtB.refl _ _⟩
  rintro i ρ σ1 ⟨hlen, g0, g3, g4, hi, hb, hx⟩ next hnext
  by_cases hlt : i < l.length
  · have c6 : IntKind.i64.wrap ((i : Int) + 1) = ((i + 1 : Nat) : Int) := i64w (n := ((i + 1 : Nat) : Int)) (by omega) (by omega)
    have htk : bitsV (l.take (i + 1)) = bitsV (l.take i) + (if l[i] then 2 ^ i else 0) := by
      rw [List.take_succ_eq_append_getElem hlt, bitsV_snoc, List.length_take, Nat.min_eq_left (by omega)]
    have hN := bitsV_lt (l.take i)
    rw [List.length_take, Nat.min_eq_left (by omega)] at hN
    generalize bitsV (l.take i) = N at *
    have hdec : l.length - (i + 1) < l.length - i := by omega
    cases hbit : l[i] with
    | false =>
      rw [hbit, if_neg (by simp), Nat.add_zero] at htk
      simp [hlen, g0, g3, g4, hlt, hbit, c6, -Int.natCast_add]
      exact hnext (i + 1) _ _ ⟨by simp [hlen], by simp [hlen, g0], by simp [hlen, g3], by simp [hlen, -Int.natCast_add], by omega, by rw [htk]; exact hb, hx⟩ hdec
    | true =>
      rw [hbit, if_pos rfl] at htk
      have hq8 : i % 8 < 8 := Nat.mod_lt _ (by omega)
      have d1 : (i : Int).tdiv 8 = ((i / 8 : Nat) : Int) := tdivN i 8
      have d2 : IntKind.i64.wrap ((i / 8 : Nat) : Int) = ((i / 8 : Nat) : Int) := i64n (by omega)
      have d3 : (i : Int).tmod 8 = ((i % 8 : Nat) : Int) := tmodN i 8
      have d4 : IntKind.u64.wrap ((i % 8 : Nat) : Int) = ((i % 8 : Nat) : Int) := u64n (by omega)
      have d5 : i / 8 < m := by omega
      have hll := last_lt N i (i / 8) rfl hN
      have hp : 2 ^ (i % 8) ≤ 2 ^ 7 := Nat.pow_le_pow_right (by omega) (by omega)
      have hpow : 2 ^ i = 2 ^ (i % 8) * 256 ^ (i / 8) := by rw [pow256, ← Nat.pow_add]; congr 1; omega
      have hmod : N / 256 ^ (i / 8) % 256 = N / 256 ^ (i / 8) := Nat.mod_eq_of_lt (by omega)
      have hset := leB_set m (i / 8) N (2 ^ (i % 8)) d5 (by omega)
      rw [hmod, ← hpow] at hset
      have hget := leB_get (N := N) d5
      have d6 : min (i % 8) 8 = i % 8 := by omega
      have d7 : IntKind.u8.wrap ((2 : Int) ^ (i % 8)) = ((2 ^ (i % 8) : Nat) : Int) := by
        have : IntKind.u8.wrap ((2 ^ (i % 8) : Nat) : Int) = ((2 ^ (i % 8) : Nat) : Int) := by rw [IntKind.wrap_u8]; omega
        rw [← this]; simp
      have d8 : ((UInt8.ofNat (N / 256 ^ (i / 8))).toNat : Int) = ((N / 256 ^ (i / 8) : Nat) : Int) := by simp only [UInt8.toNat_ofNat']; omega
      have d9 : IntKind.u8.wrap (((N / 256 ^ (i / 8) : Nat) : Int) + ((2 ^ (i % 8) : Nat) : Int)) = ((UInt8.ofNat (N / 256 ^ (i / 8) + 2 ^ (i % 8))).toNat : Int) := by
        rw [IntKind.wrap_u8]; simp only [UInt8.toNat_ofNat']; omega
      have hbcs : (bcs (leB N m)).set (i / 8) (.v (.int .u8 ((UInt8.ofNat (N / 256 ^ (i / 8) + 2 ^ (i % 8))).toNat : Int))) = bcs (leB (N + 2 ^ i) m) := by rw [hset, bcs, bcs, List.map_set]; rfl
      have d10 : (leB N m).length = m := by simp
      have d11 : i / 8 + 1 ≤ m := d5
      generalize i / 8 = q at *
      generalize i % 8 = r at *
      generalize UInt8.ofNat (N / 256 ^ q + 2 ^ r) = nb at *
      simp [hlen, g0, g3, g4, hlt, hbit, c6, hb, d1, d2, d3, d4, d5, d6, d7, d8, d9, d10, d11, hget, hbcs, -Int.natCast_add, -UInt8.toNat_ofNat', -Int.natCast_pow, -Int.natCast_ediv]
      exact hnext (i + 1) _ _ ⟨by simp [hlen], by simp [hlen, g0], by simp [hlen, g3], by simp [hlen, -Int.natCast_add], by omega, by rw [htk, setBox_same], hx.trans (ExtB.setBox _ _ _)⟩ hdec
  · have hie : i = l.length := by omega
    subst hie
    rw [List.take_length] at hb
    have d10 : (leB (bitsV l) m).length = m := by simp
    simp [hlen, g0, g3, g4, hb, d10]
    have d12 : List.take m (bcs (leB (bitsV l) m)) = bcs (leB (bitsV l) m) := List.take_of_length_le (by simp)
    simp [hlen, d12, bytesA_bcs]
    exact h _ (((ExtB.addBox σ _).new hx hq (by simp)).ext)
theorem r_pack_calls (ol : AW.Own) (l : List Nat) (w : Nat) (wi : Int) (hwi : wi = w) (σ : St) (K : AV → St → Prop) (hq : σ.Wf) (hl : l.length ≤ 65536) (hw : w ≤ 64) (hb : ∀ n ∈ l, n < 18446744073709551616) (hfit : widthN l ≤ w)
    (hk : ∀ σ', Ext σ σ' → K (.tup [.v (.string (bs (packB w l))), .v (.int .i64 0)]) σ') :
    ACalls Try.prog 28 [.sl ol l.length (ncs l), .v (.int .i64 wi)] σ K := by
  subst hwi
  have hfits := (widthN_iff w hb).1 hfit
  refine acalls_of hm Try.func28 rfl (by decide) rfl rfl (by kernel_rfl) ?_
  have c1 : ¬ 64 < w := by omega
  simp [Try.f28, nI2, c1, pickA_bool]
  refine loop_ind (fun (i : Nat) ρ σ1 => ∃ o, ρ.length = 47 ∧ slot ρ 0 = .sl ol l.length (ncs l) ∧ slot ρ 1 = .v (.int .i64 w) ∧ slot ρ 6 = .sl o (i * w) (tcs (bitsL w (l.take i))) ∧ slot ρ 7 = .v (.int .i64 i) ∧ i ≤ l.length ∧ ExtB [] σ σ1 ∧ Own1 σ σ1 o (i * w)) (fun i => l.length - i) ?_ 0 _ _ ?start
  case start => exact ⟨.full, rfl, rfl, rfl, by simp [bitsL, tcs], rfl, Nat.zero_le _, ExtB.refl _ _, by simpa using Own1.nil _ _⟩
  rintro i ρ σ1 ⟨o, hlen, g0, g1, g6, g7, hi, hx, ho⟩ next hnext
  by_cases hlt : i < l.length
  · have c6 : IntKind.i64.wrap ((i : Int) + 1) = ((i + 1 : Nat) : Int) := i64w (n := ((i + 1 : Nat) : Int)) (by omega) (by omega)
    have hmem := hb l[i] (List.getElem_mem hlt)
    have hfi := hfits l[i] (List.getElem_mem hlt)
    have hdec : l.length - (i + 1) < l.length - i := by omega
    have hiw : (i + 1) * w ≤ 65536 * 64 := Nat.mul_le_mul (by omega) hw
    have hbl : (bitsL w (l.take i)).length = i * w := by rw [bitsL_length, List.length_take, Nat.min_eq_left (by omega)]
    simp [hlen, g0, g1, g6, g7, hlt]
    refine r_fits_calls l[i] w σ1 _ hmem (by omega) ?_
    simp [hlen, g0, g1, g6, g7, hlt, hfi]
    refine loop_ind (fun (j : Nat) ρ' σ2 => ∃ o2, ρ'.length = 47 ∧ slot ρ' 0 = .sl ol l.length (ncs l) ∧ slot ρ' 1 = .v (.int .i64 w) ∧ slot ρ' 6 = .sl o2 (i * w + j) (tcs (bitsL w (l.take i) ++ bitsOf l[i] j)) ∧ slot ρ' 7 = .v (.int .i64 i) ∧ slot ρ' 8 = .v (.int .i64 j) ∧ j ≤ w ∧ ExtB [] σ σ2 ∧ Own1 σ σ2 o2 (i * w + j)) (fun j => w - j) ?_ 0 _ _ ?start2
    case start2 => exact ⟨o, by simp [hlen], by simp [hlen, g0], by simp [hlen, g1], by simp [hlen, g6, bitsOf], by simp [hlen, g7], by simp [hlen], Nat.zero_le _, hx, ho⟩
    rintro j ρ' σ2 ⟨o2, klen, k0, k1, k6, k7, k8, hj, hx2, ho2⟩ next2 hnext2
    by_cases hjw : j < w
    · have d1 : IntKind.u64.wrap (j : Int) = j := u64n (by omega)
      have d2 : min j 64 = j := by omega
      have d3 := shrN l[i] j
      have d4 : ((l[i] / 2 ^ j : Nat) : Int).tmod 2 = ((l[i] / 2 ^ j % 2 : Nat) : Int) := tmodN _ 2
      have d5 : ((l[i] / 2 ^ j % 2 == 1) : Bool) = bitN l[i] j := by unfold bitN; rw [Bool.eq_iff_iff]; simp
      have d6 : IntKind.i64.wrap ((j : Int) + 1) = ((j + 1 : Nat) : Int) := i64w (n := ((j + 1 : Nat) : Int)) (by omega) (by omega)
      obtain ⟨o3, σ3, e3, hg3⟩ := append1 (P := Try.prog) (t := 76) (tx := 76) (cs := tcs (bitsL w (l.take i) ++ bitsOf l[i] j)) (c := tcell (bitN l[i] j)) ho2.ap elem76 u76 (by simp [hbl]) rfl (by rw [Nat.add_mul, Nat.one_mul] at hiw; omega) (by rw [Nat.add_mul, Nat.one_mul] at hiw; omega) (hx2.wf hq)
      obtain ⟨hx3, ho3⟩ := hx2.grew hq ho2 hg3
      have hts : tcs (bitsL w (l.take i) ++ bitsOf l[i] (j + 1)) = tcs (bitsL w (l.take i) ++ bitsOf l[i] j) ++ [.v (.bool (bitN l[i] j))] := by rw [bitsOf_succ, ← List.append_assoc, tcs, List.map_append]; rfl
      simp only [tcell] at e3
      generalize tcs (bitsL w (l.take i) ++ bitsOf l[i] j) = acc at *
      simp [klen, k0, k1, k6, k7, k8, hjw, hlt, d1, d2, d3, d4, nI6, d5, d6, e3, -Int.natCast_add, -Int.natCast_emod, -Int.natCast_ediv, -Int.natCast_mul]
      refine hnext2 (j + 1) _ _ ⟨o3, ?_, ?_, ?_, ?_, ?_, ?_, hjw, hx3, ho3⟩ (by omega)
      · simp [klen]
      · simp [klen, k0]
      · simp [klen, k1]
      · rw [hts]; simp [klen, Nat.add_assoc]
      · simp [klen, k7]
      · simp [klen, -Int.natCast_add]
    · have hje : j = w := by omega
      subst hje
      simp [klen, k0, k1, k6, k7, k8, c6, -Int.natCast_add]
      have hadd : (i + 1) * j = i * j + j := by rw [Nat.add_mul, Nat.one_mul]
      refine hnext (i + 1) _ _ ⟨o2, ?_, ?_, ?_, ?_, ?_, by omega, hx2, ?_⟩ hdec
      · simp [klen]
      · simp [klen, k0]
      · simp [klen, k1]
      · rw [bitsL_take hlt, hadd]; simp [klen, k6]
      · simp [klen, -Int.natCast_add]
      · rw [hadd]; exact ho2
  · have hie : i = l.length := by omega
    subst hie
    rw [List.take_length] at g6
    simp [hlen, g0, g1, g6, g7]
    have hbl := bitsL_length w l
    rw [← hbl]
    have hlw : l.length * w ≤ 65536 * 64 := Nat.mul_le_mul hl hw
    refine r_bytes_calls o (bitsL w l) σ1 _ (hx.wf hq) (by omega) fun σ2 hx2 => ?_
    have hpb : bytesOfBits (bitsL w l) = packB w l := by unfold bytesOfBits packB; rw [bitsV_L hfits, hbl]
    simp [hlen, hpb]
    exact hk σ2 (hx.trans (hx2.b _)).ext
end
end Go.Proofs.Ytdfeadgholpcgaa
end
