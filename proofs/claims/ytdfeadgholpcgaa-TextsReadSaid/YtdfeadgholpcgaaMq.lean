/-
  Walks: what functions of the program come to, over abstract states (see the parts of the proof that import this text).
-/
import Derived.Test.YtdfeadgholpcgaaMr
import Derived.Test.YtdfeadgholpcgaaMv

section
set_option linter.unusedVariables false
set_option linter.unusedSimpArgs false
namespace Go.AW
@[simp] theorem addBox_at {σ : St} {cs : List AV} {i : Nat} (h : i = σ.nxt) : (σ.addBox cs).box i = some cs := by subst h; exact addBox_same
end Go.AW
namespace Go.Spec
open Go.AW Go.RowKit
/-- A value ahead of another one. -/
def aheadV (n1 : Bool) (x1 : Int) (s1 : ByteArray) (n2 : Bool) (x2 : Int) (s2 : ByteArray) : Bool :=
  if (n1 || n2) = true then n1 && !n2 else if x1 = x2 then ltB s1 s2 else decide (x1 < x2)
def valA (n : Bool) (x : Int) (s : ByteArray) : AV := .agg [.v (.bool n), .v (.int .i64 x), .v (.string s)]
end Go.Spec
namespace Go.Proofs.Ytdfeadgholpcgaa
open Go.AW Go.RowKit Go.Spec Go.Proofs.Ytdfeadgholpcgaa.Ty

attribute [local irreducible] awp awpOps awpX stepA stepX plainA plainX bindA bindE bindL gstep condA callA thenA inBlockA retA
section
set_option maxRecDepth 100000
set_option maxHeartbeats 1000000
theorem r_ahead0_calls (a b : List UInt8) (σ : St) (K : AV → St → Prop) (hl : a.length ≤ 9223372036854775806) (h : K (.v (.bool (Op.bytesLess a b))) σ) :
    ACalls Try.prog 85 [.v (.string (bs a)), .v (.string (bs b))] σ K := by
  refine acalls_of hm Try.func85 rfl (by decide) rfl rfl (by kernel_rfl) ?_
  simp [Try.f85]
  refine loop_ind (fun (i : Nat) ρ σ1 => ρ.length = 37 ∧ slot ρ 0 = .v (.string (bs a)) ∧ slot ρ 1 = .v (.string (bs b)) ∧ slot ρ 5 = .v (.int .i64 i) ∧ i ≤ a.length ∧ i ≤ b.length ∧ Op.bytesLess a b = Op.bytesLess (a.drop i) (b.drop i) ∧ σ1 = σ) (fun i => a.length - i) ?_ 0 _ _ ?start
  case start => exact ⟨rfl, rfl, rfl, rfl, Nat.zero_le _, Nat.zero_le _, rfl, rfl⟩
  rintro i ρ σ1 ⟨hlen, g0, g1, g5, hi, hi2, heq, rfl⟩ next hnext
  by_cases h1 : i < a.length
  · have ea : a.drop i = a[i] :: a.drop (i + 1) := List.drop_eq_getElem_cons h1
    by_cases h2 : i < b.length
    · have eb : b.drop i = b[i] :: b.drop (i + 1) := List.drop_eq_getElem_cons h2
      have c6 : IntKind.i64.wrap ((i : Int) + 1) = ((i + 1 : Nat) : Int) := i64w (n := ((i + 1 : Nat) : Int)) (by omega) (by omega)
      rw [ea, eb, Op.bytesLess] at heq
      by_cases h3 : a[i] = b[i]
      · have h3' : a[i].toNat = b[i].toNat := by rw [h3]
        rw [h3] at heq
        simp at heq
        simp [hlen, g0, g1, g5, h1, h2, byteAt_bs, pickA_bool, h3, c6, -Int.natCast_add]
        exact hnext (i + 1) _ _ ⟨by simp [hlen], by simp [hlen, g0], by simp [hlen, g1], by simp [hlen, -Int.natCast_add], h1, h2, heq, rfl⟩ (by omega)
      · have h3' : ¬ a[i].toNat = b[i].toNat := fun q => h3 (UInt8.toNat_inj.1 q)
        have h3b : (a[i].toNat != b[i].toNat) = true := by simpa using h3'
        have h3c : (a[i] == b[i]) = false := by simpa using h3
        rw [h3c] at heq
        simp at heq
        have hdl : decide (a[i].toNat < b[i].toNat) = decide (a[i] < b[i]) := by rw [decide_eq_decide]; exact UInt8.lt_iff_toNat_lt.symm
        simp [hlen, g0, g1, g5, h1, h2, byteAt_bs, pickA_bool, h3', h3b]
        rw [heq, ← hdl] at h
        exact h
    · have hb : b.drop i = [] := List.drop_of_length_le (by omega)
      have hlt : ¬ a.length < b.length := by omega
      have : Op.bytesLess (a.drop i) [] = false := by rw [ea]; rfl
      rw [hb, this] at heq
      simp [hlen, g0, g1, g5, h1, h2, pickA_bool, hlt]
      rwa [heq] at h
  · have ha : a.drop i = [] := List.drop_of_length_le (by omega)
    simp [hlen, g0, g1, g5, h1, pickA_bool]
    rw [ha] at heq
    by_cases h2 : i < b.length
    · have eb : b.drop i = b[i] :: b.drop (i + 1) := List.drop_eq_getElem_cons h2
      have hlt : a.length < b.length := by omega
      rw [eb] at heq
      have : Op.bytesLess [] (b[i] :: b.drop (i + 1)) = true := rfl
      rw [heq, this] at h
      simpa [hlt] using h
    · have hb : b.drop i = [] := List.drop_of_length_le (by omega)
      have hlt : ¬ a.length < b.length := by omega
      rw [hb] at heq
      have : Op.bytesLess [] [] = false := rfl
      rw [heq, this] at h
      simpa [hlt] using h

theorem r_aheadV_calls (n1 n2 : Bool) (x1 x2 : Int) (s1 s2 : ByteArray) (σ : St) (K : AV → St → Prop) (hl : s1.size ≤ 9223372036854775806) (h : ∀ σ', Ext σ σ' → K (.v (.bool (aheadV n1 x1 s1 n2 x2 s2))) σ') :
    ACalls Try.prog 70 [valA n1 x1 s1, valA n2 x2 s2] σ K := by
  refine acalls_of hm Try.func70 rfl (by decide) rfl rfl (by kernel_rfl) ?_
  have hx : Ext σ ((σ.addBox [.v (.bool n1), .v (.int .i64 x1), .v (.string s1)]).addBox [.v (.bool n2), .v (.int .i64 x2), .v (.string s2)]) := (Ext.addBox _ _).trans (Ext.addBox _ _)
  unfold aheadV at h
  cases n1 <;> cases n2 <;> simp at h
  · by_cases hxx : x1 = x2
    · subst hxx
      simp [Try.f70, valA, pickA_bool]
      rw [← bs_inv s1, ← bs_inv s2]
      refine r_ahead0_calls s1.data.toList s2.data.toList _ _ (by simpa using hl) ?_
      simp
      have := h _ hx
      simpa [ltB, bs_inv, toList_data] using this
    · simp [hxx] at h
      have hb : (x1 != x2) = true := by simpa using hxx
      simp [Try.f70, valA, pickA_bool, hxx, hb]
      exact h _ hx
  all_goals
    simp [Try.f70, valA, pickA_bool]
    exact h _ hx
theorem r_ahead_calls (s1 s2 : ByteArray) (σ : St) (K : AV → St → Prop) (hl : s1.size ≤ 9223372036854775806) (h : ∀ σ', Ext σ σ' → K (.v (.bool (ltB s1 s2))) σ') :
    ACalls Try.prog 52 [.v (.string s1), .v (.string s2)] σ K := by
  refine acalls_of hm Try.func52 rfl (by decide) rfl rfl (by kernel_rfl) ?_
  simp [Try.f52]
  refine r_aheadV_calls false false 0 0 s1 s2 σ _ hl fun σ1 hx => ?_
  simp
  have := h σ1 hx
  simpa [aheadV] using this
theorem r_at_calls (ol : AW.Own) (l : List ByteArray) (s : ByteArray) (σ : St) (K : AV → St → Prop) (hl : l.length ≤ 4611686018427387904)
    (h1 : s ∉ l → K (.v (.int .i64 (-1))) σ) (h2 : ∀ i (hi : i < l.length), l[i] = s → (∀ j (hj : j < i), l[j] ≠ s) → K (.v (.int .i64 (i : Int))) σ) :
    ACalls Try.prog 26 [.sl ol l.length (scs l), .v (.string s)] σ K := by
  refine acalls_of hm Try.func26 rfl (by decide) rfl rfl (by kernel_rfl) ?_
  simp [Try.f26]
  refine loop_ind (fun (i : Nat) ρ σ1 => ρ.length = 19 ∧ slot ρ 0 = .sl ol l.length (scs l) ∧ slot ρ 1 = .v (.string s) ∧ slot ρ 5 = .v (.int .i64 i) ∧ i ≤ l.length ∧ (∀ j (hj : j < i) (hj' : j < l.length), l[j] ≠ s) ∧ σ1 = σ) (fun i => l.length - i) ?_ 0 _ _ ?start
  case start => exact ⟨rfl, rfl, rfl, rfl, Nat.zero_le _, fun j hj => by omega, rfl⟩
  rintro i ρ σ1 ⟨hlen, g0, g1, g5, hi, hne, rfl⟩ next hnext
  by_cases hlt : i < l.length
  · have c6 : IntKind.i64.wrap ((i : Int) + 1) = ((i + 1 : Nat) : Int) := i64w (n := ((i + 1 : Nat) : Int)) (by omega) (by omega)
    by_cases heq : l[i].toList = s.toList
    · simp [hlen, g0, g1, g5, hlt, heq]
      exact h2 i hlt (bytes_eq heq) fun j hj => hne j hj (by omega)
    · simp [hlen, g0, g1, g5, hlt, heq, c6, -Int.natCast_add]
      refine hnext (i + 1) _ _ ⟨by simp [hlen], by simp [hlen, g0], by simp [hlen, g1], by simp [hlen, -Int.natCast_add], by omega, fun j hj hj' => ?_, rfl⟩ (by omega)
      rcases Nat.lt_or_ge j i with q | q
      · exact hne j q hj'
      · have : j = i := by omega
        subst this
        exact fun e => heq (by rw [e])
  · have hie : i = l.length := by omega
    simp [hlen, g0, g1, g5, hlt]
    refine h1 fun hmem => ?_
    obtain ⟨j, hj, he⟩ := List.mem_iff_getElem.1 hmem
    exact hne j (by omega) hj he
end
end Go.Proofs.Ytdfeadgholpcgaa
end

section
set_option linter.unusedVariables false
set_option linter.unusedSimpArgs false
namespace Go.Spec
theorem rising_insert {d : List ByteArray} {s : ByteArray} {k : Nat} (hr : Rising d) (hk : k ≤ d.length) (hlo : ∀ j (hj : j < d.length), j < k → ltB d[j] s = true) (hhi : ∀ h : k < d.length, ltB d[k] s = false) (hs : s ∉ d) : Rising (d.take k ++ s :: d.drop k) := by
  unfold Rising at *
  rw [List.pairwise_append, List.pairwise_cons]
  refine ⟨hr.sublist (List.take_sublist k d), ⟨fun x hx => ?_, hr.sublist (List.drop_sublist k d)⟩, fun x hx y hy => ?_⟩
  · obtain ⟨j, hj, rfl⟩ := List.mem_iff_getElem.1 hx
    rw [List.getElem_drop]
    simp at hj
    have hkd : k < d.length := by omega
    have h1 := hhi hkd
    have h2 : ltB s d[k] = true := by
      rcases ltB_total s d[k] with q | q | q
      · exact q
      · exact absurd (q ▸ List.getElem_mem hkd) hs
      · rw [h1] at q; cases q
    rcases Nat.eq_zero_or_pos j with q | q
    · subst q; exact h2
    · exact ltB_trans h2 (List.pairwise_iff_getElem.1 hr k (k + j) hkd (by omega) (by omega))
  · obtain ⟨j, hj, rfl⟩ := List.mem_iff_getElem.1 hx
    simp at hj
    rw [List.getElem_take]
    have h1 := hlo j (by omega) (by omega)
    rw [List.mem_cons] at hy
    rcases hy with rfl | hy
    · exact h1
    · obtain ⟨i, hi, rfl⟩ := List.mem_iff_getElem.1 hy
      simp at hi
      rw [List.getElem_drop]
      exact List.pairwise_iff_getElem.1 hr j (k + i) (by omega) (by omega) (by omega)
theorem mem_insert {d : List ByteArray} {s x : ByteArray} (k : Nat) : x ∈ d.take k ++ s :: d.drop k ↔ x ∈ d ∨ x = s := by
  have : x ∈ d ↔ x ∈ d.take k ∨ x ∈ d.drop k := by rw [← List.mem_append, List.take_append_drop]
  rw [List.mem_append, List.mem_cons, this]
  constructor
  · rintro (h | h | h)
    · exact .inl (.inl h)
    · exact .inr h
    · exact .inl (.inr h)
  · rintro ((h | h) | h)
    · exact .inl h
    · exact .inr (.inr h)
    · exact .inr (.inl h)
end Go.Spec
namespace Go.Proofs.Ytdfeadgholpcgaa
open Go.AW Go.RowKit Go.Spec Go.Proofs.Ytdfeadgholpcgaa.Ty

theorem scs_take (l : List ByteArray) (n : Nat) : (scs l).take n = scs (l.take n) := by simp [scs]
theorem scs_drop (l : List ByteArray) (n : Nat) : (scs l).drop n = scs (l.drop n) := by simp [scs]
theorem scs_append (a b : List ByteArray) : scs (a ++ b) = scs a ++ scs b := by simp [scs]
attribute [local irreducible] awp awpOps awpX stepA stepX plainA plainX bindA bindE bindL gstep condA callA thenA inBlockA retA
section
set_option maxRecDepth 100000
set_option maxHeartbeats 1000000
theorem r_dict_calls (ol : AW.Own) (l : List ByteArray) (σ : St) (K : AV → St → Prop) (hq : σ.Wf) (hl : l.length ≤ 65536) (hs : ∀ s ∈ l, s.size ≤ 64)
    (h : ∀ o d σ', IsDict d l → Ext σ σ' → K (.sl o d.length (scs d)) σ') :
    ACalls Try.prog 24 [.sl ol l.length (scs l)] σ K := by
  refine acalls_of hm Try.func24 rfl (by decide) rfl rfl (by kernel_rfl) ?_
  simp [Try.f24]
  refine loop_ind (fun (i : Nat) ρ σ1 => ∃ o d, ρ.length = 51 ∧ slot ρ 0 = .sl ol l.length (scs l) ∧ slot ρ 3 = .sl o d.length (scs d) ∧ slot ρ 4 = .v (.int .i64 i) ∧ i ≤ l.length ∧ IsDict d (l.take i) ∧ ExtB [] σ σ1) (fun i => l.length - i) ?_ 0 _ _ ?start
  case start => exact ⟨.full, [], rfl, rfl, rfl, rfl, Nat.zero_le _, ⟨List.Pairwise.nil, by simp⟩, ExtB.refl _ _⟩
  rintro i ρ σ1 ⟨o, d, hlen, g0, g3, g4, hi, hd, hx⟩ next hnext
  have hwf1 := hx.wf hq
  have hdl := dict_length hd
  rw [List.length_take, Nat.min_eq_left hi] at hdl
  by_cases hlt : i < l.length
  · have c6 : IntKind.i64.wrap ((i : Int) + 1) = ((i + 1 : Nat) : Int) := i64w (n := ((i + 1 : Nat) : Int)) (by omega) (by omega)
    have hdec : l.length - (i + 1) < l.length - i := by omega
    have htk : l.take (i + 1) = l.take i ++ [l[i]] := List.take_succ_eq_append_getElem hlt
    have hds : ∀ s ∈ d, s.size ≤ 64 := fun s hs' => hs s (List.mem_of_mem_take ((hd.mem s).1 hs'))
    simp [hlen, g0, g3, g4, hlt]
    refine r_at_calls o d l[i] σ1 _ (by omega) (fun hnm => ?_) fun j hj he _ => ?_
    rotate_left
    · simp [hlen, g4, c6, nI4, -Int.natCast_add]
      refine hnext (i + 1) _ _ ⟨o, d, by simp [hlen], by simp [hlen, g0], by simp [hlen, g3], by simp [hlen, -Int.natCast_add], hlt, ⟨hd.rise, fun s => ?_⟩, hx⟩ hdec
      rw [htk, List.mem_append, List.mem_singleton, hd.mem]
      refine ⟨.inl, fun q => q.elim id fun e => ?_⟩
      rw [e, ← hd.mem, ← he]; exact List.getElem_mem hj
    · simp [hlen, g0, g3, g4]
      refine loop_ind (fun (k : Nat) ρ' σ2 => ρ'.length = 51 ∧ slot ρ' 0 = .sl ol l.length (scs l) ∧ slot ρ' 3 = .sl o d.length (scs d) ∧ slot ρ' 4 = .v (.int .i64 i) ∧ slot ρ' 5 = .v (.int .i64 k) ∧ k ≤ d.length ∧ (∀ j (hj : j < d.length), j < k → ltB d[j] l[i] = true) ∧ ExtB [] σ σ2) (fun k => d.length - k) ?_ 0 _ _ ?start2
      case start2 => exact ⟨by simp [hlen], by simp [hlen, g0], by simp [hlen, g3], by simp [hlen, g4], by simp [hlen], Nat.zero_le _, fun j hj h0 => by omega, hx⟩
      rintro k ρ' σ2 ⟨klen, k0, k3, k4, k5, hk, hlo, hx2⟩ next2 hnext2
      have hwf2 := hx2.wf hq
      have fin : (∀ h : k < d.length, ltB d[k] l[i] = false) → ∀ o' σ' ρ3, ExtB [] σ σ' → ρ3.length = 51 → slot ρ3 0 = .sl ol l.length (scs l) → slot ρ3 3 = .sl o' (k + 1 + (d.length - k)) (scs (d.take k ++ l[i] :: d.drop k)) → slot ρ3 4 = .v (.int .i64 ((i + 1 : Nat) : Int)) → next ρ3 σ' := fun hhi o' σ' ρ3 p4 q1 q2 q3 q4 =>
        hnext (i + 1) ρ3 σ' ⟨o', d.take k ++ l[i] :: d.drop k, q1, q2, by rw [q3]; congr 1; simp; omega, q4, hlt,
          ⟨rising_insert hd.rise hk hlo hhi hnm, fun s => by rw [mem_insert, htk, List.mem_append, List.mem_singleton, hd.mem]⟩, p4⟩ hdec
      obtain ⟨o4, σ4, e4, hg4⟩ := append_ok (P := Try.prog) (σ := σ2) (o := .full) (n := 0) (m := k) (sz := 1) (t := 22) (tx := 22) (cs := []) (ds := List.take k (scs d)) (x := .sl .raw k (List.take k (scs d))) trivial elem22 (srcA_sl u22 (by simp; omega) (by rw [scs_take]; simp)) rfl (by omega) (by omega) hwf2
      obtain ⟨hx4, ho4⟩ := hx2.grew hq (Own1.full σ σ2 0) hg4
      rw [Nat.zero_add] at e4 ho4
      rw [List.nil_append] at e4
      obtain ⟨o5, σ5, e5, hg5⟩ := append1 (P := Try.prog) (σ := σ4) (t := 22) (tx := 22) (cs := List.take k (scs d)) (c := scell l[i]) ho4.ap elem22 u22 (by simp; omega) rfl (by omega) (by omega) (hx4.wf hq)
      obtain ⟨hx5, ho5⟩ := hx4.grew hq ho4 hg5
      obtain ⟨o6, σ6, e6, hg6⟩ := append_ok (P := Try.prog) (σ := σ5) (o := o5) (n := k + 1) (m := d.length - k) (sz := 1) (t := 22) (tx := 22) (cs := List.take k (scs d) ++ [scell l[i]]) (ds := List.take (d.length - k) (List.drop k (scs d))) (x := .sl .raw (d.length - k) (List.take (d.length - k) (List.drop k (scs d)))) ho5.ap elem22 (srcA_sl u22 (by simp) (by rw [scs_drop, scs_take]; simp)) (by simp; omega) (by omega) (by omega) (hx5.wf hq)
      obtain ⟨hx6, ho6⟩ := hx5.grew hq ho5 hg6
      have hcat : (List.take k (scs d) ++ [scell l[i]]) ++ List.take (d.length - k) (List.drop k (scs d)) = scs (d.take k ++ l[i] :: d.drop k) := by
        have : List.take (d.length - k) (List.drop k (scs d)) = List.drop k (scs d) := List.take_of_length_le (by simp)
        rw [this, scs_append, scs_take, scs_drop]
        simp [scs]
      rw [hcat] at e6
      simp only [scell] at e5 e6
      have hmv2 := hwf2.2
      have hmv4 := (hx4.wf hq).2
      have hmv5 := (hx5.wf hq).2
      by_cases hkd : k < d.length
      · have c7 : IntKind.i64.wrap ((k : Int) + 1) = ((k + 1 : Nat) : Int) := i64w (n := ((k + 1 : Nat) : Int)) (by omega) (by omega)
        simp [klen, k0, k3, k4, k5, hkd, hlt]
        refine callX_fn (.bool (ltB d[k] l[i])) (fun σ' _ => ACalls.quiet (r_ahead_calls d[k] l[i] _ _ (by have := hds d[k] (List.getElem_mem hkd); omega) fun σ'' hx' => ⟨rfl, hx'.q⟩)) ?_
        cases hb : ltB d[k] l[i] with
        | true =>
          simp [klen, k5, pickA_bool, c7, -Int.natCast_add]
          refine hnext2 (k + 1) _ _ ⟨by simp [klen], by simp [klen, k0], by simp [klen, k3], by simp [klen, k4], by simp [klen, -Int.natCast_add], hkd, fun j hj hjk => ?_, hx2⟩ (by omega)
          rcases Nat.lt_or_ge j k with q | q
          · exact hlo j hj q
          · have : j = k := by omega
            subst this; exact hb
        | false =>
          simp [klen, k0, k3, k4, k5, pickA_bool, hlt, hk, hmv2, hmv4, hmv5, e4, e5, e6, c6, -Int.natCast_add]
          refine fin (fun _ => hb) o6 σ6 _ hx6 ?_ ?_ ?_ ?_
          · simp [klen]
          · simp [klen, k0]
          · simp [klen]
          · simp [klen, -Int.natCast_add]
      · have hke : k = d.length := by omega
        have hkd' : ¬ (k : Int) < d.length := by omega
        simp [klen, k0, k3, k4, k5, hkd, pickA_bool, hlt, hk, hmv2, hmv4, hmv5, e4, e5, e6, c6, -Int.natCast_add]
        refine fin (fun hh => absurd hh hkd) o6 σ6 _ hx6 ?_ ?_ ?_ ?_
        · simp [klen]
        · simp [klen, k0]
        · simp [klen]
        · simp [klen, -Int.natCast_add]
  · have hie : i = l.length := by omega
    subst hie
    rw [List.take_length] at hd
    simp [hlen, g0, g3, g4]
    exact h o d σ1 hd hx.ext
end
end Go.Proofs.Ytdfeadgholpcgaa
end

section
set_option linter.unusedVariables false
set_option linter.unusedSimpArgs false
namespace Go.Spec
/-- Texts, in order or not. -/
def gE (o : Bool) : Nat → List ByteArray → List UInt8 → Except Nat (List ByteArray × List UInt8)
  | 0, acc, r => .ok (acc, r)
  | n + 1, acc, r => match textE 64 r with
    | .error e => .error e
    | .ok (t, r') => if (o && acc.getLast?.any fun x => !ltB x (bs t)) = true then .error 4 else gE o n (acc ++ [bs t]) r'
theorem gE_false : ∀ n acc r, gE false n acc r = getE n acc r
  | 0, _, _ => rfl
  | n + 1, acc, r => by
    simp only [gE, getE]
    cases textE 64 r with
    | error e => rfl
    | ok x => obtain ⟨t, r'⟩ := x; simp [gE_false n]
theorem gE_true : ∀ n acc r, gE true n acc r = ordE n acc r
  | 0, _, _ => rfl
  | n + 1, acc, r => by
    simp only [gE, ordE, Bool.true_and]
    cases textE 64 r with
    | error e => rfl
    | ok x => obtain ⟨t, r'⟩ := x; simp [gE_true n]
end Go.Spec
namespace Go.Proofs.Ytdfeadgholpcgaa
open Go.AW Go.RowKit Go.Spec Go.Proofs.Ytdfeadgholpcgaa.Ty

attribute [local irreducible] awp awpOps awpX stepA stepX plainA plainX bindA bindE bindL gstep condA callA thenA inBlockA retA
section
set_option maxRecDepth 100000
set_option maxHeartbeats 1000000
theorem r_words_calls (ord : Bool) (id : Nat) (s : List UInt8) (a n : Nat) (σ : St) (K : AV → St → Prop) (hq : σ.Wf) (hn : n ≤ 65536) (hid : id < σ.nxt) (hl : s.length ≤ 4611686018427387904) (ha : a ≤ s.length) (hb : σ.box id = some (rcC s a 0))
    (hok : ∀ l a' o σ', gE ord n [] (s.drop a) = .ok (l, s.drop a') → a' ≤ s.length → l.length = n → ExtB [id] σ σ' → Own1 σ σ' o l.length → σ'.box id = some (rcC s a' 0) → K (.tup [.sl o l.length (scs l), .v (.int .i64 0)]) σ')
    (herr : ∀ (e : Nat) σ', gE ord n [] (s.drop a) = .error e → e ≠ 0 → ExtB [id] σ σ' → K (.tup [.sl .full 0 [], .v (.int .i64 (e : Int))]) σ') :
    ACalls Try.prog 38 [.ptr id 0, .v (.int .u64 (n : Int)), .v (.bool ord)] σ K := by
  refine acalls_of hm Try.func38 rfl (by decide) rfl rfl (by kernel_rfl) ?_
  simp [Try.f38]
  refine loop_ind (fun (k : Nat) ρ σ1 => ∃ o acc ak, ρ.length = 47 ∧ slot ρ 0 = .ptr id 0 ∧ slot ρ 1 = .v (.int .u64 n) ∧ slot ρ 2 = .v (.bool ord) ∧ slot ρ 8 = .sl o k (scs acc) ∧ slot ρ 9 = .v (.int .u64 k) ∧ k ≤ n ∧ acc.length = k ∧ ak ≤ s.length ∧ (∀ x ∈ acc, x.size ≤ 64) ∧
    ExtB [id] σ σ1 ∧ Own1 σ σ1 o k ∧ σ1.box id = some (rcC s ak 0) ∧ gE ord n [] (s.drop a) = gE ord (n - k) acc (s.drop ak)) (fun k => n - k) ?_ 0 _ _ ?start
  case start => exact ⟨.full, [], a, rfl, rfl, rfl, rfl, rfl, rfl, Nat.zero_le _, rfl, ha, by simp, ExtB.refl _ _, Own1.nil _ _, hb, rfl⟩
  rintro k ρ σ1 ⟨o, acc, ak, hlen, g0, g1, g2, g8, g9, hk, hacc, hak, h64, hx, ho, hb1, hE⟩ next hnext
  have hwf1 := hx.wf hq
  have hid1 : id < σ1.nxt := by have := hx.nxt; omega
  by_cases hlt : k < n
  · have c7 : IntKind.u64.wrap ((k : Int) + 1) = ((k + 1 : Nat) : Int) := by have := u64n (n := k + 1) (by omega); rw [← this]; simp
    simp [hlen, g0, g1, g2, g8, g9, hlt]
    refine r_ctext_calls 64 id s ak 0 σ1 _ (by omega) hwf1 hid1 hl hak hb1 fun a2 σ2 ha2 hd2 hx2 hb2 => ?_
    rw [show n - k = (n - k - 1) + 1 by omega] at hE
    simp only [gE, textE] at hE
    by_cases h1 : (textS 64 (s.drop ak) 0).2.2 = 0
    · rw [if_pos h1] at hE
      dsimp only at hE
      rw [h1] at hb2
      rw [← hd2] at hE
      have htl : (textS 64 (s.drop ak) 0).1.length ≤ 64 := by
        unfold textS
        simp only [if_true]
        split
        · split
          · simp
          · split
            · simp
            · simp; omega
        · simp
      generalize (textS 64 (s.drop ak) 0).1 = tx at *
      have happ : ∀ σ', ExtB [id] σ1 σ' → ∃ o3 σ3, appendA Try.prog σ' 22 22 (.sl o k (scs acc)) (.sl .full 1 [.v (.string (bs tx))]) = some (.sl o3 (k + 1) (scs acc ++ [.v (.string (bs tx))]), σ3) ∧ ExtB [id] σ σ3 ∧ Own1 σ σ3 o3 (k + 1) ∧ σ3.box id = σ'.box id := fun σ' hx' => by
        obtain ⟨o3, σ3, e3, hg3⟩ := append1 (P := Try.prog) (t := 22) (tx := 22) (cs := scs acc) (c := scell (bs tx)) (ho.ext hx').ap elem22 u22 (by rw [scs_length, hacc]) rfl (by omega) (by omega) (hx'.wf hwf1)
        obtain ⟨hx3, ho3⟩ := (hx.trans hx').grew hq (ho.ext hx') hg3
        exact ⟨o3, σ3, e3, hx3, ho3, hg3.box id (by have := hx'.nxt; omega)⟩
      have fin : ∀ ρ' o3 σ3, ρ'.length = 47 → slot ρ' 0 = .ptr id 0 → slot ρ' 1 = .v (.int .u64 n) → slot ρ' 2 = .v (.bool ord) → slot ρ' 8 = .sl o3 (k + 1) (scs acc ++ [.v (.string (bs tx))]) → slot ρ' 9 = .v (.int .u64 ((k + 1 : Nat) : Int)) → ExtB [id] σ σ3 → Own1 σ σ3 o3 (k + 1) → σ3.box id = σ2.box id → (ord && acc.getLast?.any fun x => !ltB x (bs tx)) = false → next ρ' σ3 := fun ρ' o3 σ3 p1 p2 p3 p4 p5 p6 p7 p8 p9 p10 => by
        refine hnext (k + 1) ρ' σ3 ⟨o3, acc ++ [bs tx], a2, p1, p2, p3, p4, by rw [p5]; simp [scs, scell], p6, hlt, by simp [hacc], ha2, fun x hx => ?_, p7, p8, p9.trans hb2, ?_⟩ (by omega)
        · rw [List.mem_append, List.mem_singleton] at hx
          rcases hx with hx | rfl
          · exact h64 x hx
          · simpa using htl
        · rw [hE, p10, show n - (k + 1) = n - k - 1 by omega]; simp
      have hb2' : σ2.box id = some [.v (.string (bs s)), .v (.int .i64 (a2 : Int)), .v (.int .i64 0)] := hb2
      cases hord : ord with
      | false =>
        rw [hord] at fin g2
        obtain ⟨o3, σ3, e3, hx3, ho3, hbx3⟩ := happ σ2 hx2
        simp [hlen, g0, g1, g2, g8, g9, hb2', pickA_bool, e3, c7, -Int.natCast_add]
        exact fin _ o3 σ3 (by simp [hlen]) (by simp [hlen, g0]) (by simp [hlen, g1]) (by simp [hlen, g2]) (by simp [hlen]) (by simp [hlen, -Int.natCast_add]) hx3 ho3 hbx3 rfl
      | true =>
        rw [hord] at fin g2 hE
        by_cases hk0 : k = 0
        · have ha0 : acc = [] := List.eq_nil_of_length_eq_zero (by omega)
          obtain ⟨o3, σ3, e3, hx3, ho3, hbx3⟩ := happ σ2 hx2
          have hnp : ¬ 0 < k := by omega
          simp [hlen, g0, g1, g2, g8, g9, hb2', pickA_bool, e3, c7, nI2, hnp, -Int.natCast_add]
          exact fin _ o3 σ3 (by simp [hlen]) (by simp [hlen, g0]) (by simp [hlen, g1]) (by simp [hlen, g2]) (by simp [hlen]) (by simp [hlen, -Int.natCast_add]) hx3 ho3 hbx3 (by simp [ha0])
        · have hnp : 0 < k := by omega
          have c2 : IntKind.u64.wrap ((k : Int) - 1) = ((k - 1 : Nat) : Int) := by
            rw [show (k : Int) - 1 = ((k - 1 : Nat) : Int) by omega]; exact u64n (by omega)
          have c3 : k - 1 < acc.length := by omega
          have c4 : k - 1 < k := by omega
          have c5 : acc.getLast? = some acc[k - 1] := by rw [List.getLast?_eq_getElem?, hacc, List.getElem?_eq_getElem c3]
          rw [c5] at hE fin
          simp [hlen, g0, g1, g2, g8, g9, hb2', pickA_bool, nI2, hnp, c2, c3, c4]
          refine r_ahead_calls acc[k - 1] (bs tx) σ2 _ (by have := h64 acc[k - 1] (List.getElem_mem c3); omega) fun σ4 hx4 => ?_
          obtain ⟨o3, σ3, e3, hx3, ho3, hbx3⟩ := happ σ4 (hx2.trans (hx4.b _))
          have hbx4 : σ4.box id = σ2.box id := hx4.box id (by have := hx2.nxt; omega)
          cases hle : ltB acc[k - 1] (bs tx) with
          | true =>
            simp [hlen, g0, g1, g2, g8, g9, pickA_bool, e3, c7, -Int.natCast_add]
            exact fin _ o3 σ3 (by simp [hlen]) (by simp [hlen, g0]) (by simp [hlen, g1]) (by simp [hlen, g2]) (by simp [hlen]) (by simp [hlen, -Int.natCast_add]) hx3 ho3 (hbx3.trans hbx4) (by simp [hle])
          | false =>
            simp [hlen, g0, g1, g2, g8, g9, pickA_bool]
            rw [hord] at herr
            simp [hle] at hE
            exact herr 4 σ4 hE (by omega) ((hx.trans hx2).trans (hx4.b _))
    · rw [if_neg h1] at hE
      have hb2' : σ2.box id = some [.v (.string (bs s)), .v (.int .i64 (a2 : Int)), .v (.int .i64 ((textS 64 (s.drop ak) 0).2.2 : Int))] := hb2
      simp [hlen, g0, g1, g2, g8, g9, hb2', h1]
      exact herr _ σ2 hE h1 (hx.trans hx2)
  · have hke : k = n := by omega
    subst hke
    subst hacc
    rw [Nat.sub_self, gE] at hE
    simp [hlen, g0, g1, g2, g8, g9]
    exact hok acc ak o σ1 hE hak rfl hx ho hb1
end
end Go.Proofs.Ytdfeadgholpcgaa
end

section
set_option linter.unusedVariables false
set_option linter.unusedSimpArgs false
namespace Go.Spec
open Go.AW
def pickE (n : Nat) (d : List ByteArray) (r : List UInt8) : Except Nat (List ByteArray × List UInt8) :=
  match numE n r with
  | .error e => .error e
  | .ok (l, w, r3) => if (∀ k ∈ l, k < d.length) ∧ (∀ k, k < d.length → k ∈ l) ∧ widthN l = w then .ok (l.map fun k => d.getD k (bs []), r3) else .error 4
theorem chosenE_eq (n : Nat) (r : List UInt8) : chosenE n r = match dictE r with | .error e => .error e | .ok (d, r2) => pickE n d r2 := rfl
/-- Which of so many numbers are there. -/
def flags (m : Nat) (l : List Nat) : List Bool := (List.range m).map fun j => decide (j ∈ l)
@[simp] theorem flags_length (m : Nat) (l : List Nat) : (flags m l).length = m := by simp [flags]
theorem flags_get {m j : Nat} {l : List Nat} (h : j < m) : (flags m l)[j]'(by simpa using h) = decide (j ∈ l) := by simp [flags]
theorem flags_set {m x : Nat} {l : List Nat} (h : x < m) : (tcs (flags m l)).set x (.v (.bool true)) = tcs (flags m (l ++ [x])) := by
  apply List.ext_getElem
  · simp
  · intro j h1 h2
    have hj : j < m := by simpa using h2
    rw [List.getElem_set]
    by_cases hx : x = j
    · subst hx
      rw [if_pos rfl, tcs_getElem]
      simp [flags_get hj]
    · rw [if_neg hx, tcs_getElem, tcs_getElem]
      simp only [flags_get hj]
      congr 2
      rw [decide_eq_decide, List.mem_append, List.mem_singleton]
      exact ⟨.inl, fun q => q.elim id fun e => absurd e.symm hx⟩
end Go.Spec
namespace Go.Proofs.Ytdfeadgholpcgaa
open Go.AW Go.RowKit Go.Spec Go.Proofs.Ytdfeadgholpcgaa.Ty

attribute [local irreducible] awp awpOps awpX stepA stepX plainA plainX bindA bindE bindL gstep condA callA thenA inBlockA retA
section
set_option maxRecDepth 100000
set_option maxHeartbeats 1000000
theorem r_pick_calls (id n : Nat) (s : List UInt8) (a : Nat) (od : AW.Own) (d : List ByteArray) (σ : St) (K : AV → St → Prop) (hq : σ.Wf) (hn : n ≤ 65536) (hdm : d.length ≤ 65536) (hid : id < σ.nxt) (hl : s.length ≤ 4611686018427387904) (ha : a ≤ s.length) (hb : σ.box id = some (rcC s a 0))
    (hok : ∀ l a' o σ', pickE n d (s.drop a) = .ok (l, s.drop a') → a' ≤ s.length → ExtB [id] σ σ' → Own1 σ σ' o l.length → σ'.box id = some (rcC s a' 0) → K (.tup [.sl o l.length (scs l), .v (.int .i64 0)]) σ')
    (herr : ∀ (e : Nat) σ', pickE n d (s.drop a) = .error e → e ≠ 0 → ExtB [id] σ σ' → K (.tup [.sl .full 0 [], .v (.int .i64 (e : Int))]) σ') :
    ACalls Try.prog 39 [.ptr id 0, .v (.int .i64 (n : Int)), .sl od d.length (scs d)] σ K := by
  refine acalls_of hm Try.func39 rfl (by decide) rfl rfl (by kernel_rfl) ?_
  simp [Try.f39]
  refine r_byte_calls id s a 0 σ _ (by omega) ha hb fun a1 σ1 ha1 hd1 hx1 hb1 => ?_
  have hwf1 := hx1.wf hq
  have hid1 : id < σ1.nxt := by have := hx1.nxt; omega
  have hb1' : σ1.box id = some [.v (.string (bs s)), .v (.int .i64 (a1 : Int)), .v (.int .i64 ((byteS (s.drop a) 0).2.2 : Int))] := hb1
  obtain ⟨r, hr⟩ : ∃ r, s.drop a = r := ⟨_, rfl⟩
  rw [hr] at hd1 hb1 hb1' hok herr ⊢
  cases r with
  | nil =>
    simp [hb1', byteS]
    exact herr 2 σ1 rfl (by omega) hx1
  | cons b t =>
    have hE : numE n (b :: t) = if 64 < b.toNat then .error 4 else if t.length < (n * b.toNat + 7) / 8 then .error 2 else
      match unpackE (t.take ((n * b.toNat + 7) / 8)) n b.toNat with
      | .error e => .error e
      | .ok l => .ok (l, b.toNat, t.drop ((n * b.toNat + 7) / 8)) := rfl
    have hP : pickE n d (b :: t) = match numE n (b :: t) with
      | .error e => .error e
      | .ok (l, w, r3) => if (∀ k ∈ l, k < d.length) ∧ (∀ k, k < d.length → k ∈ l) ∧ widthN l = w then .ok (l.map fun k => d.getD k (bs []), r3) else .error 4 := rfl
    have hd1' : s.drop a1 = t := hd1
    have htl : t.length = s.length - a1 := by rw [← hd1']; simp
    have hb1c : σ1.box id = some (rcC s a1 0) := hb1
    have hb1'' : σ1.box id = some [.v (.string (bs s)), .v (.int .i64 (a1 : Int)), .v (.int .i64 0)] := hb1
    simp [hb1'', byteS]
    generalize hw : b.toNat = w at *
    by_cases h1 : 64 < w
    · simp [nI2, h1]
      exact herr 4 σ1 (by rw [hP, hE, if_pos h1]) (by omega) hx1
    · have hnw : n * w ≤ 65536 * 64 := Nat.mul_le_mul hn (by omega)
      have c5 : IntKind.i64.wrap ((n : Int) * w) = ((n * w : Nat) : Int) := by
        have := i64n (n := n * w) (by omega); rw [← this]; simp
      have c6 : IntKind.i64.wrap (((n * w : Nat) : Int) + 7) = ((n * w + 7 : Nat) : Int) := i64w (n := ((n * w + 7 : Nat) : Int)) (by omega) (by omega)
      have c8 : ((n * w + 7 : Nat) : Int).tdiv 8 = (((n * w + 7) / 8 : Nat) : Int) := tdivN (n * w + 7) 8
      have c9 : IntKind.i64.wrap (((n * w + 7) / 8 : Nat) : Int) = (((n * w + 7) / 8 : Nat) : Int) := i64n (by omega)
      have hneed : (n * w + 7) / 8 ≤ 600000 := by omega
      generalize hmm : (n * w + 7) / 8 = m at *
      simp [nI2, h1, c5, c6, c8, c9, -Int.natCast_mul, -Int.natCast_add]
      refine r_left_calls id s a1 0 σ1 _ (by omega) ha1 hb1c ?_
      rw [if_neg h1] at hE
      by_cases h2 : t.length < m
      · have h2' : s.length - a1 < m := by omega
        simp [h2']
        exact herr 2 σ1 (by rw [hP, hE, if_pos h2]) (by omega) hx1
      · have h2' : ¬ s.length - a1 < m := by omega
        rw [if_neg h2] at hE
        have w1 : IntKind.i64.wrap ((a1 : Int) + m) = ((a1 + m : Nat) : Int) := i64w (n := ((a1 + m : Nat) : Int)) (by omega) (by omega)
        have w2 : (a1 : Int) ≤ ((a1 + m : Nat) : Int) := by omega
        have w3 : a1 + m ≤ s.length := by omega
        have w4 : a1 + m - a1 = m := by omega
        simp [h2', hb1'', w1, w2, w3, w4, bs_extract, hd1', -Int.natCast_add]
        refine r_unpack_calls (t.take m) n w σ1 _ hwf1 hn (by omega) (fun l ow σ2 hu hll hx2 ho2 => ?_) fun e σ2 hu he hx2 => ?_
        rotate_left
        · rw [hu] at hE
          simp [he]
          exact herr e σ2 (by rw [hP, hE]) he (hx1.trans (hx2.b _))
        · rw [hu] at hE
          have hN64 := numE_lt hE
          rw [hE] at hP
          simp only at hP
          have hx12 := hx1.trans (hx2.b [id])
          have hwf2 := hx12.wf hq
          have hb2 : σ2.box id = some [.v (.string (bs s)), .v (.int .i64 (a1 : Int)), .v (.int .i64 0)] := (hx2.box id hid1).trans hb1''
          have hz : (List.map (fun i => [AV.v (.bool false)][i % 1]?.getD (.v undef)) (List.range d.length)) = tcs (flags d.length []) := by
            apply List.ext_getElem
            · simp
            · intro i h1 h2
              have : i < d.length := by simpa using h2
              rw [tcs_getElem, flags_get this]
              simp [Nat.mod_one]
          have hmb : (d.length : Int) ≤ 140737488355328 := by omega
          have hmb2 : (d.length : Int) ≤ 9223372036854775807 := by omega
          subst hll
          simp [hb2, w1, hz, hmb, hmb2, hwf2.2, -Int.natCast_add]
          obtain ⟨σ3, hσ3⟩ : ∃ σ3, σ3 = (σ2.setBox id [.v (.string (bs s)), .v (.int .i64 ((a1 + m : Nat) : Int)), .v (.int .i64 0)]).addBox (tcs (flags d.length [])) := ⟨_, rfl⟩
          have hx3 : ExtB [id] σ σ3 := by rw [hσ3]; exact (hx12.trans (ExtB.setBox _ _ _)).trans ((ExtB.addBox _ _).mono (by simp))
          have hid2 : id < σ2.nxt := by have := hx12.nxt; omega
          have hb3 : σ3.box id = some (rcC s (a1 + m) 0) := by rw [hσ3, addBox_ne (by simp; omega)]; simp [rcC]
          have hu3 : σ3.box σ2.nxt = some (tcs (flags d.length [])) := by rw [hσ3, addBox_at (by simp)]
          have hnx3 : σ2.nxt < σ3.nxt := by rw [hσ3]; simp
          rw [← hσ3]
          have hdr : s.drop (a1 + m) = t.drop m := by rw [← hd1', List.drop_drop]
          rw [← hdr] at hP
          have hwf3 := hx3.wf hq
          refine loop_ind (fun (i : Nat) ρ σ4 => ∃ o acc, ρ.length = 118 ∧ slot ρ 1 = .v (.int .i64 l.length) ∧ slot ρ 2 = .sl od d.length (scs d) ∧ slot ρ 8 = .v (.int .i64 w) ∧ slot ρ 10 = .sl ow l.length (ncs l) ∧ slot ρ 12 = .msl σ2.nxt 0 d.length d.length ∧ slot ρ 13 = .sl o i (scs acc) ∧ slot ρ 14 = .v (.int .i64 i) ∧ i ≤ l.length ∧
            acc = (l.take i).map (fun k => d.getD k (bs [])) ∧ (∀ x ∈ l.take i, x < d.length) ∧ σ4.box σ2.nxt = some (tcs (flags d.length (l.take i))) ∧ ExtB [id, σ2.nxt] σ3 σ4 ∧ Own1 σ3 σ4 o i ∧ σ4.box id = some (rcC s (a1 + m) 0)) (fun i => l.length - i) ?_ 0 _ _ ?start
          case start => exact ⟨.full, [], rfl, rfl, rfl, rfl, rfl, rfl, rfl, rfl, Nat.zero_le _, rfl, by simp, hu3, ExtB.refl _ _, Own1.nil _ _, hb3⟩
          rintro i ρ σ4 ⟨o, acc, hlen, g1, g2, g8, g10, g12, g13, g14, hi, hacc, hall, hub, hx4, ho4, hb4⟩ next hnext
          have hout : ∀ σ', ExtB [id, σ2.nxt] σ3 σ' → ExtB [id] σ σ' := fun σ' h' => hx3.new h' hq (by simp; exact .inr hx12.nxt)
          by_cases hlt : i < l.length
          · have f1 : IntKind.i64.wrap ((i : Int) + 1) = ((i + 1 : Nat) : Int) := i64w (n := ((i + 1 : Nat) : Int)) (by omega) (by omega)
            have f2 : IntKind.u64.wrap (d.length : Int) = d.length := u64n (by omega)
            have hdec : l.length - (i + 1) < l.length - i := by omega
            by_cases hdk : d.length ≤ l[i]
            · simp [hlen, g1, g2, g8, g10, g12, g13, g14, hlt, f2, hdk]
              exact herr 4 σ4 (by rw [hP, if_neg]; rintro ⟨q, _⟩; have := q _ (List.getElem_mem hlt); omega) (by omega) (hout _ hx4)
            · have hdk' : l[i] < d.length := by omega
              have hget : d.getD l[i] (bs []) = d[l[i]] := by simp [List.getD_eq_getElem?_getD, hdk']
              have htk : l.take (i + 1) = l.take i ++ [l[i]] := List.take_succ_eq_append_getElem hlt
              have hfs := flags_set (l := l.take i) hdk'
              rw [← htk] at hfs
              have f4 : l[i] + 1 ≤ d.length := hdk'
              have hnx4 : σ2.nxt < σ4.nxt := by have := hx4.nxt; omega
              obtain ⟨σ5, hσ5⟩ : ∃ σ5, σ5 = σ4.setBox σ2.nxt (tcs (flags d.length (l.take (i + 1)))) := ⟨_, rfl⟩
              have hx5 : ExtB [id, σ2.nxt] σ3 σ5 := by rw [hσ5]; exact hx4.trans ((ExtB.setBox _ _ _).mono (by simp))
              have ho5 : Own1 σ3 σ5 o i := by rw [hσ5]; exact ho4.ext (ExtB.setBox _ _ _)
              obtain ⟨o6, σ6, e6, hg6⟩ := append1 (P := Try.prog) (t := 22) (tx := 22) (cs := scs acc) (c := scell d[l[i]]) ho5.ap elem22 u22 (by rw [hacc]; simp; omega) rfl (by omega) (by omega) (hx5.wf hwf3)
              obtain ⟨hx6, ho6⟩ := hx5.grew hwf3 ho5 hg6
              simp only [scell, hσ5] at e6
              have hne5 : id ≠ σ2.nxt := by omega
              simp [hlen, g1, g2, g8, g10, g12, g13, g14, hlt, f1, f2, hdk, hdk', hub, hfs, f4, e6, -Int.natCast_add]
              refine hnext (i + 1) _ _ ⟨o6, acc ++ [d[l[i]]], ?_, ?_, ?_, ?_, ?_, ?_, ?_, ?_, hlt, ?_, ?_, ?_, hx6, ho6, ?_⟩ hdec
              · simp [hlen]
              · simp [hlen, g1]
              · simp [hlen, g2]
              · simp [hlen, g8]
              · simp [hlen, g10]
              · simp [hlen, g12]
              · simp [hlen, scs, scell]
              · simp [hlen, -Int.natCast_add]
              · rw [htk, List.map_append, List.map_cons, List.map_nil, hget, hacc]
              · rw [htk]; intro x hx; rw [List.mem_append, List.mem_singleton] at hx; rcases hx with hx | rfl; exact hall x hx; exact hdk'
              · rw [hg6.box σ2.nxt (by rw [hσ5]; simpa using hnx4), hσ5, setBox_same]
              · rw [hg6.box id (by rw [hσ5]; simp; omega), hσ5, setBox_ne hne5]; exact hb4
          · have hie : i = l.length := by omega
            subst hie
            rw [List.take_length] at hacc hall hub
            simp [hlen, g1, g2, g8, g10, g12, g13, g14]
            refine loop_ind (fun (j : Nat) ρ' σ5 => ρ'.length = 118 ∧ slot ρ' 8 = .v (.int .i64 w) ∧ slot ρ' 10 = .sl ow l.length (ncs l) ∧ slot ρ' 12 = .msl σ2.nxt 0 d.length d.length ∧ slot ρ' 13 = .sl o l.length (scs acc) ∧ slot ρ' 15 = .v (.int .i64 j) ∧ j ≤ d.length ∧ (∀ k, k < j → k ∈ l) ∧ σ5 = σ4) (fun j => d.length - j) ?_ 0 _ _ ?start2
            case start2 => exact ⟨by simp [hlen], by simp [hlen, g8], by simp [hlen, g10], by simp [hlen, g12], by simp [hlen, g13], by simp [hlen], Nat.zero_le _, fun k hk => by omega, rfl⟩
            rintro j ρ' σ5 ⟨klen, k8, k10, k12, k13, k15, hj, hjall, rfl⟩ next2 hnext2
            by_cases hjd : j < d.length
            · have f1 : IntKind.i64.wrap ((j : Int) + 1) = ((j + 1 : Nat) : Int) := i64w (n := ((j + 1 : Nat) : Int)) (by omega) (by omega)
              have hfg := flags_get (l := l) hjd
              by_cases hjm : j ∈ l
              · have hfg' : (flags d.length l)[j]'(by simpa using hjd) = true := by rw [hfg]; simpa using hjm
                simp [klen, k8, k10, k12, k13, k15, hjd, hub, hfg', f1, -Int.natCast_add]
                refine hnext2 (j + 1) _ _ ⟨by simp [klen], by simp [klen, k8], by simp [klen, k10], by simp [klen, k12], by simp [klen, k13], by simp [klen, -Int.natCast_add], hjd, fun k hk => ?_, rfl⟩ (by omega)
                rcases Nat.lt_or_ge k j with q | q
                · exact hjall k q
                · rw [show k = j by omega]; exact hjm
              · have hfg' : (flags d.length l)[j]'(by simpa using hjd) = false := by rw [hfg]; simpa using hjm
                simp [klen, k8, k10, k12, k13, k15, hjd, hub, hfg']
                exact herr 4 σ5 (by rw [hP, if_neg]; rintro ⟨_, q, _⟩; exact hjm (q j hjd)) (by omega) (hout _ hx4)
            · have hje : j = d.length := by omega
              subst hje
              simp [klen, k8, k10, k12, k13, k15]
              refine r_width_calls ow l σ5 _ (by omega) hN64 ?_
              by_cases hwd : widthN l = w
              · simp [klen, k8, k13, hwd]
                rw [if_pos ⟨hall, hjall, hwd⟩, ← hacc] at hP
                have hal : acc.length = l.length := by rw [hacc]; simp
                have ho' : Own1 σ σ5 o l.length := ⟨ho4.ap, fun t' e' => Nat.le_trans hx3.nxt (ho4.fresh t' e')⟩
                rw [← hal] at ho' ⊢
                exact hok acc (a1 + m) o σ5 hP w3 (hout _ hx4) ho' hb4
              · simp [klen, k8, k13, hwd]
                exact herr 4 σ5 (by rw [hP, if_neg (fun q => hwd q.2.2)]) (by omega) (hout _ hx4)
end
end Go.Proofs.Ytdfeadgholpcgaa
end

section
set_option linter.unusedVariables false
set_option linter.unusedSimpArgs false
namespace Go.Proofs.Ytdfeadgholpcgaa
open Go.AW Go.RowKit Go.Spec Go.Proofs.Ytdfeadgholpcgaa.Ty

attribute [local irreducible] awp awpOps awpX stepA stepX plainA plainX bindA bindE bindL gstep condA callA thenA inBlockA retA
theorem gE_len (o : Bool) : ∀ (n : Nat) (acc : List ByteArray) (r r' : List UInt8) (l : List ByteArray), gE o n acc r = .ok (l, r') → l.length = acc.length + n
  | 0, acc, r, r', l, h => by simp only [gE] at h; injection h with h; injection h with h1 h2; subst h1; rfl
  | n + 1, acc, r, r', l, h => by
    simp only [gE] at h
    split at h
    · cases h
    · split at h
      · cases h
      · have := gE_len o n _ _ _ _ h
        simp at this; omega
section
set_option maxRecDepth 100000
set_option maxHeartbeats 1000000
theorem r_read_calls (s : List UInt8) (σ : St) (K : AV → St → Prop) (hq : σ.Wf) (hl : s.length ≤ 4611686018427387904)
    (hok : ∀ l o σ', readE s = .ok l → Ext σ σ' → Own1 σ σ' o l.length → K (.tup [.sl o l.length (scs l), .v (.int .i64 0)]) σ')
    (herr : ∀ (e : Nat) σ', readE s = .error e → e ≠ 0 → Ext σ σ' → K (.tup [.sl .full 0 [], .v (.int .i64 (e : Int))]) σ') :
    ACalls Try.prog 10 [.v (.string (bs s))] σ K := by
  refine acalls_of hm Try.func10 rfl (by decide) rfl rfl (by kernel_rfl) ?_
  simp [Try.f10]
  obtain ⟨σ0, hσ0⟩ : ∃ σ0, σ0 = σ.addBox (rcC s 0 0) := ⟨_, rfl⟩
  have hx0 : ExtB [] σ σ0 := by rw [hσ0]; exact ExtB.addBox σ _
  have hw0 := hx0.wf hq
  have hid0 : σ.nxt < σ0.nxt := by rw [hσ0]; simp
  have hb0 : σ0.box σ.nxt = some (rcC s 0 0) := by rw [hσ0]; simp
  have hσ0' : σ.addBox [.v (.string (bs s)), .v (.int .i64 0), .v (.int .i64 0)] = σ0 := by rw [hσ0]; rfl
  rw [hσ0']
  have out : ∀ σ', ExtB [σ.nxt] σ0 σ' → Ext σ σ' := fun σ' h => (hx0.new h hq (by simp)).ext
  have outo : ∀ {σ' o n}, Own1 σ0 σ' o n → Own1 σ σ' o n := fun h => ⟨h.ap, fun t e => Nat.le_trans hx0.nxt (h.fresh t e)⟩
  obtain ⟨id, hid⟩ : ∃ id, σ.nxt = id := ⟨_, rfl⟩
  rw [hid] at hid0 hb0 out ⊢
  clear hσ0 hσ0'
  refine r_byte_calls id s 0 0 σ0 _ (by omega) (Nat.zero_le _) hb0 fun a1 σ1 ha1 hd1 hx1 hb1 => ?_
  rw [List.drop_zero] at hd1 hb1 ⊢
  have hwf1 := hx1.wf hw0
  have hid1 : id < σ1.nxt := by have := hx1.nxt; omega
  cases s with
  | nil =>
    have ha0 : a1 = 0 := by simpa using ha1
    subst ha0
    have hb1c : σ1.box id = some (rcC [] 0 2) := hb1
    have hb1' : σ1.box id = some [.v (.string (bs [])), .v (.int .i64 0), .v (.int .i64 2)] := hb1
    simp [byteS, hb1', pickA_bool]
    refine r_cuint_calls id [] 0 2 σ1 _ hwf1 hid1 (by simp) (by simp) hb1c fun a2 σ2 ha2 hd2 hx2 hb2 => ?_
    have hb2' : σ2.box id = some [.v (.string (bs [])), .v (.int .i64 (a2 : Int)), .v (.int .i64 2)] := hb2
    simp [uintS, hb2']
    exact herr 2 σ2 rfl (by omega) (out _ (hx1.trans hx2))
  | cons b t =>
    have hd1' : (b :: t).drop a1 = t := hd1
    have hb1c : σ1.box id = some (rcC (b :: t) a1 0) := hb1
    have hb1' : σ1.box id = some [.v (.string (bs (b :: t))), .v (.int .i64 (a1 : Int)), .v (.int .i64 0)] := hb1
    have hE : readE (b :: t) = if 2 ≤ b.toNat then .error 4 else match countE t with | .error e => .error e | .ok (n, r1) => doneE (if b.toNat = 1 then chosenE n r1 else getE n [] r1) := rfl
    simp [byteS, hb1', pickA_bool]
    obtain ⟨k, hk⟩ : ∃ k, b.toNat = k := ⟨_, rfl⟩
    rw [hk] at hE ⊢
    obtain ⟨s, hs⟩ : ∃ s, b :: t = s := ⟨_, rfl⟩
    rw [hs] at hE hb1c hb1' ha1 hl hok herr hd1'
    by_cases h2 : 2 ≤ k
    · have h2' : 1 < k := by omega
      simp [nI2, h2']
      exact herr 4 σ1 (by rw [hE, if_pos h2]) (by omega) (out _ hx1)
    · have h2' : ¬ 1 < k := by omega
      rw [if_neg h2] at hE
      simp [nI2, h2']
      refine r_cuint_calls id s a1 0 σ1 _ hwf1 hid1 hl ha1 hb1c fun a2 σ2 ha2 hd2 hx2 hb2 => ?_
      rw [uintS0] at hd2 hb2 ⊢
      rw [hd1'] at hd2 hb2 ⊢
      have hx12 := hx1.trans hx2
      have hwf2 := hx12.wf hw0
      have hid2 : id < σ2.nxt := by have := hx12.nxt; omega
      have hb2' : σ2.box id = some [.v (.string (bs s)), .v (.int .i64 (a2 : Int)), .v (.int .i64 ((nextS t).2.2 : Int))] := hb2
      have hC : countE t = if (nextS t).2.2 = 0 then (if 65536 < (nextS t).1 then .error 3 else .ok ((nextS t).1, (nextS t).2.1)) else .error (nextS t).2.2 := by
        unfold countE uintE; by_cases q : (nextS t).2.2 = 0 <;> simp [q]
      have hz := (nextS_rest t).2
      have hend : ∀ (m : Nat) (a3 : Nat) (σ3 : St), True := fun _ _ _ => trivial
      by_cases hk1 : k = 1
      · simp only [if_pos hk1] at hE
        simp [nI5, hk1]
        refine r_cuint_calls id s a2 _ σ2 _ hwf2 hid2 hl ha2 hb2 fun a3 σ3 ha3 hd3 hx3 hb3 => ?_
        have hx13 := hx12.trans hx3
        have hwf3 := hx13.wf hw0
        have hid3 : id < σ3.nxt := by have := hx13.nxt; omega
        by_cases h3 : 65536 < (nextS t).1
        · have h1 : (nextS t).2.2 = 0 := Classical.byContradiction fun q => by have := (hz q).2; omega
          simp [nI2, h3]
          exact herr 3 σ3 (by rw [hE, hC, if_pos h1, if_pos h3]) (by omega) (out _ hx13)
        · by_cases h1 : (nextS t).2.2 = 0
          · rw [h1] at hb3 hd3
            rw [uintS0] at hb3 hd3
            rw [hd2] at hb3 hd3
            rw [if_pos h1, if_neg h3] at hC
            rw [hC] at hE
            simp only at hE
            generalize hn1 : (nextS t).1 = n at *
            generalize hr1 : (nextS t).2.1 = r1 at *
            have hb3' : σ3.box id = some [.v (.string (bs s)), .v (.int .i64 (a3 : Int)), .v (.int .i64 ((nextS r1).2.2 : Int))] := hb3
            have hC2 : countE r1 = if (nextS r1).2.2 = 0 then (if 65536 < (nextS r1).1 then .error 3 else .ok ((nextS r1).1, (nextS r1).2.1)) else .error (nextS r1).2.2 := by
              unfold countE uintE; by_cases q : (nextS r1).2.2 = 0 <;> simp [q]
            have hx : ∀ (e : Nat), countE r1 = .error e → readE s = .error e := fun e he => by rw [hE]; simp [chosenE, dictE, he, doneE]
            rw [h1, uintS0, hd2]
            by_cases h4 : (nextS r1).2.2 = 0
            · have hb3c : σ3.box id = some (rcC s a3 0) := by rw [h4] at hb3; exact hb3
              by_cases h5 : 65536 < (nextS r1).1
              · simp [nI2, h3, hb3', h4, h5]
                exact herr 3 σ3 (hx 3 (by rw [hC2, if_pos h4, if_pos h5])) (by omega) (out _ hx13)
              · rw [if_pos h4, if_neg h5] at hC2
                simp [nI2, h3, hb3', h4, h5]
                refine r_words_calls true id s a3 (nextS r1).1 σ3 _ hwf3 (by omega) hid3 hl ha3 hb3c ?_ ?_
                · intro d a4 od σ4 hw ha4 hdl hx4 ho4 hb4
                  rw [gE_true, hd3] at hw
                  have hD : dictE r1 = .ok (d, s.drop a4) := by simp [dictE, hC2, hw]
                  have hx14 := hx13.trans hx4
                  have c1 : IntKind.i64.wrap (n : Int) = n := i64n (by omega)
                  simp [pickA_bool, c1]
                  refine r_pick_calls id n s a4 od d σ4 _ (hx14.wf hw0) (by omega) (by omega) (by have := hx14.nxt; omega) hl ha4 hb4 ?_ ?_
                  · intro l a5 ol σ5 hp ha5 hx5 ho5 hb5
                    have hch : chosenE n r1 = .ok (l, s.drop a5) := by rw [chosenE_eq, hD]; exact hp
                    simp
                    refine r_done_calls id s a5 0 σ5 _ (by omega) ha5 hb5 ?_
                    have hx15 := hx14.trans hx5
                    by_cases hr2 : s.drop a5 = []
                    · simp [doneS, hr2]
                      exact hok l ol σ5 (by rw [hE, hch]; simp [doneE, hr2]) (out _ hx15) (outo ⟨ho5.ap, fun t' e' => Nat.le_trans hx14.nxt (ho5.fresh t' e')⟩)
                    · have hr2' : ¬ s.length ≤ a5 := fun q => hr2 (List.drop_of_length_le q)
                      simp [doneS, hr2, hr2']
                      exact herr 5 σ5 (by rw [hE, hch]; simp [doneE, hr2']) (by omega) (out _ hx15)
                  · intro e σ5 hp he hx5
                    have hch : chosenE n r1 = .error e := by rw [chosenE_eq, hD]; exact hp
                    simp [he]
                    exact herr e σ5 (by rw [hE, hch]; rfl) he (out _ (hx14.trans hx5))
                · intro e σ4 hw he hx4
                  rw [gE_true, hd3] at hw
                  have hch : chosenE n r1 = .error e := by simp [chosenE, dictE, hC2, hw]
                  have he' : (e == 0) = false := by simpa using he
                  simp [he, he', pickA_bool]
                  exact herr e σ4 (by rw [hE, hch]; rfl) he (out _ (hx13.trans hx4))
            · simp [nI2, h3, hb3', h4]
              exact herr _ σ3 (hx _ (by rw [hC2, if_neg h4])) h4 (out _ hx13)
          · have hb3' : σ3.box id = some [.v (.string (bs s)), .v (.int .i64 (a3 : Int)), .v (.int .i64 ((nextS t).2.2 : Int))] := by
              rw [hb3]; simp [uintS, h1, rcC]
            simp [nI2, h3, hb3', h1]
            exact herr _ σ3 (by rw [hE, hC, if_neg h1]) h1 (out _ hx13)
      · simp only [if_neg hk1] at hE
        by_cases h3 : 65536 < (nextS t).1
        · have h1 : (nextS t).2.2 = 0 := Classical.byContradiction fun q => by have := (hz q).2; omega
          simp [nI2, nI5, hk1, h3]
          exact herr 3 σ2 (by rw [hE, hC, if_pos h1, if_pos h3]) (by omega) (out _ hx12)
        · by_cases h1 : (nextS t).2.2 = 0
          · rw [if_pos h1, if_neg h3] at hC
            rw [hC] at hE
            simp only at hE
            have hb2c : σ2.box id = some (rcC s a2 0) := by rw [h1] at hb2; exact hb2
            have hk1b : (k == 1) = false := by simpa using hk1
            simp [nI2, nI5, nI6, hk1, hk1b, h3, hb2', h1]
            refine r_words_calls false id s a2 (nextS t).1 σ2 _ hwf2 (by omega) hid2 hl ha2 hb2c ?_ ?_
            · intro l a4 ol σ4 hw ha4 hdl hx4 ho4 hb4
              rw [gE_false, hd2] at hw
              have hx14 := hx12.trans hx4
              simp [pickA_bool, nI5, nI6, hk1, hk1b]
              refine r_done_calls id s a4 0 σ4 _ (by omega) ha4 hb4 ?_
              by_cases hr2 : s.drop a4 = []
              · simp [doneS, hr2]
                exact hok l ol σ4 (by rw [hE, hw]; simp [doneE, hr2]) (out _ hx14) (outo ⟨ho4.ap, fun t' e' => Nat.le_trans hx12.nxt (ho4.fresh t' e')⟩)
              · have hr2' : ¬ s.length ≤ a4 := fun q => hr2 (List.drop_of_length_le q)
                simp [doneS, hr2, hr2']
                exact herr 5 σ4 (by rw [hE, hw]; simp [doneE, hr2']) (by omega) (out _ hx14)
            · intro e σ4 hw he hx4
              rw [gE_false, hd2] at hw
              have he' : (e == 0) = false := by simpa using he
              simp [he, he', pickA_bool]
              exact herr e σ4 (by rw [hE, hw]; rfl) he (out _ (hx12.trans hx4))
          · simp [nI2, nI5, hk1, h3, hb2', h1]
            exact herr _ σ2 (by rw [hE, hC, if_neg h1]) h1 (out _ hx12)
theorem r_same_calls (oa ob : AW.Own) (a b : List ByteArray) (σ : St) (K : AV → St → Prop) (hl : a.length ≤ 4611686018427387904) (h : K (.v (.bool (decide (a = b)))) σ) :
    ACalls Try.prog 11 [.sl oa a.length (scs a), .sl ob b.length (scs b)] σ K := by
  refine acalls_of hm Try.func11 rfl (by decide) rfl rfl (by kernel_rfl) ?_
  by_cases hlen0 : a.length = b.length
  · simp [Try.f11, hlen0]
    refine loop_ind (fun (i : Nat) ρ σ1 => ρ.length = 26 ∧ slot ρ 0 = .sl oa b.length (scs a) ∧ slot ρ 1 = .sl ob b.length (scs b) ∧ slot ρ 5 = .v (.int .i64 i) ∧ i ≤ b.length ∧ a.take i = b.take i ∧ σ1 = σ) (fun i => b.length - i) ?_ 0 _ _ ?start
    case start => exact ⟨rfl, rfl, rfl, rfl, Nat.zero_le _, rfl, rfl⟩
    rintro i ρ σ1 ⟨hlen, g0, g1, g5, hi, hab, rfl⟩ next hnext
    by_cases hlt : i < b.length
    · have hlt2 : i < a.length := by omega
      have c6 : IntKind.i64.wrap ((i : Int) + 1) = ((i + 1 : Nat) : Int) := i64w (n := ((i + 1 : Nat) : Int)) (by omega) (by omega)
      by_cases heq : a[i].toList = b[i].toList
      · simp [hlen, g0, g1, g5, hlt, hlt2, heq, c6, -Int.natCast_add]
        refine hnext (i + 1) _ _ ⟨by simp [hlen], by simp [hlen, g0], by simp [hlen, g1], by simp [hlen, -Int.natCast_add], hlt, ?_, rfl⟩ (by omega)
        rw [List.take_succ_eq_append_getElem hlt2, List.take_succ_eq_append_getElem hlt, hab, bytes_eq heq]
      · have : decide (a = b) = false := by
          rw [decide_eq_false_iff_not]; intro e; subst e; exact heq rfl
        rw [this] at h
        simp [hlen, g0, g1, g5, hlt, hlt2, heq]
        exact h
    · have hie : i = b.length := by omega
      have : decide (a = b) = true := by
        rw [decide_eq_true_eq]
        rw [hie, List.take_length, ← hlen0, List.take_length] at hab
        exact hab
      rw [this] at h
      simp [hlen, g0, g1, g5, hlt]
      exact h
  · have : decide (a = b) = false := by
      rw [decide_eq_false_iff_not]; intro e; subst e; exact hlen0 rfl
    rw [this] at h
    have hne : (a.length != b.length) = true := by simpa using hlen0
    simp [Try.f11, hlen0, hne]
    exact h
end
end Go.Proofs.Ytdfeadgholpcgaa
end

section
set_option linter.unusedVariables false
set_option linter.unusedSimpArgs false
namespace Go.Proofs.Ytdfeadgholpcgaa
open Go.AW Go.RowKit Go.Spec Go.Proofs.Ytdfeadgholpcgaa.Ty

attribute [local irreducible] awp awpOps awpX stepA stepX plainA plainX bindA bindE bindL gstep condA callA thenA inBlockA retA
section
set_option maxRecDepth 100000
set_option maxHeartbeats 1000000
theorem r_uint_quiet (x : Nat) (xi : Int) (exi : xi = x) (hx : x < 18446744073709551616) (σ σ' : St) (hq : σ.Wf) (hm : Mem σ σ') : AQuiet Try.prog 23 [.v (.int .u64 xi)] σ' (.string (bs (uintB x))) :=
  ACalls.quiet (r_uint_calls x xi exi _ _ ⟨Nat.le_refl _, hm.mv.trans hq.2⟩ hx fun σ'' h => ⟨rfl, h.q⟩)
theorem numOf_at {d l : List ByteArray} (hd : IsDict d l) {i : Nat} (hi : i < d.length) : numOf d d[i] = i := by
  refine numOf_eq (Nat.le_of_lt hi) fun k hk => ?_
  constructor
  · intro h
    rcases Nat.lt_or_ge k i with q | q
    · exact q
    · rcases Nat.lt_or_ge i k with q2 | q2
      · have := ltB_trans h (List.pairwise_iff_getElem.1 hd.rise i k hi hk q2)
        rw [ltB_irrefl] at this; cases this
      · have : i = k := by omega
        subst this
        rw [ltB_irrefl] at h; cases h
  · intro h; exact List.pairwise_iff_getElem.1 hd.rise k i hk hi h
theorem r_with_calls (ol : AW.Own) (l : List ByteArray) (c : Int) (σ : St) (K : AV → St → Prop) (hq : σ.Wf) (hl : l.length ≤ 4611686018427387904)
    (hk : ∀ σ', Ext σ σ' → K (.tup [.v (.string (bs (withS (dictB l) l c).1)), .v (.int .i64 ((withS (dictB l) l c).2 : Int))]) σ') :
    ACalls Try.prog 8 [.sl ol l.length (scs l), .v (.int .i64 c)] σ K := by
  refine acalls_of hm Try.func8 rfl (by decide) rfl rfl (by kernel_rfl) ?_
  unfold withS at hk
  by_cases hc : c = 0 ∨ c = 1
  · simp only [if_pos hc] at hk
    by_cases hlen0 : 65536 < l.length
    · have hlo : longB l = true := by simp [longB, hlen0]
      simp only [hlo, if_true] at hk
      have hki := hk σ (Ext.refl _)
      rcases hc with rfl | rfl
      · simp [Try.f8, pickA_bool, nI2, hlen0]; exact hki
      · simp [Try.f8, pickA_bool, nI2, hlen0]; exact hki
    · have c1 : IntKind.u64.wrap (l.length : Int) = l.length := u64n (by omega)
      have hub := uintB_length l.length
      rcases hc with rfl | rfl
      · simp [Try.f8, pickA_bool, nI2, hlen0]
        refine loop_ind (fun (i : Nat) ρ σ1 => ρ.length = 104 ∧ slot ρ 0 = .sl ol l.length (scs l) ∧ slot ρ 1 = .v (.int .i64 0) ∧ slot ρ 6 = .v (.int .i64 i) ∧ i ≤ l.length ∧ (∀ j (hj : j < l.length), j < i → l[j].size ≤ 64) ∧ σ1 = σ) (fun i => l.length - i) ?_ 0 _ _ ?start
        case start => exact ⟨rfl, rfl, rfl, rfl, Nat.zero_le _, fun j hj h0 => by omega, rfl⟩
        rintro i ρ σ1 ⟨hlen, g0, g1, g6, hi, hall, rfl⟩ next hnext
        by_cases hlt : i < l.length
        · have c6 : IntKind.i64.wrap ((i : Int) + 1) = ((i + 1 : Nat) : Int) := i64w (n := ((i + 1 : Nat) : Int)) (by omega) (by omega)
          by_cases h64 : 64 < l[i].size
          · have hlo : longB l = true := by
              unfold longB; rw [Bool.or_eq_true]; right; rw [List.any_eq_true]; exact ⟨l[i], List.getElem_mem hlt, by simpa using h64⟩
            simp only [hlo, if_true] at hk
            simp [hlen, g0, g1, g6, hlt, nI2, h64]
            exact hk σ1 (Ext.refl _)
          · simp [hlen, g0, g1, g6, hlt, nI2, h64, c6, -Int.natCast_add]
            refine hnext (i + 1) _ _ ⟨by simp [hlen], by simp [hlen, g0], by simp [hlen, g1], by simp [hlen, -Int.natCast_add], hlt, fun j hj hji => ?_, rfl⟩ (by omega)
            rcases Nat.lt_or_ge j i with q | q
            · exact hall j hj q
            · have : j = i := by omega
              subst this; omega
        · have hlo : longB l = false := by
            unfold longB
            simp only [Bool.or_eq_false_iff, decide_eq_false_iff_not, List.any_eq_false, decide_eq_true_eq]
            refine ⟨hlen0, fun s hs => ?_⟩
            obtain ⟨j, hj, rfl⟩ := List.mem_iff_getElem.1 hs
            have := hall j hj (by omega); omega
          simp only [hlo, Bool.false_eq_true, if_false, if_true] at hk
          obtain ⟨hll, hss⟩ := long_bound hlo
          have htb := textsB_bound hss
          have d1 : IntKind.u8.wrap (0 : Int) = 0 := by rw [IntKind.wrap_u8]; rfl
          simp [hlen, g0, g1, g6, hlt, d1, c1, bytesA]
          refine callX_fn (.string (bs (uintB l.length))) (fun σ' hm' => r_uint_quiet l.length _ rfl (by omega) σ1 σ' hq hm') ?_
          have d2 : 1 + (uintB l.length).length ≤ 9223372036854775807 := by omega
          simp [hlen, g0, g1, strBin, d2, bs_append]
          refine loop_ind (fun (i : Nat) ρ' σ2 => ρ'.length = 104 ∧ slot ρ' 1 = .v (.int .i64 0) ∧ slot ρ' 7 = .v (.string (bs (0 :: (uintB l.length ++ textsB (l.take i))))) ∧ slot ρ' 8 = .sl ol l.length (scs l) ∧ slot ρ' 9 = .v (.int .i64 i) ∧ i ≤ l.length ∧ ExtB [] σ1 σ2) (fun i => l.length - i) ?_ 0 _ _ ?start2
          case start2 => exact ⟨by simp [hlen], by simp [hlen, g1], by simp [hlen], by simp [hlen], by simp [hlen], Nat.zero_le _, ExtB.refl _ _⟩
          rintro i2 ρ' σ2 ⟨klen, k1, k7, k8, k9, hi2, hx2⟩ next2 hnext2
          by_cases hlt2 : i2 < l.length
          · have c6 : IntKind.i64.wrap ((i2 : Int) + 1) = ((i2 + 1 : Nat) : Int) := i64w (n := ((i2 + 1 : Nat) : Int)) (by omega) (by omega)
            have hsz := hss l[i2] (List.getElem_mem hlt2)
            have hts := textsB_take_succ hlt2
            have htl := textsB_take_le l (i2 + 1)
            rw [hts, List.length_append] at htl
            simp [klen, k1, k7, k8, k9, hlt2]
            refine r_text_calls l[i2] σ2 _ (hx2.wf hq) (by omega) fun σ3 hx3 => ?_
            have d3 : (uintB l.length).length + (textsB (l.take i2)).length + 1 + (textB l[i2]).length ≤ 9223372036854775807 := by omega
            simp [klen, k1, k7, k8, k9, strBin, d3, bs_append, c6, -Int.natCast_add]
            refine hnext2 (i2 + 1) _ _ ⟨by simp [klen], by simp [klen, k1], ?_, by simp [klen, k8], by simp [klen, -Int.natCast_add], hlt2, hx2.trans (hx3.b _)⟩ (by omega)
            rw [hts]; simp [klen]
          · have hie : i2 = l.length := by omega
            subst hie
            rw [List.take_length] at k7
            simp [klen, k1, k7, k8, k9]
            exact hk σ2 hx2.ext
      · simp [Try.f8, pickA_bool, nI2, hlen0]
        refine loop_ind (fun (i : Nat) ρ σ1 => ρ.length = 104 ∧ slot ρ 0 = .sl ol l.length (scs l) ∧ slot ρ 1 = .v (.int .i64 1) ∧ slot ρ 6 = .v (.int .i64 i) ∧ i ≤ l.length ∧ (∀ j (hj : j < l.length), j < i → l[j].size ≤ 64) ∧ σ1 = σ) (fun i => l.length - i) ?_ 0 _ _ ?start
        case start => exact ⟨rfl, rfl, rfl, rfl, Nat.zero_le _, fun j hj h0 => by omega, rfl⟩
        rintro i ρ σ1 ⟨hlen, g0, g1, g6, hi, hall, rfl⟩ next hnext
        by_cases hlt : i < l.length
        · have c6 : IntKind.i64.wrap ((i : Int) + 1) = ((i + 1 : Nat) : Int) := i64w (n := ((i + 1 : Nat) : Int)) (by omega) (by omega)
          by_cases h64 : 64 < l[i].size
          · have hlo : longB l = true := by
              unfold longB; rw [Bool.or_eq_true]; right; rw [List.any_eq_true]; exact ⟨l[i], List.getElem_mem hlt, by simpa using h64⟩
            simp only [hlo, if_true] at hk
            simp [hlen, g0, g1, g6, hlt, nI2, h64]
            exact hk σ1 (Ext.refl _)
          · simp [hlen, g0, g1, g6, hlt, nI2, h64, c6, -Int.natCast_add]
            refine hnext (i + 1) _ _ ⟨by simp [hlen], by simp [hlen, g0], by simp [hlen, g1], by simp [hlen, -Int.natCast_add], hlt, fun j hj hji => ?_, rfl⟩ (by omega)
            rcases Nat.lt_or_ge j i with q | q
            · exact hall j hj q
            · have : j = i := by omega
              subst this; omega
        · have hlo : longB l = false := by
            unfold longB
            simp only [Bool.or_eq_false_iff, decide_eq_false_iff_not, List.any_eq_false, decide_eq_true_eq]
            refine ⟨hlen0, fun s hs => ?_⟩
            obtain ⟨j, hj, rfl⟩ := List.mem_iff_getElem.1 hs
            have := hall j hj (by omega); omega
          simp only [hlo, Bool.false_eq_true, if_false, Int.reduceEq] at hk
          obtain ⟨hll, hss⟩ := long_bound hlo
          have d1 : IntKind.u8.wrap (1 : Int) = 1 := by rw [IntKind.wrap_u8]; rfl
          simp [hlen, g0, g1, g6, hlt, d1, c1, bytesA]
          refine callX_fn (.string (bs (uintB l.length))) (fun σ' hm' => r_uint_quiet l.length _ rfl (by omega) σ1 σ' hq hm') ?_
          have d2 : 1 + (uintB l.length).length ≤ 9223372036854775807 := by omega
          simp [hlen, g0, g1, strBin, d2, bs_append]
          refine r_dict_calls ol l σ1 _ hq hll hss fun od d σ2 hd hx2 => ?_
          have hdd : dictB l = d := (dictB_is l).unique hd
          rw [hdd] at hk
          have hdl := dict_length hd
          have hdss : ∀ s ∈ d, s.size ≤ 64 := fun s h => hss s ((hd.mem s).1 h)
          have htb := textsB_bound hdss
          have hdu := uintB_length d.length
          have c2 : IntKind.u64.wrap (d.length : Int) = d.length := u64n (by omega)
          simp [hlen, g0, g1, c2]
          refine r_uint_calls d.length _ rfl σ2 _ (hx2.wf hq) (by omega) fun σ3 hx3 => ?_
          have hx13 := (hx2.trans hx3).b []
          have d3 : (uintB l.length).length + 1 + (uintB d.length).length ≤ 9223372036854775807 := by omega
          simp [hlen, g0, g1, strBin, d3, bs_append]
          refine loop_ind (fun (i : Nat) ρ' σ4 => ρ'.length = 104 ∧ slot ρ' 0 = .sl ol l.length (scs l) ∧ slot ρ' 1 = .v (.int .i64 1) ∧ slot ρ' 7 = .v (.string (bs (1 :: (uintB l.length ++ (uintB d.length ++ textsB (d.take i)))))) ∧ slot ρ' 8 = .sl od d.length (scs d) ∧ slot ρ' 9 = .v (.int .i64 i) ∧ i ≤ d.length ∧ ExtB [] σ1 σ4) (fun i => d.length - i) ?_ 0 _ _ ?start2
          case start2 => exact ⟨by simp [hlen], by simp [hlen, g0], by simp [hlen, g1], by simp [hlen], by simp [hlen], by simp [hlen], Nat.zero_le _, hx13⟩
          rintro i2 ρ' σ4 ⟨klen, k0, k1, k7, k8, k9, hi2, hx4⟩ next2 hnext2
          by_cases hlt2 : i2 < d.length
          · have c6 : IntKind.i64.wrap ((i2 : Int) + 1) = ((i2 + 1 : Nat) : Int) := i64w (n := ((i2 + 1 : Nat) : Int)) (by omega) (by omega)
            have hsz := hdss d[i2] (List.getElem_mem hlt2)
            have hts := textsB_take_succ hlt2
            have htl := textsB_take_le d (i2 + 1)
            rw [hts, List.length_append] at htl
            simp [klen, k0, k1, k7, k8, k9, hlt2]
            refine r_text_calls d[i2] σ4 _ (hx4.wf hq) (by omega) fun σ5 hx5 => ?_
            have d4 : (uintB l.length).length + ((uintB d.length).length + (textsB (d.take i2)).length) + 1 + (textB d[i2]).length ≤ 9223372036854775807 := by omega
            simp [klen, k0, k1, k7, k8, k9, strBin, d4, bs_append, c6, -Int.natCast_add]
            refine hnext2 (i2 + 1) _ _ ⟨by simp [klen], by simp [klen, k0], by simp [klen, k1], ?_, by simp [klen, k8], by simp [klen, -Int.natCast_add], hlt2, hx4.trans (hx5.b _)⟩ (by omega)
            rw [hts]; simp [klen]
          · have hie : i2 = d.length := by omega
            subst hie
            rw [List.take_length] at k7
            simp [klen, k0, k1, k7, k8, k9]
            refine loop_ind (fun (i : Nat) ρ3 σ5 => ∃ o, ρ3.length = 104 ∧ slot ρ3 0 = .sl ol l.length (scs l) ∧ slot ρ3 7 = .v (.string (bs (1 :: (uintB l.length ++ (uintB d.length ++ textsB d))))) ∧ slot ρ3 8 = .sl od d.length (scs d) ∧ slot ρ3 10 = .sl o i (ncs (numsOf d (l.take i))) ∧ slot ρ3 11 = .v (.int .i64 i) ∧ i ≤ l.length ∧ ExtB [] σ1 σ5 ∧ Own1 σ1 σ5 o i) (fun i => l.length - i) ?_ 0 _ _ ?start3
            case start3 => exact ⟨.full, by simp [klen], by simp [klen, k0], by simp [klen, k7], by simp [klen, k8], by simp [klen, numsOf, ncs], by simp [klen], Nat.zero_le _, hx4, Own1.nil _ _⟩
            rintro i3 ρ3 σ5 ⟨o, mlen, m0, m7, m8, m10, m11, hi3, hx5, ho5⟩ next3 hnext3
            by_cases hlt3 : i3 < l.length
            · have c6 : IntKind.i64.wrap ((i3 : Int) + 1) = ((i3 + 1 : Nat) : Int) := i64w (n := ((i3 + 1 : Nat) : Int)) (by omega) (by omega)
              simp [mlen, m0, m7, m8, m10, m11, hlt3]
              refine r_at_calls od d l[i3] σ5 _ (by omega) (fun hnm => absurd ((hd.mem _).2 (List.getElem_mem hlt3)) hnm) fun j hj he _ => ?_
              have hnum : numOf d l[i3] = j := by rw [← he]; exact numOf_at hd hj
              have c8 : IntKind.u64.wrap (j : Int) = j := u64n (by omega)
              obtain ⟨o6, σ6, e6, hg6⟩ := append1 (P := Try.prog) (t := 43) (tx := 43) (cs := ncs (numsOf d (l.take i3))) (c := ncell j) ho5.ap elem43 u43 (by simp [numsOf]; omega) rfl (by omega) (by omega) (hx5.wf hq)
              obtain ⟨hx6, ho6⟩ := hx5.grew hq ho5 hg6
              simp only [ncell] at e6
              have hsn : ncs (numsOf d (l.take (i3 + 1))) = ncs (numsOf d (l.take i3)) ++ [.v (.int .u64 (j : Int))] := by
                rw [List.take_succ_eq_append_getElem hlt3, numsOf, List.map_append, ncs, List.map_append]
                simp [ncell, hnum, ncs, numsOf]
              generalize numsOf d (l.take i3) = acc at *
              simp [mlen, m0, m7, m8, m10, m11, c6, c8, e6, -Int.natCast_add]
              exact hnext3 (i3 + 1) _ _ ⟨o6, by simp [mlen], by simp [mlen, m0], by simp [mlen, m7], by simp [mlen, m8], by rw [hsn]; simp [mlen], by simp [mlen, -Int.natCast_add], hlt3, hx6, ho6⟩ (by omega)
            · have hie : i3 = l.length := by omega
              subst hie
              rw [List.take_length] at m10
              have hnl : (numsOf d l).length = l.length := by simp [numsOf]
              have hn64 : ∀ n ∈ numsOf d l, n < 18446744073709551616 := fun n hn => by
                obtain ⟨s, _, rfl⟩ := List.mem_map.1 hn
                have := numOf_le d s
                omega
              have hw64 : widthN (numsOf d l) ≤ 64 := (widthN_iff 64 hn64).2 fun n hn => hn64 n hn
              simp [mlen, m0, m7, m8, m10, m11]
              rw [← hnl]
              refine r_width_calls o (numsOf d l) σ5 _ (by omega) hn64 ?_
              simp [mlen, m10]
              rw [← hnl]
              refine r_pack_calls o (numsOf d l) (widthN (numsOf d l)) _ rfl σ5 _ (hx5.wf hq) (by omega) hw64 hn64 (Nat.le_refl _) fun σ7 hx7 => ?_
              have hpl : (packB (widthN (numsOf d l)) (numsOf d l)).length ≤ 600000 := by
                simp only [packB, leB_length, hnl]
                have : l.length * widthN (numsOf d l) ≤ 65536 * 64 := Nat.mul_le_mul hll hw64
                omega
              have c10 := u8w (widthN (numsOf d l))
              have e10 : bytesA [AV.v (.int .u8 ((UInt8.ofNat (widthN (numsOf d l))).toNat : Int))] = some [UInt8.ofNat (widthN (numsOf d l))] := by
                simpa [bcs, bcell] using bytesA_bcs [UInt8.ofNat (widthN (numsOf d l))]
              have d5 : (uintB l.length).length + ((uintB d.length).length + (textsB d).length) + 1 + 1 ≤ 9223372036854775807 := by omega
              have d6 : (uintB l.length).length + ((uintB d.length).length + ((textsB d).length + 1)) + 1 + (packB (widthN (numsOf d l)) (numsOf d l)).length ≤ 9223372036854775807 := by omega
              have hfin := hk σ7 (hx5.trans (hx7.b [])).ext
              unfold codedS at hfin
              generalize UInt8.ofNat (widthN (numsOf d l)) = wb at *
              simp [mlen, m7, c10, e10, strBin, d5, d6, bs_append]
              exact hfin
  · simp only [if_neg hc] at hk
    have h0 : ¬ c = 0 := fun q => hc (.inl q)
    have h1 : ¬ c = 1 := fun q => hc (.inr q)
    have hki := hk σ (Ext.refl _)
    have b0 : (c != 0) = true := by simpa using h0
    have b1 : (c != 1) = true := by simpa using h1
    simp [Try.f8, pickA_bool, h0, h1, b0, b1]
    exact hki
end
end Go.Proofs.Ytdfeadgholpcgaa
end

section
set_option linter.unusedVariables false
set_option linter.unusedSimpArgs false
namespace Go.Proofs.Ytdfeadgholpcgaa
open Go.AW Go.RowKit Go.Spec Go.Proofs.Ytdfeadgholpcgaa.Ty

attribute [local irreducible] awp awpOps awpX stepA stepX plainA plainX bindA bindE bindL gstep condA callA thenA inBlockA retA
section
set_option maxRecDepth 100000
set_option maxHeartbeats 1000000
theorem r_best_calls (ol : AW.Own) (l : List ByteArray) (σ : St) (K : AV → St → Prop) (hq : σ.Wf) (hl : l.length ≤ 4611686018427387904)
    (hk : ∀ σ', Ext σ σ' → K (.tup [.v (.string (bs (bestS (dictB l) l).1)), .v (.int .i64 ((bestS (dictB l) l).2 : Int))]) σ') :
    ACalls Try.prog 13 [.sl ol l.length (scs l)] σ K := by
  refine acalls_of hm Try.func13 rfl (by decide) rfl rfl (by kernel_rfl) ?_
  simp [Try.f13]
  refine r_with_calls ol l 0 σ _ hq hl fun σ1 hx1 => ?_
  simp
  refine r_with_calls ol l 1 σ1 _ (hx1.wf hq) hl fun σ2 hx2 => ?_
  unfold bestS at hk
  cases hlo : longB l with
  | true =>
    simp [withS, hlo, pickA_bool]
    simp only [hlo, if_true] at hk
    exact hk σ2 (hx1.trans hx2)
  | false =>
    simp only [hlo, Bool.false_eq_true, if_false] at hk
    by_cases hlt : (codedS (dictB l) l).length < (plainS l).length
    · simp [withS, hlo, pickA_bool, hlt]
      simp only [if_pos hlt] at hk
      exact hk σ2 (hx1.trans hx2)
    · simp [withS, hlo, pickA_bool, hlt]
      simp only [if_neg hlt] at hk
      exact hk σ2 (hx1.trans hx2)
end
end Go.Proofs.Ytdfeadgholpcgaa
end
