/-
  Walks: what functions of the program come to, over abstract states (see the parts of the proof that import this text).
-/
import Derived.Test.YtdfeadgholpcgaaMv
import Derived.Test.YtdfeadgholpcgaaMs
import Derived.Test.YtdfeadgholpcgaaMw

section
set_option linter.unusedVariables false
set_option linter.unusedSimpArgs false
namespace Go.Proofs.Ytdfeadgholpcgaa
open Go.AW Go.RowKit Go.Spec Go.Proofs.Ytdfeadgholpcgaa.Ty

set_option maxRecDepth 100000 in
set_option maxHeartbeats 1000000 in
theorem isNaN1_calls (s : ByteArray) (σ : St) (K : AV → St → Prop) (h : K (.v (.bool false)) σ) : ACalls Try.prog 69 [.v (.string s)] σ K := by
  refine acalls_of hm Try.func69 rfl (by decide) rfl rfl (by kernel_rfl) ?_
  simpa [Try.f69] using h
set_option maxRecDepth 100000 in
set_option maxHeartbeats 1000000 in
theorem isNaN2_calls (s : ByteArray) (σ : St) (K : AV → St → Prop) (h : K (.v (.bool false)) σ) : ACalls Try.prog 49 [.v (.string s)] σ K := by
  refine acalls_of hm Try.func49 rfl (by decide) rfl rfl (by kernel_rfl) ?_
  simpa [Try.f49] using h

set_option maxRecDepth 100000 in
set_option maxHeartbeats 1000000 in
theorem less_calls (a b : ByteArray) (σ : St) (K : AV → St → Prop) (h : K (.v (.bool (ltB a b))) σ) : ACalls Try.prog 48 [.v (.string a), .v (.string b)] σ K := by
  refine acalls_of hm Try.func48 rfl (by decide) rfl rfl (by kernel_rfl) ?_
  simp [Try.f48]
  refine isNaN1_calls a σ _ ?_
  simpa [pickA_bool, ltB] using h

set_option maxRecDepth 100000 in
set_option maxHeartbeats 2000000 in
theorem width_calls (ol : AW.Own) (l : List Nat) (σ : St) (K : AV → St → Prop) (hl : l.length ≤ 9223372036854775807) (hb : ∀ n ∈ l, n < 18446744073709551616) (h : K (.v (.int .i64 (widthN l))) σ) :
    ACalls Try.prog 21 [.sl ol l.length (ncs l)] σ K := by
  refine acalls_of hm Try.func21 rfl (by decide) rfl rfl (by kernel_rfl) ?_
  simp [Try.f21]
  refine loop_ind (fun (k : Nat) ρ σ1 => ρ.length = 18 ∧ slot ρ 3 = .v (.int .u64 (orAll (l.take k) : Nat)) ∧ slot ρ 6 = .sl ol l.length (ncs l) ∧ slot ρ 7 = .v (.int .i64 l.length) ∧ slot ρ 8 = .v (.int .i64 k) ∧ k ≤ l.length ∧ σ1 = σ)
    (fun k => l.length - k) ?_ 0 _ _ ⟨rfl, rfl, rfl, rfl, rfl, Nat.zero_le _, rfl⟩
  rintro k ρ σ1 ⟨hlen, h3, h6, h7, h8, hk, rfl⟩ next hnext
  by_cases hlt : k < l.length
  · have e1 : IntKind.i64.wrap ((k : Int) + 1) = ((k + 1 : Nat) : Int) := i64w (n := ((k + 1 : Nat) : Int)) (by omega) (by omega)
    have e2 := or64 (orAll_lt (l := l.take k) fun n hn => hb n (List.mem_of_mem_take hn)) (hb l[k] (List.getElem_mem _))
    simp [hlen, h3, h6, h7, h8, hlt, e1, e2, -Int.natCast_add]
    refine hnext (k + 1) _ _ ?_ (by omega)
    exact ⟨by simp [hlen], by simp [hlen, orAll_take_succ hlt], by simp [hlen, h6], by simp [hlen, h7], by simp [hlen], by omega, rfl⟩
  · have hke : k = l.length := by omega
    subst hke
    rw [List.take_length] at h3
    simp [hlen, h3, h6, h7, h8]
    refine len64_calls (orAll l) _ σ1 _ (orAll_lt hb) rfl ?_
    simpa [hlen, widthN] using h

end Go.Proofs.Ytdfeadgholpcgaa
end

section
set_option linter.unusedVariables false
set_option linter.unusedSimpArgs false
namespace Go.Proofs.Ytdfeadgholpcgaa
open Go.AW Go.RowKit Go.Spec Go.Proofs.Ytdfeadgholpcgaa.Ty

set_option maxRecDepth 100000 in
set_option maxHeartbeats 2000000 in
theorem bsearch_calls (ol : AW.Own) (l : List ByteArray) (t : ByteArray) (σ : St) (K : AV → St → Prop) (hl : l.length ≤ 4611686018427387904) (hmono : ∀ a b (ha : a < l.length) (hb : b < l.length), a ≤ b → ltB l[b] t = true → ltB l[a] t = true)
    (h : ∀ i : Nat, i ≤ l.length → (∀ k (hk : k < l.length), ltB l[k] t = true ↔ k < i) → ∀ b, K (.tup [.v (.int .i64 i), .v (.bool b)]) σ) :
    ACalls Try.prog 20 [.sl ol l.length (scs l), .v (.string t)] σ K := by
  refine acalls_of hm Try.func20 rfl (by decide) rfl rfl (by kernel_rfl) ?_
  simp [Try.f20]
  refine loop_ind (fun (p : Nat × Nat) ρ σ1 => ρ.length = 54 ∧ slot ρ 0 = .sl ol l.length (scs l) ∧ slot ρ 1 = .v (.string t) ∧ slot ρ 6 = .v (.int .i64 l.length) ∧ slot ρ 7 = .v (.int .i64 p.1) ∧ slot ρ 8 = .v (.int .i64 p.2) ∧ p.1 ≤ p.2 ∧ p.2 ≤ l.length ∧
      (∀ k (hk : k < l.length), k < p.1 → ltB l[k] t = true) ∧ (∀ k (hk : k < l.length), p.2 ≤ k → ltB l[k] t = false) ∧ σ1 = σ)
    (fun p => p.2 - p.1) ?_ (0, l.length) _ _ ⟨rfl, rfl, rfl, rfl, rfl, rfl, Nat.zero_le _, Nat.le_refl _, fun k hk h => absurd h (by omega), fun k hk h => absurd h (by omega), rfl⟩
  rintro ⟨i, j⟩ ρ σ1 ⟨hlen, h0, h1, h6, h7, h8, hij, hj, hlo, hhi, rfl⟩ next hnext
  dsimp only at hij hj hlo hhi h7 h8
  by_cases hlt : i < j
  · have hm : (i + j) / 2 < l.length := by omega
    have e1 : IntKind.i64.wrap ((i : Int) + j) = ((i + j : Nat) : Int) := i64w (n := ((i + j : Nat) : Int)) (by omega) (by omega)
    have e2 : IntKind.u64.wrap ((i + j : Nat) : Int) = ((i + j : Nat) : Int) := u64w (by omega)
    have e3 : ((i + j : Nat) : Int).fdiv 2 = (((i + j) / 2 : Nat) : Int) := shrN (i + j) 1
    have e4 : IntKind.i64.wrap (((i + j) / 2 : Nat) : Int) = (((i + j) / 2 : Nat) : Int) := i64w (by omega) (by omega)
    have e5 : IntKind.i64.wrap ((((i + j) / 2 : Nat) : Int) + 1) = (((i + j) / 2 + 1 : Nat) : Int) := i64w (n := (((i + j) / 2 + 1 : Nat) : Int)) (by omega) (by omega)
    generalize hmd : (i + j) / 2 = m at *
    have e6 : (m : Int) < l.length := by omega
    simp [hlen, h0, h1, h6, h7, h8, hlt, e1, e2, e3, e4, e5, hm, -Int.natCast_add]
    refine less_calls l[m] t σ1 _ ?_
    cases hb : ltB l[m] t with
    | true =>
      simp [hlen, e5, -Int.natCast_add]
      refine hnext (m + 1, j) _ _ ?_ (by simp; omega)
      exact ⟨by simp [hlen], by simp [hlen, h0], by simp [hlen, h1], by simp [hlen, h6], by simp [hlen], by simp [hlen, h8], by omega, hj, fun k hk hkm => hmono k m hk hm (by omega) hb, hhi, rfl⟩
    | false =>
      simp [hlen, -Int.natCast_add]
      refine hnext (i, m) _ _ ?_ (by simp; omega)
      refine ⟨by simp [hlen], by simp [hlen, h0], by simp [hlen, h1], by simp [hlen, h6], by simp [hlen, h7], by simp [hlen], by omega, by omega, hlo, fun k hk hkm => ?_, rfl⟩
      cases hc : ltB l[k] t with
      | false => rfl
      | true => rw [hmono m k hm hk hkm hc] at hb; cases hb
  · have hke : i = j := by omega
    subst hke
    have hfin := h i hj fun k hk => by
      constructor
      · intro q
        rcases Nat.lt_or_ge k i with r | r
        · exact r
        · rw [hhi k hk r] at q; cases q
      · exact hlo k hk
    by_cases hin : i < l.length
    · by_cases heq : l[i].toList = t.toList
      · simp [hlen, h0, h1, h6, h7, h8, hin, heq, pickA_bool]
        exact hfin _
      · simp [hlen, h0, h1, h6, h7, h8, hin, heq, pickA_bool]
        refine isNaN2_calls l[i] σ1 _ ?_
        simp [hlen, h0, h1, h6, h7, h8, hin, heq, pickA_bool]
        exact hfin _
    · simp [hlen, h0, h1, h6, h7, h8, hin, pickA_bool]
      exact hfin _

end Go.Proofs.Ytdfeadgholpcgaa
end

section
set_option linter.unusedVariables false
set_option linter.unusedSimpArgs false
namespace Go.Proofs.Ytdfeadgholpcgaa
open Go.AW Go.RowKit Go.Spec Go.Proofs.Ytdfeadgholpcgaa.Ty

theorem bytes_cells (l : List UInt8) : ((bs l).data.toList.map fun b => AV.v (.int .u8 b.toNat)) = bcs l := by rw [bs_data]; rfl

set_option maxRecDepth 100000 in
set_option maxHeartbeats 2000000 in
theorem next_calls (r : List UInt8) (σ : St) (K : AV → St → Prop) (hl : r.length ≤ 9223372036854775807) (h : K (.tup [.v (.int .u64 ((nextS r).1 : Int)), .v (.string (bs (nextS r).2.1)), .v (.int .i64 ((nextS r).2.2 : Int))]) σ) :
    ACalls Try.prog 71 [.v (.string (bs r))] σ K := by
  refine acalls_of hm Try.func71 rfl (by decide) rfl rfl (by kernel_rfl) ?_
  cases r with
  | nil => simp [Try.f71]; simpa [nextS] using h
  | cons b t =>
    have hb : b.toNat < 256 := b.toNat_lt
    have f0 : (b.toNat : Int).fdiv 64 = ((b.toNat / 64 : Nat) : Int) := fdivN b.toNat 64
    by_cases h1 : 192 < b.toNat
    · have f1 : (b.toNat : Int).fdiv 64 = 3 := by rw [f0, show b.toNat / 64 = 3 by omega]; rfl
      have f2 : (192 : Int) ≤ b.toNat := by omega
      have f3 : (192 : Int) < b.toNat := by omega
      simp [Try.f71, byteAt_bs, f1, f2, f3, i64w]
      simpa [nextS, h1] using h
    · have f3 : ¬ (192 : Int) < b.toNat := by omega
      have cs : ∃ (q : Int) (x0 : Nat), (b.toNat : Int).fdiv 64 = q ∧ b.toNat % 64 = x0 ∧ ((sizeS b = 1 ∧ q = 0 ∧ ¬ (192 : Int) ≤ b.toNat) ∨ (sizeS b = 2 ∧ q = 1 ∧ ¬ (192 : Int) ≤ b.toNat) ∨ (sizeS b = 4 ∧ q = 2 ∧ ¬ (192 : Int) ≤ b.toNat) ∨ (sizeS b = 9 ∧ q = 3 ∧ (192 : Int) ≤ b.toNat ∧ x0 = 0)) := by
        refine ⟨_, _, rfl, rfl, ?_⟩
        rw [f0]
        unfold sizeS
        split
        · exact .inl ⟨rfl, by omega, by omega⟩
        · split
          · exact .inr (.inl ⟨rfl, by omega, by omega⟩)
          · split
            · exact .inr (.inr (.inl ⟨rfl, by omega, by omega⟩))
            · exact .inr (.inr (.inr ⟨rfl, by omega, by omega, by omega⟩))
      obtain ⟨q, x0, f1, f4, cs⟩ := cs
      have f5 : x0 < 64 := by omega
      have f7 : bits .and .u8 (b.toNat : Int) 63 = (x0 : Int) := by rw [and63, f4]
      have f8 : IntKind.u64.wrap (x0 : Int) = x0 := u64w (by omega)
      have e0 : nextS (b :: t) = if t.length + 1 < sizeS b then (0, b :: t, 2) else if beV x0 (t.take (sizeS b - 1)) < leastS (sizeS b) then (0, b :: t, 5) else (beV x0 (t.take (sizeS b - 1)), (b :: t).drop (sizeS b), 0) := by
        simp [nextS, h1, f4]
      rw [e0] at h
      clear e0
      by_cases h2 : t.length + 1 < sizeS b
      · simp only [if_pos h2] at h
        rcases cs with ⟨hn, rfl, f2⟩ | ⟨hn, rfl, f2⟩ | ⟨hn, rfl, f2⟩ | ⟨hn, rfl, f2, f6⟩
        all_goals
          rw [hn] at h2
          have h3 : (t.length : Int) + 1 < (sizeS b : Nat) := by omega
          rw [hn] at h3
          simp only [Int.cast_ofNat_Int] at h3
        · omega
        all_goals
          simp [Try.f71, byteAt_bs, f1, f2, f3, i64w, f7, h3]
          exact h
      · simp only [if_neg h2] at h
        rcases cs with ⟨hn, rfl, f2⟩ | ⟨hn, rfl, f2⟩ | ⟨hn, rfl, f2⟩ | ⟨hn, rfl, f2, f6⟩
        all_goals
          have h3 : ¬ (t.length : Int) + 1 < (sizeS b : Nat) := by omega
          have h4 : (sizeS b : Nat) ≤ (t.length : Int) + 1 := by omega
          have h5 : min (sizeS b - 1) t.length = sizeS b - 1 := by omega
          rw [hn] at h3 h4 h5
          simp only [Int.cast_ofNat_Int] at h3 h4
          simp [Try.f71, byteAt_bs, f1, f2, f3, i64w, f7, f8, h3, h4, h5, bs_extract, bcs_map, bcs_take]
          refine loop_ind (fun (k : Nat) ρ σ1 => ρ.length = 58 ∧ slot ρ 0 = .v (.string (bs (b :: t))) ∧ slot ρ 6 = .v (.int .i64 (sizeS b : Nat)) ∧ slot ρ 7 = .v (.int .u64 (beV x0 (t.take k) : Nat)) ∧
            slot ρ 35 = .sl .raw (sizeS b - 1) (bcs (t.take (sizeS b - 1))) ∧ slot ρ 36 = .v (.int .i64 ((sizeS b - 1 : Nat) : Int)) ∧ slot ρ 37 = .v (.int .i64 k) ∧ k ≤ sizeS b - 1 ∧ σ1 = σ) (fun k => sizeS b - 1 - k) ?_ 0 _ _ ?start
          case start => exact ⟨rfl, rfl, by simp [hn], by first | (simp [beV]; done) | simp [beV, f6], by simp [hn], by simp [hn], rfl, Nat.zero_le _, rfl⟩
          rintro k ρ σ1 ⟨hlen, g0, g6, g7, g35, g36, g37, hk, rfl⟩ next hnext
          by_cases hlt : k < sizeS b - 1
          · have c1 : k < t.length := by omega
            have c2 : (k : Int) < ((sizeS b - 1 : Nat) : Int) := by omega
            have c3 : beV x0 (t.take k) * 256 + t[k].toNat < 18446744073709551616 := by
              rw [← beV_take_succ c1]
              have q1 := beV_lt (t.take (k + 1)) x0 (x0 + 1) (by omega)
              rw [List.length_take, Nat.min_eq_left (by omega)] at q1
              have q2 : (256 : Nat) ^ (k + 1) ≤ 256 ^ (sizeS b - 1) := Nat.pow_le_pow_right (by omega) (by omega)
              rcases (show sizeS b - 1 ≤ 3 ∨ (sizeS b - 1 = 8 ∧ x0 = 0) by omega) with r | ⟨r, r0⟩
              · have : (256 : Nat) ^ (sizeS b - 1) ≤ 256 ^ 3 := Nat.pow_le_pow_right (by omega) r
                have : (x0 + 1) * 256 ^ (k + 1) ≤ 64 * 256 ^ 3 := Nat.mul_le_mul (by omega) (by omega)
                omega
              · rw [r0] at q1 ⊢
                rw [r] at q2
                omega
            have c8 : k < min (sizeS b - 1) t.length := by omega
            have c4 := or_byte t[k] c3
            have c5 : IntKind.u64.wrap ((beV x0 (t.take k) : Nat) * 256 : Int) = ((beV x0 (t.take k) * 256 : Nat) : Int) := by
              have := u64w (n := beV x0 (t.take k) * 256) (by omega)
              rw [← this]; simp
            have c6 : IntKind.u64.wrap (t[k].toNat : Int) = t[k].toNat := u64w (by have := t[k].toNat_lt; omega)
            have c7 : IntKind.i64.wrap ((k : Int) + 1) = ((k + 1 : Nat) : Int) := i64w (n := ((k + 1 : Nat) : Int)) (by omega) (by omega)
            simp [hlen, g0, g6, g7, g35, g36, g37, c1, c2, c4, c5, c6, c7, c8, hlt, -Int.natCast_add, -Int.natCast_mul]
            refine hnext (k + 1) _ _ ?_ (by omega)
            exact ⟨by simp [hlen], by simp [hlen, g0], by simp [hlen, g6], by simp [hlen, beV_take_succ c1], by simp [hlen, g35], by simp [hlen, g36], by simp [hlen], by omega, rfl⟩
          · have hke : k = sizeS b - 1 := by omega
            subst hke
            generalize beV x0 (t.take (sizeS b - 1)) = X at *
            by_cases hx : X < leastS (sizeS b)
            · rw [if_pos hx] at h
              have hx' : (X : Int) < (leastS (sizeS b) : Nat) := by omega
              rw [hn] at hx'
              simp [leastS] at hx' <;> (simp [hlen, g0, g6, g7, g35, g36, g37, hn, hx']; exact h)
            · rw [if_neg hx] at h
              have hx2 : ∀ m : Int, m = (leastS (sizeS b) : Nat) → ¬ (X : Int) < m := fun m hm => by omega
              rw [hn] at hx2 h
              have hx' : ¬ (X : Int) < 0 ∧ (0 : Int) = leastS (sizeS b) ∨ ¬ (X : Int) < 64 ∧ (64 : Int) = leastS (sizeS b) ∨ ¬ (X : Int) < 16384 ∧ (16384 : Int) = leastS (sizeS b) ∨ ¬ (X : Int) < 1073741824 ∧ (1073741824 : Int) = leastS (sizeS b) := by
                rw [hn]
                first | exact .inl ⟨hx2 _ rfl, rfl⟩ | exact .inr (.inl ⟨hx2 _ rfl, rfl⟩) | exact .inr (.inr (.inl ⟨hx2 _ rfl, rfl⟩)) | exact .inr (.inr (.inr ⟨hx2 _ rfl, rfl⟩))
              rw [hn] at hx'
              simp only [leastS, Nat.reduceEqDiff, if_true, if_false, Int.cast_ofNat_Int, Int.reduceEq, and_false, and_true, false_or, or_false, Int.natCast_zero, Int.ofNat_eq_zero] at hx'
              simp [hlen, g0, g6, g7, g35, g36, g37, hn, hx', h4, bs_extract_end]
              first | exact h | simpa using h
end Go.Proofs.Ytdfeadgholpcgaa
end

section
set_option linter.unusedVariables false
set_option linter.unusedSimpArgs false
namespace Go.Proofs.Ytdfeadgholpcgaa
open Go.AW Go.RowKit Go.Spec Go.Proofs.Ytdfeadgholpcgaa.Ty

theorem eq_nil_bs (l : List UInt8) : (bs l).toList = (bs []).toList ↔ l = [] := by simp

section
set_option maxRecDepth 100000
set_option maxHeartbeats 1000000
theorem ok_calls (id : Nat) (r : List UInt8) (e : Nat) (σ : St) (K : AV → St → Prop) (hb : σ.box id = some (cuC r e)) (h : K (.v (.bool (e == 0))) σ) :
    ACalls Try.prog 55 [.ptr id 0] σ K := by
  refine acalls_of hm Try.func55 rfl (by decide) rfl rfl (by kernel_rfl) ?_
  simp [Try.f55, hb, cuC, eqOp, pickA_bool]
  exact h
theorem err_calls (id : Nat) (r : List UInt8) (e : Nat) (σ : St) (K : AV → St → Prop) (hb : σ.box id = some (cuC r e)) (h : K (.v (.int .i64 (e : Int))) σ) :
    ACalls Try.prog 31 [.ptr id 0] σ K := by
  refine acalls_of hm Try.func31 rfl (by decide) rfl rfl (by kernel_rfl) ?_
  simp [Try.f31, hb, cuC, eqOp, pickA_bool]
  exact h
theorem left_calls (id : Nat) (r : List UInt8) (e : Nat) (σ : St) (K : AV → St → Prop) (hb : σ.box id = some (cuC r e)) (h : K (.v (.int .i64 (r.length : Int))) σ) :
    ACalls Try.prog 72 [.ptr id 0] σ K := by
  refine acalls_of hm Try.func72 rfl (by decide) rfl rfl (by kernel_rfl) ?_
  simp [Try.f72, hb, cuC, eqOp, pickA_bool]
  exact h
theorem from_calls (r : List UInt8) (σ : St) (K : AV → St → Prop) (h : K (.ptr σ.nxt 0) (σ.addBox (cuC r 0))) :
    ACalls Try.prog 29 [.v (.string (bs r))] σ K := by
  refine acalls_of hm Try.func29 rfl (by decide) rfl rfl (by kernel_rfl) ?_
  simp [Try.f29]
  exact h
theorem done_calls (id : Nat) (r : List UInt8) (e : Nat) (σ : St) (K : AV → St → Prop) (hb : σ.box id = some (cuC r e)) (h : K (.v (.int .i64 (doneS r e : Int))) σ) :
    ACalls Try.prog 35 [.ptr id 0] σ K := by
  refine acalls_of hm Try.func35 rfl (by decide) rfl rfl (by kernel_rfl) ?_
  simp [Try.f35]
  refine ok_calls id r e σ _ hb ?_
  by_cases he : e = 0
  · subst he
    by_cases hr : r = []
    · subst hr
      simp [hb, cuC, eqOp, pickA_bool]
      refine err_calls id _ _ σ _ hb ?_
      simpa [doneS] using h
    · simp [hb, cuC, eqOp, pickA_bool, hr]
      simpa [doneS, hr] using h
  · have he' : (e == 0) = false := by simpa using he
    simp [hb, cuC, eqOp, pickA_bool, he']
    refine err_calls id _ _ σ _ hb ?_
    simpa [doneS, he] using h
theorem byte_calls (id : Nat) (r : List UInt8) (e : Nat) (σ : St) (K : AV → St → Prop) (hb : σ.box id = some (cuC r e)) (h : ∀ σ', ExtB [id] σ σ' → σ'.box id = some (cuC (byteS r e).2.1 (byteS r e).2.2) → K (.v (.int .i64 ((byteS r e).1 : Int))) σ') :
    ACalls Try.prog 30 [.ptr id 0] σ K := by
  refine acalls_of hm Try.func30 rfl (by decide) rfl rfl (by kernel_rfl) ?_
  simp [Try.f30]
  refine ok_calls id r e σ _ hb ?_
  by_cases he : e = 0
  · subst he
    cases r with
    | nil =>
      simp [hb, cuC, eqOp, pickA_bool]
      refine h _ (ExtB.setBox _ _ _) ?_
      simp [byteS, cuC]
    | cons b t =>
      have e1 : IntKind.i64.wrap (b.toNat : Int) = b.toNat := i64w (by omega) (by have := b.toNat_lt; omega)
      simp [hb, cuC, eqOp, pickA_bool, byteAt_bs, e1, bs_extract_end, show (1 : Int) ≤ t.length + 1 by omega]
      refine h _ (ExtB.setBox _ _ _) ?_
      simp [byteS, cuC]
  · simp [hb, cuC, eqOp, pickA_bool, he]
    have := h σ (ExtB.refl _ _) (by simpa [byteS, he] using hb)
    simpa [byteS, he] using this
theorem uint_calls' (id : Nat) (r : List UInt8) (e : Nat) (σ : St) (K : AV → St → Prop) (hl : r.length ≤ 9223372036854775807) (hb : σ.box id = some (cuC r e)) (h : ∀ σ', ExtB [id] σ σ' → σ'.box id = some (cuC (uintS r e).2.1 (uintS r e).2.2) → K (.v (.int .u64 ((uintS r e).1 : Int))) σ') :
    ACalls Try.prog 56 [.ptr id 0] σ K := by
  refine acalls_of hm Try.func56 rfl (by decide) rfl rfl (by kernel_rfl) ?_
  simp [Try.f56]
  refine ok_calls id r e σ _ hb ?_
  by_cases he : e = 0
  · subst he
    simp [hb, cuC]
    refine next_calls r σ _ hl ?_
    simp [hb, cuC]
    refine h _ ((ExtB.setBox _ _ _).trans (ExtB.setBox _ _ _)) ?_
    simp [uintS, cuC]
  · simp [he]
    have := h σ (ExtB.refl _ _) (by simpa [uintS, he] using hb)
    simpa [uintS, he] using this
theorem text_calls' (most id : Nat) (r : List UInt8) (e : Nat) (σ : St) (K : AV → St → Prop) (hmost : most ≤ 9223372036854775807) (hl : r.length ≤ 9223372036854775807) (hb : σ.box id = some (cuC r e)) (h : ∀ σ', ExtB [id] σ σ' → σ'.box id = some (cuC (textS most r e).2.1 (textS most r e).2.2) → K (.v (.string (bs (textS most r e).1))) σ') :
    ACalls Try.prog 57 [.ptr id 0, .v (.int .i64 (most : Int))] σ K := by
  refine acalls_of hm Try.func57 rfl (by decide) rfl rfl (by kernel_rfl) ?_
  simp [Try.f57]
  refine ok_calls id r e σ _ hb ?_
  by_cases he : e = 0
  · subst he
    simp [hb, cuC]
    refine next_calls r σ _ hl ?_
    by_cases h1 : (nextS r).2.2 = 0
    · have w0 : ¬ (most : Int) < 0 := by omega
      have w1 : IntKind.u64.wrap (most : Int) = most := u64w (by omega)
      by_cases h2 : most < (nextS r).1
      · have h2' : (most : Int) < (nextS r).1 := by omega
        simp [hb, cuC, h1, h2, h2', w1, pickA_bool, w0]
        have e0 : textS most r 0 = ([], r, 3) := by simp [textS, h1, h2]
        rw [e0] at h
        exact h _ (ExtB.setBox _ _ _) (by simp [cuC])
      · have h2' : ¬ (most : Int) < (nextS r).1 := by omega
        have := (nextS_rest r).1 h1
        have w2 : IntKind.u64.wrap (((nextS r).2.1.length : Nat) : Int) = ((nextS r).2.1.length : Nat) := u64w (by omega)
        by_cases h3 : (nextS r).2.1.length < (nextS r).1
        · have h3' : ((nextS r).2.1.length : Int) < (nextS r).1 := by omega
          simp [hb, cuC, h1, h2, h2', h3, h3', w1, w2, pickA_bool, w0]
          have e0 : textS most r 0 = ([], r, 2) := by simp [textS, h1, h2, h3]
          rw [e0] at h
          exact h _ (ExtB.setBox _ _ _) (by simp [cuC])
        · have h3' : ¬ ((nextS r).2.1.length : Int) < (nextS r).1 := by omega
          have h4' : ((nextS r).1 : Int) ≤ ((nextS r).2.1.length : Int) := by omega
          simp [hb, cuC, h1, h2, h2', h3, h3', h4', w1, w2, pickA_bool, bs_extract, bs_extract_end, w0]
          have e0 : textS most r 0 = ((nextS r).2.1.take (nextS r).1, (nextS r).2.1.drop (nextS r).1, 0) := by simp [textS, h1, h2, h3]
          rw [e0] at h
          exact h _ (ExtB.setBox _ _ _) (by simp [cuC, List.take_of_length_le])
    · simp [hb, cuC, h1]
      have e0 : textS most r 0 = ([], r, (nextS r).2.2) := by simp [textS, h1]
      rw [e0] at h
      exact h _ (ExtB.setBox _ _ _) (by simp [cuC])
  · simp [he]
    have := h σ (ExtB.refl _ _) (by simpa [textS, he] using hb)
    simpa [textS, he] using this
end
end Go.Proofs.Ytdfeadgholpcgaa
end

section
set_option linter.unusedVariables false
set_option linter.unusedSimpArgs false
namespace Go.Proofs.Ytdfeadgholpcgaa
open Go.AW Go.RowKit Go.Spec Go.Proofs.Ytdfeadgholpcgaa.Ty

theorem uintS0 (r : List UInt8) : uintS r 0 = nextS r := by simp [uintS]

section
set_option maxRecDepth 100000
set_option maxHeartbeats 1000000
theorem count_calls (id : Nat) (r : List UInt8) (σ : St) (K : AV → St → Prop) (hl : r.length ≤ 9223372036854775807) (hb : σ.box id = some (cuC r 0))
    (hok : ∀ n r' σ', countE r = .ok (n, r') → ExtB [id] σ σ' → σ'.box id = some (cuC r' 0) → K (.tup [.v (.int .i64 (n : Int)), .v (.int .i64 0)]) σ')
    (herr : ∀ (e : Nat) σ', countE r = .error e → e ≠ 0 → ExtB [id] σ σ' → K (.tup [.v (.int .i64 0), .v (.int .i64 (e : Int))]) σ') :
    ACalls Try.prog 32 [.ptr id 0] σ K := by
  refine acalls_of hm Try.func32 rfl (by decide) rfl rfl (by kernel_rfl) ?_
  simp [Try.f32]
  refine uint_calls' id r 0 σ _ hl hb fun σ1 hx hb1 => ?_
  rw [uintS0] at hb1 ⊢
  by_cases h1 : (nextS r).2.2 = 0
  · by_cases h2 : 65536 < (nextS r).1
    · have h2' : (65536 : Int) < (nextS r).1 := by omega
      simp [h2']
      exact herr 3 σ1 (by simp [countE, uintE, h1, h2]) (by omega) hx
    · have h2' : ¬ (65536 : Int) < (nextS r).1 := by omega
      have w1 : IntKind.i64.wrap ((nextS r).1 : Int) = (nextS r).1 := i64w (by omega) (by omega)
      simp [h2', w1]
      refine err_calls id _ _ σ1 _ hb1 ?_
      rw [h1] at hb1
      simp [h1]
      exact hok _ _ σ1 (by simp [countE, uintE, h1, h2]) hx hb1
  · have h0 := ((nextS_rest r).2 h1).2
    simp [h0]
    refine err_calls id _ _ σ1 _ hb1 ?_
    simp [i64w]
    exact herr _ σ1 (by simp [countE, uintE, h1]) h1 hx

theorem get_calls (id n : Nat) (r : List UInt8) (σ : St) (K : AV → St → Prop) (hq : σ.Wf) (hn : n ≤ 65536) (hl : r.length ≤ 9223372036854775807) (hid : id < σ.nxt) (hb : σ.box id = some (cuC r 0))
    (hok : ∀ l r' o σ', getE n [] r = .ok (l, r') → ExtB [id] σ σ' → Own1 σ σ' o l.length → σ'.box id = some (cuC r' 0) → K (.tup [.sl o l.length (scs l), .v (.int .i64 0)]) σ')
    (herr : ∀ (e : Nat) σ', getE n [] r = .error e → e ≠ 0 → ExtB [id] σ σ' → K (.tup [.sl .full 0 [], .v (.int .i64 (e : Int))]) σ') :
    ACalls Try.prog 33 [.ptr id 0, .v (.int .i64 (n : Int))] σ K := by
  refine acalls_of hm Try.func33 rfl (by decide) rfl rfl (by kernel_rfl) ?_
  simp [Try.f33]
  refine loop_ind (fun (k : Nat) ρ σ1 => ∃ o acc rk, ρ.length = 24 ∧ slot ρ 0 = .ptr id 0 ∧ slot ρ 6 = .sl o k (scs acc) ∧ slot ρ 8 = .v (.int .i64 n) ∧ slot ρ 9 = .v (.int .i64 k) ∧ k ≤ n ∧ acc.length = k ∧
    ExtB [id] σ σ1 ∧ Own1 σ σ1 o k ∧ σ1.box id = some (cuC rk 0) ∧ getE n [] r = getE (n - k) acc rk ∧ rk.length ≤ r.length) (fun k => n - k) ?_ 0 _ _ ?start
  case start => exact ⟨.full, [], r, rfl, rfl, rfl, rfl, rfl, Nat.zero_le _, rfl, ExtB.refl _ _, Own1.nil _ _, hb, rfl, Nat.le_refl _⟩
  rintro k ρ σ1 ⟨o, acc, rk, hlen, g0, g6, g8, g9, hk, hacc, hx, ho, hb1, hE, hrk⟩ next hnext
  by_cases hlt : k < n
  · have c7 : IntKind.i64.wrap ((k : Int) + 1) = ((k + 1 : Nat) : Int) := i64w (n := ((k + 1 : Nat) : Int)) (by omega) (by omega)
    simp [hlen, g0, g6, g8, g9, hlt]
    refine text_calls' 64 id rk 0 σ1 _ (by omega) (by omega) hb1 fun σ2 hx2 hb2 => ?_
    simp [hlen, g0, g6, g8, g9]
    refine err_calls id _ _ σ2 _ hb2 ?_
    rw [show n - k = (n - k - 1) + 1 by omega] at hE
    simp only [getE, textE] at hE
    by_cases h1 : (textS 64 rk 0).2.2 = 0
    · rw [if_pos h1] at hE
      rw [h1] at hb2
      obtain ⟨o3, σ3, e3, hg3⟩ := append1 (P := Try.prog) (t := 22) (tx := 22) (c := scell (bs (textS 64 rk 0).1)) (ho.ext hx2).ap elem22 u22 (by rw [scs_length, hacc]) rfl (by omega) (by omega) (hx2.wf (hx.wf hq))
      simp only [scell] at e3
      simp [hlen, g0, g6, g8, g9, h1, e3, c7, -Int.natCast_add]
      refine hnext (k + 1) _ _ ?_ (by omega)
      obtain ⟨hx3, ho3⟩ := (hx.trans hx2).grew hq (ho.ext hx2) hg3
      exact ⟨o3, acc ++ [bs (textS 64 rk 0).1], (textS 64 rk 0).2.1, by simp [hlen], by simp [hlen, g0], by simp [hlen, scs, scell], by simp [hlen, g8], by simp [hlen], by omega, by simp [hacc], hx3, ho3,
        (hg3.box id (by have := hx.nxt; have := hx2.nxt; omega)).trans hb2, by rw [hE, show n - (k + 1) = n - k - 1 by omega], Nat.le_trans (textS_rest 64 rk) hrk⟩
    · rw [if_neg h1] at hE
      simp [hlen, g0, g6, g8, g9, h1]
      refine err_calls id _ _ σ2 _ hb2 ?_
      simp [hlen]
      exact herr _ σ2 hE h1 (hx.trans hx2)
  · have hke : k = n := by omega
    subst hke
    subst hacc
    rw [Nat.sub_self, getE] at hE
    simp [hlen, g0, g6, g8, g9]
    exact hok acc rk o σ1 hE hx ho hb1
end
end Go.Proofs.Ytdfeadgholpcgaa
end

section
set_option linter.unusedVariables false
set_option linter.unusedSimpArgs false
namespace Go.Proofs.Ytdfeadgholpcgaa
open Go.AW Go.RowKit Go.Spec Go.Proofs.Ytdfeadgholpcgaa.Ty

section
set_option maxRecDepth 100000
set_option maxHeartbeats 1000000
theorem getOrd_calls (id : Nat) (r : List UInt8) (σ : St) (K : AV → St → Prop) (hq : σ.Wf) (hl : r.length ≤ 9223372036854775807) (hid : id < σ.nxt) (hb : σ.box id = some (cuC r 0))
    (hok : ∀ l r' o σ', dictE r = .ok (l, r') → l.length ≤ 65536 → r'.length ≤ r.length → ExtB [id] σ σ' → Own1 σ σ' o l.length → σ'.box id = some (cuC r' 0) → K (.tup [.sl o l.length (scs l), .v (.int .i64 0)]) σ')
    (herr : ∀ (e : Nat) σ', dictE r = .error e → e ≠ 0 → ExtB [id] σ σ' → K (.tup [.sl .full 0 [], .v (.int .i64 (e : Int))]) σ') :
    ACalls Try.prog 58 [.ptr id 0] σ K := by
  refine acalls_of hm Try.func58 rfl (by decide) rfl rfl (by kernel_rfl) ?_
  simp [Try.f58]
  refine count_calls id r σ _ hl hb ?_ ?_
  rotate_left
  · intro e σ1 hc he hx
    simp [he]
    exact herr e σ1 (by simp [dictE, hc]) he hx
  intro n r1 σ0 hc hx0 hb0
  have hn : n ≤ 65536 ∧ r1.length ≤ r.length := by
    unfold countE uintE at hc
    by_cases q : (nextS r).2.2 = 0
    · simp only [if_pos q] at hc
      split at hc
      · cases hc
      · injection hc with hc
        injection hc with h1 h2
        have := (nextS_rest r).1 q
        subst h1 h2
        exact ⟨by omega, by omega⟩
    · simp only [if_neg q] at hc; cases hc
  have hd : dictE r = ordE n [] r1 := by simp [dictE, hc]
  rw [hd] at hok herr
  simp
  refine loop_ind (fun (k : Nat) ρ σ1 => ∃ o acc rk, ρ.length = 47 ∧ slot ρ 0 = .ptr id 0 ∧ slot ρ 6 = .sl o k (scs acc) ∧ slot ρ 16 = .v (.int .i64 n) ∧ slot ρ 17 = .v (.int .i64 k) ∧ k ≤ n ∧ acc.length = k ∧
    ExtB [id] σ σ1 ∧ Own1 σ σ1 o k ∧ σ1.box id = some (cuC rk 0) ∧ ordE n [] r1 = ordE (n - k) acc rk ∧ rk.length ≤ r1.length) (fun k => n - k) ?_ 0 _ _ ?start
  case start => exact ⟨.full, [], r1, rfl, rfl, rfl, rfl, rfl, Nat.zero_le _, rfl, hx0, Own1.nil _ _, hb0, rfl, Nat.le_refl _⟩
  rintro k ρ σ1 ⟨o, acc, rk, hlen, g0, g6, g8, g9, hk, hacc, hx, ho, hb1, hE, hrk⟩ next hnext
  by_cases hlt : k < n
  · have c7 : IntKind.i64.wrap ((k : Int) + 1) = ((k + 1 : Nat) : Int) := i64w (n := ((k + 1 : Nat) : Int)) (by omega) (by omega)
    simp [hlen, g0, g6, g8, g9, hlt]
    refine text_calls' 64 id rk 0 σ1 _ (by omega) (by omega) hb1 fun σ2 hx2 hb2 => ?_
    simp [hlen, g0, g6, g8, g9]
    refine err_calls id _ _ σ2 _ hb2 ?_
    rw [show n - k = (n - k - 1) + 1 by omega] at hE
    simp only [ordE, textE] at hE
    by_cases h1 : (textS 64 rk 0).2.2 = 0
    · rw [if_pos h1] at hE
      rw [h1] at hb2
      dsimp only at hE
      generalize htx : (textS 64 rk 0).1 = tx at *
      have happ := append1 (P := Try.prog) (t := 22) (tx := 22) (c := scell (bs tx)) (ho.ext hx2).ap elem22 u22 (by rw [scs_length, hacc]) rfl (by omega) (by omega) (hx2.wf (hx.wf hq))
      obtain ⟨o3, σ3, e3, hg3⟩ := happ
      simp only [scell] at e3
      have fin : ∀ ρ', ρ'.length = 47 → slot ρ' 0 = .ptr id 0 → slot ρ' 6 = .sl o3 (k + 1) (scs (acc ++ [bs tx])) → slot ρ' 16 = .v (.int .i64 n) → slot ρ' 17 = .v (.int .i64 ((k + 1 : Nat) : Int)) → (acc.getLast?.any fun x => !ltB x (bs tx)) = false → next ρ' σ3 := fun ρ' p1 p2 p3 p4 p5 p6 => by
        refine hnext (k + 1) _ _ ?_ (by omega)
        obtain ⟨hx3, ho3⟩ := (hx.trans hx2).grew hq (ho.ext hx2) hg3
        rw [p6] at hE
        exact ⟨o3, acc ++ [bs tx], (textS 64 rk 0).2.1, p1, p2, p3, p4, p5, by omega, by simp [hacc], hx3, ho3,
          (hg3.box id (by have := hx.nxt; have := hx2.nxt; omega)).trans hb2, by rw [hE, show n - (k + 1) = n - k - 1 by omega]; simp, Nat.le_trans (textS_rest 64 rk) hrk⟩
      by_cases h0 : k = 0
      · subst h0
        have ha : acc = [] := List.eq_nil_of_length_eq_zero hacc
        subst ha
        simp only [scs_length, scs, List.map_nil] at e3
        simp [hlen, g0, g6, g8, g9, h1, e3, c7, -Int.natCast_add, pickA_bool, scs, i64w]
        exact fin _ (by simp [hlen]) (by simp [hlen, g0]) (by simp [hlen, scs, scell]) (by simp [hlen, g8]) (by simp [hlen]) (by simp)
      · have c1 : (0 : Int) < k := by omega
        have c6 : 0 < k := by omega
        have c2 : IntKind.i64.wrap ((k : Int) - 1) = ((k - 1 : Nat) : Int) := by rw [i64w (by omega) (by omega)]; omega
        have c3 : k - 1 < acc.length := by omega
        have c4 : ((k - 1 : Nat) : Int) < k := by omega
        have c5 : acc.getLast? = some acc[k - 1] := by rw [List.getLast?_eq_getElem?, hacc, List.getElem?_eq_getElem c3]
        rw [c5] at hE fin
        have hb3 := ltB_leq (bs tx) acc[k - 1]
        rw [bs_toList] at hb3
        cases hle : ltB acc[k - 1] (bs tx) with
        | true =>
          simp [hlen, g0, g6, g8, g9, h1, e3, c1, c2, c3, c4, c7, -Int.natCast_add, c6, pickA_bool, hb3, hle]
          exact fin _ (by simp [hlen]) (by simp [hlen, g0]) (by simp [hlen, scs, scell]) (by simp [hlen, g8]) (by simp [hlen]) (by simp [hle])
        | false =>
          simp [hlen, g0, g6, g8, g9, h1, e3, c1, c2, c3, c4, c7, -Int.natCast_add, c6, pickA_bool, hb3, hle]
          simp [hle] at hE
          exact herr 4 σ2 hE (by omega) (hx.trans hx2)
    · rw [if_neg h1] at hE
      simp [hlen, g0, g6, g8, g9, h1]
      refine err_calls id _ _ σ2 _ hb2 ?_
      simp [hlen]
      exact herr _ σ2 hE h1 (hx.trans hx2)
  · have hke : k = n := by omega
    subst hke
    subst hacc
    rw [Nat.sub_self, ordE] at hE
    simp [hlen, g0, g6, g8, g9]
    exact hok acc rk o σ1 hE hn.1 (by omega) hx ho hb1
end
end Go.Proofs.Ytdfeadgholpcgaa
end
