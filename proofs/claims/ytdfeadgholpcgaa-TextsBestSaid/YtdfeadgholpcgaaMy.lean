/-
  Walks: what functions of the program come to, over abstract states (see the parts of the proof that import this text).
-/
import Derived.Test.YtdfeadgholpcgaaMx
import Derived.Test.YtdfeadgholpcgaaMs
import Derived.Test.YtdfeadgholpcgaaMv

section
set_option linter.unusedVariables false
set_option linter.unusedSimpArgs false
namespace Go.Proofs.Ytdfeadgholpcgaa
open Go.AW Go.RowKit Go.Spec Go.Proofs.Ytdfeadgholpcgaa.Ty

theorem tdivN (m k : Nat) : ((m : Nat) : Int).tdiv (k : Nat) = ((m / k : Nat) : Int) := by rw [Int.ofNat_tdiv]
theorem tmodN (m k : Nat) : ((m : Nat) : Int).tmod (k : Nat) = ((m % k : Nat) : Int) := by rw [Int.ofNat_tmod]
/-- A number of the program's, by its own wrap. -/
theorem i64n {n : Nat} (h : n ≤ 9223372036854775807) : IntKind.i64.wrap (n : Int) = n := i64w (by omega) (by omega)

section
set_option maxRecDepth 100000
set_option maxHeartbeats 1000000
theorem fits_calls (s : List UInt8) (n : Nat) (σ : St) (K : AV → St → Prop) (hn : n ≤ 4611686018427387904) (h : K (.v (.int .i64 (fitsE s n : Int))) σ) :
    ACalls Try.prog 86 [.v (.string (bs s)), .v (.int .i64 (n : Int))] σ K := by
  refine acalls_of hm Try.func86 rfl (by decide) rfl rfl (by kernel_rfl) ?_
  have e1 : IntKind.i64.wrap ((n : Int) + 7) = ((n + 7 : Nat) : Int) := i64w (n := ((n + 7 : Nat) : Int)) (by omega) (by omega)
  have e2 : ((n + 7 : Nat) : Int).tdiv 8 = (((n + 7) / 8 : Nat) : Int) := tdivN (n + 7) 8
  have e3 : IntKind.i64.wrap (((n + 7) / 8 : Nat) : Int) = (((n + 7) / 8 : Nat) : Int) := i64n (by omega)
  have e4 : (n : Int).tmod 8 = ((n % 8 : Nat) : Int) := tmodN n 8
  generalize hm : (n + 7) / 8 = m at *
  by_cases h1 : s.length < m
  · simp [Try.f86, e1, e2, e3, h1, -Int.natCast_add]
    simpa [fitsE, hm, h1] using h
  · by_cases h2 : m < s.length
    · simp [Try.f86, e1, e2, e3, h1, h2, -Int.natCast_add]
      simpa [fitsE, hm, h1, h2] using h
    · have hl : s.length = (n + 7) / 8 := by omega
      have hfit := fits_last s n hl
      rw [hm] at hfit
      generalize hq : n % 8 = q at *
      by_cases h3 : q = 0
      · subst h3
        simp at hfit
        simp [Try.f86, e1, e2, e3, e4, h1, h2, -Int.natCast_add, pickA_bool]
        simpa [fitsE, hm, h1, h2, hfit] using h
      · have e5 : IntKind.i64.wrap ((m : Int) - 1) = ((m - 1 : Nat) : Int) := by rw [i64w (by omega) (by omega)]; omega
        have e6 : (q : Int) ≠ 0 := by omega
        have e7 : ¬ (q : Int) < 0 := by omega
        have e8 : min q 8 = q := by omega
        have e9 : m - 1 < s.length := by omega
        have e10 := shrN (s.getD (m - 1) 0).toNat q
        generalize hx : (s.getD (m - 1) 0).toNat / 2 ^ q = x at *
        have e11 : (s.getD (m - 1) 0) = s[m - 1] := by simp [List.getD_eq_getElem?_getD, e9]
        rw [e11] at e10
        by_cases h4 : x = 0
        · subst h4
          simp at hfit
          simp [Try.f86, e1, e2, e3, e4, e5, e6, e7, e8, e9, e10, e11, h1, h2, h3, -Int.natCast_add, pickA_bool, byteAt_bs]
          simpa [fitsE, hm, h1, h2, hfit] using h
        · simp [Try.f86, e1, e2, e3, e4, e5, e6, e7, e8, e9, e10, e11, h1, h2, h3, h4, -Int.natCast_add, pickA_bool, byteAt_bs]
          simpa [fitsE, hm, h1, h2, hfit, h3, h4] using h
end
end Go.Proofs.Ytdfeadgholpcgaa
end

section
set_option linter.unusedVariables false
set_option linter.unusedSimpArgs false
namespace Go.Proofs.Ytdfeadgholpcgaa
open Go.AW Go.RowKit Go.Spec Go.Proofs.Ytdfeadgholpcgaa.Ty

theorem u64n {n : Nat} (h : n < 18446744073709551616) : IntKind.u64.wrap (n : Int) = n := u64w h
theorem lt_2p {x k n : Nat} (h : x < 2 ^ k) (hk : k ≤ n) : x < 2 ^ n := Nat.lt_of_lt_of_le h (Nat.pow_le_pow_right (by omega) hk)

section
set_option maxRecDepth 100000
set_option maxHeartbeats 1000000
theorem rget_calls (id : Nat) (s : List UInt8) (a w : Nat) (σ : St) (K : AV → St → Prop) (hw : w ≤ 64) (ha : a + w ≤ 8 * s.length) (hs : a + w ≤ 4611686018427387904) (hb : σ.box id = some [.v (.string (bs s)), .v (.int .i64 (a : Int))])
    (h : ∀ σ', ExtB [id] σ σ' → σ'.box id = some [.v (.string (bs s)), .v (.int .i64 ((a + w : Nat) : Int))] → K (.v (.int .u64 ((leN s / 2 ^ a % 2 ^ w : Nat) : Int))) σ') :
    ACalls Try.prog 87 [.ptr id 0, .v (.int .i64 (w : Int))] σ K := by
  refine acalls_of hm Try.func87 rfl (by decide) rfl rfl (by kernel_rfl) ?_
  simp [Try.f87]
  refine loop_ind (fun (d : Nat) ρ σ1 => ρ.length = 58 ∧ slot ρ 0 = .ptr id 0 ∧ slot ρ 1 = .v (.int .i64 w) ∧ slot ρ 5 = .v (.int .u64 ((leN s / 2 ^ a % 2 ^ d : Nat) : Int)) ∧ slot ρ 6 = .v (.int .i64 d) ∧ d ≤ w ∧
    ExtB [id] σ σ1 ∧ σ1.box id = some [.v (.string (bs s)), .v (.int .i64 ((a + d : Nat) : Int))]) (fun d => w - d) ?_ 0 _ _ ?start
  case start => exact ⟨rfl, rfl, rfl, by simp [Nat.mod_one], rfl, Nat.zero_le _, ExtB.refl _ _, hb⟩
  rintro d ρ σ1 ⟨hlen, g0, g1, g5, g6, hd, hx, hb1⟩ next hnext
  by_cases hlt : d < w
  · have e1 : (((a + d : Nat)) : Int).tmod 8 = (((a + d) % 8 : Nat) : Int) := tmodN (a + d) 8
    have e2 : (((a + d : Nat)) : Int).tdiv 8 = (((a + d) / 8 : Nat) : Int) := tdivN (a + d) 8
    have e2' : IntKind.i64.wrap (((a + d) / 8 : Nat) : Int) = (((a + d) / 8 : Nat) : Int) := i64n (by omega)
    have e3 : IntKind.i64.wrap ((w : Int) - d) = ((w - d : Nat) : Int) := by rw [i64w (by omega) (by omega)]; omega
    have hbp := fun t => byte_part s (a + d) t
    have hq8 : (a + d) % 8 < 8 := Nat.mod_lt _ (by omega)
    have hk : (a + d) / 8 < s.length := by omega
    generalize hq : (a + d) % 8 = q at *
    generalize hkk : (a + d) / 8 = k at *
    have e4 : IntKind.i64.wrap (8 - (q : Int)) = ((8 - q : Nat) : Int) := by rw [i64w (by omega) (by omega)]; omega
    have e5 : (if 8 - q < w - d then ((8 - q : Nat) : Int) else ((w - d : Nat) : Int)) = ((min (w - d) (8 - q) : Nat) : Int) := by split <;> omega
    generalize ht : min (w - d) (8 - q) = t at *
    have t1 : q + t ≤ 8 := by omega
    have t2 : 0 < t := by omega
    have t3 : d + t ≤ w := by omega
    have hdec : w - (d + t) < w - d := by omega
    have e6 : (s.getD k 0) = s[k] := by simp [List.getD_eq_getElem?_getD, hk]
    have hbp' := hbp t t1
    rw [e6] at hbp'
    have e7 := shrN s[k].toNat q
    have e8 : min q 8 = q := by omega
    have e9 : ¬ (q : Int) < 0 := by omega
    have e10 : ¬ (t : Int) < 0 := by omega
    have e11 : min t 64 = t := by omega
    have hb256 : s[k].toNat < 256 := s[k].toNat_lt
    have hp2 : 2 ^ t ≤ 2 ^ 8 := Nat.pow_le_pow_right (by omega) (by omega)
    have hp3 : 0 < 2 ^ t := Nat.two_pow_pos t
    have hx1 : s[k].toNat / 2 ^ q ≤ s[k].toNat := Nat.div_le_self _ _
    have e12 : IntKind.u64.wrap ((s[k].toNat / 2 ^ q : Nat) : Int) = ((s[k].toNat / 2 ^ q : Nat) : Int) := u64n (by omega)
    have e13 : IntKind.u64.wrap ((2 : Int) ^ t) = ((2 ^ t : Nat) : Int) := by
      have := u64n (n := 2 ^ t) (by omega); rw [← this]; simp
    have e14 : IntKind.u64.wrap (((2 ^ t : Nat) : Int) - 1) = ((2 ^ t - 1 : Nat) : Int) := by
      rw [show ((2 ^ t : Nat) : Int) - 1 = ((2 ^ t - 1 : Nat) : Int) by omega]; exact u64n (by omega)
    have e15 : bits .and .u64 ((s[k].toNat / 2 ^ q : Nat) : Int) ((2 ^ t - 1 : Nat) : Int) = ((leN s / 2 ^ (a + d) % 2 ^ t : Nat) : Int) := by
      rw [and64 (by omega) (by omega), Nat.and_two_pow_sub_one_eq_mod, hbp']
    have hmt : leN s / 2 ^ (a + d) % 2 ^ t < 2 ^ t := Nat.mod_lt _ hp3
    have hms : leN s / 2 ^ a % 2 ^ (d + t) = leN s / 2 ^ a % 2 ^ d + (leN s / 2 ^ (a + d) % 2 ^ t) * 2 ^ d := by
      rw [mod_step, Nat.div_div_eq_div_mul, ← Nat.pow_add, Nat.mul_comm]
    have hmd : leN s / 2 ^ a % 2 ^ d < 2 ^ d := Nat.mod_lt _ (Nat.two_pow_pos d)
    have hlt64 : leN s / 2 ^ a % 2 ^ (d + t) < 2 ^ 64 := lt_2p (Nat.mod_lt _ (Nat.two_pow_pos (d + t))) (by omega)
    generalize leN s / 2 ^ (a + d) % 2 ^ t = P at *
    rw [hms] at hlt64
    have hPd : P * 2 ^ d < 18446744073709551616 := Nat.lt_of_le_of_lt (Nat.le_add_left _ _) hlt64
    have e16 : min d 64 = d := by omega
    have e17 : IntKind.u64.wrap ((P : Int) * 2 ^ d) = ((P * 2 ^ d : Nat) : Int) := by
      have := u64n (n := P * 2 ^ d) hPd; rw [← this]; simp
    have e18 : bits .or .u64 ((leN s / 2 ^ a % 2 ^ d : Nat) : Int) ((P * 2 ^ d : Nat) : Int) = ((leN s / 2 ^ a % 2 ^ (d + t) : Nat) : Int) := by
      rw [or64 (Nat.lt_of_le_of_lt (Nat.le_add_right _ _) hlt64) hPd, or_disj hmd, hms]
    have e19 : IntKind.i64.wrap ((d : Int) + t) = ((d + t : Nat) : Int) := i64w (n := ((d + t : Nat) : Int)) (by omega) (by omega)
    have e20 : IntKind.i64.wrap (((a + d : Nat) : Int) + t) = ((a + (d + t) : Nat) : Int) := by rw [i64w (by omega) (by omega)]; omega
    clear hbp hbp' hms
    simp [hlen, g0, g1, g5, g6, hlt, hb1, e1, e2, e2', e3, e4, e5, e7, e8, e9, e10, e11, e12, e13, e14, e15, e16, e17, e18, e19, e20, byteAt_bs, hk, e6, -Int.natCast_add, -Int.natCast_mul, -Int.natCast_pow, -Int.natCast_emod, -Int.natCast_ediv]
    refine hnext (d + t) _ _ ?_ hdec
    refine ⟨?_, ?_, ?_, ?_, ?_, ?_, ?_, ?_⟩
    · simp [hlen]
    · simp [hlen, g0]
    · simp [hlen, g1]
    · simp only [setS_length, hlen, slot_setS, slot_setS_other, ne_eq, Nat.reduceEqDiff, not_false_eq_true, Nat.reduceLT]
    · simp [hlen]
    · exact t3
    · exact hx.trans (ExtB.setBox _ _ _)
    · simp
  · have hke : d = w := by omega
    subst hke
    simp [hlen, g0, g1, g5, g6]
    exact h _ hx hb1
theorem unpack_calls (s : List UInt8) (n w : Nat) (σ : St) (K : AV → St → Prop) (hq : σ.Wf) (hn : n ≤ 65536) (hw : w ≤ 64)
    (hok : ∀ l o σ', unpackE s n w = .ok l → l.length = n → Ext σ σ' → Own1 σ σ' o n → K (.tup [.sl o n (ncs l), .v (.int .i64 0)]) σ')
    (herr : ∀ e : Nat, unpackE s n w = .error e → e ≠ 0 → K (.tup [.sl .full 0 [], .v (.int .i64 (e : Int))]) σ) :
    ACalls Try.prog 73 [.v (.string (bs s)), .v (.int .i64 (n : Int)), .v (.int .i64 (w : Int))] σ K := by
  refine acalls_of hm Try.func73 rfl (by decide) rfl rfl (by kernel_rfl) ?_
  have c1 : ¬ (w : Int) < 0 := by omega
  have c2 : ¬ (64 : Int) < w := by omega
  have c3 : ¬ (n : Int) < 0 := by omega
  have c4 : ¬ (65536 : Int) < n := by omega
  have hnw : n * w ≤ 65536 * 64 := Nat.mul_le_mul hn hw
  have c5 : IntKind.i64.wrap ((n : Int) * w) = ((n * w : Nat) : Int) := by
    have := i64n (n := n * w) (by omega); rw [← this]; simp
  simp [Try.f73, c1, c2, c3, c4, c5, pickA_bool, -Int.natCast_mul]
  refine fits_calls s (n * w) σ _ (by omega) ?_
  by_cases h0 : fitsE s (n * w) = 0
  · have hlen8 : n * w ≤ 8 * s.length := by
      unfold fitsE at h0
      split at h0
      · cases h0
      · split at h0
        · cases h0
        · omega
    have hE : unpackE s n w = .ok (unpackN s n w) := by simp [unpackE, h0]
    simp [h0]
    refine loop_ind (fun (k : Nat) ρ σ1 => ∃ o acc, ρ.length = 47 ∧ slot ρ 2 = .v (.int .i64 w) ∧ slot ρ 9 = .ptr σ.nxt 0 ∧ slot ρ 10 = .sl o k (ncs acc) ∧ slot ρ 36 = .v (.int .i64 n) ∧ slot ρ 37 = .v (.int .i64 k) ∧ k ≤ n ∧ acc = unpackN s k w ∧
      ExtB [σ.nxt] (σ.addBox [.v (.string (bs s)), .v (.int .i64 0)]) σ1 ∧ Own1 (σ.addBox [.v (.string (bs s)), .v (.int .i64 0)]) σ1 o k ∧ σ1.box σ.nxt = some [.v (.string (bs s)), .v (.int .i64 ((k * w : Nat) : Int))]) (fun k => n - k) ?_ 0 _ _ ?start
    case start => exact ⟨.full, [], rfl, rfl, rfl, rfl, rfl, rfl, Nat.zero_le _, rfl, ExtB.refl _ _, Own1.nil _ _, by simp⟩
    rintro k ρ σ1 ⟨o, acc, hlen, g2, g9, g10, g36, g37, hk, hacc, hx, ho, hb1⟩ next hnext
    have hwf : (σ.addBox [.v (.string (bs s)), .v (.int .i64 0)]).Wf := (ExtB.addBox _ _).wf hq
    by_cases hlt : k < n
    · have c7 : IntKind.i64.wrap ((k : Int) + 1) = ((k + 1 : Nat) : Int) := i64w (n := ((k + 1 : Nat) : Int)) (by omega) (by omega)
      have hkw : (k + 1) * w ≤ n * w := Nat.mul_le_mul_right _ hlt
      rw [Nat.add_mul, Nat.one_mul] at hkw
      simp [hlen, g2, g9, g10, g36, g37, hlt]
      refine rget_calls σ.nxt s (k * w) w σ1 _ hw (by omega) (by omega) hb1 fun σ2 hx2 hb2 => ?_
      obtain ⟨o3, σ3, e3, hg3⟩ := append1 (P := Try.prog) (t := 43) (tx := 43) (cs := ncs acc) (c := ncell (leN s / 2 ^ (k * w) % 2 ^ w)) (ho.ext hx2).ap elem43 u43 (by rw [ncs_length, hacc]; simp [unpackN]) rfl (by omega) (by omega) (hx2.wf (hx.wf hwf))
      simp only [ncell] at e3
      simp [hlen, g2, g9, g10, g36, g37, e3, c7, -Int.natCast_add, -Int.natCast_emod, -Int.natCast_ediv]
      refine hnext (k + 1) _ _ ?_ (by omega)
      obtain ⟨hx3, ho3⟩ := (hx.trans hx2).grew hwf (ho.ext hx2) hg3
      exact ⟨o3, acc ++ [leN s / 2 ^ (k * w) % 2 ^ w], by simp [hlen], by simp [hlen, g2], by simp [hlen, g9], by simp [hlen, ncs, ncell], by simp [hlen, g36], by simp [hlen], by omega, by simp [hacc, unpackN, List.range_succ], hx3, ho3,
        (hg3.box σ.nxt (by have := hx.nxt; have := hx2.nxt; simp at *; omega)).trans (by rw [hb2, Nat.add_mul, Nat.one_mul])⟩
    · have hke : k = n := by omega
      subst hke
      simp [hlen, g2, g9, g10, g36, g37]
      subst hacc
      refine hok _ o σ1 hE (by simp [unpackN]) (((ExtB.addBox σ _).new hx hq (by simp)).ext) ⟨ho.ap, fun t e => Nat.le_trans (by simp) (ho.fresh t e)⟩
  · simp [h0]
    exact herr _ (by simp [unpackE, h0]) h0
end
end Go.Proofs.Ytdfeadgholpcgaa
end

section
set_option linter.unusedVariables false
set_option linter.unusedSimpArgs false
namespace Go.Proofs.Ytdfeadgholpcgaa
open Go.AW Go.RowKit Go.Spec Go.Proofs.Ytdfeadgholpcgaa.Ty

section
set_option maxRecDepth 100000
set_option maxHeartbeats 1000000
theorem numbers_calls (id n : Nat) (r : List UInt8) (σ : St) (K : AV → St → Prop) (hq : σ.Wf) (hn : n ≤ 65536) (hl : r.length ≤ 9223372036854775807) (hid : id < σ.nxt) (hb : σ.box id = some (cuC r 0))
    (hok : ∀ l w r' o σ', numE n r = .ok (l, w, r') → l.length = n → w ≤ 64 → r'.length ≤ r.length → ExtB [id] σ σ' → Own1 σ σ' o n → σ'.box id = some (cuC r' 0) → K (.tup [.sl o n (ncs l), .v (.int .i64 (w : Int)), .v (.int .i64 0)]) σ')
    (herr : ∀ (e : Nat) (x : Int) σ', numE n r = .error e → e ≠ 0 → ExtB [id] σ σ' → K (.tup [.sl .full 0 [], .v (.int .i64 x), .v (.int .i64 (e : Int))]) σ') :
    ACalls Try.prog 59 [.ptr id 0, .v (.int .i64 (n : Int))] σ K := by
  refine acalls_of hm Try.func59 rfl (by decide) rfl rfl (by kernel_rfl) ?_
  simp [Try.f59]
  refine byte_calls id r 0 σ _ hb fun σ1 hx1 hb1 => ?_
  simp
  refine err_calls id _ _ σ1 _ hb1 ?_
  cases r with
  | nil =>
    simp [byteS]
    refine err_calls id _ _ σ1 _ hb1 ?_
    simp [byteS]
    exact herr 2 0 σ1 rfl (by omega) hx1
  | cons b t =>
    have hE : numE n (b :: t) = if 64 < b.toNat then .error 4 else if t.length < (n * b.toNat + 7) / 8 then .error 2 else
      match unpackE (t.take ((n * b.toNat + 7) / 8)) n b.toNat with
      | .error e => .error e
      | .ok l => .ok (l, b.toNat, t.drop ((n * b.toNat + 7) / 8)) := rfl
    simp only [byteS, if_true] at hb1
    simp [byteS]
    generalize hw : b.toNat = w at *
    by_cases h1 : 64 < w
    · have h1' : (64 : Int) < w := by omega
      simp [h1']
      exact herr 4 0 σ1 (by rw [hE, if_pos h1]) (by omega) hx1
    · have h1' : ¬ (64 : Int) < w := by omega
      have hnw : n * w ≤ 65536 * 64 := Nat.mul_le_mul hn (by omega)
      have c5 : IntKind.i64.wrap ((n : Int) * w) = ((n * w : Nat) : Int) := by
        have := i64n (n := n * w) (by omega); rw [← this]; simp
      have c6 : IntKind.i64.wrap (((n * w : Nat) : Int) + 7) = ((n * w + 7 : Nat) : Int) := i64w (n := ((n * w + 7 : Nat) : Int)) (by omega) (by omega)
      have c8 : ((n * w + 7 : Nat) : Int).tdiv 8 = (((n * w + 7) / 8 : Nat) : Int) := tdivN (n * w + 7) 8
      have c9 : IntKind.i64.wrap (((n * w + 7) / 8 : Nat) : Int) = (((n * w + 7) / 8 : Nat) : Int) := i64n (by omega)
      have hneed : (n * w + 7) / 8 ≤ 600000 := by omega
      generalize hm : (n * w + 7) / 8 = m at *
      simp [h1', c5, c6, c8, c9, -Int.natCast_mul, -Int.natCast_add]
      refine left_calls id _ _ σ1 _ hb1 ?_
      rw [if_neg h1] at hE
      by_cases h2 : t.length < m
      · simp [h2]
        exact herr 2 0 σ1 (by rw [hE, if_pos h2]) (by omega) hx1
      · rw [if_neg h2] at hE
        simp [h2]
        refine loop_ind (fun (k : Nat) ρ σ2 => ∃ o, ρ.length = 53 ∧ slot ρ 0 = .ptr id 0 ∧ slot ρ 1 = .v (.int .i64 n) ∧ slot ρ 7 = .v (.int .i64 w) ∧ slot ρ 9 = .sl o k (bcs (t.take k)) ∧ slot ρ 32 = .v (.int .i64 m) ∧ slot ρ 33 = .v (.int .i64 k) ∧ k ≤ m ∧
          ExtB [id] σ σ2 ∧ Own1 σ σ2 o k ∧ σ2.box id = some (cuC (t.drop k) 0)) (fun k => m - k) ?_ 0 _ _ ?start
        case start => exact ⟨.full, rfl, rfl, rfl, rfl, rfl, rfl, rfl, Nat.zero_le _, hx1, Own1.nil _ _, hb1⟩
        rintro k ρ σ2 ⟨o, hlen, g0, g1, g7, g9, g32, g33, hk, hx, ho, hb2⟩ next hnext
        by_cases hlt : k < m
        · have c7 : IntKind.i64.wrap ((k : Int) + 1) = ((k + 1 : Nat) : Int) := i64w (n := ((k + 1 : Nat) : Int)) (by omega) (by omega)
          have hkt : k < t.length := by omega
          simp [hlen, g0, g1, g7, g9, g32, g33, hlt]
          refine byte_calls id _ 0 σ2 _ hb2 fun σ3 hx3 hb3 => ?_
          have hdr : t.drop k = t[k] :: t.drop (k + 1) := List.drop_eq_getElem_cons hkt
          have hby : byteS (t.drop k) 0 = (t[k].toNat, t.drop (k + 1), 0) := by rw [hdr]; rfl
          rw [hby] at hb3 ⊢
          have c10 : IntKind.u8.wrap (t[k].toNat : Int) = t[k].toNat := by rw [u8w]; simp
          obtain ⟨o4, σ4, e4, hg4⟩ := append1 (P := Try.prog) (t := 34) (tx := 34) (cs := bcs (t.take k)) (c := bcell t[k]) (ho.ext hx3).ap elem34 u34 (by simp; omega) rfl (by omega) (by omega) (hx3.wf (hx.wf hq))
          simp only [bcell] at e4
          have hcs : bcs (t.take (k + 1)) = bcs (t.take k) ++ [.v (.int .u8 t[k].toNat)] := by rw [List.take_succ_eq_append_getElem hkt, bcs_append]; rfl
          simp [hlen, g0, g1, g7, g9, g32, g33, e4, c7, c10, -Int.natCast_add]
          refine hnext (k + 1) _ _ ?_ (by omega)
          obtain ⟨hx4, ho4⟩ := (hx.trans hx3).grew hq (ho.ext hx3) hg4
          exact ⟨o4, by simp [hlen], by simp [hlen, g0], by simp [hlen, g1], by simp [hlen, g7], by rw [hcs]; simp [hlen], by simp [hlen, g32], by simp [hlen], by omega, hx4, ho4,
            (hg4.box id (by have := hx.nxt; have := hx3.nxt; omega)).trans hb3⟩
        · have hke : k = m := by omega
          subst hke
          have c11 : min k t.length = k := by omega
          simp [hlen, g0, g1, g7, g9, g32, g33, c11, bytesA_bcs]
          refine unpack_calls (t.take k) n w σ2 _ (hx.wf hq) hn (by omega) (fun l o3 σ3 hu hll hx3 ho3 => ?_) fun e hu he => ?_
          · simp [hlen, g1, g7]
            rw [hu] at hE
            exact hok l w _ o3 σ3 hE hll (by omega) (by simp; omega) (hx.trans (hx3.b _)) ⟨ho3.ap, fun t' e' => Nat.le_trans hx.nxt (ho3.fresh t' e')⟩ ((hx3.box id (by have := hx.nxt; omega)).trans hb2)
          · simp [hlen, g1, g7]
            rw [hu] at hE
            exact herr e _ σ2 hE he hx
end
end Go.Proofs.Ytdfeadgholpcgaa
end

section
set_option linter.unusedVariables false
set_option linter.unusedSimpArgs false
namespace Go.Proofs.Ytdfeadgholpcgaa
open Go.AW Go.RowKit Go.Spec Go.Proofs.Ytdfeadgholpcgaa.Ty

section
set_option maxRecDepth 100000
set_option maxHeartbeats 1000000
theorem chosen_calls (id n : Nat) (r : List UInt8) (σ : St) (K : AV → St → Prop) (hq : σ.Wf) (hn : n ≤ 65536) (hl : r.length ≤ 9223372036854775807) (hid : id < σ.nxt) (hb : σ.box id = some (cuC r 0))
    (hok : ∀ l r' o σ', chosenE n r = .ok (l, r') → ExtB [id] σ σ' → Own1 σ σ' o l.length → σ'.box id = some (cuC r' 0) → K (.tup [.sl o l.length (scs l), .v (.int .i64 0)]) σ')
    (herr : ∀ (e : Nat) σ', chosenE n r = .error e → e ≠ 0 → ExtB [id] σ σ' → K (.tup [.sl .full 0 [], .v (.int .i64 (e : Int))]) σ') :
    ACalls Try.prog 34 [.ptr id 0, .v (.int .i64 (n : Int))] σ K := by
  refine acalls_of hm Try.func34 rfl (by decide) rfl rfl (by kernel_rfl) ?_
  simp [Try.f34]
  refine getOrd_calls id r σ _ hq hl hid hb ?_ ?_
  rotate_left
  · intro e σ1 hd he hx
    simp [he]
    exact herr e σ1 (by simp [chosenE, hd]) he hx
  intro d r1 od σ1 hd hdl hrl hx1 hod hb1
  simp
  refine numbers_calls id n r1 σ1 _ (hx1.wf hq) hn (by omega) (by have := hx1.nxt; omega) hb1 ?_ ?_
  rotate_left
  · intro e x σ2 hu he hx2
    simp [he]
    exact herr e σ2 (by simp [chosenE, hd, hu]) he (hx1.trans hx2)
  intro l w r2 on σ2 hu hll hw hrl2 hx2 hon hb2
  have hlt64 := numE_lt hu
  have hE : chosenE n r = if (∀ k ∈ l, k < d.length) ∧ (∀ k, k < d.length → k ∈ l) ∧ widthN l = w then .ok (l.map fun k => d.getD k (bs []), r2) else .error 4 := by
    simp only [chosenE, hd, hu]
  have hx12 := hx1.trans hx2
  have hwf2 := hx12.wf hq
  subst hll
  simp
  refine loop_ind (fun (k : Nat) ρ σ3 => ∃ o M acc, σ2.nxt < σ3.nxt ∧ acc = (l.take k).map (fun k => d.getD k (bs [])) ∧ ρ.length = 68 ∧ slot ρ 6 = .sl od d.length (scs d) ∧ slot ρ 8 = .sl on l.length (ncs l) ∧ slot ρ 9 = .v (.int .i64 w) ∧ slot ρ 10 = .sl o k (scs acc) ∧ slot ρ 11 = .mp σ2.nxt ∧
    slot ρ 33 = .sl on l.length (ncs l) ∧ slot ρ 34 = .v (.int .i64 l.length) ∧ slot ρ 35 = .v (.int .i64 k) ∧ k ≤ l.length ∧ (∀ x ∈ l.take k, x < d.length) ∧ σ3.mp σ2.nxt = some (.u64, M) ∧ usedM M (l.take k) ∧ (∀ x v, findM M x = some v → ∃ c, v = .v (.int .i64 c)) ∧
    ExtB [id] σ σ3 ∧ Own1 σ σ3 o k ∧ σ3.box id = some (cuC r2 0)) (fun k => l.length - k) ?_ 0 _ _ ?start
  case start => exact ⟨.full, [], [], by simp, rfl, rfl, rfl, rfl, rfl, rfl, rfl, rfl, rfl, rfl, Nat.zero_le _, by simp, by simp, rfl, by simp [findM], hx12.trans ((ExtB.addMap σ2 .u64).mono (by simp)), Own1.nil _ _, by simpa using hb2⟩
  rintro k ρ σ3 ⟨o, M, acc, hnx, hacc, hlen, g6, g8, g9, g10, g11, g33, g34, g35, hk, hall, hmp, hus, hfd, hx, ho, hb3⟩ next hnext
  have hidn : id < σ3.nxt := by have := hx.nxt; omega
  by_cases hlt : k < l.length
  · have c7 : IntKind.i64.wrap ((k : Int) + 1) = ((k + 1 : Nat) : Int) := i64w (n := ((k + 1 : Nat) : Int)) (by omega) (by omega)
    have c8 : IntKind.u64.wrap (d.length : Int) = d.length := u64n (by omega)
    by_cases hdk : d.length ≤ l[k]
    · simp [hlen, g6, g8, g9, g10, g11, g33, g34, g35, hlt, c8, hdk]
      refine herr 4 σ3 (by rw [hE, if_neg]; rintro ⟨q, _⟩; have := q _ (List.getElem_mem hlt); omega) (by omega) hx
    · have hdk' : l[k] < d.length := by omega
      have hget : d.getD l[k] (bs []) = d[l[k]] := by simp [List.getD_eq_getElem?_getD, hdk']
      obtain ⟨o4, σ4, e4, hg4⟩ := append1 (P := Try.prog) (t := 22) (tx := 22) (cs := scs acc) (c := scell d[l[k]]) (σ := σ3.setMap σ2.nxt .u64 (setM M l[k] (.v (.int .i64 (IntKind.i64.wrap (((findM M l[k]).elim 0 fun v => match v with | .v (.int _ c) => c | _ => 0) + 1)))))) (o := o) (n := k)
        (by have := ho.ap; cases o with | raw => exact this | full => exact this | own t => exact ⟨by simpa using this.1, by simpa using this.2⟩) elem22 u22 (by rw [hacc]; simp; omega) rfl (by omega) (by omega) ((ExtB.setMap σ3 σ2.nxt .u64 _).wf (hx.wf hq))
      simp only [scell] at e4
      have hfm : (findM M l[k]).or (some (.v (.int .i64 0))) = some (.v (.int .i64 ((findM M l[k]).elim 0 fun v => match v with | .v (.int _ c) => c | _ => 0))) := by
        cases hf : findM M l[k] with
        | none => rfl
        | some v => obtain ⟨c, rfl⟩ := hfd _ _ hf; rfl
      generalize hcv : ((findM M l[k]).elim (0 : Int) fun v => match v with | .v (.int _ c) => c | _ => 0) = cv at *
      simp [hlen, g6, g8, g9, g10, g11, g33, g34, g35, hlt, c7, c8, hdk, hdk', hmp, hfm, e4, -Int.natCast_add]
      refine hnext (k + 1) _ _ ?_ (by omega)
      have hxm : ExtB [id] σ (σ3.setMap σ2.nxt .u64 (setM M l[k] (.v (.int .i64 (IntKind.i64.wrap (cv + 1)))))) := hx.new (ExtB.setMap σ3 σ2.nxt .u64 _) hq (by simp; exact .inr hx12.nxt)
      have hom : Own1 σ (σ3.setMap σ2.nxt .u64 (setM M l[k] (.v (.int .i64 (IntKind.i64.wrap (cv + 1)))))) o k := ⟨by have := ho.ap; cases o with | raw => exact this | full => exact this | own t => exact ⟨by simpa using this.1, by simpa using this.2⟩, ho.fresh⟩
      obtain ⟨hx4, ho4⟩ := hxm.grew hq hom hg4
      have htk : l.take (k + 1) = l.take k ++ [l[k]] := List.take_succ_eq_append_getElem hlt
      refine ⟨o4, setM M l[k] (.v (.int .i64 (IntKind.i64.wrap (cv + 1)))), acc ++ [d[l[k]]], by have := hg4.nxt; simp at this; omega, by rw [htk, List.map_append, List.map_cons, List.map_nil, hget, hacc], by simp [hlen], by simp [hlen, g6], by simp [hlen, g8], by simp [hlen, g9], ?_, by simp [hlen, g11], by simp [hlen, g33], by simp [hlen, g34], by simp [hlen], by omega, ?_, ?_, ?_, ?_, hx4, ho4, ?_⟩
      · simp [hlen, scs, scell]
      · rw [htk]; intro x hx; rw [List.mem_append, List.mem_singleton] at hx; rcases hx with hx | rfl; exact hall x hx; exact hdk'
      · rw [hg4.mp σ2.nxt (by simpa using hnx)]; simp
      · unfold usedM at hus ⊢
        rw [setM_keys, hus, htk, onceN_snoc]
        have : (((l[k] : Nat) : Int) ∈ (onceN (l.take k)).map fun x => ((x : Nat) : Int)) ↔ l[k] ∈ onceN (l.take k) := by
          rw [List.mem_map]; constructor
          · rintro ⟨a, ha, he⟩; rwa [show l[k] = a by omega]
          · intro h; exact ⟨_, h, rfl⟩
        by_cases hm : l[k] ∈ onceN (l.take k)
        · rw [if_pos (this.2 hm), if_pos hm]
        · rw [if_neg (fun q => hm (this.1 q)), if_neg hm]; simp
      · intro x v hv
        rw [findM_setM] at hv
        split at hv
        · injection hv with hv; exact ⟨_, hv.symm⟩
        · exact hfd x v hv
      · rw [hg4.box id (by simp; exact hidn)]; simpa using hb3
  · have hke : k = l.length := by omega
    subst hke
    rw [List.take_length] at *
    have hlen2 : M.length = (onceN l).length := by have := congrArg List.length hus; simpa using this
    have honce := once_all hall
    simp [hlen, g6, g8, g9, g10, g11, g33, g34, g35, hmp]
    by_cases hne : M.length = d.length
    · simp [hne, hlen, g8]
      refine width_calls on l σ3 _ (by omega) hlt64 ?_
      rw [hlen2] at hne
      have hcond : (∀ k ∈ l, k < d.length) ∧ (∀ k, k < d.length → k ∈ l) := ⟨hall, honce.1 hne⟩
      by_cases hwd : widthN l = w
      · simp [hlen, hwd, g9, g10, pickA_bool]
        rw [if_pos ⟨hcond.1, hcond.2, hwd⟩, ← hacc] at hE
        have hal : acc.length = l.length := by rw [hacc]; simp
        rw [← hal] at ho ⊢
        exact hok acc r2 o σ3 hE hx ho hb3
      · have hwd' : ¬ ((widthN l : Nat) : Int) = w := by omega
        simp [hlen, hwd, hwd', g9, g10, pickA_bool]
        exact herr 4 σ3 (by rw [hE, if_neg (fun q => hwd q.2.2)]) (by omega) hx
    · have hne' : (M.length != d.length) = true := by simpa using hne
      simp [hlen, hne, hne', pickA_bool]
      exact herr 4 σ3 (by rw [hE, if_neg (fun q => hne (by rw [hlen2]; exact honce.2 q.2.1))]) (by omega) hx
end
end Go.Proofs.Ytdfeadgholpcgaa
end

section
set_option linter.unusedVariables false
set_option linter.unusedSimpArgs false
namespace Go.Proofs.Ytdfeadgholpcgaa
open Go.AW Go.RowKit Go.Spec Go.Proofs.Ytdfeadgholpcgaa.Ty

theorem uintE_le {r r' : List UInt8} {n : Nat} (h : uintE r = .ok (n, r')) : r'.length ≤ r.length := by
  unfold uintE at h
  split at h
  · rename_i q
    injection h with h
    injection h with h1 h2
    have := (nextS_rest r).1 q
    subst h2
    omega
  · cases h
theorem countE_le {r r' : List UInt8} {n : Nat} (h : countE r = .ok (n, r')) : n ≤ 65536 ∧ r'.length ≤ r.length := by
  unfold countE at h
  split at h
  · cases h
  · rename_i n1 r1 hu
    split at h
    · cases h
    · injection h with h
      injection h with h1 h2
      subst h1 h2
      exact ⟨by omega, uintE_le hu⟩

section
set_option maxRecDepth 100000
set_option maxHeartbeats 1000000
theorem count_err_calls (id : Nat) (r : List UInt8) (e : Nat) (σ : St) (K : AV → St → Prop) (hl : r.length ≤ 9223372036854775807) (he : e ≠ 0) (hb : σ.box id = some (cuC r e))
    (h : K (.tup [.v (.int .i64 0), .v (.int .i64 (e : Int))]) σ) : ACalls Try.prog 32 [.ptr id 0] σ K := by
  refine acalls_of hm Try.func32 rfl (by decide) rfl rfl (by kernel_rfl) ?_
  simp [Try.f32]
  refine acalls_of hm Try.func56 rfl (by decide) rfl rfl (by kernel_rfl) ?_
  simp [Try.f56]
  refine ok_calls id r e σ _ hb ?_
  simp [he, i64w]
  refine err_calls id _ _ σ _ hb ?_
  simpa using h
theorem read_calls (s : List UInt8) (σ : St) (K : AV → St → Prop) (hq : σ.Wf) (hl : s.length ≤ 9223372036854775807)
    (hok : ∀ l o σ', readE s = .ok l → Ext σ σ' → Own1 σ σ' o l.length → K (.tup [.sl o l.length (scs l), .v (.int .i64 0)]) σ')
    (herr : ∀ (e : Nat) σ', readE s = .error e → e ≠ 0 → Ext σ σ' → K (.tup [.sl .full 0 [], .v (.int .i64 (e : Int))]) σ') :
    ACalls Try.prog 9 [.v (.string (bs s))] σ K := by
  refine acalls_of hm Try.func9 rfl (by decide) rfl rfl (by kernel_rfl) ?_
  simp [Try.f9]
  refine from_calls s σ _ ?_
  simp
  have hx0 := ExtB.addBox σ (cuC s 0)
  have hw0 := hx0.wf hq
  have hid0 : σ.nxt < (σ.addBox (cuC s 0)).nxt := by simp
  have hb0 : (σ.addBox (cuC s 0)).box σ.nxt = some (cuC s 0) := addBox_same
  generalize σ.addBox (cuC s 0) = σ0 at *
  have out : ∀ σ', ExtB [σ.nxt] σ0 σ' → Ext σ σ' := fun σ' h => (hx0.new h hq (by simp)).ext
  have outo : ∀ {σ' o n}, Own1 σ0 σ' o n → Own1 σ σ' o n := fun h => ⟨h.ap, fun t e => Nat.le_trans hx0.nxt (h.fresh t e)⟩
  refine byte_calls σ.nxt s 0 σ0 _ hb0 fun σ1 hx1 hb1 => ?_
  simp
  refine err_calls σ.nxt _ _ σ1 _ hb1 ?_
  cases s with
  | nil =>
    simp [byteS, pickA_bool]
    have hb1' : σ1.box σ.nxt = some (cuC [] 2) := hb1
    refine count_err_calls σ.nxt [] 2 σ1 _ (by simp) (by omega) hb1' ?_
    simp
    exact herr 2 σ1 rfl (by omega) (out _ hx1)
  | cons b t =>
    simp only [byteS, if_true] at hb1
    simp [byteS, pickA_bool]
    have hE : readE (b :: t) = if 2 ≤ b.toNat then .error 4 else match countE t with | .error e => .error e | .ok (n, r1) => doneE (if b.toNat = 1 then chosenE n r1 else getE n [] r1) := rfl
    generalize b.toNat = k at *
    by_cases h2 : 2 ≤ k
    · have h2' : (2 : Int) ≤ k := by omega
      simp [h2']
      exact herr 4 σ1 (by rw [hE, if_pos h2]) (by omega) (out _ hx1)
    · have h2' : ¬ (2 : Int) ≤ k := by omega
      rw [if_neg h2] at hE
      simp [h2']
      refine count_calls σ.nxt t σ1 _ (by simp at hl; omega) hb1 ?_ ?_
      rotate_left
      · intro e σ2 hc he hx2
        simp [he]
        exact herr e σ2 (by rw [hE, hc]) he (out _ (hx1.trans hx2))
      intro n r1 σ2 hc hx2 hb2
      obtain ⟨hn, hrl⟩ := countE_le hc
      rw [hc] at hE
      simp only at hE
      have hx12 := hx1.trans hx2
      by_cases hk1 : k = 1
      · rw [if_pos hk1] at hE
        have hk1' : (k : Int) = 1 := by omega
        simp [hk1']
        refine chosen_calls σ.nxt n r1 σ2 _ (hx12.wf hw0) hn (by simp at hl; omega) (by have := hx12.nxt; omega) hb2 ?_ ?_
        · intro l r2 o σ3 hch hx3 ho3 hb3
          simp
          refine done_calls σ.nxt _ _ σ3 _ hb3 ?_
          by_cases hr2 : r2 = []
          · simp [doneS, hr2]
            exact hok l o σ3 (by rw [hE, hch]; simp [doneE, hr2]) (out _ (hx12.trans hx3)) (outo ⟨ho3.ap, fun t' e' => Nat.le_trans hx12.nxt (ho3.fresh t' e')⟩)
          · simp [doneS, hr2]
            exact herr 5 σ3 (by rw [hE, hch]; simp [doneE, hr2]) (by omega) (out _ (hx12.trans hx3))
        · intro e σ3 hch he hx3
          simp [he]
          exact herr e σ3 (by rw [hE, hch]; rfl) he (out _ (hx12.trans hx3))
      · rw [if_neg hk1] at hE
        have hk1' : ¬ (k : Int) = 1 := by omega
        simp [hk1']
        refine get_calls σ.nxt n r1 σ2 _ (hx12.wf hw0) hn (by simp at hl; omega) (by have := hx12.nxt; omega) hb2 ?_ ?_
        · intro l r2 o σ3 hch hx3 ho3 hb3
          simp
          refine done_calls σ.nxt _ _ σ3 _ hb3 ?_
          by_cases hr2 : r2 = []
          · simp [doneS, hr2]
            exact hok l o σ3 (by rw [hE, hch]; simp [doneE, hr2]) (out _ (hx12.trans hx3)) (outo ⟨ho3.ap, fun t' e' => Nat.le_trans hx12.nxt (ho3.fresh t' e')⟩)
          · simp [doneS, hr2]
            exact herr 5 σ3 (by rw [hE, hch]; simp [doneE, hr2]) (by omega) (out _ (hx12.trans hx3))
        · intro e σ3 hch he hx3
          simp [he]
          exact herr e σ3 (by rw [hE, hch]; rfl) he (out _ (hx12.trans hx3))
end
end Go.Proofs.Ytdfeadgholpcgaa
end

section
set_option linter.unusedVariables false
set_option linter.unusedSimpArgs false
namespace Go.AW
open Go.RowKit
theorem Ext.setNew {a b : St} (h : Ext a b) (ha : a.qb ≤ a.nxt) {id : Nat} (hid : a.nxt ≤ id) (cs : List AV) : Ext a (b.setBox id cs) :=
  ⟨by simpa using h.nxt, fun i hi => by rw [setBox_ne (by omega)]; exact h.box i hi, fun i hi => by simpa using h.front i hi, fun i hi => by simpa using h.mp i hi, by simp [h.q, h.qb]; intro _; omega, by simpa using h.qb, by simpa using h.mv⟩
theorem Ext.mvNew {a b : St} (h : Ext a b) (ha : a.qb ≤ a.nxt) {id : Nat} (hid : a.nxt ≤ id) (cs : List AV) : Ext a (b.mvBox id cs) :=
  ⟨by have := h.nxt; simp; omega, fun i hi => by have := h.nxt; rw [mvBox_ne (by omega) (by omega)]; exact h.box i hi, fun i hi => by simpa using h.front i hi, fun i hi => by simpa using h.mp i hi, by simp [h.q, h.qb]; intro _; omega, by simpa using h.qb, by simpa using h.mv⟩
theorem Ext.addNew {a b : St} (h : Ext a b) (cs : List AV) : Ext a (b.addBox cs) :=
  ⟨by have := h.nxt; simp; omega, fun i hi => by have := h.nxt; rw [addBox_ne (by omega)]; exact h.box i hi, fun i hi => by simpa using h.front i hi, fun i hi => by simpa using h.mp i hi, by simpa using h.q, by simpa using h.qb, by simpa using h.mv⟩
section
variable {P : Program}
theorem appendA_vec1 {σ : St} {t tx e e' by_ v n : Nat} {c : AV} {cs ds : List AV} (hd : cs ++ [c] = ds) (he : elemA P t = some (e, 1, by_)) (hu : P.underlying tx = some (.slice e')) (hc : atomA c = true) (hb : σ.box v = some cs) (hl : cs.length = n)
    (hby : (n + 1) * by_ ≤ 140737488355328) (hn : n + 1 ≤ 9223372036854775807) : appendA P σ t tx (.vec v n 1) (.sl .full 1 [c]) = some (.vec σ.nxt (n + 1) 1, σ.mvBox v ds) := by
  subst hd
  unfold appendA
  simp only [he, srcA_sl (o := .full) hu (show [c].length = 1 * 1 by rfl) (by simp [hc]), hb]
  simp [hl, hby, hn]
theorem appendA_new1 {σ : St} {t tx e e' by_ k : Nat} {c : AV} {ds : List AV} (hk : k = 0) (hd : [c] = ds) (he : elemA P t = some (e, 1, by_)) (hu : P.underlying tx = some (.slice e')) (hc : atomA c = true) (hmv : σ.mv = true)
    (hby : by_ ≤ 140737488355328) : appendA P σ t tx (.sl .full 0 []) (.sl .full 1 [c]) = some (.vec σ.nxt (k + 1) 1, σ.addBox ds) := by
  subst hd hk
  unfold appendA
  simp only [he, srcA_sl (o := .full) hu (show [c].length = 1 * 1 by rfl) (by simp [hc])]
  simp [hmv, hby]
end
end Go.AW
namespace Go.Proofs.Ytdfeadgholpcgaa
open Go.AW Go.RowKit Go.Spec Go.Proofs.Ytdfeadgholpcgaa.Ty

/-- What a writer holds: so many bits, as a number. -/
def WS (σ0 σ : St) (id N h : Nat) : Prop := ∃ out, σ.box id = some [out, .v (.int .i64 (h : Int))] ∧
  ((h = 0 ∧ out = .sl .full 0 []) ∨ ∃ v, out = .vec v ((h + 7) / 8) 1 ∧ σ.box v = some (bcs (leB N ((h + 7) / 8))) ∧ v ≠ id ∧ v < σ.nxt ∧ σ0.nxt ≤ v)

theorem or8 {a b : Nat} (ha : a < 256) (hb : b < 256) : bits .or .u8 (a : Int) (b : Int) = ((a ||| b : Nat) : Int) := by
  have e : ∀ c : Nat, c < 256 → (BitVec.ofInt 8 (c : Int)).toNat = c := fun c hc => by
    simp [BitVec.ofInt_natCast]; omega
  have lor := Nat.or_lt_two_pow (n := 8) ha hb
  show IntKind.u8.wrap (((BitVec.ofInt 8 (a : Int)) ||| (BitVec.ofInt 8 (b : Int))).toNat : Int) = _
  rw [BitVec.toNat_or, e a ha, e b hb, IntKind.wrap_u8]
  omega
theorem setsL_last {l : List UInt8} {k : Nat} (hk : l.length = k) (a b : UInt8) : setsL (bcs (l ++ [a])) k [bcell b] = bcs (l ++ [b]) := by
  subst hk
  simp [setsL, bcs, List.set_append]
section
set_option maxRecDepth 100000
set_option maxHeartbeats 1000000
theorem wput_calls (σ0 : St) (id N h n w : Nat) (σ : St) (K : AV → St → Prop) (ni wi : Int) (eni : ni = n) (ewi : wi = w) (h0 : σ0.qb ≤ σ0.nxt) (hmv : σ0.mv = true) (hid : σ0.nxt ≤ id) (hidn : id < σ.nxt) (hx0 : Ext σ0 σ) (hN : N < 2 ^ h) (hn : n < 18446744073709551616) (hw : w ≤ 64) (hh : h + w ≤ 1099511627776) (hW : WS σ0 σ id N h)
    (hk : ∀ σ', Ext σ0 σ' → σ.nxt ≤ σ'.nxt → WS σ0 σ' id (N + (n % 2 ^ w) * 2 ^ h) (h + w) → K (.tup []) σ') :
    ACalls Try.prog 51 [.ptr id 0, .v (.int .u64 ni), .v (.int .i64 wi)] σ K := by
  subst eni ewi
  refine acalls_of hm Try.func51 rfl (by decide) rfl rfl (by kernel_rfl) ?_
  simp [Try.f51]
  refine loop_ind (fun (d : Nat) ρ σ1 => ρ.length = 70 ∧ slot ρ 0 = .ptr id 0 ∧ slot ρ 1 = .v (.int .u64 ((n / 2 ^ d : Nat) : Int)) ∧ slot ρ 2 = .v (.int .i64 ((w - d : Nat) : Int)) ∧ d ≤ w ∧ Ext σ0 σ1 ∧ σ.nxt ≤ σ1.nxt ∧ WS σ0 σ1 id (N + (n % 2 ^ d) * 2 ^ h) (h + d)) (fun d => w - d) ?_ 0 _ _ ?start
  case start => exact ⟨rfl, rfl, by simp, rfl, Nat.zero_le _, hx0, Nat.le_refl _, by simpa [Nat.mod_one] using hW⟩
  rintro d ρ σ1 ⟨hlen, g0, g1, g2, hd, hx, hnx, hW1⟩ next hnext
  by_cases hlt : d < w
  · have hND : N + (n % 2 ^ d) * 2 ^ h < 2 ^ (h + d) := by
      have h1 : n % 2 ^ d < 2 ^ d := Nat.mod_lt _ (Nat.two_pow_pos d)
      have h2 : (n % 2 ^ d + 1) * 2 ^ h ≤ 2 ^ d * 2 ^ h := Nat.mul_le_mul_right _ h1
      rw [Nat.add_mul, Nat.one_mul] at h2
      rw [Nat.add_comm h d, Nat.pow_add]
      omega
    have hstep : ∀ t, N + (n % 2 ^ (d + t)) * 2 ^ h = (N + (n % 2 ^ d) * 2 ^ h) + (n / 2 ^ d % 2 ^ t) * 2 ^ (h + d) := fun t => by
      rw [mod_step, Nat.add_mul, Nat.pow_add, Nat.add_assoc]
      congr 2
      ac_rfl
    generalize hNd : N + (n % 2 ^ d) * 2 ^ h = Nd at *
    generalize hHd : h + d = H at *
    have hq8 : H % 8 < 8 := Nat.mod_lt _ (by omega)
    have hHb : H ≤ 1099511627776 := by omega
    have e0 : 0 < w - d := by omega
    have hidne : id ≠ σ1.nxt := by omega
    have hidne' : σ1.nxt ≠ id := by omega
    have e1 : ((H : Nat) : Int).tmod 8 = ((H % 8 : Nat) : Int) := tmodN H 8
    have hlast := last_lt Nd H (H / 8) rfl hND
    have hleb := fun c => leB_last Nd c H (H / 8) rfl hND
    have hleb0 := leB_snoc Nd (H / 8)
    have k1 : (H + 7) / 8 = if H % 8 = 0 then H / 8 else H / 8 + 1 := by split <;> omega
    have k2 : H / 8 ≤ 137438953472 := by omega
    generalize hq : H % 8 = q at *
    have e2 : IntKind.i64.wrap (8 - (q : Int)) = ((8 - q : Nat) : Int) := by rw [i64w (by omega) (by omega)]; omega
    have e3 : (if 8 - q < w - d then ((8 - q : Nat) : Int) else ((w - d : Nat) : Int)) = ((min (w - d) (8 - q) : Nat) : Int) := by split <;> omega
    generalize ht : min (w - d) (8 - q) = t at *
    have t1 : q + t ≤ 8 := by omega
    have t2 : 0 < t := by omega
    have t3 : d + t ≤ w := by omega
    have t4 : (H + t + 7) / 8 = H / 8 + 1 := by omega
    have hdec : w - (d + t) < w - d := by omega
    have e4 : min t 64 = t := by omega
    have e5 : min q 8 = q := by omega
    have e6 : IntKind.i64.wrap (((w - d : Nat) : Int) - t) = ((w - (d + t) : Nat) : Int) := by rw [i64w (by omega) (by omega)]; omega
    have e7 : IntKind.i64.wrap ((H : Int) + t) = ((H + t : Nat) : Int) := i64w (n := ((H + t : Nat) : Int)) (by omega) (by omega)
    have hp2 : 2 ^ t ≤ 2 ^ 8 := Nat.pow_le_pow_right (by omega) (by omega)
    have hp3 : 0 < 2 ^ t := Nat.two_pow_pos t
    have e8 : IntKind.u64.wrap ((2 : Int) ^ t) = ((2 ^ t : Nat) : Int) := by
      have := u64n (n := 2 ^ t) (by omega); rw [← this]; simp
    have e9 : IntKind.u64.wrap (((2 ^ t : Nat) : Int) - 1) = ((2 ^ t - 1 : Nat) : Int) := by
      rw [show ((2 ^ t : Nat) : Int) - 1 = ((2 ^ t - 1 : Nat) : Int) by omega]; exact u64n (by omega)
    have hnd : n / 2 ^ d < 18446744073709551616 := Nat.lt_of_le_of_lt (Nat.div_le_self _ _) hn
    have e10 : bits .and .u64 ((n / 2 ^ d : Nat) : Int) ((2 ^ t - 1 : Nat) : Int) = ((n / 2 ^ d % 2 ^ t : Nat) : Int) := by
      rw [and64 hnd (by omega), Nat.and_two_pow_sub_one_eq_mod]
    have e11 := shrN (n / 2 ^ d) t
    rw [Nat.div_div_eq_div_mul, ← Nat.pow_add] at e11
    have hPt : n / 2 ^ d % 2 ^ t < 2 ^ t := Nat.mod_lt _ hp3
    have hst := hstep t
    generalize hP : n / 2 ^ d % 2 ^ t = Q at *
    have e12 : IntKind.u8.wrap (Q : Int) = Q := by rw [IntKind.wrap_u8]; omega
    have hQq : Q * 2 ^ q < 256 := by
      have h1 : (Q + 1) * 2 ^ q ≤ 2 ^ t * 2 ^ q := Nat.mul_le_mul_right _ hPt
      have h2 : 2 ^ t * 2 ^ q ≤ 2 ^ 8 := by rw [← Nat.pow_add]; exact Nat.pow_le_pow_right (by omega) (by omega)
      have h3 : 0 < 2 ^ q := Nat.two_pow_pos q
      rw [Nat.add_mul] at h1
      omega
    have e13 : IntKind.u8.wrap ((Q : Int) * 2 ^ q) = ((Q * 2 ^ q : Nat) : Int) := by
      have : IntKind.u8.wrap ((Q * 2 ^ q : Nat) : Int) = ((Q * 2 ^ q : Nat) : Int) := by rw [IntKind.wrap_u8]; omega
      rw [← this]; simp
    have hpq : 2 ^ q ≤ 2 ^ 7 := Nat.pow_le_pow_right (by omega) (by omega)
    generalize hkk : H / 8 = k at *
    generalize hold : Nd / 256 ^ k = old at *
    have e14 : bits .or .u8 (old : Int) ((Q * 2 ^ q : Nat) : Int) = ((old + Q * 2 ^ q : Nat) : Int) := by
      rw [or8 (by omega) hQq, or_disj hlast]
    have e15 : IntKind.i64.wrap (((k + 1 : Nat) : Int) - 1) = (k : Int) := by rw [i64w (by omega) (by omega)]; omega
    have hsum : old + Q * 2 ^ q < 256 := by
      have h1 : (Q + 1) * 2 ^ q ≤ 2 ^ t * 2 ^ q := Nat.mul_le_mul_right _ hPt
      have h2 : 2 ^ t * 2 ^ q ≤ 2 ^ 8 := by rw [← Nat.pow_add]; exact Nat.pow_le_pow_right (by omega) (by omega)
      rw [Nat.add_mul] at h1
      omega
    have hset : setsL (bcs (leB Nd (k + 1))) k [.v (.int .u8 ((old + Q * 2 ^ q : Nat) : Int))] = bcs (leB (N + n % 2 ^ (d + t) * 2 ^ h) (k + 1)) := by
      rw [hst, hleb Q, hleb0]
      have := setsL_last (l := leB Nd k) (k := k) (by simp) (UInt8.ofNat old) (UInt8.ofNat (old + Q * 2 ^ q))
      rw [← this, bcell]
      congr 5
      simp; omega
    have hget : (bcs (leB Nd (k + 1)))[k]? = some (.v (.int .u8 (old : Int))) := by
      rw [hleb0, bcs_append, List.getElem?_append_right (by simp)]
      simp [bcs, bcell]; omega
    have hclen : (bcs (leB Nd (k + 1))).length = k + 1 := by simp
    obtain ⟨out, hbid, hout⟩ := hW1
    have fin : ∀ ρ' σ' v2, ρ'.length = 70 → slot ρ' 0 = .ptr id 0 → slot ρ' 1 = .v (.int .u64 ((n / 2 ^ (d + t) : Nat) : Int)) → slot ρ' 2 = .v (.int .i64 ((w - (d + t) : Nat) : Int)) → Ext σ0 σ' → σ.nxt ≤ σ'.nxt →
        σ'.box id = some [.vec v2 (k + 1) 1, .v (.int .i64 ((H + t : Nat) : Int))] → σ'.box v2 = some (bcs (leB (N + n % 2 ^ (d + t) * 2 ^ h) (k + 1))) → v2 ≠ id → v2 < σ'.nxt → σ0.nxt ≤ v2 → next ρ' σ' := fun ρ' σ' v2 p1 p2 p3 p4 p5 p6 p7 p8 p9 p10 p11 => by
      refine hnext (d + t) ρ' σ' ⟨p1, p2, p3, p4, t3, p5, p6, ?_⟩ hdec
      rw [show h + (d + t) = H + t by omega]
      exact ⟨_, p7, .inr ⟨v2, by rw [t4], by rw [t4]; exact p8, p9, p10, p11⟩⟩
    have hx0' := hx.nxt
    clear hstep hleb hW hk hnext
    have hkp : ¬ (((k + 1 : Nat) : Int) ≤ k) := by omega
    by_cases hq0 : q = 0
    · have hqc := eq_true hq0
      have ho0 : old = 0 := by rw [hq0] at hlast; omega
      have hzero : ∀ cs, cs = bcs (leB Nd k) → cs ++ [AV.v (.int .u8 0)] = bcs (leB Nd (k + 1)) := fun cs hcs => by
        rw [hcs, hleb0, bcs_append, ho0]; rfl
      rcases hout with ⟨hH0, rfl⟩ | ⟨v, rfl, hbv, hvid, hvn, hv0⟩
      · have hk0 : k = 0 := by omega
        have happ := appendA_new1 (P := Try.prog) (σ := σ1) (t := 34) (tx := 34) hk0 (hzero [] (by rw [hk0]; rfl)) elem34 u34 rfl (hx.mv.trans hmv) (by omega)
        generalize bcs (leB Nd (k + 1)) = cells at *
        have hset' : cells.set k (.v (.int .u8 ((old + Q * 2 ^ q : Nat) : Int))) = bcs (leB (N + n % 2 ^ (d + t) * 2 ^ h) (k + 1)) := by simpa only [setsL] using hset
        obtain ⟨hkl, hgk⟩ := List.getElem?_eq_some_iff.1 hget
        simp [hlen, g0, g1, g2, hbid, happ, e0, e1, e2, e3, e4, e5, e6, e7, e8, e9, e10, e11, e12, e13, e14, e15, hidne, hidne', hgk, hset, hclen, hqc, -Int.natCast_add, -Int.natCast_mul, -Int.natCast_emod, -Int.natCast_ediv, -Int.natCast_pow]
        refine fin _ _ σ1.nxt ?_ ?_ ?_ ?_ ?_ ?_ ?_ ?_ ?_ ?_ ?_
        · simp [hlen]
        · simp [hlen, g0]
        · simp [hlen, -Int.natCast_add, -Int.natCast_ediv]
        · simp [hlen, -Int.natCast_add]
        · exact (((hx.addNew _).setNew h0 hid _).setNew h0 hx0' _).setNew h0 hid _
        · simp; omega
        · simp [hidne, hidne']
        · simp [hidne, hidne', hset', -Int.natCast_add, -Int.natCast_mul, -Int.natCast_pow]
        · exact hidne'
        · simp; try omega
        · exact hx0'
      · rw [k1, if_pos hq0] at hbv
        rw [k1, if_pos hq0] at hbid
        have happ := appendA_vec1 (P := Try.prog) (σ := σ1) (t := 34) (tx := 34) (n := k) (hzero _ rfl) elem34 u34 rfl hbv (by simp) (by omega) (by omega)
        generalize bcs (leB Nd (k + 1)) = cells at *
        have hset' : cells.set k (.v (.int .u8 ((old + Q * 2 ^ q : Nat) : Int))) = bcs (leB (N + n % 2 ^ (d + t) * 2 ^ h) (k + 1)) := by simpa only [setsL] using hset
        obtain ⟨hkl, hgk⟩ := List.getElem?_eq_some_iff.1 hget
        simp [hlen, g0, g1, g2, hbid, happ, hvid, hvid.symm, e0, e1, e2, e3, e4, e5, e6, e7, e8, e9, e10, e11, e12, e13, e14, e15, hidne, hidne', hgk, hset, hclen, hqc, -Int.natCast_add, -Int.natCast_mul, -Int.natCast_emod, -Int.natCast_ediv, -Int.natCast_pow]
        refine fin _ _ σ1.nxt ?_ ?_ ?_ ?_ ?_ ?_ ?_ ?_ ?_ ?_ ?_
        · simp [hlen]
        · simp [hlen, g0]
        · simp [hlen, -Int.natCast_add, -Int.natCast_ediv]
        · simp [hlen, -Int.natCast_add]
        · exact (((hx.mvNew h0 hv0 _).setNew h0 hid _).setNew h0 hx0' _).setNew h0 hid _
        · simp; omega
        · simp [hidne, hidne']
        · simp [hidne, hidne', hset', -Int.natCast_add, -Int.natCast_mul, -Int.natCast_pow]
        · exact hidne'
        · simp; try omega
        · exact hx0'
    · have hqc := eq_false hq0
      rcases hout with ⟨hH0, rfl⟩ | ⟨v, rfl, hbv, hvid, hvn, hv0⟩
      · omega
      · rw [k1, if_neg hq0] at hbv
        rw [k1, if_neg hq0] at hbid
        generalize bcs (leB Nd (k + 1)) = cells at *
        have hset' : cells.set k (.v (.int .u8 ((old + Q * 2 ^ q : Nat) : Int))) = bcs (leB (N + n % 2 ^ (d + t) * 2 ^ h) (k + 1)) := by simpa only [setsL] using hset
        obtain ⟨hkl, hgk⟩ := List.getElem?_eq_some_iff.1 hget
        simp [hlen, g0, g1, g2, hbid, hbv, hvid, hvid.symm, e0, e1, e2, e3, e4, e5, e6, e7, e8, e9, e10, e11, e12, e13, e14, e15, hidne, hidne', hgk, hset, hclen, hqc, -Int.natCast_add, -Int.natCast_mul, -Int.natCast_emod, -Int.natCast_ediv, -Int.natCast_pow]
        refine fin _ _ v ?_ ?_ ?_ ?_ ?_ ?_ ?_ ?_ ?_ ?_ ?_
        · simp [hlen]
        · simp [hlen, g0]
        · simp [hlen, -Int.natCast_add, -Int.natCast_ediv]
        · simp [hlen, -Int.natCast_add]
        · exact (hx.setNew h0 hv0 _).setNew h0 hid _
        · simp; omega
        · simp [hvid, hvid.symm]
        · simp [hvid, hvid.symm, hset', -Int.natCast_add, -Int.natCast_mul, -Int.natCast_pow]
        · exact hvid
        · simp; try omega
        · exact hv0
  · have hke : d = w := by omega
    subst hke
    simp [hlen, g0, g1, g2]
    exact hk _ hx hnx hW1
end
end Go.Proofs.Ytdfeadgholpcgaa
end

section
set_option linter.unusedVariables false
set_option linter.unusedSimpArgs false
namespace Go.AW
theorem Ext.unmv {σ σ' : St} (h : Ext { σ with mv := true } σ') : Ext σ { σ' with mv := σ.mv } := ⟨h.nxt, h.box, h.front, h.mp, h.q, h.qb, rfl⟩
end Go.AW
namespace Go.Proofs.Ytdfeadgholpcgaa
open Go.AW Go.RowKit Go.Spec Go.Proofs.Ytdfeadgholpcgaa.Ty

section
set_option maxRecDepth 100000
set_option maxHeartbeats 1000000
theorem pack_calls (ol : AW.Own) (l : List Nat) (w : Nat) (σ : St) (K : AV → St → Prop) (wi : Int) (ewi : wi = w) (hq : σ.Wf) (hl : l.length ≤ 65536) (hw : w ≤ 64) (hb : ∀ n ∈ l, n < 18446744073709551616) (hfit : widthN l ≤ w)
    (hk : ∀ σ', Ext σ σ' → K (.tup [.v (.string (bs (packB w l))), .v (.int .i64 0)]) σ') :
    ACalls Try.prog 22 [.sl ol l.length (ncs l), .v (.int .i64 wi)] σ K := by
  subst ewi
  refine acalls_mv true ?_
  obtain ⟨σ0, hσ0⟩ : ∃ σ0, σ0 = { σ with mv := true } := ⟨_, rfl⟩
  have hout : ∀ σ', Ext σ0 σ' → Ext σ { σ' with mv := σ.mv } := fun σ' h => by rw [hσ0] at h; exact h.unmv
  have hmv : σ0.mv = true := by rw [hσ0]
  have hqb : σ0.qb ≤ σ0.nxt := by rw [hσ0]; exact hq.1
  rw [← hσ0]
  refine acalls_of hm Try.func22 rfl (by decide) rfl rfl (by kernel_rfl) ?_
  have c1 : ¬ (64 : Int) < w := by omega
  have c2 : ¬ (w : Int) < (widthN l : Nat) := by omega
  have c3 : ¬ w < widthN l := by omega
  simp [Try.f22, c1, pickA_bool]
  refine width_calls ol l σ0 _ (by omega) hb ?_
  simp [c2, c3]
  refine loop_ind (fun (k : Nat) ρ σ1 => ρ.length = 39 ∧ slot ρ 1 = .v (.int .i64 w) ∧ slot ρ 6 = .ptr σ0.nxt 0 ∧ slot ρ 23 = .sl ol l.length (ncs l) ∧ slot ρ 24 = .v (.int .i64 l.length) ∧ slot ρ 25 = .v (.int .i64 k) ∧ k ≤ l.length ∧ Ext σ0 σ1 ∧ σ0.nxt < σ1.nxt ∧ WS σ0 σ1 σ0.nxt (packN w (l.take k)) (k * w)) (fun k => l.length - k) ?_ 0 _ _ ?start
  case start =>
    refine ⟨rfl, rfl, rfl, rfl, rfl, rfl, Nat.zero_le _, Ext.addBox _ _, by simp, ?_⟩
    exact ⟨.sl .full 0 [], by simp, .inl ⟨by simp, rfl⟩⟩
  rintro k ρ σ1 ⟨hlen, g1, g6, g23, g24, g25, hk', hx, hnx, hW⟩ next hnext
  by_cases hlt : k < l.length
  · have c7 : IntKind.i64.wrap ((k : Int) + 1) = ((k + 1 : Nat) : Int) := i64w (n := ((k + 1 : Nat) : Int)) (by omega) (by omega)
    have hkw : k * w ≤ 65536 * 64 := Nat.mul_le_mul (by omega) hw
    have hmem := hb l[k] (List.getElem_mem hlt)
    have hfitk := (widthN_iff w hb).1 hfit
    have hN : packN w (l.take k) < 2 ^ (k * w) := by
      have := packN_lt w (l.take k) fun n hn => hfitk n (List.mem_of_mem_take hn)
      rwa [List.length_take, Nat.min_eq_left (by omega)] at this
    simp [hlen, g1, g6, g23, g24, g25, hlt]
    refine wput_calls σ0 σ0.nxt (packN w (l.take k)) (k * w) l[k] w σ1 _ _ _ rfl rfl hqb hmv (Nat.le_refl _) hnx hx hN hmem hw (by omega) hW fun σ2 hx2 hnx2 hW2 => ?_
    simp [hlen, g25, c7, -Int.natCast_add]
    refine hnext (k + 1) _ _ ?_ (by omega)
    refine ⟨by simp [hlen], by simp [hlen, g1], by simp [hlen, g6], by simp [hlen, g23], by simp [hlen, g24], by simp [hlen], by omega, hx2, by omega, ?_⟩
    rw [packN_take hlt, Nat.add_mul, Nat.one_mul]
    rwa [Nat.mod_eq_of_lt (hfitk l[k] (List.getElem_mem hlt))] at hW2
  · have hke : k = l.length := by omega
    subst hke
    rw [List.take_length] at hW
    have hfin := hk _ (hout σ1 hx)
    obtain ⟨out, hbo, ⟨h0, rfl⟩ | ⟨v, rfl, hbv, _, _, _⟩⟩ := hW
    · have hpe : packB w l = [] := by simp [packB, h0, leB]
      rw [hpe] at hfin
      simp [hlen, g1, g6, g23, g24, g25, hbo, bytesA]
      exact hfin
    · simp [hlen, g1, g6, g23, g24, g25, hbo, hbv, bytesA_bcs]
      exact hfin
end
end Go.Proofs.Ytdfeadgholpcgaa
end

section
set_option linter.unusedVariables false
set_option linter.unusedSimpArgs false
namespace Go.Proofs.Ytdfeadgholpcgaa
open Go.AW Go.RowKit Go.Spec Go.Proofs.Ytdfeadgholpcgaa.Ty

attribute [local irreducible] awp awpOps awpX stepA stepX plainA plainX bindA bindE bindL gstep condA callA thenA inBlockA retA
section
set_option maxRecDepth 100000
set_option maxHeartbeats 1000000
theorem with_bad (ol : AW.Own) (l : List ByteArray) (c : Int) (σ : St) (K : AV → St → Prop) (hc : ¬ (c = 0 ∨ c = 1)) (hk : K (.tup [.v (.string (bs [])), .v (.int .i64 1)]) σ) :
    ACalls Try.prog 7 [.sl ol l.length (scs l), .v (.int .i64 c)] σ K := by
  refine acalls_of hm Try.func7 rfl (by decide) rfl rfl (by kernel_rfl) ?_
  by_cases h0 : c < 0
  · simp [Try.f7, h0, pickA_bool]
    exact hk
  · have h1 : 2 ≤ c := by omega
    simp [Try.f7, h0, h1, pickA_bool]
    exact hk

theorem with_long (ol : AW.Own) (l : List ByteArray) (c : Int) (σ : St) (K : AV → St → Prop) (hl : l.length ≤ 9223372036854775807) (hc : c = 0 ∨ c = 1) (hlo : longB l = true) (hk : ∀ σ', Ext σ σ' → K (.tup [.v (.string (bs [])), .v (.int .i64 3)]) σ') :
    ACalls Try.prog 7 [.sl ol l.length (scs l), .v (.int .i64 c)] σ K := by
  refine acalls_of hm Try.func7 rfl (by decide) rfl rfl (by kernel_rfl) ?_
  have h0 : ¬ c < 0 := by omega
  have h1 : ¬ 2 ≤ c := by omega
  simp [Try.f7, h0, h1, pickA_bool]
  refine long_calls ol l σ _ hl fun σ1 hx => ?_
  have : (decide (65536 < l.length) || l.any fun s => decide (64 < s.size)) = true := hlo
  simp only [this]
  simp
  exact hk σ1 hx

theorem with_plain (ol : AW.Own) (l : List ByteArray) (σ : St) (K : AV → St → Prop) (hq : σ.Wf) (hlo : longB l = false) (hk : ∀ σ', Ext σ σ' → K (.tup [.v (.string (bs (plainS l))), .v (.int .i64 0)]) σ') :
    ACalls Try.prog 7 [.sl ol l.length (scs l), .v (.int .i64 0)] σ K := by
  obtain ⟨hl, hs⟩ := long_bound hlo
  have htb := textsB_bound hs
  have hub := uintB_length l.length
  refine acalls_of hm Try.func7 rfl (by decide) rfl rfl (by kernel_rfl) ?_
  have c1 : IntKind.u64.wrap (l.length : Int) = l.length := u64n (by omega)
  have c2 : IntKind.u8.wrap (0 : Int) = 0 := by rw [IntKind.wrap_u8]; rfl
  simp [Try.f7, pickA_bool]
  refine long_calls ol l σ _ (by omega) fun σ1 hx => ?_
  have : (decide (65536 < l.length) || l.any fun s => decide (64 < s.size)) = false := hlo
  simp only [this]
  simp [c1, c2]
  refine uint_calls 1 .full [.v (.int .u8 0)] l.length _ σ1 _ trivial rfl (by omega) (by omega) (hx.wf hq) rfl fun o2 σ2 hg2 => ?_
  obtain ⟨hx2, ho2⟩ := (hx.b []).grew hq (Own1.full σ σ1 1) hg2
  simp
  refine put_calls _ o2 _ ol l σ2 _ ho2.ap (by simp; omega) (by omega) (by omega) (hx2.wf hq) fun o3 σ3 hg3 => ?_
  obtain ⟨hx3, ho3⟩ := hx2.grew hq ho2 hg3
  have hb : (AV.v (.int .u8 0) :: bcs (uintB l.length)) ++ bcs (textsB l) = bcs (plainS l) := by
    unfold plainS
    rw [bcs_cons, bcs_append]; rfl
  rw [hb]
  have hlen : 1 + (uintB l.length).length + (textsB l).length = (plainS l).length := by simp [plainS]; omega
  rw [hlen]
  simp [bytesA_bcs]
  exact hk σ3 hx3.ext
theorem with_coded (ol : AW.Own) (l : List ByteArray) (σ : St) (K : AV → St → Prop) (hq : σ.Wf) (hlo : longB l = false) (hk : ∀ σ', Ext σ σ' → K (.tup [.v (.string (bs (codedS (dictB l) l))), .v (.int .i64 0)]) σ') :
    ACalls Try.prog 7 [.sl ol l.length (scs l), .v (.int .i64 1)] σ K := by
  obtain ⟨hl, hs⟩ := long_bound hlo
  have hub := uintB_length l.length
  have hD := dictB_is l
  have hdl := dict_length hD
  have hds : ∀ s ∈ dictB l, s.size ≤ 64 := fun s h => hs s ((hD.mem s).1 h)
  have hdt := textsB_bound hds
  have hdu := uintB_length (dictB l).length
  have hcomp : compactB (sortB l) = dictB l := rfl
  refine acalls_of hm Try.func7 rfl (by decide) rfl rfl (by kernel_rfl) ?_
  have c1 : IntKind.u64.wrap (l.length : Int) = l.length := u64n (by omega)
  have c2 : IntKind.u8.wrap (1 : Int) = 1 := by rw [IntKind.wrap_u8]; rfl
  simp [Try.f7, pickA_bool]
  refine long_calls ol l σ _ (by omega) fun σ1 hx => ?_
  have : (decide (65536 < l.length) || l.any fun s => decide (64 < s.size)) = false := hlo
  simp only [this]
  simp [c1, c2]
  refine uint_calls 1 .full [.v (.int .u8 1)] l.length _ σ1 _ trivial rfl (by omega) (by omega) (hx.wf hq) rfl fun o2 σ2 hg2 => ?_
  obtain ⟨hx2, ho2⟩ := (hx.b []).grew hq (Own1.full σ σ1 1) hg2
  simp
  refine values_calls ol l σ2 _ ?_
  simp
  refine sortedA σ2.nxt ol l _ _ addBox_same (by omega) fun av σ3 hx3 hrow => ?_
  simp
  refine compactA _ av (sortB l) σ3 _ (((ExtB.addBox σ2 _).wf (hx2.wf hq))) hx3 hrow (by rw [sortB_length]; omega) fun od σ4 hx4 => ?_
  rw [hcomp]
  simp
  have hx24 : ExtB [] σ2 σ4 := (ExtB.addBox σ2 _).trans (hx4.b [])
  have hxs4 := hx2.trans hx24
  have ho4 := ho2.ext hx24
  generalize dictB l = d at *
  refine loop_ind (fun (k : Nat) ρ σ5 => ∃ o, ρ.length = 84 ∧ slot ρ 6 = .sl o2 (1 + (uintB l.length).length) (AV.v (.int .u8 1) :: bcs (uintB l.length)) ∧ slot ρ 7 = .sl od d.length (scs d) ∧ slot ρ 8 = .sl o k (ncs (numsOf d (l.take k))) ∧ slot ρ 43 = .sl ol l.length (scs l) ∧ slot ρ 44 = .v (.int .i64 l.length) ∧ slot ρ 45 = .v (.int .i64 k) ∧ k ≤ l.length ∧
    ExtB [] σ4 σ5 ∧ Own1 σ4 σ5 o k) (fun k => l.length - k) ?_ 0 _ _ ?start
  case start => exact ⟨.full, rfl, rfl, rfl, rfl, rfl, rfl, rfl, Nat.zero_le _, ExtB.refl _ _, Own1.nil _ _⟩
  rintro k ρ σ5 ⟨o, hlen, g6, g7, g8, g43, g44, g45, hk', hx5, ho5⟩ next hnext
  have hwf4 := hxs4.wf hq
  by_cases hlt : k < l.length
  · have c7 : IntKind.i64.wrap ((k : Int) + 1) = ((k + 1 : Nat) : Int) := i64w (n := ((k + 1 : Nat) : Int)) (by omega) (by omega)
    simp [hlen, g6, g7, g8, g43, g44, g45, hlt]
    refine bsearch_calls od d l[k] σ5 _ (by omega) (fun a b ha hb hab hlt' => ?_) fun i hi hs' b => ?_
    · rcases Nat.lt_or_ge a b with q | q
      · exact ltB_trans (List.pairwise_iff_getElem.1 hD.rise a b ha hb q) hlt'
      · rw [show d[a] = d[b] from by congr 1; omega]; exact hlt'
    · have hnum := numOf_eq hi hs'
      have c8 : IntKind.u64.wrap (i : Int) = i := u64n (by omega)
      obtain ⟨o6, σ6, e6, hg6⟩ := append1 (P := Try.prog) (t := 43) (tx := 43) (cs := ncs (numsOf d (l.take k))) (c := ncell i) ho5.ap elem43 u43 (by simp [numsOf]; omega) rfl (by omega) (by omega) (hx5.wf hwf4)
      simp only [ncell] at e6
      have hsn : ncs (numsOf d (l.take (k + 1))) = ncs (numsOf d (l.take k)) ++ [.v (.int .u64 (i : Int))] := by
        rw [List.take_succ_eq_append_getElem hlt, numsOf, List.map_append, ncs, List.map_append]
        simp [ncell, hnum, ncs, numsOf]
      generalize numsOf d (l.take k) = acc at *
      simp [hlen, g6, g7, g8, g43, g44, g45, c7, c8, e6, -Int.natCast_add]
      refine hnext (k + 1) _ _ ?_ (by omega)
      obtain ⟨hx6, ho6⟩ := hx5.grew hwf4 ho5 hg6
      exact ⟨o6, by simp [hlen], by simp [hlen, g6], by simp [hlen, g7], by rw [hsn]; simp [hlen], by simp [hlen, g43], by simp [hlen, g44], by simp [hlen], by omega, hx6, ho6⟩
  · have hke : k = l.length := by omega
    subst hke
    rw [List.take_length] at g8
    have hnl : (numsOf d l).length = l.length := by simp [numsOf]
    have hn64 : ∀ n ∈ numsOf d l, n < 18446744073709551616 := fun n hn => by
      obtain ⟨s, _, rfl⟩ := List.mem_map.1 hn
      have := numOf_le d s
      omega
    have hw64 : widthN (numsOf d l) ≤ 64 := (widthN_iff 64 hn64).2 fun n hn => hn64 n hn
    have c9 : IntKind.u64.wrap (d.length : Int) = d.length := u64n (by omega)
    simp [hlen, g6, g7, g8, g43, g44, g45]
    rw [← hnl]
    refine width_calls o (numsOf d l) σ5 _ (by omega) hn64 ?_
    simp [hlen, g8]
    rw [← hnl]
    refine pack_calls o (numsOf d l) (widthN (numsOf d l)) σ5 _ _ rfl (hx5.wf hwf4) (by omega) hw64 hn64 (Nat.le_refl _) fun σ7 hx7 => ?_
    have hpl : (packB (widthN (numsOf d l)) (numsOf d l)).length ≤ 600000 := by
      simp only [packB, leB_length, hnl]
      have : l.length * widthN (numsOf d l) ≤ 65536 * 64 := Nat.mul_le_mul hl hw64
      omega
    simp [hlen, g6, g7, c9]
    have hx57 := hx5.trans (hx7.b [])
    have ho7 := ho4.ext hx57
    have hxs7 := hxs4.trans hx57
    refine uint_calls _ o2 _ d.length _ σ7 _ ho7.ap (by simp; omega) (by omega) (by omega) (hxs7.wf hq) rfl fun o8 σ8 hg8 => ?_
    obtain ⟨hx8, ho8⟩ := hxs7.grew hq ho7 hg8
    simp [hlen, g7]
    refine put_calls _ o8 _ od d σ8 _ ho8.ap (by simp; omega) (by omega) (by omega) (hx8.wf hq) fun o9 σ9 hg9 => ?_
    have hq9 := hx8.grew hq ho8 hg9
    have hx9 := hq9.1
    have ho9 := hq9.2
    clear hq9
    have c10 := u8w (widthN (numsOf d l))
    generalize hcells : (AV.v (.int .u8 1) :: (bcs (uintB l.length) ++ bcs (uintB d.length))) ++ bcs (textsB d) = cells
    generalize hnn : 1 + (uintB l.length).length + (uintB d.length).length + (textsB d).length = nn at *
    have hcl : cells.length = nn := by rw [← hcells]; simp; omega
    obtain ⟨o10, σ10, e10, hg10⟩ := append1 (P := Try.prog) (t := 34) (tx := 34) (cs := cells) (c := bcell (UInt8.ofNat (widthN (numsOf d l)))) ho9.ap elem34 u34 hcl rfl (by omega) (by omega) (hx9.wf hq)
    obtain ⟨hx10, ho10⟩ := hx9.grew hq ho9 hg10
    obtain ⟨o11, σ11, e11, hg11⟩ := append_ok (P := Try.prog) (t := 34) (tx := 9) (x := .v (.string (bs (packB (widthN (numsOf d l)) (numsOf d l))))) (cs := cells ++ [bcell (UInt8.ofNat (widthN (numsOf d l)))]) ho10.ap elem34 (srcA_str u9) (by simp [hcl]) (by simp; omega) (by simp; omega) (hx10.wf hq)
    obtain ⟨hx11, ho11⟩ := hx10.grew hq ho10 hg11
    simp only [bcell] at e10 e11
    have hfin : (cells ++ [AV.v (.int .u8 ((UInt8.ofNat (widthN (numsOf d l))).toNat : Int))]) ++ bcs (packB (widthN (numsOf d l)) (numsOf d l)) = bcs (codedS d l) := by
      rw [← hcells]
      unfold codedS
      simp only [bcs_cons, bcs_append, List.append_assoc, List.cons_append, List.nil_append]
      rfl
    have hflen : nn + 1 + (packB (widthN (numsOf d l)) (numsOf d l)).length = (codedS d l).length := by
      rw [← hnn]; simp [codedS]; omega
    rw [bytes_cells, hfin, bs_size, hflen] at e11
    simp [hlen, c10, e10, e11, -UInt8.toNat_ofNat', bytesA_bcs]
    exact hk σ11 hx11.ext
end
end Go.Proofs.Ytdfeadgholpcgaa
end

section
set_option linter.unusedVariables false
set_option linter.unusedSimpArgs false
namespace Go.Proofs.Ytdfeadgholpcgaa
open Go.AW Go.RowKit Go.Spec Go.Proofs.Ytdfeadgholpcgaa.Ty

attribute [local irreducible] awp awpOps awpX stepA stepX plainA plainX bindA bindE bindL gstep condA callA thenA inBlockA retA
section
set_option maxRecDepth 100000
set_option maxHeartbeats 1000000
theorem with_calls (ol : AW.Own) (l : List ByteArray) (c : Int) (σ : St) (K : AV → St → Prop) (hq : σ.Wf) (hl : l.length ≤ 9223372036854775807)
    (hk : ∀ σ', Ext σ σ' → K (.tup [.v (.string (bs (withS (dictB l) l c).1)), .v (.int .i64 ((withS (dictB l) l c).2 : Int))]) σ') :
    ACalls Try.prog 7 [.sl ol l.length (scs l), .v (.int .i64 c)] σ K := by
  unfold withS at hk
  by_cases hc : c = 0 ∨ c = 1
  · simp only [if_pos hc] at hk
    cases hlo : longB l with
    | true =>
      simp only [hlo, if_true] at hk
      exact with_long ol l c σ K hl hc hlo hk
    | false =>
      simp only [hlo, Bool.false_eq_true, if_false] at hk
      rcases hc with rfl | rfl
      · exact with_plain ol l σ K hq hlo hk
      · exact with_coded ol l σ K hq hlo hk
  · simp only [if_neg hc] at hk
    exact with_bad ol l c σ K hc (hk σ (Ext.refl _))

theorem best_calls (ol : AW.Own) (l : List ByteArray) (σ : St) (K : AV → St → Prop) (hq : σ.Wf) (hl : l.length ≤ 9223372036854775807)
    (hk : ∀ σ', Ext σ σ' → K (.tup [.v (.string (bs (bestS (dictB l) l).1)), .v (.int .i64 ((bestS (dictB l) l).2 : Int))]) σ') :
    ACalls Try.prog 12 [.sl ol l.length (scs l)] σ K := by
  refine acalls_of hm Try.func12 rfl (by decide) rfl rfl (by kernel_rfl) ?_
  simp [Try.f12]
  refine with_calls ol l 0 σ _ hq hl fun σ1 hx1 => ?_
  simp
  refine with_calls ol l 1 σ1 _ (hx1.wf hq) hl fun σ2 hx2 => ?_
  unfold bestS at hk
  cases hlo : longB l with
  | true =>
    simp [withS, hlo, pickA_bool]
    simp only [hlo, if_true] at hk
    exact hk σ2 (hx1.trans hx2)
  | false =>
    simp only [hlo, Bool.false_eq_true, if_false] at hk
    by_cases hlt : (codedS (dictB l) l).length < (plainS l).length
    · simp [withS, hlo, pickA_bool, hlt]
      simp only [if_pos hlt] at hk
      exact hk σ2 (hx1.trans hx2)
    · simp [withS, hlo, pickA_bool, hlt]
      simp only [if_neg hlt] at hk
      exact hk σ2 (hx1.trans hx2)
end
end Go.Proofs.Ytdfeadgholpcgaa
end
