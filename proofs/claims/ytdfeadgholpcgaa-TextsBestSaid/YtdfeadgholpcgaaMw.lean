/-
  Walks: what functions of the program come to, over abstract states (see the parts of the proof that import this text).
-/
import Derived.Test.YtdfeadgholpcgaaMt
import Derived.Test.YtdfeadgholpcgaaMs

section
set_option linter.unusedVariables false
set_option linter.unusedSimpArgs false
namespace Go.Proofs.Ytdfeadgholpcgaa
open Go.AW Go.RowKit Go.Spec Go.Proofs.Ytdfeadgholpcgaa.Ty

set_option maxRecDepth 100000 in
set_option maxHeartbeats 1000000 in
theorem big_calls (n : Nat) (o : Own) (cs : List AV) (x k : Nat) (xi ki : Int) (σ : St) (K : AV → St → Prop) (ha : Ap σ o n) (hl : cs.length = n) (hx : x < 18446744073709551616) (hk : k ≤ 8) (hn : n ≤ 140737488355000) (hq : σ.Wf) (ex : xi = x) (ek : ki = k)
    (h : ∀ o' σ', Grew σ o σ' o' (n + k) → K (.sl o' (n + k) (cs ++ bcs (beB x k))) σ') : ACalls Try.prog 43 [.sl o n cs, .v (.int .u64 xi), .v (.int .i64 ki)] σ K := by
  subst ex ek
  refine acalls_of hm Try.func43 rfl (by decide) rfl rfl (by kernel_rfl) ?_
  simp [Try.f43]
  refine loop_ind (fun (m : Nat) ρ σ1 => ∃ o1 n1 cs1, ρ.length = 22 ∧ slot ρ 0 = .sl o1 n1 cs1 ∧ slot ρ 1 = .v (.int .u64 x) ∧ slot ρ 2 = .v (.int .i64 ((m : Int) - 1)) ∧
    Grew σ o σ1 o1 n1 ∧ cs1.length = n1 ∧ m ≤ k ∧ n1 + m = n + k ∧ cs1 ++ bcs (beB x m) = cs ++ bcs (beB x k)) id ?_ k _ _ ⟨o, n, cs, rfl, rfl, rfl, by simp [i64w (n := (k : Int) - 1) (by omega) (by omega)], Grew.refl ha, hl, Nat.le_refl _, rfl, rfl⟩
  rintro m ρ σ1 ⟨o1, n1, cs1, hlen, h0, h1, h2, hg, hc, hmk, hnm, heq⟩ next hnext
  cases m with
  | zero =>
    simp [hlen, h0, h1, h2]
    simp [beB] at heq
    rw [heq, show n1 = n + k from by omega]
    exact h _ _ (by rwa [show n1 = n + k from by omega] at hg)
  | succ m =>
    have e1 : IntKind.i64.wrap (8 * (m : Int)) = 8 * m := i64w (by omega) (by omega)
    have e2 : ¬ (8 * (m : Int) < 0) := by omega
    have e3 : (8 * (m : Int)).toNat = 8 * m := by omega
    have e4 : min (8 * m) 64 = 8 * m := by omega
    have e5 : IntKind.i64.wrap ((m : Int) - 1) = (m : Int) - 1 := i64w (by omega) (by omega)
    obtain ⟨o2, σ2, e6, hg2⟩ := append1 (P := Try.prog) (t := 34) (tx := 34) (c := bcell (UInt8.ofNat (x / 2 ^ (8 * m)))) hg.ap elem34 u34 hc rfl (by omega) (by omega) (hg.wf hq)
    simp only [bcell] at e6
    have e7 : IntKind.u8.wrap ((x : Int) / 2 ^ (8 * m)) = ((UInt8.ofNat (x / 2 ^ (8 * m))).toNat : Int) := by have := u8w (x / 2 ^ (8 * m)); rw [← this]; simp
    simp [hlen, h0, h1, h2, e1, e2, e3, e4, e5, e7, shrN, IntKind.bits, -UInt8.toNat_ofNat', e6]
    refine hnext m _ _ ?_ (by simp)
    refine ⟨o2, n1 + 1, cs1 ++ [bcell (UInt8.ofNat (x / 2 ^ (8 * m)))], by simp [hlen], by simp [hlen, bcell, -UInt8.toNat_ofNat'], by simp [hlen, h1], by simp [hlen], hg.trans hq hg2, by simp [hc], by omega, by omega, ?_⟩
    rw [← heq, List.append_assoc]
    rfl
end Go.Proofs.Ytdfeadgholpcgaa
end

section
set_option linter.unusedVariables false
set_option linter.unusedSimpArgs false
namespace Go.Proofs.Ytdfeadgholpcgaa
open Go.AW Go.RowKit Go.Spec Go.Proofs.Ytdfeadgholpcgaa.Ty

set_option maxRecDepth 100000 in
set_option maxHeartbeats 1000000 in
theorem uint_calls (n : Nat) (o : Own) (cs : List AV) (x : Nat) (xi : Int) (σ : St) (K : AV → St → Prop) (ha : Ap σ o n) (hl : cs.length = n) (hx : x < 18446744073709551616) (hn : n ≤ 140737488350000) (hq : σ.Wf) (ex : xi = x)
    (h : ∀ o' σ', Grew σ o σ' o' (n + (uintB x).length) → K (.sl o' (n + (uintB x).length) (cs ++ bcs (uintB x))) σ') : ACalls Try.prog 15 [.sl o n cs, .v (.int .u64 xi)] σ K := by
  subst ex
  refine acalls_of hm Try.func15 rfl (by decide) rfl rfl (by kernel_rfl) ?_
  have f6 : (x : Int).fdiv 64 = 0 ↔ x < 64 := fdiv0 x 6
  have f14 : (x : Int).fdiv 16384 = 0 ↔ x < 16384 := fdiv0 x 14
  have f30 : (x : Int).fdiv 1073741824 = 0 ↔ x < 1073741824 := fdiv0 x 30
  by_cases h6 : x < 64
  · have e1 : IntKind.u8.wrap (x : Int) = ((UInt8.ofNat x).toNat : Int) := u8w x
    have e2 : uintB x = [UInt8.ofNat x] := by simp [uintB, h6]
    obtain ⟨o2, σ2, e, hg⟩ := append1 (P := Try.prog) (t := 34) (tx := 34) (c := bcell (UInt8.ofNat x)) ha elem34 u34 hl rfl (by omega) (by omega) hq
    simp only [bcell] at e
    simp [Try.f15, f6, h6, e1, -UInt8.toNat_ofNat', e]
    rw [e2] at h
    exact h _ _ hg
  · by_cases h14 : x < 16384
    · have e2 : uintB x = beB (x + 16384) 2 := by simp [uintB, h6, h14]
      simp [Try.f15, f6, f14, h6, h14, or_14 h14]
      refine big_calls n o cs (x + 16384) 2 _ _ σ _ ha hl (by omega) (by omega) (by omega) hq (by simp) rfl fun o' σ' hg => ?_
      rw [e2] at h
      simp only [beB_length] at h
      exact h _ _ hg
    · by_cases h30 : x < 1073741824
      · have e2 : uintB x = beB (x + 2147483648) 4 := by simp [uintB, h6, h14, h30]
        simp [Try.f15, f6, f14, f30, h6, h14, h30, or_31 (show x < 2147483648 by omega)]
        refine big_calls n o cs (x + 2147483648) 4 _ _ σ _ ha hl (by omega) (by omega) (by omega) hq (by simp) rfl fun o' σ' hg => ?_
        rw [e2] at h
        simp only [beB_length] at h
        exact h _ _ hg
      · have e2 : uintB x = 192 :: beB x 8 := by simp [uintB, h6, h14, h30]
        obtain ⟨o2, σ2, e, hg⟩ := append1 (P := Try.prog) (t := 34) (tx := 34) (c := bcell 192) ha elem34 u34 hl rfl (by omega) (by omega) hq
        simp [bcell] at e
        simp [Try.f15, f6, f14, f30, h6, h14, h30, e]
        refine big_calls (n + 1) o2 (cs ++ [bcell 192]) x 8 _ _ σ2 _ hg.ap (by simp [hl]) hx (by omega) (by omega) (hg.wf hq) rfl rfl fun o' σ' hg' => ?_
        rw [e2] at h
        simp only [bcs_cons, List.length_cons, beB_length] at h
        have := h o' σ' (hg.trans hq hg')
        simpa [Nat.add_assoc] using this
end Go.Proofs.Ytdfeadgholpcgaa
end

section
set_option linter.unusedVariables false
set_option linter.unusedSimpArgs false
namespace Go.Proofs.Ytdfeadgholpcgaa
open Go.AW Go.RowKit Go.Spec Go.Proofs.Ytdfeadgholpcgaa.Ty

set_option maxRecDepth 100000 in
set_option maxHeartbeats 1000000 in
theorem text_calls (n : Nat) (o : Own) (cs : List AV) (s : ByteArray) (σ : St) (K : AV → St → Prop) (ha : Ap σ o n) (hl : cs.length = n) (hs : s.size < 18446744073709551616) (hn : n + s.size ≤ 140737488340000) (hq : σ.Wf)
    (h : ∀ o' σ', Grew σ o σ' o' (n + (textB s).length) → K (.sl o' (n + (textB s).length) (cs ++ bcs (textB s))) σ') : ACalls Try.prog 44 [.sl o n cs, .v (.string s)] σ K := by
  refine acalls_of hm Try.func44 rfl (by decide) rfl rfl (by kernel_rfl) ?_
  simp [Try.f44]
  refine uint_calls n o cs s.size _ σ _ ha hl hs (by omega) hq (u64w hs) fun o1 σ1 hg => ?_
  have hu := uintB_length s.size
  obtain ⟨o2, σ2, e, hg2⟩ := append_ok (P := Try.prog) (t := 34) (tx := 9) (x := .v (.string s)) (cs := cs ++ bcs (uintB s.size)) hg.ap elem34 (srcA_str u9) (by simp [hl]) (by omega) (by omega) (hg.wf hq)
  simp [e]
  have := h o2 σ2 (by rw [textB_length, ← Nat.add_assoc]; exact hg.trans hq hg2)
  rw [textB_length, ← Nat.add_assoc, textB, bcs_append] at this
  exact this

set_option maxRecDepth 100000 in
set_option maxHeartbeats 1000000 in
theorem put_calls (n : Nat) (o : Own) (cs : List AV) (ol : Own) (l : List ByteArray) (σ : St) (K : AV → St → Prop) (ha : Ap σ o n) (hl : cs.length = n) (hn : n + (textsB l).length ≤ 140737488340000) (hll : l.length ≤ 9223372036854775807) (hq : σ.Wf)
    (h : ∀ o' σ', Grew σ o σ' o' (n + (textsB l).length) → K (.sl o' (n + (textsB l).length) (cs ++ bcs (textsB l))) σ') : ACalls Try.prog 16 [.sl o n cs, .sl ol l.length (scs l)] σ K := by
  refine acalls_of hm Try.func16 rfl (by decide) rfl rfl (by kernel_rfl) ?_
  simp [Try.f16]
  refine loop_ind (fun (k : Nat) ρ σ1 => ∃ o1, ρ.length = 18 ∧ slot ρ 0 = .sl o1 (n + (textsB (l.take k)).length) (cs ++ bcs (textsB (l.take k))) ∧ slot ρ 7 = .sl ol l.length (scs l) ∧ slot ρ 8 = .v (.int .i64 l.length) ∧ slot ρ 9 = .v (.int .i64 k) ∧
    Grew σ o σ1 o1 (n + (textsB (l.take k)).length) ∧ k ≤ l.length) (fun k => l.length - k) ?_ 0 _ _ ⟨o, rfl, by simp, rfl, rfl, rfl, by simpa using Grew.refl ha, Nat.zero_le _⟩
  rintro k ρ σ1 ⟨o1, hlen, h0, h7, h8, h9, hg, hk⟩ next hnext
  by_cases hlt : k < l.length
  · have e1 : IntKind.i64.wrap ((k : Int) + 1) = ((k + 1 : Nat) : Int) := i64w (n := ((k + 1 : Nat) : Int)) (by omega) (by omega)
    have hle := textsB_take_le l (k + 1)
    rw [textsB_take_succ hlt, List.length_append, textB_length] at hle
    simp [hlen, h0, h7, h8, h9, hlt]
    refine text_calls _ o1 _ l[k] σ1 _ hg.ap (by simp [hl]) (by omega) (by omega) (hg.wf hq) fun o2 σ2 hg2 => ?_
    simp [hlen, h9, e1, -Int.natCast_add]
    refine hnext (k + 1) _ _ ?_ (by omega)
    have e2 : n + (textsB (l.take (k + 1))).length = n + (textsB (l.take k)).length + (textB l[k]).length := by rw [textsB_take_succ hlt, List.length_append]; omega
    refine ⟨o2, by simp [hlen], ?_, by simp [hlen, h7], by simp [hlen, h8], by simp [hlen], ?_, by omega⟩
    · rw [e2, textsB_take_succ hlt, bcs_append, ← List.append_assoc]
      simp [hlen]
    · rw [e2]; exact hg.trans hq hg2
  · have hke : k = l.length := by omega
    subst hke
    rw [List.take_length] at h0 hg
    simp [hlen, h0, h7, h8, h9]
    exact h _ _ hg
end Go.Proofs.Ytdfeadgholpcgaa
end

section
set_option linter.unusedVariables false
set_option linter.unusedSimpArgs false
namespace Go.Proofs.Ytdfeadgholpcgaa
open Go.AW Go.RowKit Go.Spec Go.Proofs.Ytdfeadgholpcgaa.Ty

set_option maxRecDepth 100000 in
set_option maxHeartbeats 1000000 in
theorem long1_calls (s : ByteArray) (σ : St) (K : AV → St → Prop) (h : K (.v (.bool (decide (64 < s.size)))) σ) : ACalls Try.prog 42 [.v (.string s)] σ K := by
  refine acalls_of hm Try.func42 rfl (by decide) rfl rfl (by kernel_rfl) ?_
  simp [Try.f42]
  have : (64 < (s.size : Int)) ↔ 64 < s.size := by omega
  simpa [this] using h

set_option maxRecDepth 100000 in
set_option maxHeartbeats 1000000 in
theorem indexFuncS_calls (ol : Own) (l : List ByteArray) (g : FuncId) (fs caps : List AV) (p : ByteArray → Bool) (σ : St) (K : AV → St → Prop) (hll : l.length ≤ 9223372036854775807)
    (hf : ∀ x σ' K', (∀ σ'', Ext σ' σ'' → K' (.v (.bool (p x))) σ'') → ACalls Try.prog g (fs ++ [.v (.string x)] ++ caps) σ' K')
    (h : ∀ σ', Ext σ σ' → ∀ r : Int, (0 ≤ r ↔ l.any p = true) → K (.v (.int .i64 r)) σ') : ACalls Try.prog 65 [.sl ol l.length (scs l), .fn (.func g) fs caps] σ K := by
  refine acalls_of hm Try.func65 rfl (by decide) rfl rfl (by kernel_rfl) ?_
  simp [Try.f65]
  refine loop_ind (fun (k : Nat) ρ σ1 => ρ.length = 19 ∧ slot ρ 0 = .sl ol l.length (scs l) ∧ slot ρ 1 = .fn (.func g) fs caps ∧ slot ρ 7 = .v (.int .i64 l.length) ∧ slot ρ 8 = .v (.int .i64 k) ∧ Ext σ σ1 ∧ k ≤ l.length ∧ (l.take k).any p = false)
    (fun k => l.length - k) ?_ 0 _ _ ⟨rfl, rfl, rfl, rfl, rfl, Ext.refl _, Nat.zero_le _, rfl⟩
  rintro k ρ σ1 ⟨hlen, h0, h1, h7, h8, hx, hk, hany⟩ next hnext
  by_cases hlt : k < l.length
  · have e1 : IntKind.i64.wrap ((k : Int) + 1) = ((k + 1 : Nat) : Int) := i64w (n := ((k + 1 : Nat) : Int)) (by omega) (by omega)
    simp [hlen, h0, h1, h7, h8, hlt]
    have hc := hf l[k] σ1
    simp only [List.append_assoc, List.cons_append, List.nil_append] at hc
    refine hc _ fun σ2 hx2 => ?_
    cases hp : p l[k] with
    | true =>
      simp [hlen, h8]
      refine h _ (hx.trans hx2) k ⟨fun _ => ?_, fun _ => by omega⟩
      exact List.any_eq_true.2 ⟨l[k], List.getElem_mem _, hp⟩
    | false =>
      simp [hlen, h8, e1, -Int.natCast_add]
      refine hnext (k + 1) _ _ ?_ (by omega)
      exact ⟨by simp [hlen], by simp [hlen, h0], by simp [hlen, h1], by simp [hlen, h7], by simp [hlen], hx.trans hx2, by omega, by rw [List.take_succ_eq_append_getElem hlt, List.any_append, hany]; simp [hp]⟩
  · have hke : k = l.length := by omega
    subst hke
    rw [List.take_length] at hany
    simp [hlen, h0, h7, h8]
    exact h _ hx (-1) ⟨fun q => by omega, fun q => by rw [hany] at q; cases q⟩

set_option maxRecDepth 100000 in
set_option maxHeartbeats 1000000 in
theorem containsFuncS_calls (ol : Own) (l : List ByteArray) (g : FuncId) (fs caps : List AV) (p : ByteArray → Bool) (σ : St) (K : AV → St → Prop) (hll : l.length ≤ 9223372036854775807)
    (hf : ∀ x σ' K', (∀ σ'', Ext σ' σ'' → K' (.v (.bool (p x))) σ'') → ACalls Try.prog g (fs ++ [.v (.string x)] ++ caps) σ' K')
    (h : ∀ σ', Ext σ σ' → K (.v (.bool (l.any p))) σ') : ACalls Try.prog 41 [.sl ol l.length (scs l), .fn (.func g) fs caps] σ K := by
  refine acalls_of hm Try.func41 rfl (by decide) rfl rfl (by kernel_rfl) ?_
  simp [Try.f41]
  refine indexFuncS_calls ol l g fs caps p σ _ hll hf fun σ' hx r hr => ?_
  have : decide (0 ≤ r) = l.any p := by rw [Bool.eq_iff_iff, decide_eq_true_eq]; exact hr
  simp [this]
  exact h _ hx

set_option maxRecDepth 100000 in
set_option maxHeartbeats 1000000 in
theorem long_calls (ol : Own) (l : List ByteArray) (σ : St) (K : AV → St → Prop) (hll : l.length ≤ 9223372036854775807)
    (h : ∀ σ', Ext σ σ' → K (.v (.bool (decide (65536 < l.length) || l.any fun s => decide (64 < s.size)))) σ') : ACalls Try.prog 14 [.sl ol l.length (scs l)] σ K := by
  refine acalls_of hm Try.func14 rfl (by decide) rfl rfl (by kernel_rfl) ?_
  by_cases hb : 65536 < l.length
  · have : decide (65536 < l.length) = true := by simpa using hb
    have hb' : (65536 : Int) < l.length := by omega
    simp [Try.f14, hb']
    have := h σ (Ext.refl _)
    simpa [hb] using this
  · have hb' : ¬ (65536 : Int) < l.length := by omega
    simp [Try.f14, hb']
    refine containsFuncS_calls ol l _ [] [] (fun s => decide (64 < s.size)) σ _ hll (fun x σ' K' hk => long1_calls x σ' _ (hk _ (Ext.refl _))) fun σ' hx => ?_
    have := h σ' hx
    simp [hb] at this
    simpa [hb] using this
end Go.Proofs.Ytdfeadgholpcgaa
end
