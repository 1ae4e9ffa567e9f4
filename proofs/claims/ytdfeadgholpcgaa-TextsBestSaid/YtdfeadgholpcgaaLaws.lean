/-
  JOINING: a call's first state, what a law's row asks behind it. Over any program.
-/
import Derived.Test.YtdfeadgholpcgaaMq
import Derived.Test.YtdfeadgholpcgaaMy
import Derived.Test.YtdfeadgholpcgaaMc
import Derived.Test.YtdfeadgholpcgaaMs
import Derived.ProofKit
import Derived.SliceStrings
import Derived.SizedLaws
import Derived.Test.YtdfeadgholpcgaaRows

section
set_option linter.unusedVariables false
set_option linter.unusedSimpArgs false
namespace Go.Proofs.Ytdfeadgholpcgaa
open Go.AW Go.RowKit Go.Spec Go.Proofs.Ytdfeadgholpcgaa.Ty

theorem lives_ab : ltB (bs [97]) (bs [98]) = true := by simp [ltB, Op.bytesLess]
theorem lives_ba : ltB (bs [98]) (bs [97]) = false := by simp [ltB, Op.bytesLess]
theorem lives_dict : dictB [bs [98], bs [97], bs [98]] = [bs [97], bs [98]] := by
  refine (dictB_is _).unique ⟨?_, ?_⟩
  · simp [Rising, lives_ab]
  · intro s
    simp only [List.mem_cons, List.not_mem_nil, or_false]
    constructor
    · rintro (h | h) <;> simp [h]
    · rintro (h | h | h) <;> simp [h]
theorem lives_nums : numsOf [bs [97], bs [98]] [bs [98], bs [97], bs [98]] = [1, 0, 1] := by
  simp [numsOf, numOf, List.findIdx_cons, lives_ab, lives_ba, ltB_irrefl]
theorem lives_with : withS [bs [97], bs [98]] [bs [98], bs [97], bs [98]] 1 = ([1, 3, 2, 1, 97, 1, 98, 1, 5], 0) := by
  have h : longB [bs [98], bs [97], bs [98]] = false := by simp [longB]
  have hw : widthN [1, 0, 1] = 1 := by decide
  have hp : packB 1 [1, 0, 1] = [5] := by decide
  simp [withS, h, codedS, lives_nums, hw, hp, textsB, textB]
  decide
theorem lives_read : readE [1, 3, 2, 1, 97, 1, 98, 1, 5] = .ok [bs [98], bs [97], bs [98]] := by
  have h1 : uintE [3, 2, 1, 97, 1, 98, 1, 5] = .ok (3, [2, 1, 97, 1, 98, 1, 5]) := by rfl
  have h2 : uintE [2, 1, 97, 1, 98, 1, 5] = .ok (2, [1, 97, 1, 98, 1, 5]) := by rfl
  have h3 : textE 64 [1, 97, 1, 98, 1, 5] = .ok ([97], [1, 98, 1, 5]) := by rfl
  have h4 : textE 64 [1, 98, 1, 5] = .ok ([98], [1, 5]) := by rfl
  have h5 : numE 3 [1, 5] = .ok ([1, 0, 1], 1, []) := by rfl
  have hw : widthN [1, 0, 1] = 1 := by decide
  have h6 : chosenE 3 [2, 1, 97, 1, 98, 1, 5] = .ok ([bs [98], bs [97], bs [98]], []) := by
    simp [chosenE, dictE, countE, h2, ordE, h3, h4, h5, lives_ab, hw]
    omega
  simp [readE, byteE, countE, h1, h6, doneE]
end Go.Proofs.Ytdfeadgholpcgaa
end

section
set_option linter.unusedVariables false
set_option linter.unusedSimpArgs false
namespace Go.Proofs.Ytdfeadgholpcgaa
open Go.AW Go.RowKit Go.Spec Go.Proofs.Ytdfeadgholpcgaa.Ty

attribute [local irreducible] awp awpOps awpX stepA stepX plainA plainX bindA bindE bindL gstep condA callA thenA inBlockA retA
section
set_option maxRecDepth 100000
set_option maxHeartbeats 1000000
theorem lives_calls (σ : St) (K : AV → St → Prop) (hq : σ.Wf) (hk : ∀ σ', Ext σ σ' → K (.v (.bool true)) σ') :
    ACalls Try.prog 6 [] σ K := by
  refine acalls_of hm Try.func6 rfl (by decide) rfl rfl (by kernel_rfl) ?_
  simp [Try.f6]
  refine with_calls .full [bs [98], bs [97], bs [98]] 1 σ _ hq (by simp) fun σ1 hx1 => ?_
  simp [lives_dict, lives_with]
  refine read_calls [1, 3, 2, 1, 97, 1, 98, 1, 5] σ1 _ (hx1.wf hq) (by simp) (fun l o σ2 he hx2 ho => ?_) (fun e σ2 he _ _ => by rw [lives_read] at he; cases he)
  rw [lives_read] at he
  injection he with he
  subst he
  simp [scs, scell]
  exact hk σ2 (hx1.trans hx2)

theorem law_with_calls (ol : AW.Own) (l : List ByteArray) (c : Int) (σ : St) (K : AV → St → Prop) (hq : σ.Wf) (hl : l.length ≤ 4611686018427387904) (hk : ∀ σ', Ext σ σ' → K (.v (.bool true)) σ') :
    ACalls Try.prog 3 [.sl ol l.length (scs l), .v (.int .i64 c)] σ K := by
  refine acalls_of hm Try.func3 rfl (by decide) rfl rfl (by kernel_rfl) ?_
  simp [Try.f3]
  refine lives_calls σ _ hq fun σ1 hx1 => ?_
  simp
  refine with_calls ol l c σ1 _ (hx1.wf hq) (by omega) fun σ2 hx2 => ?_
  simp
  refine r_with_calls ol l c σ2 _ ((hx1.trans hx2).wf hq) hl fun σ3 hx3 => ?_
  simp
  exact hk σ3 ((hx1.trans hx2).trans hx3)

theorem law_best_calls (ol : AW.Own) (l : List ByteArray) (σ : St) (K : AV → St → Prop) (hq : σ.Wf) (hl : l.length ≤ 4611686018427387904) (hk : ∀ σ', Ext σ σ' → K (.v (.bool true)) σ') :
    ACalls Try.prog 5 [.sl ol l.length (scs l)] σ K := by
  refine acalls_of hm Try.func5 rfl (by decide) rfl rfl (by kernel_rfl) ?_
  simp [Try.f5]
  refine lives_calls σ _ hq fun σ1 hx1 => ?_
  simp
  refine best_calls ol l σ1 _ (hx1.wf hq) (by omega) fun σ2 hx2 => ?_
  simp
  refine r_best_calls ol l σ2 _ ((hx1.trans hx2).wf hq) hl fun σ3 hx3 => ?_
  simp
  refine with_calls ol l 0 σ3 _ (((hx1.trans hx2).trans hx3).wf hq) (by omega) fun σ4 hx4 => ?_
  simp
  refine with_calls ol l 1 σ4 _ ((((hx1.trans hx2).trans hx3).trans hx4).wf hq) (by omega) fun σ5 hx5 => ?_
  have hki := hk σ5 ((((hx1.trans hx2).trans hx3).trans hx4).trans hx5)
  cases hlo : longB l with
  | true =>
    simp [bestS, withS, hlo, pickA_bool]
    exact hki
  | false =>
    by_cases hlt : (codedS (dictB l) l).length < (plainS l).length
    · have h1 : (codedS (dictB l) l).length ≤ (plainS l).length := by omega
      simp [bestS, withS, hlo, pickA_bool, hlt, h1]
      exact hki
    · have h1 : (plainS l).length ≤ (codedS (dictB l) l).length := by omega
      simp [bestS, withS, hlo, pickA_bool, hlt, h1]
      exact hki

theorem getE_length : ∀ (n : Nat) (acc : List ByteArray) (r : List UInt8) (l : List ByteArray) (r' : List UInt8), getE n acc r = .ok (l, r') → l.length = acc.length + n
  | 0, acc, r, l, r', h => by simp only [getE] at h; injection h with h; injection h with h1 h2; subst h1; rfl
  | n + 1, acc, r, l, r', h => by
    simp only [getE] at h
    split at h
    · cases h
    · have := getE_length n _ _ _ _ h
      simp at this
      omega
theorem numE_length {n : Nat} {r : List UInt8} {l : List Nat} {w : Nat} {r' : List UInt8} (h : numE n r = .ok (l, w, r')) : l.length = n := by
  unfold numE at h
  split at h
  · cases h
  · split at h
    · cases h
    · split at h
      · cases h
      · split at h
        · cases h
        · rename_i hu
          injection h with h
          injection h with h1 h2
          subst h1
          unfold unpackE at hu
          split at hu
          · injection hu with hu
            subst hu
            simp [unpackN]
          · cases hu
theorem chosenE_length {n : Nat} {r : List UInt8} {l : List ByteArray} {r' : List UInt8} (h : chosenE n r = .ok (l, r')) : l.length = n := by
  unfold chosenE at h
  split at h
  · cases h
  · split at h
    · cases h
    · rename_i hn
      split at h
      · injection h with h
        injection h with h1 h2
        subst h1
        simp [numE_length hn]
      · cases h
theorem doneE_ok {α : Type} {x : Except Nat (α × List UInt8)} {a : α} (h : doneE x = .ok a) : x = .ok (a, []) := by
  unfold doneE at h
  split at h
  · cases h
  · split at h
    · rename_i hr
      injection h with h
      subst h; subst hr; rfl
    · cases h
theorem readE_length {s : List UInt8} {l : List ByteArray} (h : readE s = .ok l) : l.length ≤ 65536 := by
  unfold readE at h
  split at h
  · cases h
  · split at h
    · cases h
    · split at h
      · cases h
      · rename_i hc
        have h1 := (countE_le hc).1
        have h2 := doneE_ok h
        split at h2
        · rw [chosenE_length h2]; exact h1
        · rw [getE_length _ _ _ _ _ h2]; simpa using h1
theorem law_read_calls (s : List UInt8) (σ : St) (K : AV → St → Prop) (hq : σ.Wf) (hl : s.length ≤ 4611686018427387904) (hk : ∀ σ', Ext σ σ' → K (.v (.bool true)) σ') :
    ACalls Try.prog 4 [.v (.string (bs s))] σ K := by
  refine acalls_of hm Try.func4 rfl (by decide) rfl rfl (by kernel_rfl) ?_
  simp [Try.f4]
  refine lives_calls σ _ hq fun σ1 hx1 => ?_
  simp
  refine read_calls s σ1 _ (hx1.wf hq) (by omega) (fun l o σ2 he hx2 ho => ?_) (fun e σ2 he h0 hx2 => ?_)
  · simp
    refine r_read_calls s σ2 _ ((hx1.trans hx2).wf hq) hl (fun l' o' σ3 he' hx3 ho' => ?_) (fun e' σ3 he' _ _ => by rw [he] at he'; cases he')
    rw [he] at he'
    injection he' with he'
    subst he'
    have hll : l.length ≤ 4611686018427387904 := by
      have := readE_length he
      omega
    simp
    refine r_same_calls o o' l l _ _ hll ?_
    simp
    exact hk σ3 ((hx1.trans hx2).trans hx3)
  · simp
    refine r_read_calls s σ2 _ ((hx1.trans hx2).wf hq) hl (fun l' o' σ3 he' hx3 ho' => by rw [he] at he'; cases he') (fun e' σ3 he' _ hx3 => ?_)
    rw [he] at he'
    injection he' with he'
    subst he'
    simp
    refine r_same_calls .full .full [] [] _ _ (by simp) ?_
    simp
    exact hk σ3 ((hx1.trans hx2).trans hx3)
end
end Go.Proofs.Ytdfeadgholpcgaa
end

section
set_option linter.unusedVariables false
set_option linter.unusedSimpArgs false
namespace Go.AW
open Go.RowKit Go.ChangeShapes Go.WideShapes Go.ChangeAt Go.Spec

def G.start (w : World) : G := ⟨w, fun b o => w.cell? ⟨b, o, none⟩, fun _ => none, fun _ _ => none, fun _ => none⟩
def St.start : St := { nxt := 0, box := fun _ => none, front := fun _ => none, q := true, qb := 0, mp := fun _ => none, mv := false }
theorem St.start_wf : St.start.Wf := ⟨Nat.le_refl _, rfl⟩
theorem Inv.start (w : World) : Inv St.start (G.start w) w w :=
  { below := Below.refl _ _, imm := fun b o y h => h, box := fun i cs h => (by cases h), vcap := fun i cap sz h => (by cases h), mp := fun i k l h => (by cases h),
    bxw := fun i b h => (by cases h), bxinj := fun i j b h => (by cases h), front := fun t n h => (by cases h), histw := fun t n b cap sz h => (by cases h), histinj := fun t t' n n' b cap cap' sz sz' h => (by cases h),
    fresh := fun i _ => ⟨rfl, fun _ => rfl, rfl, rfl, rfl, rfl⟩, histpos := fun t n x h => (by cases h), histle := fun t n x h => (by cases h), quiet := fun _ => Below.refl _ _, qb := Nat.le_refl _, entry := Nat.le_refl _ }
theorem ACalls.law {P : Program} {f : FuncId} {args : List AV} (h : ACalls P f args St.start fun v _ => v = .v (.bool true)) {W : World} {vals : Array Value} (hr : RepL (G.start W) args vals.toList) :
    Calls P f vals W fun e W' => e = .returned (.bool true) ∧ Below W.heap.size W W' :=
  (h.2 (G.start W) W W vals hr (Inv.start W)).mono fun e W' ⟨av, σ', g', v, hav, he, hle, hrep, hI⟩ => by
    subst hav
    simp only [Rep] at hrep
    subst hrep
    have := hI.below
    rw [hle.w0] at this
    exact ⟨he, this⟩

theorem ACalls.mono_post {P : Program} {f : FuncId} {args : List AV} {W : World} {vals : Array Value} {Q : Value → World → Prop} (h : ACalls P f args St.start fun v _ => v = .v (.bool true)) (hr : RepL (G.start W) args vals.toList)
    (hq : ∀ W', Below W.heap.size W W' → Q (.bool true) W') : Calls P f vals W fun e W' => ∃ v, e = .returned v ∧ Q v W' :=
  (h.law hr).mono fun e W' ⟨he, hb⟩ => ⟨_, he, hq W' hb⟩

theorem TrodAll_below {H : Type} {enc : TypeId × Value → H} {P : Program} (hl : laidOutB P = true) {W W' : World} (hb : Below W.heap.size W W') :
    ∀ (ts : List TypeId) (vs : List Value) (ds : List (DataW H)) (ps : List MemPlace), (∀ t ∈ ts, P.readableRec t = true ∧ t < P.types.size) → (∀ x ∈ ps, x.block < W.heap.size) →
      DataW.TrodAll enc P W 0 (fun _ => true) true ts vs ds ps → DataW.TrodAll enc P W' 0 (fun b => decide (b < W.heap.size)) true ts vs ds ps
  | [], vs, ds, ps, _, _, h => by
    obtain ⟨rfl, rfl, rfl⟩ := trodAll_nil h
    exact trodAll_mk0
  | t :: ts, vs, ds, ps, ht, hps, h => by
    obtain ⟨v, vs', d, ds', p, q, rfl, rfl, rfl, h1, h2⟩ := trodAll_cons h
    exact ⟨p, q, Below.trod hl (ht t List.mem_cons_self).1 (ht t List.mem_cons_self).2 h1 hb fun x hx => hps x (List.mem_append.2 (.inl hx)),
      TrodAll_below hl hb ts vs' ds' q (fun x hx => ht x (List.mem_cons_of_mem _ hx)) (fun x hx => hps x (List.mem_append.2 (.inr hx))) h2, rfl⟩

/-- A law that returns true, its arguments as they were. -/
theorem post_true {H : Type} {enc : TypeId × Value → H} {P : Program} {f : Func} {s : ChangeSpec} {apart fresh handsOn : Bool} {W W' : World} {args : Array Value} {ds gs : List (DataW H)} {before : List MemPlace} {tb : TypeId} (hl : laidOutB P = true)
    (hW : DataW.Whole enc P f.params.toList s.vars apart W args.toList ds gs before) (hb : Below W.heap.size W W') (hv : s.vars = []) (hr : f.resultTypes = #[tb]) (hu : P.underlying tb = some .bool)
    (hp : ∀ t ∈ f.params.toList, P.readableRec t = true ∧ t < P.types.size) (hf : s.fn H ds = { results := [.lit (.bool true)], args := ds }) :
    s.post enc P f apart fresh handsOn false W args (.bool true) W' := by
  have hW' := hW
  obtain ⟨p, q, hA, hV, rfl, hfz, hnd⟩ := hW
  rw [hv] at hV
  obtain ⟨rfl, rfl⟩ := trodVars_none hV
  have hlt : ∀ x ∈ p, x.block < W.heap.size := fun x hx => by simpa using hW'.lt x (by simp [hx])
  refine ⟨ds, [], _, [], p, [], hW', ?_, ?_, ?_, hb.frame _, fun h => by cases h⟩
  · rw [List.append_nil, hf, hr]
    exact trodAll_mk1 (shut_bool hu true)
  · rw [List.append_nil, hf]
    exact TrodAll_below hl hb _ _ _ _ hp hlt hA
  · rw [List.append_nil, hf, hv]
    rfl

theorem rep_strings {H : Type} {enc : TypeId × Value → H} {P : Program} {t e : TypeId} {W : World} {a0 : Option Addr} {len cap : Nat} {d : DataW H} {p : List MemPlace} (ht : P.underlying t = some (.slice e)) (he : P.underlying e = some .string) (hc : P.cellsOf e = 1)
    (h : DataW.Trod enc P W 0 (fun _ => true) true t (.slice a0 len cap) d p) :
    ∃ l : List ByteArray, Rep (G.start W) (.sl .raw l.length (scs l)) (.slice a0 len cap) ∧ (l = [] ∨ ∃ spare, d = .slice (strs l) spare) := by
  obtain ⟨fuel, hf⟩ := h
  simp only [Value.cells] at hf
  rcases open_strings ht he hc hf with ⟨hcs, hx⟩ | ⟨a, len', cap', ss, hcs, _, hl, hm, hz, hx, hcell, _⟩
  · simp at hcs
    obtain ⟨rfl, rfl, rfl⟩ := hcs
    refine ⟨[], ?_, .inl rfl⟩
    simp only [Rep]
    exact ⟨none, 0, rfl, Nat.le_refl _, Nat.zero_le _, .inl rfl, trivial⟩
  · simp at hcs
    obtain ⟨rfl, rfl, rfl⟩ := hcs
    simp only [if_true] at hz
    obtain ⟨b, off, spot⟩ := a
    have hn : (ss.take len).length = len := by simp; omega
    refine ⟨ss.take len, ?_, .inr ⟨strs (ss.drop len), by simp only [Prod.mk.injEq] at hx; exact hx.1⟩⟩
    rw [hn]
    simp only [Rep]
    refine ⟨some ⟨b, off, spot⟩, cap, rfl, hl, hm, ?_, trivial⟩
    rcases Nat.eq_zero_or_pos len with h0 | h0
    · subst h0; exact .inl rfl
    · right
      have hspot : spot = none := by simpa [Addr.add] using World.cell?_spot (hcell 0 (by omega))
      subst hspot
      refine ⟨b, off, rfl, repAt_of fun i c hi => ?_⟩
      have hlt : i < (scs (ss.take len)).length := (List.getElem?_eq_some_iff.1 hi).1
      simp at hlt
      have hi2 : i < ss.length := by omega
      have hc2 : c = scell ss[i] := by
        rw [scs, List.getElem?_map, List.getElem?_take_of_lt (by omega), List.getElem?_eq_getElem hi2] at hi
        simpa using hi.symm
      refine ⟨.string ss[i], ?_, by rw [hc2, scell]; simp only [Rep]⟩
      have := hcell i hi2
      simp only [List.getD, List.getElem?_eq_getElem hi2, Option.getD_some] at this
      rw [add_plain] at this
      exact this
end Go.AW
end

section
set_option linter.unusedVariables false
set_option linter.unusedSimpArgs false
namespace Go.Proofs.Ytdfeadgholpcgaa
open Go.ChangeShapes Go.WideShapes Go.ChangeAt Go.RowKit Go.AW Go.Spec
open Go.ChangeMaps (open_string)

theorem Try.own : ownKnob Try.prog.godebug = none := by kernel_rfl
theorem Try.laidOut : laidOutB Try.prog = true := by kernel_rfl
theorem small_len {n : Nat} (h : n ≤ reachBytes) : n ≤ 4611686018427387904 := by have := reachBytes_lt; omega

theorem textsWith_par : Try.f3.params = #[22, 3] := by kernel_rfl
theorem textsWith_res : Try.f3.resultTypes = #[4] := by kernel_rfl
theorem textsWith_read : ∀ t ∈ Try.f3.params.toList, Try.prog.readableRec t = true ∧ t < Try.prog.types.size := by
  have h : Try.f3.params.toList.all (fun t => Try.prog.readableRec t && decide (t < Try.prog.types.size)) = true := by kernel_rfl
  intro t ht
  have := List.all_eq_true.1 h t ht
  simpa using this
set_option maxRecDepth 100000 in
theorem textsWith_lifted (os : Os) (started : os.Started) (H : Type) (enc : TypeId × Value → H) :
    ReturnsInHanded {} Try.checked os 3 .any (Rows.textsWithSpec.pre6 enc Try.prog Try.f3 Rows.textsWithRow.domain false) (Rows.textsWithSpec.post enc Try.prog Try.f3 false true false false) := by
  refine returnsInHanded_of_change_sized (C := Try.checked) Try.own started (by kernel_rfl) Try.func3
    (ChangeSpec.witness6 (enc := enc) (C := Try.checked) false ⟨#[], #[.slice none 0 0, .int .i64 0], []⟩ 8 (by kernel_rfl) (by kernel_rfl) (by kernel_rfl) (by kernel_rfl)) ?_
  intro W base args ds gs before hval0 hW hcnd hsz0 _
  have hval : ∀ (j : Nat) t v, Try.f3.params[j]? = some t → args[j]? = some v → Value.okWide Try.prog W .any base t v := hval0
  have hsz : (DataW.weightsEach Try.prog (Try.f3.params.toList ++ []) (ds ++ gs)).all (· ≤ reachBytes) = true := hsz0
  have hW' := hW
  obtain ⟨p, q, hA0, hV, rfl, hfz, hnd⟩ := hW
  have hA : DataW.TrodAll enc Try.prog W 0 (fun _ => true) true Try.f3.params.toList args.toList ds p := hA0
  rw [textsWith_par] at hA hval hsz
  obtain ⟨v0, v1, d0, d1, p0, p1, rfl, rfl, rfl, h0, h1⟩ := trodAll_two hA
  obtain ⟨a0, len, cap, rfl⟩ := okWide_slice (by kernel_rfl : Try.prog.underlying 22 = some (.slice 9)) (hval 0 22 v0 rfl rfl)
  obtain ⟨c, rfl, rfl, rfl, wc⟩ := open_int (by kernel_rfl : Try.prog.underlying 3 = some (.int .i64)) (hval 1 3 v1 rfl rfl) h1
  obtain ⟨l, hr0, hll⟩ := rep_strings (by kernel_rfl : Try.prog.underlying 22 = some (.slice 9)) (by kernel_rfl) (by kernel_rfl) h0
  have hrep : RepL (G.start W) [.sl .raw l.length (scs l), .v (.int .i64 c)] #[Value.slice a0 len cap, Value.int .i64 c].toList := by
    simp only [RepL]
    exact ⟨_, _, rfl, hr0, _, _, rfl, by simp only [Rep], rfl⟩
  refine ACalls.mono_post ?_ hrep fun W' hb => post_true Try.laidOut hW' hb rfl textsWith_res (by kernel_rfl) textsWith_read rfl
  exact law_with_calls .raw l c St.start _ St.start_wf (small_len (by
    rcases hll with rfl | ⟨spare, rfl⟩
    · exact Nat.zero_le _
    · have := sized_slice hsz (j := 0) (t := 22) (e := 9) rfl rfl (by kernel_rfl)
      rw [show Try.prog.bytesOf 9 = 16 from by kernel_rfl] at this
      simp only [strs, List.length_map] at this
      omega)) fun σ' _ => rfl

theorem textsWith_holds : Rows.TextsWithSaid :=
  OpenClaim.holds_of_wide 3 Try.f3 rfl rfl rfl rfl rfl rfl rfl ⟨rfl, rfl, rfl, rfl, rfl⟩ rfl rfl rfl rfl rfl (by kernel_rfl) Try.func3 (by kernel_rfl)
    (of_decide_eq_true (by kernel_rfl)) (by unfold Func.isWrapper; rw [if_neg (of_decide_eq_false (by kernel_rfl))]; exact ⟨rfl, rfl⟩)
    (fun os started H enc _ => textsWith_lifted os started H enc)
#print axioms textsWith_holds

theorem textsRead_par : Try.f4.params = #[9] := by kernel_rfl
theorem textsRead_res : Try.f4.resultTypes = #[4] := by kernel_rfl
theorem textsRead_read : ∀ t ∈ Try.f4.params.toList, Try.prog.readableRec t = true ∧ t < Try.prog.types.size := by
  have h : Try.f4.params.toList.all (fun t => Try.prog.readableRec t && decide (t < Try.prog.types.size)) = true := by kernel_rfl
  intro t ht
  have := List.all_eq_true.1 h t ht
  simpa using this
set_option maxRecDepth 100000 in
theorem textsRead_lifted (os : Os) (started : os.Started) (H : Type) (enc : TypeId × Value → H) :
    ReturnsInHanded {} Try.checked os 4 .any (Rows.textsReadSpec.pre6 enc Try.prog Try.f4 Rows.textsReadRow.domain false) (Rows.textsReadSpec.post enc Try.prog Try.f4 false true false false) := by
  refine returnsInHanded_of_change_sized (C := Try.checked) Try.own started (by kernel_rfl) Try.func4
    (ChangeSpec.witness6 (enc := enc) (C := Try.checked) false ⟨#[], #[.string ByteArray.empty], []⟩ 8 (by kernel_rfl) (by kernel_rfl) (by kernel_rfl) (by kernel_rfl)) ?_
  intro W base args ds gs before hval0 hW hcnd hsz0 _
  have hval : ∀ (j : Nat) t v, Try.f4.params[j]? = some t → args[j]? = some v → Value.okWide Try.prog W .any base t v := hval0
  have hsz : (DataW.weightsEach Try.prog (Try.f4.params.toList ++ []) (ds ++ gs)).all (· ≤ reachBytes) = true := hsz0
  have hW' := hW
  obtain ⟨p, q, hA0, hV, rfl, hfz, hnd⟩ := hW
  have hA : DataW.TrodAll enc Try.prog W 0 (fun _ => true) true Try.f4.params.toList args.toList ds p := hA0
  rw [textsRead_par] at hA hval hsz
  obtain ⟨v0, d0, rfl, rfl, h0⟩ := trodAll_one hA
  obtain ⟨s, rfl, rfl, rfl, hs⟩ := open_string (by kernel_rfl : Try.prog.underlying 9 = some .string) (hval 0 9 v0 rfl rfl) h0
  have hrep : RepL (G.start W) [.v (.string (bs s.data.toList))] #[Value.string s].toList := by
    simp only [RepL]
    exact ⟨_, _, rfl, by simp only [Rep]; rfl, rfl⟩
  refine ACalls.mono_post ?_ hrep fun W' hb => post_true Try.laidOut hW' hb rfl textsRead_res (by kernel_rfl) textsRead_read rfl
  exact law_read_calls s.data.toList St.start _ St.start_wf (small_len (by have := sized_string hsz (j := 0) rfl rfl; simpa using this)) fun σ' _ => rfl

theorem textsRead_holds : Rows.TextsReadSaid :=
  OpenClaim.holds_of_wide 4 Try.f4 rfl rfl rfl rfl rfl rfl rfl ⟨rfl, rfl, rfl, rfl, rfl⟩ rfl rfl rfl rfl rfl (by kernel_rfl) Try.func4 (by kernel_rfl)
    (of_decide_eq_true (by kernel_rfl)) (by unfold Func.isWrapper; rw [if_neg (of_decide_eq_false (by kernel_rfl))]; exact ⟨rfl, rfl⟩)
    (fun os started H enc _ => textsRead_lifted os started H enc)
#print axioms textsRead_holds

theorem textsBest_par : Try.f5.params = #[22] := by kernel_rfl
theorem textsBest_res : Try.f5.resultTypes = #[4] := by kernel_rfl
theorem textsBest_read : ∀ t ∈ Try.f5.params.toList, Try.prog.readableRec t = true ∧ t < Try.prog.types.size := by
  have h : Try.f5.params.toList.all (fun t => Try.prog.readableRec t && decide (t < Try.prog.types.size)) = true := by kernel_rfl
  intro t ht
  have := List.all_eq_true.1 h t ht
  simpa using this
set_option maxRecDepth 100000 in
theorem textsBest_lifted (os : Os) (started : os.Started) (H : Type) (enc : TypeId × Value → H) :
    ReturnsInHanded {} Try.checked os 5 .any (Rows.textsBestSpec.pre6 enc Try.prog Try.f5 Rows.textsBestRow.domain false) (Rows.textsBestSpec.post enc Try.prog Try.f5 false true false false) := by
  refine returnsInHanded_of_change_sized (C := Try.checked) Try.own started (by kernel_rfl) Try.func5
    (ChangeSpec.witness6 (enc := enc) (C := Try.checked) false ⟨#[], #[.slice none 0 0], []⟩ 8 (by kernel_rfl) (by kernel_rfl) (by kernel_rfl) (by kernel_rfl)) ?_
  intro W base args ds gs before hval0 hW hcnd hsz0 _
  have hval : ∀ (j : Nat) t v, Try.f5.params[j]? = some t → args[j]? = some v → Value.okWide Try.prog W .any base t v := hval0
  have hsz : (DataW.weightsEach Try.prog (Try.f5.params.toList ++ []) (ds ++ gs)).all (· ≤ reachBytes) = true := hsz0
  have hW' := hW
  obtain ⟨p, q, hA0, hV, rfl, hfz, hnd⟩ := hW
  have hA : DataW.TrodAll enc Try.prog W 0 (fun _ => true) true Try.f5.params.toList args.toList ds p := hA0
  rw [textsBest_par] at hA hval hsz
  obtain ⟨v0, d0, rfl, rfl, h0⟩ := trodAll_one hA
  obtain ⟨a0, len, cap, rfl⟩ := okWide_slice (by kernel_rfl : Try.prog.underlying 22 = some (.slice 9)) (hval 0 22 v0 rfl rfl)
  obtain ⟨l, hr0, hll⟩ := rep_strings (by kernel_rfl : Try.prog.underlying 22 = some (.slice 9)) (by kernel_rfl) (by kernel_rfl) h0
  have hrep : RepL (G.start W) [.sl .raw l.length (scs l)] #[Value.slice a0 len cap].toList := by
    simp only [RepL]
    exact ⟨_, _, rfl, hr0, rfl⟩
  refine ACalls.mono_post ?_ hrep fun W' hb => post_true Try.laidOut hW' hb rfl textsBest_res (by kernel_rfl) textsBest_read rfl
  exact law_best_calls .raw l St.start _ St.start_wf (small_len (by
    rcases hll with rfl | ⟨spare, rfl⟩
    · exact Nat.zero_le _
    · have := sized_slice hsz (j := 0) (t := 22) (e := 9) rfl rfl (by kernel_rfl)
      rw [show Try.prog.bytesOf 9 = 16 from by kernel_rfl] at this
      simp only [strs, List.length_map] at this
      omega)) fun σ' _ => rfl

theorem textsBest_holds : Rows.TextsBestSaid :=
  OpenClaim.holds_of_wide 5 Try.f5 rfl rfl rfl rfl rfl rfl rfl ⟨rfl, rfl, rfl, rfl, rfl⟩ rfl rfl rfl rfl rfl (by kernel_rfl) Try.func5 (by kernel_rfl)
    (of_decide_eq_true (by kernel_rfl)) (by unfold Func.isWrapper; rw [if_neg (of_decide_eq_false (by kernel_rfl))]; exact ⟨rfl, rfl⟩)
    (fun os started H enc _ => textsBest_lifted os started H enc)
#print axioms textsBest_holds
end Go.Proofs.Ytdfeadgholpcgaa
end
