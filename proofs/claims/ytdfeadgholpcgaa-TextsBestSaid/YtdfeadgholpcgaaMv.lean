/-
  slices.AppendSeq over slices.Values: by the kit's laws on ranges over functions (its worked proofs at a list and at ints, turned to texts).
-/
import Derived.RangeFuncBox
import Derived.RangeFuncLeaves
import Derived.Shelf.Abstract
import Derived.WalkKit
import Derived.OwnWalkIn
import Derived.TacticsInMore
import Derived.LoopNIn
import Derived.LoopIn
import Derived.Maps.AppendAt
import Derived.Test.YtdfeadgholpcgaaProg
import Derived.Test.YtdfeadgholpcgaaSh
import Derived.Sort.OwnSorted
import Derived.Test.YtdfeadgholpcgaaMw
import Derived.Test.YtdfeadgholpcgaaMs

section
set_option linter.unusedVariables false
set_option linter.unusedSimpArgs false
namespace Go.Proofs.Ytdfeadgholpcgaa.Seq
open Go Go.Proofs Go.RowKit Go.Shelf

attribute [local go_sem] Oper.semAt_some

def upto {α : Type} (f : Nat → α) (k : Nat) : List α := (List.range k).map f
theorem upto_succ {α : Type} (f : Nat → α) (k : Nat) : upto f (k + 1) = upto f k ++ [f k] := by simp [upto, List.range_succ]
theorem upto_length {α : Type} (f : Nat → α) (k : Nat) : (upto f k).length = k := by simp [upto]

set_option maxRecDepth 100000 in
set_option maxHeartbeats 2000000 in
theorem values1_in (F : Fence) (n : Nat) (h7 : F.fn 47) (hro : F.round = none) (hn : 1 ≤ n) (l Bs n₀ b off len cap : Nat) (Sx : Nat → ByteArray) (hreach : len ≤ 4611686018427387904) (hb : b < n₀) (J Jx : List ByteArray → World → Prop)
    (hY : ∀ pre x W, J pre W → pre.length < len → YieldAt F (n - 1) Try.prog l #[.string x] W fun e W' =>
      (e = .returned (.bool true) ∧ J (pre ++ [x]) W' ∧ Below n₀ W W') ∨ (e = .returned (.bool false) ∧ Jx (pre ++ [x]) W'))
    (W : World) (hBs : W.cell? ⟨Bs, 0, none⟩ = some (.slice (some ⟨b, off, none⟩) len cap)) (hc : ∀ j, j < len → W.cell? ⟨b, off + j, none⟩ = some (.string (Sx j))) (h0 : J [] W) :
    CallsIn F n Try.prog 47 #[.func (.yield l) #[] #[], .pointer (some ⟨Bs, 0, none⟩)] W fun e W' => (∃ v, e = .returned v) ∧
      ((∃ ys, ys = upto Sx len ∧ J ys W') ∨ (∃ pre, (∃ k, k ≤ len ∧ pre = upto Sx k) ∧ Jx pre W')) := by
  refine callsIn_of_wp Try.func47 rfl h7 ?_ hro
  simp only [Try.ntmps47, List.size_toArray, List.length_cons, List.length_nil, Nat.reduceAdd, Nat.reduceSub, Array.replicate_succ, Array.replicate_zero, List.push_toArray, List.append_toArray, List.nil_append, List.cons_append]
  gi_wp2
  gi_loopw [7] (fun i wr => ∃ k : Nat, k ≤ len ∧ i = .int .i64 k ∧ J (upto Sx k) wr ∧ Below n₀ W wr)
    (fun i _ => len - (intOf i).toNat)
  case atStart => exact ⟨0, Nat.zero_le _, rfl, h0, Below.refl _ _⟩
  case round =>
    obtain ⟨k, hk, rfl, hJs, hnx⟩ := hrel
    have hcx : k < len → wr.cell? ⟨b, off + k, none⟩ = some (.string (Sx k)) := fun h => (hnx.cell (p := ⟨b, off + k, none⟩) hb).trans (hc k h)
    by_cases hlt : k < len
    · obtain ⟨fn, tmps, assign, body, hy, hR⟩ := hY _ (Sx k) wr hJs (by rw [upto_length]; exact hlt)
      have hcx' := hcx hlt
      gi_wp2
      refine hR.mono ?_
      rintro e W3 (⟨rfl, hJ3, hk3⟩ | ⟨rfl, hJx3⟩)
      · gi_wp2
        go_roundw
        case rel => exact ⟨k + 1, by omega, by simp, by rw [upto_succ]; exact hJ3, hnx.trans hk3⟩
        case measure => simp [intOf]; omega
      · gi_wp2
        refine bodyPost_ret (results_none rfl _ _ _) rfl ?_
        exact ⟨⟨_, rfl⟩, .inr ⟨_, ⟨k + 1, by omega, (upto_succ _ _).symm⟩, hJx3⟩⟩
    · obtain rfl : k = len := by omega
      gi_wp2
      go_end0
      exact ⟨⟨_, rfl⟩, .inl ⟨_, rfl, hJs⟩⟩

theorem upto_take (Sx : Nat → ByteArray) {len k : Nat} (hk : k ≤ len) : upto Sx k = (upto Sx len).take k := by
  apply List.ext_getElem
  · simp [upto, hk]
  · intro i h1 h2
    simp [upto]

set_option maxRecDepth 100000 in
set_option maxHeartbeats 1000000 in
theorem values1_nil_in (F : Fence) (n : Nat) (h7 : F.fn 47) (hro : F.round = none) (l Bs cap : Nat) (a : Option Addr) (J : List ByteArray → World → Prop) (W : World) (hBs : W.cell? ⟨Bs, 0, none⟩ = some (.slice a 0 cap)) (h0 : J [] W) :
    CallsIn F n Try.prog 47 #[.func (.yield l) #[] #[], .pointer (some ⟨Bs, 0, none⟩)] W fun e W' => (∃ v, e = .returned v) ∧ J [] W' := by
  refine callsIn_of_wp Try.func47 rfl h7 ?_ hro
  simp only [Try.ntmps47, List.size_toArray, List.length_cons, List.length_nil, Nat.reduceAdd, Nat.reduceSub, Array.replicate_succ, Array.replicate_zero, List.push_toArray, List.append_toArray, List.nil_append, List.cons_append]
  gi_wp2
  gi_loopw [7] (fun i wr => i = .int .i64 0 ∧ J [] wr) (fun _ _ => 0)
  case atStart => exact ⟨rfl, h0⟩
  case round =>
    obtain ⟨rfl, hJs⟩ := hrel
    gi_wp2
    go_end0
    exact ⟨⟨_, rfl⟩, hJs⟩

/-- A slice's texts, in a block below n₀; or it has none. -/
def Strs (n₀ : Nat) (W : World) (a : Option Addr) (len : Nat) (Sx : Nat → ByteArray) : Prop :=
  len = 0 ∨ ∃ b off, a = some ⟨b, off, none⟩ ∧ b < n₀ ∧ ∀ j, j < len → W.cell? ⟨b, off + j, none⟩ = some (.string (Sx j))
theorem Strs.below {n₀ : Nat} {A B : World} (h : Below n₀ A B) {a : Option Addr} {len : Nat} {Sx : Nat → ByteArray} : Strs n₀ A a len Sx → Strs n₀ B a len Sx
  | .inl e => .inl e
  | .inr ⟨b, off, e, hb, hc⟩ => .inr ⟨b, off, e, hb, fun j hj => (h.cell (p := ⟨b, off + j, none⟩) hb).trans (hc j hj)⟩

theorem values_stops (F : Fence) (n : Nat) (h7 : F.fn 47) (hro : F.round = none) (hn : 1 ≤ n) (Bs n₀ len cap : Nat) (a : Option Addr) (Sx : Nat → ByteArray) (hreach : len ≤ 4611686018427387904) (w : World) (hBs : Bs < w.heap.size) (hn₀ : n₀ ≤ w.heap.size)
    (hc : w.cell? ⟨Bs, 0, none⟩ = some (.slice a len cap)) (hI : Strs n₀ w a len Sx) :
    SeqStopsK F n Try.prog 47 #[.pointer (some ⟨Bs, 0, none⟩)] (fun x : ByteArray => #[Value.string x]) (Below n₀) (fun ys => ys = upto Sx len) (fun pre => pre <+: upto Sx len) len w := fun l J Jx W hW _ _ hY h0 => by
  have hc' := (hW.cell (p := ⟨Bs, 0, none⟩) hBs).trans hc
  rcases hI.below (hW.mono hn₀) with rfl | ⟨b, off, rfl, hb, hcs⟩
  · exact (values1_nil_in F n h7 hro l Bs cap a J W hc' h0).mono fun e W' ⟨he, hj⟩ => ⟨he, .inl ⟨_, rfl, hj⟩⟩
  refine (values1_in F n h7 hro hn l Bs n₀ b off len cap Sx hreach hb J Jx hY W hc' hcs h0).mono ?_
  rintro e W' ⟨he, ⟨ys, rfl, hj⟩ | ⟨pre, ⟨k, hk, rfl⟩, hj⟩⟩
  · exact ⟨he, .inl ⟨_, rfl, hj⟩⟩
  · exact ⟨he, .inr ⟨_, by rw [upto_take Sx hk]; exact List.take_prefix _ _, hj⟩⟩

theorem infoS : (Try.prog.info? 9).map (fun i => (i.zero, i.size, i.bytes)) = some (some (.string ⟨#[]⟩), 1, 16) := by kernel_rfl

set_option maxRecDepth 100000 in
set_option maxHeartbeats 2000000 in
theorem appendSeq_in (F : Fence) (n : Nat) (h3 : F.fn 66) (h5 : F.fn 47) (hro : F.round = none) (hn : 3 ≤ n) (Bs len cap : Nat) (a : Option Addr) (Sx : Nat → ByteArray) (hlen : len ≤ 4611686018427387904) (hbytes : len * 16 ≤ 140737488355328) (w : World)
    (hBs : Bs < w.heap.size) (hc : w.cell? ⟨Bs, 0, none⟩ = some (.slice a len cap)) (hI : Strs w.heap.size w a len Sx) :
    CallsIn F n Try.prog 66 #[.slice none 0 0, .func (.func 47) #[] #[.pointer (some ⟨Bs, 0, none⟩)]] w fun e W' => ∃ v, e = .returned v ∧ W'.ownsRow w.heap.size 9 1 v len ((upto Sx len).map Value.string) ∧ (v = .slice none 0 0 ↔ upto Sx len = []) ∧ Below w.heap.size w W' := by
  have h1 : 1 ≤ n := by omega
  obtain ⟨i0, hi, hz0, hz1, hz2⟩ := info_parts infoS
  refine callsIn_of_wp_marks Try.func66 rfl h3 ?_ hro
  simp only [Try.ntmps66, List.size_toArray, List.length_cons, List.length_nil, Nat.reduceAdd, Nat.reduceSub, Array.replicate_succ, Array.replicate_zero, List.push_toArray, List.append_toArray, List.nil_append, List.cons_append]
  gi_wp2
  have bO := Boxed.new w 22 (.slice none 0 0)
  have hB0 : Below w.heap.size w (w.alloc (.cells #[.slice none 0 0] 22)) := (Below.refl _ w).alloc (Nat.le_refl _) _
  refine wpIn_rangeFunc_ownG hro h1 (gf := 47) (lb := #[.pointer (some ⟨Bs, 0, none⟩)]) rfl h5 (enters_of Try.func47 (by kernel_rfl) rfl)
    (values_stops F (n - 1) h5 hro (by omega) Bs w.heap.size len cap a Sx hlen _ (by simp; omega) (by simp) ((hB0.cell (p := ⟨Bs, 0, none⟩) hBs).trans hc) (hI.below hB0)) belowK_t (belowK_b (by simp)) (Below.refl _ _) (fun _ => rfl)
    (fun pre W => (∃ v, Boxed W w.heap.size 22 v ∧ W.ownsRow w.heap.size 9 1 v pre.length (pre.map Value.string) ∧ (v = .slice none 0 0 ↔ pre = [])) ∧ Below w.heap.size w W)
    (fun _ _ _ => False)
    (OwnFrom.and (Own.from (holdsRow_own w.heap.size w.heap.size 22 9 1 (fun pre : List ByteArray => pre.length) (fun pre => pre.map Value.string) (fun pre v => v = .slice none 0 0 ↔ pre = [])) _) (ownFrom_below (Nat.le_refl _) (by simp)))
    (fun _ _ _ _ _ hs _ _ => hs)
    ⟨⟨_, bO, World.ownsRow_nil _ _ _ _, by simp⟩, hB0⟩
    (fun x => { tmps := #[.slice none 0 0, .func (.func 47) #[] #[.pointer (some ⟨Bs, 0, none⟩)], .pointer (some ⟨w.heap.size, 0, none⟩), undef, .slice none 0 0, .string x, .func (.func 47) #[] #[.pointer (some ⟨Bs, 0, none⟩)], .string x, undef, undef, undef, undef, undef], defers := [] }) ?assign ?body ?done ?stop
  case assign =>
    intro l x W K hK
    gi_wp2
    exact hK
  case body =>
    rintro l pre x W ⟨⟨v, hv, hrow, hnil⟩, hB⟩ hlt
    have hc := hv.cell
    gi_wp2_with (gi_at_builtin; refine wpListIn_append_own _ rfl _ _ 22 rfl w.heap.size 9 i0 (.string ⟨#[]⟩) 1 16 Try.underlying22 hi hz0 hz1 hz2 rfl (by decide) _ _ _ rfl (hrow.alloc _) ⟨W.heap.size, 0, none⟩ 1 1 [.string x] rfl rfl (cell_one_new _ _ _) (by simp [Value.oneCell']) (by simp only [maxLen]; omega) (by omega) (by have := hB.size; simp; omega) ?_; intro v' w1 hown' hgrow _; obtain ⟨g', cap', rfl⟩ := ownsRow_succ hown'; obtain ⟨hv1, hv2, hr2, hk2, hb2⟩ := hv.appended (by decide) hrow hB.size (Nat.le_refl _) hown' hgrow; have hc1 := hv1.cell; have hf1 := hv1.frozen)
    exact ⟨hk2.from _, hb2, ⟨_, hv2, by simpa using hr2, by simp⟩, hB.trans hb2⟩
  case done =>
    rintro D ys W hD rfl ⟨⟨v, hv, hrow, hnil⟩, hB⟩ hK
    have hc := hv.cell
    gi_wp2
    refine ⟨by simp, .inl ⟨_, _, rfl, run_takeDeferred hK, ?_⟩⟩
    rw [upto_length] at hrow
    exact ⟨_, results_tmp rfl _ _ _, v, rfl, ownsRow_putObj hrow _ hK rfl, hnil, hB.trans (belowK_b (w := w) (Nat.le_refl _) W D _ _ (by simp at hD; omega) hK rfl rfl)⟩
  case stop =>
    rintro D c pre W _ _ h _
    exact h.elim

end Go.Proofs.Ytdfeadgholpcgaa.Seq
end

section
set_option linter.unusedVariables false
set_option linter.unusedSimpArgs false
namespace Go.Proofs.Ytdfeadgholpcgaa.Seq
open Go Go.Proofs Go.RowKit Go.Shelf Go.Sort

set_option maxHeartbeats 1000000 in
theorem collect_in (n : Nat) (hn : 4 ≤ n) (Bs len cap : Nat) (a : Option Addr) (Sx : Nat → ByteArray) (hlen : len ≤ 4611686018427387904) (hbytes : len * 16 ≤ 140737488355328) (w : World)
    (hBs : Bs < w.heap.size) (hc : w.cell? ⟨Bs, 0, none⟩ = some (.slice a len cap)) (hI : Strs w.heap.size w a len Sx) :
    CallsIn Fence.wide n Try.prog 45 #[.func (.func 47) #[] #[.pointer (some ⟨Bs, 0, none⟩)]] w fun e W' => ∃ v, e = .returned v ∧ W'.ownsRow w.heap.size 9 1 v len ((upto Sx len).map Value.string) ∧ (v = .slice none 0 0 ↔ upto Sx len = []) ∧ Below w.heap.size w W' := by
  have h1 : 1 ≤ n := by omega
  have h66 : Fence.wide.fn 66 := trivial
  refine callsIn_of_wp Try.func45 rfl trivial ?_ rfl
  simp only [Try.ntmps45, List.size_toArray, List.length_cons, List.length_nil, Nat.reduceAdd, Nat.reduceSub, Array.replicate_succ, Array.replicate_zero, List.push_toArray, List.append_toArray, List.nil_append, List.cons_append]
  gi_wp2_with (gi_at_call 66; refine (appendSeq_in Fence.wide (n - 1) trivial trivial rfl (by omega) Bs len cap a Sx hlen hbytes _ hBs hc hI).mono ?_; rintro e w' ⟨v, rfl, hrow, hnil, hb⟩)
  go_ret
  exact ⟨v, rfl, hrow, hnil, hb⟩

def srt (l : List ByteArray) : List (List UInt8) := (l.map fun s => s.data.toList).mergeSort fun x y => decide (x ≤ y)

set_option maxRecDepth 100000 in
set_option maxHeartbeats 2000000 in
theorem sorted_in (n : Nat) (hn : 5 ≤ n) (Bs len cap : Nat) (a : Option Addr) (Sx : Nat → ByteArray) (hlen : len < 4611686018427387904) (hbytes : len * 16 ≤ 140737488355328) (w : World)
    (hBs : Bs < w.heap.size) (hc : w.cell? ⟨Bs, 0, none⟩ = some (.slice a len cap)) (hI : Strs w.heap.size w a len Sx) :
    CallsIn Fence.wide n Try.prog 18 #[.func (.func 47) #[] #[.pointer (some ⟨Bs, 0, none⟩)]] w fun e W' => ∃ v, e = .returned v ∧ W'.ownsRow w.heap.size 9 1 v len ((srt (upto Sx len)).map encStr) ∧ (v = .slice none 0 0 ↔ upto Sx len = []) ∧ Below w.heap.size w W' := by
  have h1 : 1 ≤ n := by omega
  have h45 : Fence.wide.fn 45 := trivial
  have h46 : Fence.wide.fn 46 := trivial
  have e46 : ∀ args w, (callFunc 46 args).run Try.prog w = .ok (.enter 46 args) w := enters_of Try.func46 (by kernel_rfl) rfl
  refine callsIn_of_wp Try.func18 rfl trivial ?_ rfl
  simp only [Try.ntmps18, List.size_toArray, List.length_cons, List.length_nil, Nat.reduceAdd, Nat.reduceSub, Array.replicate_succ, Array.replicate_zero, List.push_toArray, List.append_toArray, List.nil_append, List.cons_append]
  gi_wp2_with (gi_at_call 45; refine (collect_in (n - 1) (by omega) Bs len cap a Sx (Nat.le_of_lt hlen) hbytes _ hBs hc hI).mono ?_; rintro e W ⟨v, rfl, hrow, hnil, hb⟩)
  have hul : (upto Sx len).length = len := upto_length Sx len
  generalize hss : (upto Sx len).map (fun s => s.data.toList) = ss
  have hsl : ss.length = len := by rw [← hss, List.length_map, hul]
  have henc : (upto Sx len).map Value.string = ss.map encStr := by
    rw [← hss, List.map_map]
    apply List.map_congr_left
    intro s _
    simp [encStr]
  rw [henc] at hrow
  rcases hrow.2 with ⟨rfl, hz⟩ | ⟨gb, cap', cur, rfl, hbase, hgb, r1, r2, r3, r4⟩
  · subst hz
    have hs0 : ss = [] := List.eq_nil_of_length_eq_zero hsl
    subst hs0
    gi_wp2_with (gi_at_call 46; refine (callsIn_wide.2 (Try.slices_Sort_string_none none 0 W)).mono ?_; rintro e w' ⟨rfl, rfl⟩)
    go_ret
    exact ⟨.slice none 0 0, rfl, by simpa [srt, upto] using hrow, by simp [upto], hb⟩
  · have hH : Holds encStr W gb 0 ss.toArray := holds_of_block hgb (by simpa [hsl] using r4)
    have hgl : gb < W.heap.size := (Array.getElem?_eq_some_iff.1 hgb).1
    subst hsl
    have cS := callsIn_wide (n := n - 1).2 (Try.slices_Sort_string gb 0 cap' ss W hH hgl hlen)
    gi_wp2_with (gi_at_call 46; refine cS.mono ?_; rintro e w' ⟨rfl, nn, os, rfl⟩)
    go_ret
    exact ⟨_, rfl, by unfold srt; rw [hss]; exact ownsRow_sorted (by simp) hbase hgb r1 r2 r3, hnil, hb.grown (grownBy_sorted _) hb.size (fun j hj => by cases hj; exact hbase)⟩

theorem sorted_calls (Bs len cap : Nat) (a : Option Addr) (Sx : Nat → ByteArray) (hlen : len < 4611686018427387904) (hbytes : len * 16 ≤ 140737488355328) (w : World)
    (hBs : Bs < w.heap.size) (hc : w.cell? ⟨Bs, 0, none⟩ = some (.slice a len cap)) (hI : Strs w.heap.size w a len Sx) :
    Calls Try.prog 18 #[.func (.func 47) #[] #[.pointer (some ⟨Bs, 0, none⟩)]] w fun e W' => ∃ v, e = .returned v ∧ W'.ownsRow w.heap.size 9 1 v len ((srt (upto Sx len)).map encStr) ∧ (v = .slice none 0 0 ↔ upto Sx len = []) ∧ Below w.heap.size w W' :=
  callsIn_wide.1 (sorted_in 5 (Nat.le_refl _) Bs len cap a Sx hlen hbytes w hBs hc hI)

end Go.Proofs.Ytdfeadgholpcgaa.Seq
end

section
set_option linter.unusedVariables false
set_option linter.unusedSimpArgs false
namespace Go.Proofs.Ytdfeadgholpcgaa
open Go.AW Go.RowKit Go.Spec Go.Proofs.Ytdfeadgholpcgaa.Ty Go.Proofs.Ytdfeadgholpcgaa.Seq

def mkB (l : List UInt8) : ByteArray := ⟨l.toArray⟩
theorem mkB_inv (s : ByteArray) : mkB s.data.toList = s := by simp [mkB]
def sortB (l : List ByteArray) : List ByteArray := (srt l).map mkB
def compactB (l : List ByteArray) : List ByteArray := (Lib.compact (l.map fun s => s.data.toList)).map mkB
theorem sortB_length (l : List ByteArray) : (sortB l).length = l.length := by simp [sortB, srt]

theorem repL_scs {g : G} : ∀ (l : List ByteArray), RepL g (scs l) (l.map Value.string)
  | [] => repL_nil
  | s :: l => by simp only [scs, List.map_cons, repL_cons, scell, Rep]; exact ⟨trivial, repL_scs l⟩
theorem scs_repL {g : G} : ∀ {l : List ByteArray} {ys : List Value}, RepL g (scs l) ys → ys = l.map Value.string
  | [], ys, h => by simpa only [scs, List.map_nil, RepL] using h
  | s :: l, ys, h => by
    simp only [scs, List.map_cons, RepL, scell, Rep] at h
    obtain ⟨y, r, rfl, rfl, h⟩ := h
    rw [List.map_cons, scs_repL h]
theorem enc_mkB (xs : List (List UInt8)) : xs.map encStr = (xs.map mkB).map Value.string := by simp [encStr, mkB]

/-- A slice of texts of its own. -/
def Row (σ0 σ : St) (av : AV) (l : List ByteArray) : Prop :=
  (av = .sl .full 0 [] ∧ l = []) ∨ ∃ id, av = .vec id l.length 1 ∧ σ.box id = some (scs l) ∧ σ0.nxt ≤ id

theorem Ext.addBox (σ : St) (cs : List AV) : Ext σ (σ.addBox cs) :=
  ⟨by simp [St.addBox], fun i hi => by simp only [St.addBox]; exact upd_ne _ _ _ _ (by omega), fun _ _ => rfl, fun _ _ => rfl, rfl, rfl, rfl⟩

set_option maxRecDepth 100000 in
set_option maxHeartbeats 1000000 in
theorem values_calls (ol : AW.Own) (l : List ByteArray) (σ : St) (K : AV → St → Prop) (h : K (.fn (.func 47) [] [.ptr σ.nxt 0]) (σ.addBox [.sl ol l.length (scs l)])) : ACalls Try.prog 19 [.sl ol l.length (scs l)] σ K := by
  refine acalls_of hm Try.func19 rfl (by decide) rfl rfl (by kernel_rfl) ?_
  simp [Try.f19]
  exact h

theorem upto_get (l : List ByteArray) : upto (fun j => l.getD j ⟨#[]⟩) l.length = l := by
  apply List.ext_getElem
  · simp [upto]
  · intro i h1 h2
    simp [upto, List.getD_eq_getElem?_getD, h2]

theorem sortedA (bid : Nat) (ol : AW.Own) (l : List ByteArray) (σ : St) (K : AV → St → Prop) (hbox : σ.box bid = some [.sl ol l.length (scs l)]) (hl : l.length * 16 ≤ 140737488355328)
    (h : ∀ av σ', Ext σ σ' → Row σ σ' av (sortB l) → K av σ') : ACalls Try.prog 18 [.fn (.func 47) [] [.ptr bid 0]] σ K := by
  refine ⟨⟨_, Try.func18, rfl, by decide⟩, fun g wE w vals hr hI => ?_⟩
  obtain ⟨vals⟩ := vals
  simp only [RepL] at hr
  obtain ⟨y, r, e, hy, rfl⟩ := hr
  subst e
  simp only [Rep] at hy
  obtain ⟨⟨a1⟩, ⟨a2⟩, rfl, h1, h2⟩ := hy
  simp only [RepL] at h1 h2
  subst h1
  obtain ⟨p, r, rfl, hp, rfl⟩ := h2
  simp only [Rep] at hp
  obtain ⟨B, hB, rfl⟩ := hp
  obtain ⟨B', arr, ty, k1, k2, k3, k4, k5⟩ := hI.box bid _ hbox
  rw [hB] at k1
  injection k1 with k1
  subst k1
  have hB3 := (hI.bxw bid B hB).2.1
  simp only [List.length_cons, List.length_nil, RepL] at k4
  obtain ⟨y, r, e, hy, _⟩ := k4
  have hc : w.cell? ⟨B, 0, none⟩ = some y := by
    rw [block_cell k2]
    have : (arr.toList.take (0 + 1))[0]? = some y := by rw [e]; rfl
    simpa using this
  simp only [Rep] at hy
  obtain ⟨a, cap, rfl, c1, c2, c3, _⟩ := hy
  have hI2 : Strs w.heap.size w a l.length (fun j => l.getD j ⟨#[]⟩) := by
    rcases c3 with c3 | ⟨b, off, rfl, c3⟩
    · left
      have := congrArg List.length c3
      simpa using this
    · by_cases hz : l.length = 0
      · exact .inl hz
      right
      have hcell : ∀ j, j < l.length → g.imm b (off + j) = some (.string (l.getD j ⟨#[]⟩)) := fun j hj => by
        obtain ⟨y, hy, hr⟩ := repAt_get c3 j (scell l[j]) (scs_get (List.getElem?_eq_getElem hj))
        simp only [scell, Rep] at hr
        subst hr
        rw [hy]
        simp [List.getD_eq_getElem?_getD, hj]
      exact ⟨b, off, rfl, imm_lt hI (hcell 0 (by omega)), fun j hj => hI.imm _ _ _ (hcell j hj)⟩
  refine (sorted_calls B l.length cap a _ (by omega) hl w hB3 hc hI2).mono ?_
  rintro e w' ⟨v, rfl, hrow, hnil, hb⟩
  rw [upto_get] at hrow hnil
  rcases hrow.2 with ⟨rfl, hz⟩ | ⟨gb, cap', cur, rfl, hbase, hgb, r1, r2, r3, r4⟩
  · have hl0 : l = [] := List.eq_nil_of_length_eq_zero hz
    subst hl0
    refine ⟨.sl .full 0 [], σ, g, _, h _ _ (Ext.refl _) (.inl ⟨rfl, by simp [sortB, srt]⟩), rfl, G.le.refl _, ?_, hI.grows hb⟩
    simp only [Rep, OwnOK]
    exact ⟨none, 0, rfl, Nat.le_refl _, Nat.zero_le _, .inl trivial, rfl⟩
  · obtain ⟨g', q1, q2, q3, q4⟩ := hI.newbox hb (some (cap', 1)) hbase hgb (cs := scs (sortB l)) (by rw [scs_length, sortB_length]; omega) (by
      rw [scs_length, sortB_length, ← Nat.mul_one l.length, r4, enc_mkB]
      exact repL_scs _) (fun cap2 s2 e' => by
      injection e' with e'
      injection e' with e1 e2
      subst e1 e2
      exact r3)
    refine ⟨.vec σ.nxt l.length 1, σ.addBox (scs (sortB l)), g', _, h _ _ (Ext.addBox σ _) (.inr ⟨σ.nxt, by rw [sortB_length], by simp [St.addBox, upd], Nat.le_refl _⟩), rfl, q1, ?_, q4⟩
    simp only [Rep]
    exact ⟨gb, cap', q2, q3, rfl, r1, r2⟩

theorem setsL_get_ge {α : Type} : ∀ (vs l : List α) (o i : Nat), o + vs.length ≤ i → (setsL l o vs)[i]? = l[i]?
  | [], l, o, i, h => rfl
  | v :: r, l, o, i, h => by
    simp only [List.length_cons] at h
    simp only [setsL]
    rw [setsL_get_ge r _ _ _ (by omega), List.getElem?_set_ne (by omega)]

theorem putRow_block {α : Type} [Inhabited α] {w : World} {b : Nat} {arr : Array Value} {ty : TypeId} {fz : Nat × Nat} (enc : α → Value) (d : Array α) (h : w.heap[b]? = some (.cells arr ty fz)) (hd : d.size ≤ arr.size) :
    (Sort.putRow enc w b 0 d).heap[b]? = (w.setCells b 0 (d.toList.map enc)).heap[b]? := by
  obtain ⟨arr', k1, k2⟩ := setCells_block (b := b) (d.toList.map enc) 0 w arr h
  rw [k1]
  simp only [Sort.putRow, Sort.mapBlock, Array.getElem?_modify, if_true, h, Option.map_some, Sort.onCells]
  have : Sort.putCells enc 0 d arr = arr' := by
    rw [← Array.toList_inj, k2]
    apply List.ext_getElem?
    intro i
    simp only [Sort.putCells, Array.getElem?_toList, Array.getElem?_mapIdx, Nat.zero_add, Nat.sub_zero, Nat.zero_le, true_and]
    by_cases hi : i < d.size
    · have h1 : (d.toList.map enc)[i]? = some (enc d[i]) := by simp [hi]
      have h2 := setsL_get_in (d.toList.map enc) arr.toList 0 i _ h1 (by simp; exact hd)
      rw [Nat.zero_add] at h2
      rw [h2, Array.getElem?_eq_getElem (by omega), Option.map_some, if_pos hi, getElem!_pos d i hi]
    · rw [setsL_get_ge _ _ _ _ (by simp; omega)]
      simp [hi]
  rw [this]

theorem row_below {α : Type} [Inhabited α] {w : World} {b n : Nat} {arr : Array Value} {ty : TypeId} {fz : Nat × Nat} (enc : α → Value) (d : Array α) (os : Array Obj) (h : w.heap[b]? = some (.cells arr ty fz)) (hd : d.size ≤ arr.size) :
    Below (w.setCells b 0 (d.toList.map enc)).heap.size (w.setCells b 0 (d.toList.map enc)) (Sort.grow (Sort.putRow enc (Sort.ahead w n) b 0 d) os) := by
  obtain ⟨s1, s2, s3, s4⟩ := setCells_rest (b := b) (d.toList.map enc) 0 w
  have hbl := putRow_block enc d h hd
  refine ⟨s1.symm, s2.symm, s3.symm, by rw [s4]; simp [Sort.grow, Sort.putRow, Sort.mapBlock, Sort.ahead], fun k hk => ?_⟩
  rw [s4] at hk
  have e1 : (Sort.grow (Sort.putRow enc (Sort.ahead w n) b 0 d) os).heap[k]? = (Sort.putRow enc w b 0 d).heap[k]? := by
    show ((Sort.putRow enc w b 0 d).heap ++ os)[k]? = _
    rw [Array.getElem?_append_left (by simpa [Sort.putRow, Sort.mapBlock] using hk)]
  rw [e1]
  by_cases e : k = b
  · subst e; exact hbl
  · rw [setCells_other e]
    simp only [Sort.putRow, Sort.mapBlock, Array.getElem?_modify]
    rw [if_neg (Ne.symm e)]

theorem compactA (σ0 : St) (av : AV) (l : List ByteArray) (σ : St) (K : AV → St → Prop) (hq : σ0.Wf) (hx : Ext σ0 σ) (hrow : Row σ0 σ av l) (hl : l.length ≤ 9223372036854775807)
    (h : ∀ ol σ', Ext σ0 σ' → K (.sl ol (compactB l).length (scs (compactB l))) σ') : ACalls Try.prog 17 [av] σ K := by
  refine ⟨⟨_, Try.func17, rfl, by decide⟩, fun g wE w vals hr hI => ?_⟩
  obtain ⟨vals⟩ := vals
  simp only [RepL] at hr
  obtain ⟨y, r, e, hy, rfl⟩ := hr
  subst e
  rcases hrow with ⟨rfl, rfl⟩ | ⟨id, rfl, hbox, hid⟩
  · simp only [Rep] at hy
    obtain ⟨a, cap, rfl, c1, c2, c3, c4⟩ := hy
    refine (Try.slices_Compact_string_empty a cap w).mono ?_
    rintro e w' ⟨rfl, rfl⟩
    have e0 : compactB [] = [] := rfl
    refine ⟨.sl .raw 0 [], σ, g, _, by have := h .raw σ hx; rwa [e0] at this, rfl, G.le.refl _, ?_, hI⟩
    simp only [Rep, OwnOK]
    exact ⟨a, cap, rfl, c1, c2, c3, trivial⟩
  · simp only [Rep] at hy
    obtain ⟨b, cap, hb, hv, rfl, c1, c2⟩ := hy
    obtain ⟨b', arr, ty, k1, k2, k3, k4, k5⟩ := hI.box id _ hbox
    rw [hb] at k1
    injection k1 with k1
    subst k1
    rw [scs_length] at k3 k4
    have hcells := scs_repL k4
    have hH : Sort.Holds encStr w b 0 (l.map fun s => s.data.toList).toArray := fun j hj => by
      have hj' : j < l.length := by simpa using hj
      refine ⟨?_, by simp [World.frozen?, k2]⟩
      rw [block_cell k2, Nat.zero_add]
      have h1 : (arr.toList.take l.length)[j]? = some (.string l[j]) := by rw [hcells]; simp [hj']
      rw [List.getElem?_take, if_pos hj'] at h1
      rw [h1, getElem!_pos _ j hj]
      simp [encStr]
    have hcal := Try.slices_Compact_string b 0 cap (l.map fun s => s.data.toList) w hH (by simpa using hl) (by simpa using c1)
    rw [List.length_map] at hcal
    refine hcal.mono ?_
    rintro e w' ⟨rfl, q, rfl⟩
    generalize hz : Lib.compact (l.map fun s => s.data.toList) = z
    have hzl : z.length ≤ l.length := by rw [← hz]; simpa using Lib.compact_length_le (l.map fun s => s.data.toList)
    have hcB : compactB l = z.map mkB := by unfold compactB; rw [hz]
    let d : Array (List UInt8) := (z ++ List.replicate (l.length - z.length) []).toArray
    have hd : d.size ≤ arr.size := by simp only [d, List.size_toArray, List.length_append, List.length_replicate]; omega
    have hI1 := hI.setbox' (o := 0) (cs' := scs (compactB l)) (ys := d.toList.map encStr) hbox hb (fun arr2 ⟨ty2, ha2⟩ p1 p2 => by
      rw [k2] at ha2
      injection ha2 with ha2
      injection ha2 with ha2 _
      subst ha2
      rw [hcB, scs_length, List.length_map]
      refine ⟨by omega, ?_⟩
      have e2 : d.toList.map encStr = z.map encStr ++ List.replicate (l.length - z.length) (encStr []) := by simp [d]
      have e3 : (setsL arr.toList 0 (d.toList.map encStr)).take z.length = z.map encStr := by
        have := setsL_end (d.toList.map encStr) arr.toList 0 (by simp only [List.length_map, Array.length_toList]; omega)
        rw [Nat.zero_add, List.take_zero, List.nil_append] at this
        have h2 := congrArg (List.take z.length) this
        rw [List.take_take, Nat.min_eq_left (by simp [d]), e2, List.take_left' (by simp)] at h2
        rw [e2]
        exact h2
      rw [e3, enc_mkB]
      exact repL_scs _)
    have hbel := row_below (n := q) encStr d #[] k2 hd
    rw [Sort.grow_empty] at hbel
    have hI2 := hI1.grows hbel
    obtain ⟨g', p1, p2, p3⟩ := hI2.freeze (id := id) (b := b) (cs := scs (compactB l)) (by simp [upd]) hb
    refine ⟨.sl .raw (compactB l).length (scs (compactB l)), _, g', _, h .raw _ ?_, rfl, p1, ?_, p3⟩
    · refine ⟨hx.nxt, fun i hi => ?_, hx.front, hx.mp, ?_, hx.qb, hx.mv⟩
      · have hne : i ≠ id := by omega
        simp only [upd_ne _ _ _ _ hne]
        exact hx.box i hi
      · show (σ.q && decide (σ.qb ≤ id)) = σ0.q
        rw [hx.q, hx.qb]
        have : σ0.qb ≤ id := Nat.le_trans hq.1 hid
        simp [this]
    · simp only [Rep, OwnOK]
      rw [show (compactB l).length = z.length from by rw [hcB, List.length_map]]
      exact ⟨_, cap, rfl, by omega, c2, .inr ⟨b, 0, rfl, p2⟩, trivial⟩

theorem len64_calls (x : Nat) (xi : Int) (σ : St) (K : AV → St → Prop) (hx : x < 18446744073709551616) (ex : xi = x) (h : K (.v (.int .i64 (Lib.bitLen x))) σ) : ACalls Try.prog 50 [.v (.int .u64 xi)] σ K := by
  subst ex
  refine acalls_ext ⟨_, Try.func50, rfl, by decide⟩ (x := .int .i64 (Lib.bitLen x)) (fun g wE w vals hr hI => ?_) h
  obtain ⟨vals⟩ := vals
  simp only [RepL] at hr
  obtain ⟨y, r, e, hy, rfl⟩ := hr
  subst e
  simp only [Rep] at hy
  subst hy
  refine (Try.bits_Len64 x w (by omega) (by omega)).mono ?_
  rintro e w' ⟨rfl, rfl⟩
  exact ⟨by simp, Below.refl _ _⟩

end Go.Proofs.Ytdfeadgholpcgaa
end

section
set_option linter.unusedVariables false
set_option linter.unusedSimpArgs false
namespace Go.Spec
open Go.AW Go.RowKit

theorem bl_lt : ∀ (x y : List UInt8), Op.bytesLess x y = decide (x < y)
  | [], [] => by simp [Op.bytesLess]
  | _ :: _, [] => by simp [Op.bytesLess]
  | [], _ :: _ => by simp [Op.bytesLess]
  | a :: x, b :: y => by
    rw [Op.bytesLess, bl_lt x y]
    simp only [List.cons_lt_cons_iff]
    by_cases h1 : a < b <;> by_cases h2 : a = b <;> by_cases h3 : x < y <;> simp [h1, h2, h3]
/-- Strictly in order. -/
def Rising (d : List ByteArray) : Prop := d.Pairwise fun a b => ltB a b = true
/-- A list's dictionary. -/
structure IsDict (d l : List ByteArray) : Prop where
  rise : Rising d
  mem : ∀ s, s ∈ d ↔ s ∈ l
theorem ltB_irrefl (a : ByteArray) : ltB a a = false := bl_irrefl _
theorem ltB_trans {a b c : ByteArray} (h : ltB a b = true) (k : ltB b c = true) : ltB a c = true := bl_trans _ _ _ h k
theorem bytes_eq {a b : ByteArray} (h : a.toList = b.toList) : a = b := by
  rw [ByteArray.toList_eq, ByteArray.toList_eq] at h
  exact ByteArray.ext (Array.toList_inj.mp h)
theorem ltB_total (a b : ByteArray) : ltB a b = true ∨ a = b ∨ ltB b a = true := by
  rcases bl_total a.toList b.toList with h | h | h
  · exact .inl h
  · exact .inr (.inl (bytes_eq h))
  · exact .inr (.inr h)
theorem Rising.unique {d d' : List ByteArray} (h : Rising d) (h' : Rising d') (hm : ∀ s, s ∈ d ↔ s ∈ d') : d = d' := by
  have nd : ∀ {d : List ByteArray}, Rising d → d.Nodup := fun h => h.imp fun {a b} hab e => by subst e; rw [ltB_irrefl] at hab; cases hab
  refine List.Perm.eq_of_pairwise (le := fun a b => ltB a b = true) (fun a b _ _ h1 h2 => ?_) h h' ((List.perm_ext_iff_of_nodup (nd h) (nd h')).2 hm)
  have := ltB_trans h1 h2
  rw [ltB_irrefl] at this
  cases this
theorem IsDict.unique {d d' l : List ByteArray} (h : IsDict d l) (h' : IsDict d' l) : d = d' := h.rise.unique h'.rise fun s => (h.mem s).trans (h'.mem s).symm

theorem compact_step {d : List (List UInt8)} (hs : d.Pairwise fun x y => x ≤ y) : ∀ m, m ≤ d.length → (Lib.compactUpTo d.toArray m).Pairwise (fun x y => x < y) ∧ (∀ x, x ∈ Lib.compactUpTo d.toArray m ↔ x ∈ d.take m) ∧ (∀ x ∈ Lib.compactUpTo d.toArray m, 0 < m ∧ x ≤ d.toArray[m - 1]!)
  | 0, _ => by simp [Lib.compactUpTo]
  | m + 1, hm => by
    obtain ⟨h1, h2, h3⟩ := compact_step hs m (by omega)
    have hget : d.toArray[m]! = d[m] := by simp [getElem!_pos, show m < d.length by omega]
    have hmono : 0 < m → d.toArray[m - 1]! ≤ d[m] := fun h0 => by
      have : d.toArray[m - 1]! = d[m - 1] := by simp [getElem!_pos, show m - 1 < d.length by omega]
      rw [this]
      exact List.pairwise_iff_getElem.1 hs (m - 1) m (by omega) (by omega) (by omega)
    rw [Lib.compactUpTo_succ, List.take_succ_eq_append_getElem (by omega), hget, Nat.add_sub_cancel, hget]
    by_cases hk : Lib.keeps d.toArray m = true
    · rw [if_pos hk]
      refine ⟨?_, fun x => by rw [List.mem_append, List.mem_append, h2], fun x hx => ⟨by omega, ?_⟩⟩
      · rw [List.pairwise_append]
        refine ⟨h1, by simp, fun a ha b hb => ?_⟩
        rw [List.mem_singleton] at hb
        subst hb
        obtain ⟨h0, hle⟩ := h3 a ha
        have hne : d.toArray[m]! ≠ d.toArray[m - 1]! := by
          simp only [Lib.keeps, decide_eq_true_eq] at hk
          rcases hk with hk | hk
          · omega
          · exact hk
        rw [hget] at hne
        have hlt : d.toArray[m - 1]! < d[m] := Std.lt_of_le_of_ne (hmono h0) fun e => hne e.symm
        exact Std.lt_of_le_of_lt hle hlt
      · rw [List.mem_append, List.mem_singleton] at hx
        rcases hx with hx | rfl
        · obtain ⟨h0, hle⟩ := h3 x hx
          exact List.le_trans hle (hmono h0)
        · exact List.le_refl _
    · rw [if_neg hk, List.append_nil]
      have hne : ¬ (m = 0 ∨ d.toArray[m]! ≠ d.toArray[m - 1]!) := by simpa only [Lib.keeps, decide_eq_true_eq] using hk
      have h0 : 0 < m := by omega
      have heq : d[m] = d.toArray[m - 1]! := by
        rw [← hget]
        exact Classical.byContradiction fun q => hne (.inr q)
      have hm1 : d.toArray[m - 1]! = d[m - 1] := by simp [getElem!_pos, show m - 1 < d.length by omega]
      refine ⟨h1, fun x => ?_, fun x hx => ⟨by omega, by rw [heq]; exact (h3 x hx).2⟩⟩
      rw [h2, List.mem_append, List.mem_singleton]
      refine ⟨.inl, fun h => h.elim id fun e => ?_⟩
      rw [e, heq, hm1]
      exact List.mem_take_iff_getElem.2 ⟨m - 1, by omega, rfl⟩
end Go.Spec
namespace Go.Proofs.Ytdfeadgholpcgaa
open Go.AW Go.RowKit Go.Spec Go.Proofs.Ytdfeadgholpcgaa.Seq
/-- The words that the program makes. -/
def dictB (l : List ByteArray) : List ByteArray := compactB (sortB l)
theorem dictB_is (l : List ByteArray) : IsDict (dictB l) l := by
  have hs : (srt l).Pairwise fun x y => x ≤ y := by
    have tr : ∀ a b c : List UInt8, decide (a ≤ b) = true → decide (b ≤ c) = true → decide (a ≤ c) = true := fun a b c h1 h2 => by simp only [decide_eq_true_eq] at *; exact List.le_trans h1 h2
    have to : ∀ a b : List UInt8, (decide (a ≤ b) || decide (b ≤ a)) = true := fun a b => by simp only [Bool.or_eq_true, decide_eq_true_eq]; exact List.le_total a b
    exact (List.pairwise_mergeSort tr to _).imp fun h => by simpa using h
  have e1 : (sortB l).map (fun s => s.data.toList) = srt l := by
    unfold sortB
    rw [List.map_map]
    exact (List.map_congr_left fun a _ => by simp [mkB]).trans (List.map_id _)
  have hc := compact_step hs (srt l).length (Nat.le_refl _)
  rw [List.take_length] at hc
  have e2 : dictB l = (Lib.compact (srt l)).map mkB := by unfold dictB compactB; rw [e1]
  have hmem : ∀ x, x ∈ srt l ↔ x ∈ l.map fun s => s.data.toList := fun x => (List.mergeSort_perm _ _).mem_iff
  rw [e2]
  refine ⟨?_, fun s => ?_⟩
  · unfold Rising
    rw [List.pairwise_map]
    refine hc.1.imp fun {a b} h => ?_
    simp only [ltB]
    rw [bl_lt]
    have : ∀ a : List UInt8, (mkB a).toList = a := fun a => by rw [ByteArray.toList_eq]; simp [mkB]
    rw [this, this]
    simpa using h
  · rw [List.mem_map]
    constructor
    · rintro ⟨a, ha, rfl⟩
      have := (hmem a).1 ((hc.2.1 a).1 ha)
      obtain ⟨s, hs, rfl⟩ := List.mem_map.1 this
      rwa [mkB_inv]
    · intro h
      exact ⟨s.data.toList, (hc.2.1 _).2 ((hmem _).2 (List.mem_map.2 ⟨s, h, rfl⟩)), mkB_inv s⟩
end Go.Proofs.Ytdfeadgholpcgaa
end

section
set_option linter.unusedVariables false
set_option linter.unusedSimpArgs false
namespace Go.Spec
open Go.AW Go.RowKit

def longB (l : List ByteArray) : Bool := decide (65536 < l.length) || l.any fun s => decide (64 < s.size)
/-- A text's number in a dictionary. -/
def numOf (d : List ByteArray) (s : ByteArray) : Nat := d.findIdx fun x => !ltB x s
theorem numOf_eq {d : List ByteArray} {s : ByteArray} {i : Nat} (hi : i ≤ d.length) (h : ∀ k (hk : k < d.length), ltB d[k] s = true ↔ k < i) : numOf d s = i := by
  unfold numOf
  rcases Nat.lt_or_ge i d.length with q | q
  · rw [List.findIdx_eq q]
    refine ⟨?_, fun j hj => ?_⟩
    · have := h i q
      cases hc : ltB d[i] s with
      | true => have := this.1 hc; omega
      | false => rfl
    · rw [(h j (by omega)).2 hj]; rfl
  · have : i = d.length := by omega
    subst this
    refine List.findIdx_eq_length_of_false fun x hx => ?_
    obtain ⟨k, hk, rfl⟩ := List.mem_iff_getElem.1 hx
    rw [(h k hk).2 hk]; rfl
theorem numOf_le (d : List ByteArray) (s : ByteArray) : numOf d s ≤ d.length := List.findIdx_le_length
def numsOf (d l : List ByteArray) : List Nat := l.map (numOf d)
def plainS (l : List ByteArray) : List UInt8 := 0 :: (uintB l.length ++ textsB l)
def codedS (d l : List ByteArray) : List UInt8 := 1 :: (uintB l.length ++ (uintB d.length ++ (textsB d ++ (UInt8.ofNat (widthN (numsOf d l)) :: packB (widthN (numsOf d l)) (numsOf d l)))))
def withS (d l : List ByteArray) (c : Int) : List UInt8 × Nat :=
  if c = 0 ∨ c = 1 then (if longB l = true then ([], 3) else if c = 0 then (plainS l, 0) else (codedS d l, 0)) else ([], 1)
def bestS (d l : List ByteArray) : List UInt8 × Nat :=
  if longB l = true then ([], 3) else if (codedS d l).length < (plainS l).length then (codedS d l, 0) else (plainS l, 0)
theorem long_bound {l : List ByteArray} (h : longB l = false) : l.length ≤ 65536 ∧ (∀ s ∈ l, s.size ≤ 64) := by
  unfold longB at h
  simp only [Bool.or_eq_false_iff, decide_eq_false_iff_not, List.any_eq_false, decide_eq_true_eq] at h
  exact ⟨by omega, fun s hs => by have := h.2 s hs; omega⟩
theorem textsB_bound : ∀ {l : List ByteArray}, (∀ s ∈ l, s.size ≤ 64) → (textsB l).length ≤ 73 * l.length
  | [], _ => by simp
  | s :: l, h => by
    have h1 := textsB_bound (l := l) fun x hx => h x (List.mem_cons_of_mem _ hx)
    have h2 := h s List.mem_cons_self
    have h3 := uintB_length s.size
    have : textsB (s :: l) = textB s ++ textsB l := by simp [textsB]
    rw [this, List.length_append, textB_length, List.length_cons]
    omega
theorem dict_length {d l : List ByteArray} (h : IsDict d l) : d.length ≤ l.length := by
  have nd : d.Nodup := h.rise.imp fun {a b} hab e => by subst e; rw [ltB_irrefl] at hab; cases hab
  exact List.Nodup.length_le_of_subset nd fun s hs => (h.mem s).1 hs
end Go.Spec
end
