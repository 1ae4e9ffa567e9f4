/-
  ABSTRACT WALKS, part 7: all of 'evalE'; triples over code; calls. Over any program.
-/
import Derived.Test.YtdfeadgholpcgaaMb
import Derived.Lib.ConvBytes
import Derived.Laws.MakeOwn

section
set_option linter.unusedVariables false
set_option linter.unusedSimpArgs false
namespace Go.AW
open Go.RowKit

section
variable {P : Program}

/-- What an operation yields: a value, or nothing. -/
def Yields (v : Value) : Next → Prop
  | .value u => u = v
  | .skip => v = undef
  | _ => False

theorem parts_run {g : G} {ρ : List AV} {a : Act} (hρ : RepL g ρ a.tmps.toList) (ps : Array (Nat × Operand)) :
    (partsA ρ ps).map (·.1) = (ps.map fun (i, x) => (i, a.eval x)).toList.map (·.1) ∧ RepL g ((partsA ρ ps).map (·.2)) ((ps.map fun (i, x) => (i, a.eval x)).toList.map (·.2)) := by
  obtain ⟨l⟩ := ps
  simp only [partsA, List.map_toArray]
  induction l with
  | nil => exact ⟨rfl, repL_nil⟩
  | cons p l ih =>
    simp only [List.map_cons, List.cons.injEq, true_and, repL_cons]
    exact ⟨ih.1, ev_rep hρ p.2, ih.2⟩

theorem places_run : ∀ (l : List Field) (pl : List (Nat × Nat)) (w : World), placesA P l = some pl → (l.mapM fun (f : Field) => do pure (f.offset, ← sizeOf f.type) : Sem (List (Nat × Nat))).run P w = .ok pl w
  | [], pl, w, h => by simp only [placesA, Option.some.injEq] at h; subst h; simp
  | f :: r, pl, w, h => by
    simp only [placesA] at h
    split at h
    · rename_i s l hs hl
      injection h with h
      subst h
      have ih := places_run r l w hl
      simp only [List.mapM_cons, Sem.run_bind, sizeOf_run hs, Result.andThen_ok, Sem.run_pure, ih]
    · cases h

theorem evalE_run {σ σ' : St} {g : G} {wE w : World} {ρ : List AV} {a : Act} {o : Oper} {r : AV} (hI : Inv σ g wE w) (hρ : RepL g ρ a.tmps.toList) (h : evalE P σ ρ o.op = some (r, σ')) :
    ∃ nx v w' g', (execOp a.eval o).run P w = .ok nx w' ∧ Yields v nx ∧ g.le g' ∧ Rep g' r v ∧ Inv σ' g' wE w' := by
  obtain ⟨dst, op, ty, pos, after, guard⟩ := o
  dsimp only at h
  unfold evalE at h
  unfold execOp
  have hE := ev_rep hρ
  cases op <;> dsimp only at h ⊢ <;> try (simp at h; done)
  case alloc t =>
    obtain ⟨zs, hz, e⟩ := Option.map_eq_some_iff.1 h
    injection e with e1 e2
    subst e1 e2
    obtain ⟨z, i, hi, hiz, hr, hrun⟩ := zeroA_run hz g
    obtain ⟨g', k1, k2, k3⟩ := newbox_run hI t hr
    exact ⟨.value (.pointer (some ⟨w.heap.size, 0, none⟩)), _, _, g', by simp [Instr.alloc, hrun, newVar, newRow], rfl, k1, k2, k3⟩
  case box t x =>
    obtain ⟨cs, hc, e⟩ := Option.map_eq_some_iff.1 h
    injection e with e1 e2
    subst e1 e2
    obtain ⟨g', k1, k2, k3⟩ := newbox_run hI t (cellsL_rep hc (hE x)).1
    exact ⟨.value (.pointer (some ⟨w.heap.size, 0, none⟩)), _, _, g', by simp [Instr.box, newVar, newRow], rfl, k1, k2, k3⟩
  case store t x y =>
    split at h
    · rename_i id off vs sz ex ey es
      split at h
      · rename_i cs hc
        split at h
        · rename_i hcond
          obtain ⟨rfl, rfl⟩ := pair_inj h
          obtain ⟨hr, hat⟩ := cellsL_rep ey (hE y)
          have hx := hE x
          rw [ex] at hx
          obtain ⟨w', k1, k2⟩ := store_run (P := P) hI es hc hx hr hat hcond.1 hcond.2
          exact ⟨.skip, undef, w', g, by simp [k1], rfl, G.le.refl _, undef_rep _, k2⟩
        · cases h
      · cases h
    · cases h
  case build t ps =>
    obtain ⟨p1, p2⟩ := parts_run hρ ps
    split at h
    · rename_i pl zs hst
      obtain ⟨fs, hu, hz, hpl⟩ := structA_some hst
      obtain ⟨cs, hf, e⟩ := Option.map_eq_some_iff.1 h
      injection e with e1 e2
      subst e1 e2
      obtain ⟨z, i, hi, hiz, hr, hrun⟩ := zeroA_run hz g
      obtain ⟨arr, k1, k2⟩ := fillA_run (partsA ρ ps) _ zs cs z.cells hf hr p1 p2
      refine ⟨.value (.agg arr), .agg arr, w, g, ?_, rfl, G.le.refl _, by simp only [Rep]; exact ⟨_, rfl, k2⟩, hI⟩
      obtain ⟨fs⟩ := fs
      have hm := places_run fs pl w hpl
      have hpe : (fun i : Nat => (pl.toArray)[i]?) = fun i : Nat => pl[i]? := by
        funext i
        simp
      simp only [Instr.build, Sem.run_bind, hrun, Result.andThen_ok, run_underlying hu, List.mapM_toArray, Sem.run_map, hm]
      rw [hpe, k1]
      rfl
    · split at h
      · rename_i s zs hst
        obtain ⟨n, el, hu, hz, hs⟩ := arrA_some hst
        obtain ⟨cs, hf, e⟩ := Option.map_eq_some_iff.1 h
        injection e with e1 e2
        subst e1 e2
        obtain ⟨z, i, hi, hiz, hr, hrun⟩ := zeroA_run hz g
        obtain ⟨arr, k1, k2⟩ := fillA_run (partsA ρ ps) _ zs cs z.cells hf hr p1 p2
        refine ⟨.value (.agg arr), .agg arr, w, g, ?_, rfl, G.le.refl _, by simp only [Rep]; exact ⟨_, rfl, k2⟩, hI⟩
        simp only [Instr.build, Sem.run_bind, hrun, Result.andThen_ok, run_underlying hu, sizeOf_run hs]
        rw [k1]
        rfl
      · cases h
  case buildSlice t len ps =>
    obtain ⟨p1, p2⟩ := parts_run hρ ps
    split at h
    · rename_i e sz by_ he
      obtain ⟨hu, i, zs', hi, hsz', hby, hz', hzl, h0⟩ := elemA_some he
      split at h
      · rename_i zs hz
        split at h
        · rename_i hle
          obtain ⟨cs, hf, e'⟩ := Option.map_eq_some_iff.1 h
          injection e' with e1 e2
          subst e1 e2
          rw [hz] at hz'
          injection hz' with hz'
          subst hz'
          obtain ⟨z, i', hi', hiz, hr, hrun⟩ := zeroA_run hz g
          have hzr := zeros_rep hr (len * sz) (fun _ => by omega)
          obtain ⟨arr, k1, k2⟩ := fillA_run (partsA ρ ps) _ _ cs _ hf hzr p1 p2
          obtain ⟨g', q1, q2, q3⟩ := newrow_run hI e k2
          have hs : szT P e = some sz := by unfold szT; rw [hi]; simp [hsz']
          refine ⟨.value (.slice (some ⟨w.heap.size, 0, none⟩) len len), _, w.alloc (.cells arr e), g', ?_, rfl, q1, ?_, q3⟩
          · have hb : ∀ zz : Array Value, (len * sz ≠ 0 → zz = z.cells) → Instr.fill (fun i => some (i * sz, sz)) ((Array.range (len * sz)).map fun i => zz[i % zz.size]!) (ps.map fun (i, x) => (i, a.eval x)).toList = some arr := fun zz hzz => by
              rw [← k1]
              congr 1
              by_cases hlz : len * sz = 0
              · rw [hlz]; simp
              · rw [hzz hlz]
            simp only [Instr.buildSlice, Sem.run_bind, run_underlying hu, Result.andThen_ok, sizeOf_run hs, Sem.run_ite]
            rw [if_neg (by omega)]
            by_cases hlz : len * sz = 0
            · have := hb #[] (fun q => absurd hlz q)
              simp only [hlz, if_true, Sem.run_pure, Result.andThen_ok] at this ⊢
              rw [this]
              rfl
            · have := hb z.cells (fun _ => rfl)
              simp only [hlz, if_false, Sem.run_bind, hrun, Sem.run_pure, Result.andThen_ok]
              rw [this]
              rfl
          · have hcl := repL_length k2
            simp only [Rep, OwnOK]
            refine ⟨_, len, rfl, Nat.le_refl _, ?_, .inr ⟨_, 0, rfl, q2⟩, rfl⟩
            have : len ≤ len * sz := Nat.le_mul_of_pos_right _ (by omega)
            simp only [maxLen]
            omega
        · cases h
      · cases h
    · cases h
  case makeSlice t l c =>
    split at h
    · rename_i e sz by_ n m he el ec
      obtain ⟨hu, i, zs', hi, hsz', hby, hz', hzl, h0⟩ := elemA_some he
      split at h
      · rename_i zs hz
        split at h
        · rename_i hc
          rw [hz] at hz'
          injection hz' with hz'
          subst hz'
          obtain ⟨z, i', hi', hiz, hr, hrun⟩ := zeroA_run hz g
          rw [hi] at hi'
          injection hi' with hi'
          subst hi'
          have hzr := zeros_rep hr (m.toNat * sz) (fun _ => by omega)
          have hl := hE l
          have hcc := hE c
          rw [el] at hl
          rw [ec] at hcc
          simp only [Rep] at hl hcc
          subst hsz' hby
          have hmk := run_make (P := P) w t e i z hu hi hiz .i64 .i64 n m hc.1 hc.2.1 (by omega) hc.2.2.2
          split at h
          · obtain ⟨rfl, rfl⟩ := pair_inj h
            have hnm : n.toNat * i.size ≤ m.toNat * i.size := Nat.mul_le_mul_right _ (by omega)
            obtain ⟨g', q1, q2, q2', q3⟩ := hI.newbox (below_alloc1 w (.cells ((Array.range (m.toNat * i.size)).map fun i => z.cells[i % z.cells.size]!) e (0, 0))) (some (m.toNat, i.size)) (Nat.le_refl _) (heap_alloc_new w _)
              (cs := (List.range (n.toNat * i.size)).map fun i => zs.getD (i % zs.length) (.v undef)) (by simp; exact hnm) (by
                have := repL_take hzr (n.toNat * i.size)
                rw [← List.map_take, List.take_range, Nat.min_eq_left hnm] at this
                rw [List.length_map, List.length_range]
                exact this) (fun cap' s' e' => by
                injection e' with e'
                injection e' with e1 e2
                subst e1 e2
                simp)
            refine ⟨.value (.slice (some ⟨w.heap.size, 0, none⟩) n.toNat m.toNat), _, _, g', ?_, rfl, q1, ?_, q3⟩
            · simp only [Sem.run_bind, hl, hcc, hmk, Result.andThen_ok]
              rfl
            · simp only [Rep]
              exact ⟨_, _, q2, q2', rfl, by omega, by simp only [maxLen]; omega⟩
          · obtain ⟨rfl, rfl⟩ := pair_inj h
            obtain ⟨g', q1, q2, q3⟩ := newbox_run hI e hzr
            refine ⟨.value (.slice (some ⟨w.heap.size, 0, none⟩) n.toNat m.toNat), _, _, g', ?_, rfl, q1, ?_, q3⟩
            · simp only [Sem.run_bind, hl, hcc, hmk, Result.andThen_ok]
              rfl
            · simp only [Rep] at q2 ⊢
              obtain ⟨b, hb, e1⟩ := q2
              injection e1 with e1
              injection e1 with e1
              injection e1 with e1
              subst e1
              exact ⟨_, hb, rfl, by omega, by simp only [maxLen]; omega⟩
        · cases h
      · cases h
    · cases h
  case makeMap t res =>
    cases res with
    | some _ => simp at h
    | none =>
      dsimp only at h
      split at h
      · rename_i k et hm
        obtain ⟨rfl, rfl⟩ := pair_inj h
        obtain ⟨g', q1, q2, q3⟩ := hI.newmap (below_alloc1 w (.map #[] 0)) (k := k) (l := []) (Nat.le_refl _) (heap_alloc_new w _) (by simp [RepM])
        exact ⟨.value (.map (some w.heap.size)), _, w.alloc (.map #[] 0), g', rfl, rfl, q1, by simp only [Rep]; exact ⟨_, q2, rfl⟩, q3⟩
      · cases h
  case mapUpdate t x ix v =>
    split at h
    · rename_i k0 et id k n hm ex ei
      split at h
      · rename_i k1 l hl
        split at h
        · rename_i hk
          obtain ⟨rfl, rfl⟩ := hk
          obtain ⟨rfl, rfl⟩ := pair_inj h
          obtain ⟨kt, hu, hkt⟩ := mapK_some hm
          obtain ⟨b, es, c, hb, hes, hr⟩ := hI.mp id k1 l hl
          have hx := hE x
          have hi := hE ix
          have hv := hE v
          rw [ex] at hx
          rw [ei] at hi
          simp only [Rep] at hx hi
          obtain ⟨b', hb', hx⟩ := hx
          rw [hb] at hb'
          injection hb' with hb'
          subst hb'
          have hcheck := MapKept.run_checkKey (P := P) (w := w) (k := Value.int k1 n) hkt (by simp [MapKept.IsKey]) false 9999
          rcases findM_run (n := n) 0 hr with ⟨q1, q2⟩ | ⟨j, u, e, q1, q2, q3, q4, q5, q6⟩
          · have hf := MapKept.run_findKey (w := w) hkt q2
            obtain ⟨s1, s2⟩ := MapKept.heap_set (o' := .map (es.push { key := .int k1 n, val := a.eval v, born := c }) (c + 1)) hes
            have hI' := hI.setmap (l' := setM l n (ev ρ v)) hl hb (w' := { w with heap := w.heap.setIfInBounds b (.map (es.push { key := .int k1 n, val := a.eval v, born := c }) (c + 1)) }) (by simp) rfl rfl rfl s2 s1 (by
              rw [Array.toList_push]
              exact setM_end (e := { key := .int k1 n, val := a.eval v, born := c }) rfl hv q1 hr)
            refine ⟨.skip, undef, _, g, ?_, rfl, G.le.refl _, undef_rep _, hI'⟩
            simp [Instr.mapUpdate, hx, hi, run_underlying hu, MapKept.run_getObj_map hes, hcheck, hf, MapKept.run_setObj_map _ hes]
          · have hf := MapKept.run_findKey (w := w) hkt q2
            have hj : es[j]? = some e := by simpa using q3
            obtain ⟨s1, s2⟩ := MapKept.heap_set (o' := .map (es.modify j fun e => { e with key := .int k1 n, val := a.eval v }) c) hes
            have hI' := hI.setmap (l' := setM l n (ev ρ v)) hl hb (w' := { w with heap := w.heap.setIfInBounds b (.map (es.modify j fun e => { e with key := .int k1 n, val := a.eval v }) c) }) (by simp) rfl rfl rfl s2 s1 (by
              have := q6 (ev ρ v) { e with key := .int k1 n, val := a.eval v } rfl hv
              have e1 : (es.modify j fun e => { e with key := .int k1 n, val := a.eval v }).toList = es.toList.set j { e with key := .int k1 n, val := a.eval v } := by
                apply List.ext_getElem?
                intro i
                simp only [Array.getElem?_toList, Array.getElem?_modify, List.getElem?_set]
                by_cases hij : j = i
                · subst hij
                  have : j < es.size := (Array.getElem?_eq_some_iff.1 hj).1
                  simp [hj, this, (Array.getElem?_eq_some_iff.1 hj).2]
                · simp [hij]
              rw [e1]
              exact this)
            refine ⟨.skip, undef, _, g, ?_, rfl, G.le.refl _, undef_rep _, hI'⟩
            rw [Nat.zero_add] at hf
            simp [Instr.mapUpdate, hx, hi, run_underlying hu, MapKept.run_getObj_map hes, hcheck, hf, MapKept.run_setObj_map _ hes, hj, q4, Instr.keyThatStays, Instr.sameBits]
        · cases h
      · cases h
    · cases h
  case convert s d x =>
    split at h
    · rename_i e b hs hd ex
      split at h
      · rename_i he
        split at h
        · rename_i hle
          obtain ⟨rfl, rfl⟩ := pair_inj h
          have hx := hE x
          rw [ex] at hx
          simp only [Rep] at hx
          have hrun := Lib.run_convert_string_bytes (P := P) w s d e b hs hd he
          have hbel : Below w.heap.size w (Lib.bytesWorld w e b) := ⟨rfl, rfl, rfl, by rw [Lib.bytesWorld_size]; omega, fun k hk => Lib.bytesWorld_at_old w e b k hk⟩
          have hcs : RepL g (b.data.toList.map fun b => AV.v (.int .u8 b.toNat)) ((Lib.bytesCells w e b).toList.take (b.data.toList.map fun b => AV.v (.int .u8 b.toNat)).length) := by
            have : (Lib.bytesCells w e b).toList.take (b.data.toList.map fun b => AV.v (.int .u8 b.toNat)).length = b.data.toList.map fun b => Value.int .u8 b.toNat := by
              unfold Lib.bytesCells
              rw [Array.toList_append, List.take_append_of_le_length (by simp)]
              simp only [Array.toList_map]
              exact List.take_of_length_le (by simp)
            rw [this]
            generalize b.data.toList = l
            induction l with
            | nil => exact repL_nil
            | cons c l ih => simp only [List.map_cons, repL_cons, Rep]; exact ⟨trivial, ih⟩
          obtain ⟨g', k1, k2, _, _, _, _, k3⟩ := hI.newrow hbel (Nat.le_refl _) (Lib.bytesWorld_at_new w e b) (cs := b.data.toList.map fun b => AV.v (.int .u8 b.toNat)) (by simp [Lib.bytesCells]) hcs
          refine ⟨.value _, _, _, g', by simp only [Sem.run_bind, hx, hrun, Result.andThen_ok]; rfl, rfl, k1, ?_, k3⟩
          simp only [Rep, OwnOK]
          exact ⟨_, _, rfl, grownCap_ge _ _ _ _, grownCap_le_maxLen _ _ _ _ (by simp only [maxLen]; omega), .inr ⟨_, 0, rfl, k2⟩, trivial⟩
        · cases h
      · cases h
    · cases h
  case call c =>
    obtain ⟨callee, args, argTypes⟩ := c
    dsimp only at h
    split at h
    · rename_i t tx s x hts hxs
      obtain ⟨args⟩ := args
      obtain ⟨argTypes⟩ := argTypes
      dsimp only at hts hxs
      subst hts hxs
      obtain ⟨v, w', g', k1, k2, k3, k4⟩ := append_run (P := P) (ty := ty) hI h (hE s) (hE x)
      refine ⟨.value v, v, w', g', ?_, rfl, k2, k3, k4⟩
      simp only [resolve, Sem.run_bind, Sem.run_pure, Result.andThen_ok, invoke, builtin, List.map_toArray, List.map_cons, List.map_nil, k1]
    · cases h

end
end Go.AW
end
