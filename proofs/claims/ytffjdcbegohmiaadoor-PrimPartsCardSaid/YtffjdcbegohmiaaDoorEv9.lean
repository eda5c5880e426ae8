/-
  Literals of structs and slices; bytes of a string; lengths; appends.
-/
import Derived.Test.YtffjdcbegohmiaaDoorEv8
import Derived.Lib.ConvBytes
namespace Go.Proofs.YtffjdcbegohmiaaDoor.Ev
open Go Go.RowKit

section
variable {P : Program} {w : World} {I : Nat → Nat → Prop} {B : Nat} {G : Gh} {S : Stk} {st : St}

/-- Cells side by side. -/
def CR (P : Program) (w : World) (I : Nat → Nat → Prop) (G : Gh) (S : Stk) (cs : List AV) (vs : Array Value) : Prop := vs.size = cs.length ∧ ∀ (i : Nat) (x : AV) (u : Value), cs[i]? = some x → vs[i]? = some u → RV P w I G S x u

theorem foldl_put (news : List Value) : ∀ (k : Nat) (off : Nat) (cells : Array Value), off + k + news.length ≤ cells.size →
    ((news.zipIdx k).foldl (fun cs p => cs.setIfInBounds (off + p.2) p.1) cells).size = cells.size ∧ ∀ i, ((news.zipIdx k).foldl (fun cs p => cs.setIfInBounds (off + p.2) p.1) cells)[i]? = if i < off + k then cells[i]? else if i < off + k + news.length then news[i - (off + k)]? else cells[i]? := by
  induction news with
  | nil =>
    intro k off cells h
    refine ⟨rfl, fun i => ?_⟩
    simp only [List.zipIdx_nil, List.foldl_nil, List.length_nil, Nat.add_zero]
    split <;> rfl
  | cons v r ih =>
    intro k off cells h
    simp only [List.length_cons] at h
    simp only [List.zipIdx_cons, List.foldl_cons]
    obtain ⟨h1, h2⟩ := ih (k + 1) off (cells.setIfInBounds (off + k) v) (by simp; omega)
    refine ⟨by rw [h1]; simp, fun i => ?_⟩
    rw [h2 i]
    simp only [Array.getElem?_setIfInBounds, List.length_cons]
    by_cases h3 : i < off + k
    · have h4 : i < off + (k + 1) := by omega
      have h5 : ¬ off + k = i := by omega
      simp [h3, h4, h5]
    · by_cases h4 : i = off + k
      · subst h4
        have h6 : off + k < off + (k + 1) := by omega
        have h7 : off + k < off + k + (r.length + 1) := by omega
        have h8 : off + k < cells.size := by omega
        simp [h6, h7, h8]
      · have h5 : ¬ off + k = i := fun e => h4 e.symm
        have h6 : ¬ i < off + (k + 1) := by omega
        simp only [h6, if_false, h3, h5]
        by_cases h7 : i < off + (k + 1) + r.length
        · have h8 : i < off + k + (r.length + 1) := by omega
          simp only [h7, h8, if_true]
          rw [show i - (off + k) = (i - (off + (k + 1))) + 1 by omega]
          simp
        · have h8 : ¬ i < off + k + (r.length + 1) := by omega
          simp only [h7, h8, if_false]

theorem fill_sound (pl : Nat → Option (Nat × Nat)) : ∀ (ps : List (Nat × AV)) (qs : List (Nat × Value)) (cs : List AV) (vs : Array Value) (cs' : List AV), ps.length = qs.length →
    (∀ (i : Nat) (p : Nat × AV) (q : Nat × Value), ps[i]? = some p → qs[i]? = some q → p.1 = q.1 ∧ RV P w I G S p.2 q.2 ∧ allOne p.2.cells = true) → CR P w I G S cs vs → fillA pl cs ps = some cs' →
    ∃ vs', Instr.fill pl vs qs = some vs' ∧ CR P w I G S cs' vs' := by
  intro ps
  induction ps with
  | nil =>
    intro qs cs vs cs' hlen _ hc h
    cases qs with
    | nil =>
      simp only [fillA, Option.some.injEq] at h
      subst h
      exact ⟨vs, rfl, hc⟩
    | cons q r => simp at hlen
  | cons p r ih =>
    intro qs cs vs cs' hlen hpq hc h
    cases qs with
    | nil => simp at hlen
    | cons q qr =>
      obtain ⟨i, y⟩ := p
      obtain ⟨i', v⟩ := q
      obtain ⟨e0, hy, h1⟩ := hpq 0 (i, y) (i', v) (by simp) (by simp)
      simp only at e0 hy h1
      subst e0
      obtain ⟨e1, e2⟩ := rv_cells hy h1
      simp only [fillA] at h
      cases hpl : pl i with
      | none => simp [hpl] at h
      | some os =>
        obtain ⟨off, size⟩ := os
        simp only [hpl] at h
        split at h
        · cases h
        · rename_i hsz
          simp only [ne_eq, Decidable.not_not] at hsz
          split at h
          · rename_i c hp
            obtain ⟨p1, rfl⟩ := putCells_some hp
            have hvl : v.cells.toList.length = y.cells.length := by simpa using e1
            obtain ⟨f1, f2⟩ := foldl_put v.cells.toList 0 off vs (by rw [hc.1]; omega)
            have hfold : (v.cells.zipIdx.foldl (fun cs p => cs.setIfInBounds (off + p.2) p.1) vs) = (v.cells.toList.zipIdx 0).foldl (fun cs p => cs.setIfInBounds (off + p.2) p.1) vs := by
              rw [← Array.foldl_toList, Array.toList_zipIdx]
            have hcr : CR P w I G S (cs.take off ++ y.cells ++ cs.drop (off + y.cells.length)) (v.cells.zipIdx.foldl (fun cs p => cs.setIfInBounds (off + p.2) p.1) vs) := by
              rw [hfold]
              refine ⟨by rw [f1, hc.1]; simp; omega, fun j x u hx hu => ?_⟩
              rw [f2 j, hvl] at hu
              rw [put_get cs y.cells off j p1] at hx
              simp only [Nat.add_zero] at hu
              split at hx
              · rename_i hj
                simp only [hj, if_true] at hu
                exact hc.2 j x u hx hu
              · rename_i hj
                simp only [hj, if_false] at hu
                split at hx
                · rename_i hj2
                  simp only [hj2, if_true, Array.getElem?_toList] at hu
                  exact e2 _ x u hx hu
                · rename_i hj2
                  simp only [hj2, if_false] at hu
                  exact hc.2 j x u hx hu
            obtain ⟨vs', g1, g2⟩ := ih qr _ (v.cells.zipIdx.foldl (fun cs p => cs.setIfInBounds (off + p.2) p.1) vs) cs' (by simpa using hlen) (fun j p q hp hq => hpq (j + 1) p q (by simpa using hp) (by simpa using hq)) hcr h
            refine ⟨vs', ?_, g2⟩
            simp only [Instr.fill, hpl]
            rw [if_neg]
            · exact g1
            · simp only [Bool.or_eq_true, decide_eq_true_eq, not_or, ne_eq, Decidable.not_not, Nat.not_lt]
              exact ⟨by omega, by rw [hc.1]; omega⟩
          · cases h

theorem cr_zero {t : TypeId} {cs : List AV} (h : tzero P t = some cs) : ∃ i z, P.info? t = some i ∧ i.zero = some z ∧ CR P w I G S cs z.cells ∧ cs = z.cells.toList.map ofCell := by
  unfold tzero at h
  split at h
  · rename_i i hi
    obtain ⟨z, hz, rfl⟩ := Option.map_eq_some_iff.1 h
    refine ⟨i, z, hi, hz, ⟨by simp, fun j x u hx hu => ?_⟩, rfl⟩
    simp only [List.getElem?_map, Array.getElem?_toList, hu, Option.map_some, Option.some.injEq] at hx
    subst hx
    exact rv_ofCell u
  · cases h

theorem parts_sound {parts : List (Nat × Operand)} {ys : List AV} {a : Act} (hf : FR P w I G (st.L :: st.S) st.F a.tmps) (h : evals st (parts.map (·.2)) = some ys) (h1 : ys.all (fun y => allOne y.cells) = true) :
    ((parts.map (·.1)).zip ys).length = (parts.map fun p => (p.1, a.eval p.2)).length ∧ ∀ (i : Nat) (p : Nat × AV) (q : Nat × Value), ((parts.map (·.1)).zip ys)[i]? = some p → (parts.map fun p => (p.1, a.eval p.2))[i]? = some q → p.1 = q.1 ∧ RV P w I G (st.L :: st.S) p.2 q.2 ∧ allOne p.2.cells = true := by
  have hlen := (evals_some h).1
  simp only [List.length_map] at hlen
  refine ⟨by simp; omega, fun i p q hp hq => ?_⟩
  rw [List.getElem?_zip_eq_some] at hp
  obtain ⟨hp1, hp2⟩ := hp
  rw [List.getElem?_map, Option.map_eq_some_iff] at hp1 hq
  obtain ⟨b, hb, hb1⟩ := hp1
  obtain ⟨b', hb', rfl⟩ := hq
  rw [hb] at hb'
  cases hb'
  obtain ⟨z, hz, hr⟩ := evals_rv hf h i p.2 hp2
  rw [List.getElem?_map, hb] at hz
  simp only [Option.map_some, Option.some.injEq] at hz
  subst hz
  exact ⟨hb1.symm, hr, List.all_eq_true.1 h1 _ (List.mem_of_getElem? hp2)⟩

theorem mem_build (t : TypeId) (parts : Array (Nat × Operand)) : MemOK P (.build t parts) := by
  intro w I B G st a next Q o x L S ho hs hf h hk
  simp only [evMem] at h
  split at h
  · rename_i cells fields ys hz ht hys
    split at h
    · rename_i places hpl
      split at h
      · rename_i h1
        simp only [Option.map_eq_some_iff, Prod.mk.injEq] at h
        obtain ⟨cs, hc, rfl, rfl, rfl⟩ := h
        obtain ⟨it, z, hi, hz1, hcr, _⟩ := cr_zero (w := w) (I := I) (G := G) (S := st.L :: st.S) hz
        obtain ⟨p1, p2⟩ := parts_sound hf hys h1
        obtain ⟨vs', g1, g2⟩ := fill_sound _ _ _ _ _ _ p1 p2 hcr hc
        refine wp_of_run (v := .agg vs') (w' := w) ?_ (goes_same hs hk (.agg cs vs' g2.1.symm g2.2))
        have hb : P.built t (parts.map fun (i, x) => (i, a.eval x)).toList = some vs' := by
          simp only [Program.built, hi, ht, hz1, hpl]
          rw [← g1]
          simp
        simp only [execOp, ho, Sem.run_bind, run_build w t _ vs' hb, Result.andThen_ok]
        rfl
      · cases h
    · cases h
  · cases h

theorem mem_field (t : TypeId) (y : Operand) (i : Nat) : MemOK P (.field t y i) := by
  intro w I B G st a next Q o x L S ho hs hf h hk
  simp only [evMem] at h
  split at h
  · rename_i fields cs ht hy
    split at h
    · rename_i f hfi
      simp only [Option.map_eq_some_iff, Prod.mk.injEq] at h
      obtain ⟨z, hz, rfl, rfl, rfl⟩ := h
      have hr := fr_eval hf hy
      generalize hu : a.eval y = u at hr
      cases hr with
      | dat hd => cases hd
      | agg _ vs hl hp =>
        unfold asTyped at hz
        split at hz
        · rename_i hta
          split at hz
          · rename_i n hn
            split at hz
            · rename_i hle
              cases hz
              simp only [List.length_drop] at hle
              refine wp_of_run (v := .agg (vs.extract f.offset (f.offset + n))) (w' := w) ?_ (goes_same hs hk (.agg _ _ ?_ fun j x u hx hu' => ?_))
              · simp [execOp, ho, hu, Instr.field, run_underlying ht, hfi, asAgg, part, tagg_true hta, tsize_run hn]
              · simp; omega
              · have hj := (List.getElem?_eq_some_iff.1 hx).1
                simp at hj
                rw [List.getElem?_take_of_lt (by omega), List.getElem?_drop] at hx
                rw [Array.getElem?_extract_of_lt (by omega)] at hu'
                exact hp _ x u hx (by rw [Array.getElem?_eq_getElem (by omega)]; exact hu')
            · cases hz
          · cases hz
        · rename_i hta
          have hx0 : cs[f.offset]? = some z := by
            rw [← hz, List.head?_eq_getElem?, List.getElem?_drop]
            rfl
          have hlt := (List.getElem?_eq_some_iff.1 hx0).1
          have hvv : vs[f.offset]? = some (vs[f.offset]'(by omega)) := Array.getElem?_eq_getElem (by omega)
          refine wp_of_run (v := vs[f.offset]'(by omega)) (w' := w) ?_ (goes_same hs hk (hp _ z _ hx0 hvv))
          simp [execOp, ho, hu, Instr.field, run_underlying ht, hfi, asAgg, part, tagg_false hta, hvv]
        · cases hz
    · cases h
  · cases h
end
end Go.Proofs.YtffjdcbegohmiaaDoor.Ev
