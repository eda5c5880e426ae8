/-
  The operations on memory, one by one: moves, variables, loads, stores, addresses.
-/
import Derived.Test.YtffjdcbegohmiaaDoorEv6
namespace Go.Proofs.YtffjdcbegohmiaaDoor.Ev
open Go Go.RowKit

section
variable {P : Program} {w : World} {I : Nat → Nat → Prop} {B : Nat} {G : Gh} {st : St} {a : Act} {next : Act → World → Prop} {Q : Exit → Act → World → Prop}

/-- What an operation that is no call of a function comes to is what the evaluator says. -/
def MemOK (P : Program) (op : Op) : Prop := ∀ (w : World) (I : Nat → Nat → Prop) (B : Nat) (G : Gh) (st : St) (a : Act) (next : Act → World → Prop) (Q : Exit → Act → World → Prop) (o : Oper) (x : AV) (L : Loc) (S : Stk),
  o.op = op → SR P w I B G (st.L :: st.S) → FR P w I G (st.L :: st.S) st.F a.tmps → evMem P st o.dst op = some (x, L, S) → Goes P B w I G st o.dst x L S (fun u w' => next (a.put o.dst u) w') → o.wp P a w next Q

theorem mem_move (y : Operand) : MemOK P (.move y) := by
  intro w I B G st a next Q o x L S ho hs hf h hk
  simp only [evMem, Option.map_eq_some_iff, Prod.mk.injEq] at h
  obtain ⟨z, hz, rfl, rfl, rfl⟩ := h
  exact wp_of_run (v := a.eval y) (w' := w) (by simp [execOp, ho]) (goes_same hs hk (fr_eval hf hz))
theorem mem_assign (y : Operand) : MemOK P (.assign y) := by
  intro w I B G st a next Q o x L S ho hs hf h hk
  simp only [evMem, Option.map_eq_some_iff, Prod.mk.injEq] at h
  obtain ⟨z, hz, rfl, rfl, rfl⟩ := h
  exact wp_of_run (v := a.eval y) (w' := w) (by simp [execOp, ho]) (goes_same hs hk (fr_eval hf hz))
theorem mem_pick (c y z : Operand) : MemOK P (.pick c y z) := by
  intro w I B G st a next Q o x L S ho hs hf h hk
  simp only [evMem] at h
  split at h
  · rename_i t hc
    have e := rv_v (fr_eval hf hc)
    cases t with
    | true =>
      simp only [cond_true, Option.map_eq_some_iff, Prod.mk.injEq] at h
      obtain ⟨z', hz, rfl, rfl, rfl⟩ := h
      exact wp_of_run (v := a.eval y) (w' := w) (by simp [execOp, ho, e, asBool]) (goes_same hs hk (fr_eval hf hz))
    | false =>
      simp only [cond_false, Option.map_eq_some_iff, Prod.mk.injEq] at h
      obtain ⟨z', hz, rfl, rfl, rfl⟩ := h
      exact wp_of_run (v := a.eval z) (w' := w) (by simp [execOp, ho, e, asBool]) (goes_same hs hk (fr_eval hf hz))
  · cases h
theorem mem_alloc (t : TypeId) : MemOK P (.alloc t) := by
  intro w I B G st a next Q o x L S ho hs hf h hk
  simp only [evMem] at h
  split at h
  · rename_i d cs hd hz
    split at h
    · rename_i h1
      simp only [Option.map_eq_some_iff, Prod.mk.injEq] at h
      obtain ⟨L', hL, rfl, rfl, rfl⟩ := h
      unfold tzero at hz
      split at hz
      · rename_i i hi
        obtain ⟨z, hz1, rfl⟩ := Option.map_eq_some_iff.1 hz
        obtain ⟨h2, h3, h4⟩ := tr_var (arr := z.cells) hs hL (by simp) h1 fun i x u hx hu => by
          simp only [List.getElem?_map, Array.getElem?_toList, hu, Option.map_some, Option.some.injEq] at hx
          subst hx
          exact rv_ofCell u
        refine wp_of_run (v := .pointer (some ⟨w.heap.size, 0, none⟩)) (w' := w.alloc (.cells z.cells t)) ?_ (hk (some d) _ _ _ _ (fun k hk' => by cases hk'; exact ⟨hd, h2⟩) h3 h4)
        simp [execOp, ho, Instr.alloc, zeroValue, typeInfo, hi, hz1, newVar, newRow]
      · cases hz
    · cases h
  · cases h
theorem mem_box (t : TypeId) (y : Operand) : MemOK P (.box t y) := by
  intro w I B G st a next Q o x L S ho hs hf h hk
  simp only [evMem] at h
  split at h
  · rename_i d z hd hz
    split at h
    · rename_i h1
      simp only [Option.map_eq_some_iff, Prod.mk.injEq] at h
      obtain ⟨L', hL, rfl, rfl, rfl⟩ := h
      obtain ⟨e1, e2⟩ := rv_cells (fr_eval hf hz) h1
      obtain ⟨h2, h3, h4⟩ := tr_var (arr := (a.eval y).cells) hs hL e1 h1 e2
      refine wp_of_run (v := .pointer (some ⟨w.heap.size, 0, none⟩)) (w' := w.alloc (.cells (a.eval y).cells t)) ?_ (hk (some d) _ _ _ _ (fun k hk' => by cases hk'; exact ⟨hd, h2⟩) h3 h4)
      simp [execOp, ho, Instr.box, newVar, newRow]
    · cases h
  · cases h
theorem mem_load (t : TypeId) (y : Operand) : MemOK P (.load t y) := by
  intro w I B G st a next Q o x L S ho hs hf h hk
  simp only [evMem] at h
  split at h
  · rename_i cs hy
    simp only [Option.map_eq_some_iff, Prod.mk.injEq] at h
    obtain ⟨z, hz, rfl, rfl, rfl⟩ := h
    obtain ⟨⟨b, off, sp⟩, f, e, rfl, hc⟩ := ref_inv (fr_eval hf hy)
    obtain ⟨u, hr, hu⟩ := load_sound (S := st.L :: st.S) (G := G) (fun j x hx => ⟨f j, (hc j x hx).1, .dat (hc j x hx).2.2⟩) hz
    exact wp_of_run (v := u) (w' := w) (by simp [execOp, ho, e, Instr.loadAt, Instr.sureAddr, hr]) (goes_same hs hk hu)
  · rename_i k s off hy
    split at h
    · rename_i t' cs hS
      simp only [Option.map_eq_some_iff, Prod.mk.injEq] at h
      obtain ⟨z, hz, rfl, rfl, rfl⟩ := h
      obtain ⟨g, hg, e⟩ := ptr_inv (fr_eval hf hy)
      obtain ⟨arr, hb, hl, _, hc⟩ := blk_cells hs hS hg
      obtain ⟨u, hr, hu⟩ := load_sound (w := w) (b := (g s).1) (off := off) (G := G.drop k) (S := (st.L :: st.S).drop k) (fun j x hx => by
        rw [List.getElem?_drop] at hx
        have hj : off + j < arr.size := by have := (List.getElem?_eq_some_iff.1 hx).1; omega
        exact ⟨arr[off + j], by simp [World.cell?, hb, hj], hc _ x _ hx (Array.getElem?_eq_getElem hj)⟩) hz
      exact wp_of_run (v := u) (w' := w) (by simp [execOp, ho, e, Instr.loadAt, Instr.sureAddr, hr]) (goes_same hs hk hu.up)
    · cases h
  · cases h
theorem mem_store (t : TypeId) (y z : Operand) : MemOK P (.store t y z) := by
  intro w I B G st a next Q o x L S ho hs hf h hk
  simp only [evMem] at h
  split at h
  · rename_i k s off z1 n hy hz hn
    split at h
    · rename_i u cs z2 hS hz2
      split at h
      · cases h
      · rename_i hc
        simp only [Bool.or_eq_true, not_or, Bool.not_eq_true, Bool.not_eq_false', decide_eq_true_eq, ne_eq, Decidable.not_not] at hc
        obtain ⟨hc1, hc2⟩ := hc
        split at h
        · rename_i cs' hp
          split at h
          · rename_i L' S' hss
            simp only [Option.some.injEq, Prod.mk.injEq] at h
            obtain ⟨rfl, rfl, rfl⟩ := h
            obtain ⟨g, hg, e⟩ := ptr_inv (fr_eval hf hy)
            obtain ⟨arr, hb, hl, h1, hcc⟩ := blk_cells hs hS hg
            have hzr := (fr_eval hf hz).down z2 hz2
            obtain ⟨e1, e2⟩ := rv_cells hzr (by simpa using hc2)
            obtain ⟨p1, rfl⟩ := putCells_some hp
            have hvs : ∀ v ∈ (a.eval z).cells.toList, v.oneCell' = true := by
              intro v hv
              obtain ⟨i, hi⟩ := List.getElem?_of_mem hv
              have hi' : (a.eval z).cells[i]? = some v := by simpa using hi
              have hlt : i < z2.cells.length := by have := (Array.getElem?_eq_some_iff.1 hi').1; omega
              refine rv_one (e2 i (z2.cells[i]) v (List.getElem?_eq_getElem hlt) hi') ?_
              have h3 : allOne z2.cells = true := by simpa using hc2
              exact List.all_eq_true.1 h3 _ (List.getElem_mem hlt)
            have hrun := run_storeCells_at (P := P) (g s).1 off u (a.eval z).cells.toList 0 arr w hb (by simp; omega) hvs
            simp only [Nat.add_zero] at hrun
            have hlen : (a.eval z).cells.toList.length = z2.cells.length := by simpa using e1
            refine wp_of_skip (w' := w.setRow (g s).1 (arr.toList.take off ++ (a.eval z).cells.toList ++ arr.toList.drop (off + (a.eval z).cells.toList.length)).toArray) ?_ ?_
            · simp only [execOp, ho, Instr.storeAt, Instr.sureAddr, e, storeVar, Sem.run_bind, Sem.run_pure, Result.andThen_ok, tsize_run hn]
              rw [if_neg (by simp; omega)]
              simp [hrun]
            · refine hk none _ I G undef (fun k hk' => by cases hk') ?_ (.dat (.v _))
              rw [← hss]
              refine tr_store hs hS hg (setRow_heap w _ arr _ u (0, 0) hb) (fun b hb' => setRow_other w _ b _ hb') (by simp) rfl rfl rfl ?_ ?_ ?_
              · simp only [List.size_toArray, List.length_append, List.length_take, List.length_drop, Array.length_toList]
                omega
              · intro i x hx
                rw [put_get cs z2.cells off i p1] at hx
                split at hx
                · exact h1 i x hx
                · split at hx
                  · have h3 : allOne z2.cells = true := by simpa using hc2
                    exact List.all_eq_true.1 h3 _ (List.mem_of_getElem? hx)
                  · exact h1 i x hx
              · intro i x v hx hv
                rw [put_get cs z2.cells off i p1] at hx
                rw [List.getElem?_toArray, put_get arr.toList _ off i (by simp; omega), hlen] at hv
                split at hx
                · rename_i hi
                  simp only [hi, if_true, Array.getElem?_toList] at hv
                  exact hcc i x v hx hv
                · rename_i hi
                  simp only [hi, if_false] at hv
                  split at hx
                  · rename_i hi2
                    simp only [hi2, if_true, Array.getElem?_toList] at hv
                    exact e2 _ x v hx hv
                  · rename_i hi2
                    simp only [hi2, if_false, Array.getElem?_toList] at hv
                    exact hcc i x v hx hv
          · cases h
        · cases h
    · cases h
  · cases h
theorem mem_nilCheck (y : Operand) : MemOK P (.nilCheck y) := by
  intro w I B G st a next Q o x L S ho hs hf h hk
  simp only [evMem] at h
  split at h
  · rename_i k s off hy
    cases h
    obtain ⟨g, hg, e⟩ := ptr_inv (fr_eval hf hy)
    have hr := fr_eval hf hy
    rw [e] at hr
    exact wp_of_run (v := .pointer (some ⟨(g s).1, off, none⟩)) (w' := w) (by simp [execOp, ho, e]) (goes_same hs hk hr)
  · rename_i cs hy
    cases h
    obtain ⟨ad, f, e, h1, h2⟩ := ref_inv (fr_eval hf hy)
    have hr := fr_eval hf hy
    rw [e] at hr
    exact wp_of_run (v := .pointer (some ad)) (w' := w) (by simp [execOp, ho, e]) (goes_same hs hk hr)
  · cases h
theorem rv_ref_drop {G : Gh} {S : Stk} {cs : List AV} {ad : Addr} {n : Nat} (h : RV P w I G S (.ref cs) (.pointer (some ad))) : RV P w I G S (.ref (cs.drop n)) (.pointer (some (ad.add n))) := by
  obtain ⟨ad', f, e, h1, h2⟩ := ref_inv h
  cases e
  obtain ⟨b, off, sp⟩ := ad
  cases h1
  rw [add_at]
  refine .ref _ _ rfl (fun j => f (n + j)) fun j x hx => ?_
  rw [List.getElem?_drop] at hx
  have := h2 (n + j) x hx
  simpa [Nat.add_assoc] using this
theorem mem_fieldAddr (t : TypeId) (y : Operand) (i : Nat) : MemOK P (.fieldAddr t y i) := by
  intro w I B G st a next Q o x L S ho hs hf h hk
  simp only [evMem] at h
  split at h
  · rename_i fields ht
    split at h
    · rename_i f z hfi hy
      split at h
      · rename_i m hm
        have hr := fr_eval hf hy
        have hz := tsize_run hm
        split at h
        · rename_i k s off
          cases h
          obtain ⟨g, hg, e⟩ := ptr_inv hr
          refine wp_of_run (v := .pointer (some ⟨(g s).1, off + f.offset, none⟩)) (w' := w) ?_ (goes_same hs hk (.ptr k s _ g hg))
          simp only [execOp, ho, Instr.fieldAt, Sem.run_bind, run_underlying ht, Result.andThen_ok, hfi, e, Instr.sureAddr, Sem.run_pure, fieldPlace, hz]
          simp [add_at]
        · rename_i cs
          cases h
          obtain ⟨ad, ff, e, h1, h2⟩ := ref_inv hr
          rw [e] at hr
          refine wp_of_run (v := .pointer (some (ad.add f.offset))) (w' := w) ?_ (goes_same hs hk (rv_ref_drop hr))
          simp only [execOp, ho, Instr.fieldAt, Sem.run_bind, run_underlying ht, Result.andThen_ok, hfi, e, Instr.sureAddr, Sem.run_pure, fieldPlace, hz]
          simp
        · cases h
      · cases h
    · cases h
  · cases h
end
end Go.Proofs.YtffjdcbegohmiaaDoor.Ev
