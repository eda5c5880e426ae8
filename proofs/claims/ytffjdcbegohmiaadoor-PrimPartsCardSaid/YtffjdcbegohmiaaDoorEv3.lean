/-
  The evaluator's operations are the machine's: what touches no memory; the stores; variables, loads and stores.
-/
import Derived.Test.YtffjdcbegohmiaaDoorEv2
import Derived.Test.YtffjdcbegohmiaaDoorEv0
import Derived.Laws.CopyRow
import Derived.Laws.Cells
import Derived.Laws.Tables
import Derived.Laws.OwnMore
import Derived.Laws.IdiomStrings
import Derived.WalkKit
namespace Go.Proofs.YtffjdcbegohmiaaDoor.Ev
open Go

section
variable {P : Program}

/-! ### Stores and frames -/
def blkOf (c : Nat × Value) : Ob → Option Nat
  | .blk _ _ => some c.1
  | .row .. => c.2.ownBlock

inductive ObOK (P : Program) (w : World) (I : Nat → Nat → Prop) (B : Nat) (G : Gh) (S : Stk) (c : Nat × Value) : Ob → Prop
  | blk (t : TypeId) (cs : List AV) (arr : Array Value) (hB : B ≤ c.1) (hI : ∀ o, ¬ I c.1 o) (hb : w.heap[c.1]? = some (.cells arr t (0, 0))) (hl : arr.size = cs.length) (h1 : ∀ (i : Nat) (x : AV), cs[i]? = some x → x.one = true)
      (h : ∀ (i : Nat) (x : AV) (u : Value), cs[i]? = some x → arr[i]? = some u → RV P w I G S x u) : ObOK P w I B G S c (.blk t cs)
  | row (e : TypeId) (sz : Nat) (xs : List (List AV)) (cells : List Value) (hz : tsize P e = some sz) (h0 : 0 < sz) (ho : w.ownsRow B e sz c.2 xs.length cells) (hl : ∀ (i : Nat) (cs : List AV), xs[i]? = some cs → cs.length = sz)
      (hd : ∀ (i : Nat) (cs : List AV) (j : Nat) (x : AV), xs[i]? = some cs → cs[j]? = some x → x.dat = true)
      (h : ∀ (i : Nat) (cs : List AV) (j : Nat) (x : AV) (u : Value), xs[i]? = some cs → cs[j]? = some x → cells[i * sz + j]? = some u → DV P w I x u)
      (hI : ∀ b, c.2.ownBlock = some b → ∀ o, I b o ↔ o < xs.length * sz) : ObOK P w I B G S c (.row e sz xs)

structure SR (P : Program) (w : World) (I : Nat → Nat → Prop) (B : Nat) (G : Gh) (S : Stk) : Prop where
  len : G.length = S.length
  ob : ∀ k s o, sget S k s = some o → ∃ g, G[k]? = some g ∧ ObOK P w I B (G.drop k) (S.drop k) (g s) o
  dis : ∀ k s o g k' s' o' g', sget S k s = some o → G[k]? = some g → sget S k' s' = some o' → G[k']? = some g' → ¬ (k = k' ∧ s = s') → ∀ b, blkOf (g s) o = some b → blkOf (g' s') o' ≠ some b
  cell : ∀ b o, I b o → ∃ u, w.cell? ⟨b, o, none⟩ = some u
  base : B ≤ w.heap.size
  top : Top.ok B w

def FR (P : Program) (w : World) (I : Nat → Nat → Prop) (G : Gh) (S : Stk) (F : Fr) (T : Array Value) : Prop := ∀ s x, kget F s = some x → ∃ u, T[s]? = some u ∧ RV P w I G S x u

/-! ### Plain values -/
theorem rv_ofCell {w : World} {I : Nat → Nat → Prop} {G : Gh} {S : Stk} (v : Value) : RV P w I G S (ofCell v) v := by
  unfold ofCell
  split
  · exact .dat .nils
  · exact .dat (.v v)
theorem rv_ofVal1 {w : World} {I : Nat → Nat → Prop} {G : Gh} {S : Stk} (v : Value) : RV P w I G S (ofVal1 v) v := by
  unfold ofVal1
  split
  · rename_i cs
    refine .agg _ cs (by simp) fun i x u hx hu => ?_
    simp only [List.getElem?_map, Array.getElem?_toList, hu, Option.map_some, Option.some.injEq] at hx
    subst hx
    exact rv_ofCell u
  · exact rv_ofCell v
theorem rv_ofVal {w : World} {I : Nat → Nat → Prop} {G : Gh} {S : Stk} (v : Value) : RV P w I G S (ofVal v) v := by
  unfold ofVal
  split
  · rename_i cs
    refine .tup _ cs (by simp) fun i x u hx hu => ?_
    simp only [List.getElem?_map, Array.getElem?_toList, hu, Option.map_some, Option.some.injEq] at hx
    subst hx
    exact rv_ofVal1 u
  · exact rv_ofVal1 v

theorem toVals_some {cs : List AV} {l : List Value} (h : toVals cs = some l) : cs.length = l.length ∧ ∀ (i : Nat) (x : AV), cs[i]? = some x → ∃ v, l[i]? = some v ∧ x.toVal = some v := by
  induction cs generalizing l with
  | nil => simp only [toVals, Option.some.injEq] at h; subst h; simp
  | cons y r ih =>
    simp only [toVals] at h
    cases hy : y.toVal with
    | none => simp [hy] at h
    | some z =>
      cases hr : toVals r with
      | none => simp [hy, hr] at h
      | some m =>
        simp only [hy, hr, Option.some.injEq] at h
        subst h
        obtain ⟨h1, h2⟩ := ih hr
        refine ⟨by simp [h1], fun i x hx => ?_⟩
        cases i with
        | zero => simp at hx; subst hx; exact ⟨z, by simp, hy⟩
        | succ i => simpa using h2 i x (by simpa using hx)
theorem rv_toVal {w : World} {I : Nat → Nat → Prop} {G : Gh} {S : Stk} {x : AV} {u : Value} (h : RV P w I G S x u) : ∀ v, x.toVal = some v → u = v := by
  induction h with
  | dat h =>
    intro v hv
    cases h with
    | v x => simpa [AV.toVal] using hv
    | nils => simpa [AV.toVal] using hv
    | lst => simp [AV.toVal] at hv
  | agg cs vs hl h ih =>
    intro v hv
    simp only [AV.toVal, Option.map_eq_some_iff] at hv
    obtain ⟨l, h1, rfl⟩ := hv
    obtain ⟨h2, h3⟩ := toVals_some h1
    congr 1
    apply Array.ext_getElem?
    intro i
    cases hc : cs[i]? with
    | none =>
      have hi : cs.length ≤ i := List.getElem?_eq_none_iff.1 hc
      rw [Array.getElem?_eq_none (by omega)]
      simp; omega
    | some x =>
      obtain ⟨y, h4, h5⟩ := h3 i x hc
      have hi : i < cs.length := (List.getElem?_eq_some_iff.1 hc).1
      have hvi : vs[i]? = some (vs[i]'(by omega)) := Array.getElem?_eq_getElem (by omega)
      rw [hvi, ih i x _ hc hvi y h5]
      simp [h4]
  | tup cs vs hl h ih =>
    intro v hv
    simp only [AV.toVal, Option.map_eq_some_iff] at hv
    obtain ⟨l, h1, rfl⟩ := hv
    obtain ⟨h2, h3⟩ := toVals_some h1
    congr 1
    apply Array.ext_getElem?
    intro i
    cases hc : cs[i]? with
    | none =>
      have hi : cs.length ≤ i := List.getElem?_eq_none_iff.1 hc
      rw [Array.getElem?_eq_none (by omega)]
      simp; omega
    | some x =>
      obtain ⟨y, h4, h5⟩ := h3 i x hc
      have hi : i < cs.length := (List.getElem?_eq_some_iff.1 hc).1
      have hvi : vs[i]? = some (vs[i]'(by omega)) := Array.getElem?_eq_getElem (by omega)
      rw [hvi, ih i x _ hc hvi y h5]
      simp [h4]
  | ptr => intro v hv; simp [AV.toVal] at hv
  | ref => intro v hv; simp [AV.toVal] at hv
  | row => intro v hv; simp [AV.toVal] at hv
  | clo => intro v hv; simp [AV.toVal] at hv
  | ifc t h ih =>
    intro v hv
    simp only [AV.toVal, Option.map_eq_some_iff] at hv
    obtain ⟨y, h1, rfl⟩ := hv
    rw [ih y h1]

theorem run_pr {α : Type} (s : Sem α) (a : α) (h : pr P s = some a) (w : World) : s.run P w = .ok a w := by
  induction s with
  | pure b => simp only [pr, Option.some.injEq] at h; subst h; rfl
  | program k ih => simp only [pr] at h; simp only [Sem.run]; exact ih P h
  | mark m k ih => simp only [pr] at h; simp only [Sem.run]; exact ih h
  | _ => simp [pr] at h

theorem fr_eval {w : World} {I : Nat → Nat → Prop} {G : Gh} {st : St} {a : Act} (hf : FR P w I G (st.L :: st.S) st.F a.tmps) {x : Operand} {y : AV} (h : st.eval x = some y) : RV P w I G (st.L :: st.S) y (a.eval x) := by
  cases x with
  | tmp t =>
    obtain ⟨u, h1, h2⟩ := hf t y h
    simpa [Act.eval, h1] using h2
  | const v => simp only [St.eval, Option.some.injEq] at h; subst h; exact rv_ofVal v
  | global g => simp [St.eval] at h
  | func f => simp only [St.eval, Option.some.injEq] at h; subst h; exact .dat (.v _)

theorem evals_some {st : St} {l : List Operand} {ys : List AV} (h : evals st l = some ys) : ys.length = l.length ∧ ∀ (i : Nat) (x : Operand), l[i]? = some x → ∃ y, ys[i]? = some y ∧ st.eval x = some y := by
  induction l generalizing ys with
  | nil => simp only [evals, Option.some.injEq] at h; subst h; simp
  | cons z r ih =>
    simp only [evals] at h
    cases hy : st.eval z with
    | none => simp [hy] at h
    | some y =>
      cases hr : evals st r with
      | none => simp [hy, hr] at h
      | some m =>
        simp only [hy, hr, Option.some.injEq] at h
        subst h
        obtain ⟨h1, h2⟩ := ih hr
        refine ⟨by simp [h1], fun i x hx => ?_⟩
        cases i with
        | zero => simp at hx; subst hx; exact ⟨y, by simp, hy⟩
        | succ i => simpa using h2 i x (by simpa using hx)

/-- What touches no memory is what the model's own text says. -/
theorem run_plain {w : World} {I : Nat → Nat → Prop} {G : Gh} {st : St} {a : Act} (hf : FR P w I G (st.L :: st.S) st.F a.tmps) {o : Oper} {nx : Next} (h : st.plain P o = some nx) : (execOp a.eval o).run P w = .ok nx w := by
  unfold St.plain at h
  split at h
  · rename_i vs hv
    have hs : ∀ cs b, o.op ≠ .select cs b := by
      intro cs b e
      rw [e] at hv
      cases hv
    have hv : (evals st o.op.operands.toList).bind toVals = some vs := by
      split at hv
      · cases hv
      · exact hv
    obtain ⟨ys, h1, h2⟩ := Option.bind_eq_some_iff.1 hv
    have h3 := (evals_some h1).2
    have h4 := (toVals_some h2).2
    rw [← execOp_congr o hs (ρ := fun x => ((st.eval x).bind AV.toVal).getD undef) (ρ' := a.eval)]
    · exact run_pr _ _ h w
    · intro x hx
      obtain ⟨i, hi⟩ := List.getElem?_of_mem (Array.mem_toList_iff.2 hx)
      obtain ⟨y, h5, h6⟩ := h3 i x hi
      obtain ⟨v, _, h7⟩ := h4 i y h5
      simp only [h6, Option.bind_some, h7, Option.getD_some]
      exact (rv_toVal (fr_eval hf h6) v h7).symm
  · cases h

theorem wp_of_run {o : Oper} {a : Act} {w w' : World} {next : Act → World → Prop} {Q : Exit → Act → World → Prop} {v : Value} (h : (execOp a.eval o).run P w = .ok (.value v) w') (hn : next (a.put o.dst v) w') : o.wp P a w next Q := by
  unfold Oper.wp
  rw [h]
  exact hn
theorem wp_of_skip {o : Oper} {a : Act} {w w' : World} {next : Act → World → Prop} {Q : Exit → Act → World → Prop} (h : (execOp a.eval o).run P w = .ok .skip w') (hn : next (a.put o.dst undef) w') : o.wp P a w next Q := by
  unfold Oper.wp
  rw [h]
  exact hn

/-! ### Looking from another frame -/
theorem ups_get (k : Nat) (cs : List AV) (i : Nat) : (ups k cs)[i]? = (cs[i]?).map (AV.up k) := by
  induction cs generalizing i with
  | nil => simp [ups]
  | cons x r ih => cases i <;> simp [ups, ih]
theorem ups_length (k : Nat) (cs : List AV) : (ups k cs).length = cs.length := by
  induction cs with
  | nil => rfl
  | cons x r ih => simp [ups, ih]
theorem sget_drop (S : Stk) (k j s : Nat) : sget (S.drop k) j s = sget S (j + k) s := by
  induction S generalizing k with
  | nil => simp [sget]
  | cons L S ih =>
    cases k with
    | zero => simp
    | succ k => simp only [List.drop_succ_cons, ih]; rfl
theorem up_dat {P : Program} {w : World} {I : Nat → Nat → Prop} {x : AV} {u : Value} (h : DV P w I x u) (k : Nat) : x.up k = x := by cases h <;> rfl
theorem RV.up {w : World} {I : Nat → Nat → Prop} {G : Gh} {S : Stk} {k : Nat} {x : AV} {u : Value} (h : RV P w I (G.drop k) (S.drop k) x u) : RV P w I G S (x.up k) u := by
  induction h with
  | dat h => rw [up_dat h]; exact .dat h
  | agg cs vs hl h ih =>
    refine .agg _ vs (by rw [ups_length]; exact hl) fun i x u hx hu => ?_
    rw [ups_get] at hx
    obtain ⟨y, hy, rfl⟩ := Option.map_eq_some_iff.1 hx
    exact ih i y u hy hu
  | tup cs vs hl h ih =>
    refine .tup _ vs (by rw [ups_length]; exact hl) fun i x u hx hu => ?_
    rw [ups_get] at hx
    obtain ⟨y, hy, rfl⟩ := Option.map_eq_some_iff.1 hx
    exact ih i y u hy hu
  | ptr j s off g hg => exact .ptr (j + k) s off g (by rw [List.getElem?_drop] at hg; rw [Nat.add_comm]; exact hg)
  | ref cs ad hs u h => exact .ref cs ad hs u h
  | row j s n g e sz xs val hg hS hn hd hl => exact .row (j + k) s n g e sz xs val (by rw [List.getElem?_drop] at hg; rw [Nat.add_comm]; exact hg) (by rw [sget_drop] at hS; exact hS) hn hd hl
  | clo f caps vs hl h ih =>
    refine .clo f _ vs (by rw [ups_length]; exact hl) fun i x u hx hu => ?_
    rw [ups_get] at hx
    obtain ⟨y, hy, rfl⟩ := Option.map_eq_some_iff.1 hx
    exact ih i y u hy hu
  | ifc t h ih => exact .ifc t ih
theorem down_dat {P : Program} {w : World} {I : Nat → Nat → Prop} {x : AV} {u : Value} (h : DV P w I x u) (k : Nat) : x.down k = some x := by cases h <;> rfl
theorem downs_some {k : Nat} {cs ds : List AV} (h : downs k cs = some ds) : cs.length = ds.length ∧ ∀ (i : Nat) (y : AV), ds[i]? = some y → ∃ x, cs[i]? = some x ∧ x.down k = some y := by
  induction cs generalizing ds with
  | nil => simp only [downs, Option.some.injEq] at h; subst h; simp
  | cons y r ih =>
    simp only [downs] at h
    cases hy : y.down k with
    | none => simp [hy] at h
    | some z =>
      cases hr : downs k r with
      | none => simp [hy, hr] at h
      | some m =>
        simp only [hy, hr, Option.some.injEq] at h
        subst h
        obtain ⟨h1, h2⟩ := ih hr
        refine ⟨by simp [h1], fun i x hx => ?_⟩
        cases i with
        | zero => simp at hx; subst hx; exact ⟨y, by simp, hy⟩
        | succ i => simpa using h2 i x (by simpa using hx)
theorem RV.down {w : World} {I : Nat → Nat → Prop} {G : Gh} {S : Stk} {k : Nat} {x : AV} {u : Value} (h : RV P w I G S x u) : ∀ y, x.down k = some y → RV P w I (G.drop k) (S.drop k) y u := by
  induction h with
  | dat h =>
    intro y hy
    rw [down_dat h] at hy
    cases hy
    exact .dat h
  | agg cs vs hl h ih =>
    intro y hy
    simp only [AV.down, Option.map_eq_some_iff] at hy
    obtain ⟨ds, h1, rfl⟩ := hy
    obtain ⟨h2, h3⟩ := downs_some h1
    refine .agg ds vs (by omega) fun i y u hy hu => ?_
    obtain ⟨x, h4, h5⟩ := h3 i y hy
    exact ih i x u h4 hu y h5
  | tup cs vs hl h ih =>
    intro y hy
    simp only [AV.down, Option.map_eq_some_iff] at hy
    obtain ⟨ds, h1, rfl⟩ := hy
    obtain ⟨h2, h3⟩ := downs_some h1
    refine .tup ds vs (by omega) fun i y u hy hu => ?_
    obtain ⟨x, h4, h5⟩ := h3 i y hy
    exact ih i x u h4 hu y h5
  | ptr j s off g hg =>
    intro y hy
    simp only [AV.down] at hy
    split at hy
    · cases hy
      exact .ptr _ s off g (by rw [List.getElem?_drop]; rename_i hk; rw [show k + (j - k) = j by omega]; exact hg)
    · cases hy
  | ref cs ad hs u h => intro y hy; simp only [AV.down, Option.some.injEq] at hy; subst hy; exact .ref cs ad hs u h
  | row j s n g e sz xs val hg hS hn hd hl =>
    intro y hy
    simp only [AV.down] at hy
    split at hy
    · cases hy
      rename_i hk
      exact .row _ s n g e sz xs val (by rw [List.getElem?_drop, show k + (j - k) = j by omega]; exact hg) (by rw [sget_drop, show j - k + k = j by omega]; exact hS) hn hd hl
    · cases hy
  | clo f caps vs hl h ih =>
    intro y hy
    simp only [AV.down, Option.map_eq_some_iff] at hy
    obtain ⟨ds, h1, rfl⟩ := hy
    obtain ⟨h2, h3⟩ := downs_some h1
    refine .clo f ds vs (by omega) fun i y u hy hu => ?_
    obtain ⟨x, h4, h5⟩ := h3 i y hy
    exact ih i x u h4 hu y h5
  | ifc t h ih =>
    intro y hy
    simp only [AV.down, Option.map_eq_some_iff] at hy
    obtain ⟨z, h1, rfl⟩ := hy
    exact .ifc t (ih z h1)
end
end Go.Proofs.YtffjdcbegohmiaaDoor.Ev
