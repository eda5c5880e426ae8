/-
  The operations on memory, one by one: first part: moves, variables, loads, stores, addresses.
-/
import Derived.Test.YtffjdcbegohmiaaDoorEv5
namespace Go.Proofs.YtffjdcbegohmiaaDoor.Ev
open Go Go.RowKit

section
variable {P : Program}

theorem tagg_true {t : TypeId} (h : tagg P t = some true) (w : World) : (isAgg t).run P w = .ok true w := by
  unfold tagg at h
  split at h <;> simp_all [isAgg, run_underlying]
theorem tagg_false {t : TypeId} (h : tagg P t = some false) (w : World) : (isAgg t).run P w = .ok false w := by
  unfold tagg at h
  split at h
  · cases h
  · cases h
  · rename_i d h1 h2 hd
    simp only [isAgg, Sem.run_bind, run_underlying hd, Result.andThen_ok]
    cases d <;> first | rfl | (exfalso; exact h1 _ hd) | (exfalso; exact h2 _ _ hd)
  · cases h
theorem tsize_run {t : TypeId} {n : Nat} (h : tsize P t = some n) (w : World) : (sizeOf t).run P w = .ok n w := by
  unfold tsize at h
  obtain ⟨i, h1, rfl⟩ := Option.map_eq_some_iff.1 h
  simp [sizeOf, typeInfo, h1]

theorem add_at (b off j : Nat) : (⟨b, off, none⟩ : Addr).add j = ⟨b, off + j, none⟩ := by
  unfold Addr.add
  split <;> simp_all

/-- A load of cells that are known. -/
theorem load_sound {w : World} {I : Nat → Nat → Prop} {G : Gh} {S : Stk} {t : TypeId} {b off : Nat} {cs : List AV} {y : AV} (hc : ∀ (j : Nat) (x : AV), cs[j]? = some x → ∃ u, w.cell? ⟨b, off + j, none⟩ = some u ∧ RV P w I G S x u) (h : asTyped P t cs = some y) :
    ∃ u, (loadVar t ⟨b, off, none⟩).run P w = .ok u w ∧ RV P w I G S y u := by
  unfold asTyped at h
  split at h
  · rename_i ht
    split at h
    · rename_i n hz
      split at h
      · rename_i hn
        cases h
        have hf : ∀ j, j < n → w.cell? ((⟨b, off, none⟩ : Addr).add j) = some ((w.cell? ⟨b, off + j, none⟩).getD undef) := by
          intro j hj
          obtain ⟨u, hu, _⟩ := hc j (cs[j]'(by omega)) (List.getElem?_eq_getElem (by omega))
          rw [add_at, hu]
          rfl
        refine ⟨.agg ((List.range n).map fun j => (w.cell? ⟨b, off + j, none⟩).getD undef).toArray, by simp [loadVar, tagg_true ht, tsize_run hz, run_loadCells w ⟨b, off, none⟩ n _ hf], ?_⟩
        refine .agg _ _ (by simp; omega) fun i x u hx hu => ?_
        have hi : i < n := by
          have := (List.getElem?_eq_some_iff.1 hx).1
          simp at this
          omega
        rw [List.getElem?_take_of_lt hi] at hx
        obtain ⟨u', hu', hr⟩ := hc i x hx
        simp [hi, hu'] at hu
        subst hu
        exact hr
      · cases h
    · cases h
  · rename_i ht
    cases cs with
    | nil => cases h
    | cons x r =>
      cases h
      obtain ⟨u, hu, hr⟩ := hc 0 y (by simp)
      refine ⟨u, ?_, hr⟩
      simp only [Nat.add_zero] at hu
      simp [loadVar, tagg_false ht, hu]
  · cases h

theorem rv_cells {w : World} {I : Nat → Nat → Prop} {G : Gh} {S : Stk} {y : AV} {u : Value} (h : RV P w I G S y u) (h1 : allOne y.cells = true) :
    u.cells.size = y.cells.length ∧ (∀ (i : Nat) (x : AV) (v : Value), y.cells[i]? = some x → u.cells[i]? = some v → RV P w I G S x v) := by
  have one : ∀ {y : AV} {u : Value}, RV P w I G S y u → y.cells = [y] → u.cells = #[u] → u.cells.size = y.cells.length ∧ (∀ (i : Nat) (x : AV) (v : Value), y.cells[i]? = some x → u.cells[i]? = some v → RV P w I G S x v) := by
    intro y u h e1 e2
    rw [e1, e2]
    refine ⟨rfl, fun i x v hx hv => ?_⟩
    cases i with
    | zero => simp at hx hv; subst hx; subst hv; exact h
    | succ i => simp at hx
  cases h with
  | dat hd =>
    cases hd with
    | v x =>
      have h2 : oneV u = true := by simpa [AV.cells, allOne, AV.one] using h1
      exact one (.dat (.v u)) rfl (by cases u <;> first | rfl | (simp [oneV] at h2))
    | nils => exact one (.dat .nils) rfl rfl
    | lst e xs A c sz u hc hz hl hA hd hu => exact one (.dat (.lst e xs A c sz u hc hz hl hA hd hu)) rfl rfl
  | agg cs vs hl h => exact ⟨hl.symm, fun i x v hx hv => h i x v hx hv⟩
  | tup cs vs hl h => simp [AV.cells, allOne, AV.one] at h1
  | ptr k s off g hg => exact one (.ptr k s off g hg) rfl rfl
  | ref cs ad hs u h => exact one (.ref cs ad hs u h) rfl rfl
  | row k s n g e sz xs val hg hS hn hd hl =>
    refine one (.row k s n g e sz xs u hg hS hn hd hl) rfl ?_
    cases hd
    rfl
  | clo f caps vs hl h => exact one (.clo f caps vs hl h) rfl rfl
  | ifc t h => exact one (.ifc t h) rfl rfl

/-- One-cell things are one-cell values. -/
theorem rv_one {w : World} {I : Nat → Nat → Prop} {G : Gh} {S : Stk} {y : AV} {u : Value} (h : RV P w I G S y u) (h1 : y.one = true) : u.oneCell' = true := by
  cases h with
  | dat hd =>
    cases hd with
    | v x => cases u <;> first | rfl | (simp [AV.one, oneV] at h1)
    | nils => rfl
    | lst => rfl
  | agg => simp [AV.one] at h1
  | tup => simp [AV.one] at h1
  | ptr => rfl
  | ref => rfl
  | row k s n g e sz xs val hg hS hn hd hl => cases hd; rfl
  | clo => rfl
  | ifc => rfl

theorem below_new (w : World) (o : Obj) : Below w.heap.size w (w.alloc o) := (Below.refl _ _).alloc (Nat.le_refl _) _
theorem alloc_at (w : World) (o : Obj) : (w.alloc o).heap[w.heap.size]? = some o := by
  show (w.heap.push o)[w.heap.size]? = some o
  simp
theorem sr_head {w : World} {I : Nat → Nat → Prop} {B : Nat} {G : Gh} {L : Loc} {S : Stk} (h : SR P w I B G (L :: S)) : ∃ g0 G0, G = g0 :: G0 := by
  have := h.len
  cases G with
  | nil => simp at this
  | cons g G => exact ⟨g, G, rfl⟩

/-- A variable made: its cells are known. -/
theorem tr_var {w : World} {I : Nat → Nat → Prop} {B : Nat} {G : Gh} {st : St} {d : Nat} {t : TypeId} {cs : List AV} {arr : Array Value} {L : Loc} (hs : SR P w I B G (st.L :: st.S)) (h : st.new d (.blk t cs) = some L) (hl : arr.size = cs.length)
    (h1 : allOne cs = true) (hc : ∀ (i : Nat) (x : AV) (u : Value), cs[i]? = some x → arr[i]? = some u → RV P w I G (st.L :: st.S) x u) :
    frSays d (kdel st.F d) = false ∧ Tr P B (some d) w I G (st.L :: st.S) (w.alloc (.cells arr t)) I (gset G d (w.heap.size, undef)) (L :: st.S) ∧ RV P (w.alloc (.cells arr t)) I (gset G d (w.heap.size, undef)) (L :: st.S) (.ptr 0 d 0) (.pointer (some ⟨w.heap.size, 0, none⟩)) := by
  obtain ⟨rfl, hq1, hq2, hq3⟩ := new_some h
  obtain ⟨g0, G0, rfl⟩ := sr_head hs
  have hlt : ∀ b j, I b j → b < w.heap.size := fun b j h => by
    obtain ⟨u, hu⟩ := hs.cell b j h
    exact World.block_lt_of_cell? w _ hu
  have hfut : Fut w I (w.alloc (.cells arr t)) I := fun b j h => ⟨h, (below_new w _).cell (p := ⟨b, j, none⟩) (hlt b j h)⟩
  refine ⟨hq1, tr_new hs hq2 (below_new w _) (fun _ _ _ => Iff.rfl) (fun b j h => ?_) ?_ ?_, ?_⟩
  · obtain ⟨u, hu⟩ := hs.cell b j h
    exact ⟨u, (hfut b j h).2.trans hu⟩
  · refine .blk t cs arr hs.base (fun j hj => by have := hlt _ _ hj; simp at this) (alloc_at w _) hl (fun i x hx => ?_) fun i x u hx hu => (hc i x u hx hu).move hfut evo_new ?_
    · exact List.all_eq_true.1 h1 x (List.mem_of_getElem? hx)
    · exact hq3 i x hx
  · intro b hb
    simp only [blkOf, Option.some.injEq] at hb
    omega
  · have := RV.ptr (P := P) (w := w.alloc (.cells arr t)) (I := I) (G := gset (g0 :: G0) d (w.heap.size, undef)) (S := kset st.L d (.blk t cs) :: st.S) 0 d 0 (fun q => if q = d then (w.heap.size, undef) else g0 q) (by simp [gset])
    simpa using this

/-- What a step may go on with. -/
def Goes (P : Program) (B : Nat) (w : World) (I : Nat → Nat → Prop) (G : Gh) (st : St) (dst : Option Tmp) (x : AV) (L : Loc) (S : Stk) (K : Value → World → Prop) : Prop :=
  ∀ d w' I' G' u, (∀ k, d = some k → dst = some k ∧ frSays k (kdel st.F k) = false) → Tr P B d w I G (st.L :: st.S) w' I' G' (L :: S) → RV P w' I' G' (L :: S) x u → K u w'

theorem goes_same {B : Nat} {w : World} {I : Nat → Nat → Prop} {G : Gh} {st : St} {dst : Option Tmp} {x : AV} {K : Value → World → Prop} {u : Value} (hs : SR P w I B G (st.L :: st.S)) (hk : Goes P B w I G st dst x st.L st.S K) (h : RV P w I G (st.L :: st.S) x u) : K u w :=
  hk none w I G u (fun _ h => by cases h) (Tr.refl hs) h

theorem rv_v {w : World} {I : Nat → Nat → Prop} {G : Gh} {S : Stk} {x u : Value} (h : RV P w I G S (.v x) u) : u = x := rv_toVal h x rfl

theorem ptr_inv {w : World} {I : Nat → Nat → Prop} {G : Gh} {S : Stk} {k s off : Nat} {u : Value} (h : RV P w I G S (.ptr k s off) u) : ∃ g, G[k]? = some g ∧ u = .pointer (some ⟨(g s).1, off, none⟩) := by
  cases h with
  | dat hd => cases hd
  | ptr _ _ _ g hg => exact ⟨g, hg, rfl⟩
theorem ref_inv {w : World} {I : Nat → Nat → Prop} {G : Gh} {S : Stk} {cs : List AV} {u : Value} (h : RV P w I G S (.ref cs) u) : ∃ (ad : Addr) (f : Nat → Value), u = .pointer (some ad) ∧ ad.spot = none ∧ ∀ (j : Nat) (x : AV), cs[j]? = some x → w.cell? ⟨ad.block, ad.off + j, none⟩ = some (f j) ∧ I ad.block (ad.off + j) ∧ DV P w I x (f j) := by
  cases h with
  | dat hd => cases hd
  | ref _ ad hs f h => exact ⟨ad, f, rfl, hs, h⟩

theorem blk_cells {w : World} {I : Nat → Nat → Prop} {B : Nat} {G : Gh} {S : Stk} {k s : Nat} {t : TypeId} {cs : List AV} {g : Nat → Nat × Value} (hs : SR P w I B G S) (hS : sget S k s = some (.blk t cs)) (hg : G[k]? = some g) :
    ∃ arr, w.heap[(g s).1]? = some (.cells arr t (0, 0)) ∧ arr.size = cs.length ∧ (∀ (i : Nat) (x : AV), cs[i]? = some x → x.one = true) ∧ (∀ (i : Nat) (x : AV) (u : Value), cs[i]? = some x → arr[i]? = some u → RV P w I (G.drop k) (S.drop k) x u) := by
  obtain ⟨g', hg', hok⟩ := hs.ob k s _ hS
  obtain rfl : g' = g := Option.some.inj (hg'.symm.trans hg)
  cases hok with
  | blk t cs arr hB hI hb hl h1 h => exact ⟨arr, hb, hl, h1, h⟩

theorem putCells_some {cs news cs' : List AV} {off : Nat} (h : putCells cs off news = some cs') : off + news.length ≤ cs.length ∧ cs' = cs.take off ++ news ++ cs.drop (off + news.length) := by
  simp only [putCells] at h
  by_cases hc : off + news.length ≤ cs.length
  · rw [if_pos hc] at h
    exact ⟨hc, (Option.some.inj h).symm⟩
  · rw [if_neg hc] at h
    cases h
theorem put_get {α : Type} (l news : List α) (off i : Nat) (h : off + news.length ≤ l.length) : (l.take off ++ news ++ l.drop (off + news.length))[i]? = if i < off then l[i]? else if i < off + news.length then news[i - off]? else l[i]? := by
  by_cases h1 : i < off
  · simp only [h1, if_true]
    rw [List.append_assoc, List.getElem?_append_left (by simp; omega), List.getElem?_take_of_lt h1]
  · simp only [h1, if_false]
    by_cases h2 : i < off + news.length
    · simp only [h2, if_true]
      rw [List.append_assoc, List.getElem?_append_right (by simp; omega), List.getElem?_append_left (by simp; omega)]
      simp [Nat.min_eq_left (show off ≤ l.length by omega)]
    · simp only [h2, if_false]
      rw [List.getElem?_append_right (by simp; omega), List.getElem?_drop]
      congr 1
      simp
      omega
end
end Go.Proofs.YtffjdcbegohmiaaDoor.Ev
