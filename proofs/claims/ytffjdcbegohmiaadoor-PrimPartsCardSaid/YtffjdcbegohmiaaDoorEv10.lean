/-
  Slices made: literals, bytes of a string; lengths; appends.
-/
import Derived.Test.YtffjdcbegohmiaaDoorEv9
namespace Go.Proofs.YtffjdcbegohmiaaDoor.Ev
open Go Go.RowKit

section
variable {P : Program} {w : World} {I : Nat → Nat → Prop} {B : Nat} {G : Gh} {S : Stk} {st : St}

theorem frzs_some {all : Bool} {S : Stk} {cs ds : List AV} (h : frzs all S cs = some ds) : cs.length = ds.length ∧ ∀ (i : Nat) (y : AV), ds[i]? = some y → ∃ x, cs[i]? = some x ∧ x.frz all S = some y := by
  induction cs generalizing ds with
  | nil => simp only [frzs, Option.some.injEq] at h; subst h; simp
  | cons y r ih =>
    simp only [frzs] at h
    cases hy : y.frz all S with
    | none => simp [hy] at h
    | some z =>
      cases hr : frzs all S r with
      | none => simp [hy, hr] at h
      | some m =>
        simp only [hy, hr, Option.some.injEq] at h
        subst h
        obtain ⟨h1, h2⟩ := ih hr
        refine ⟨by simp [h1], fun i x hx => ?_⟩
        cases i with
        | zero => simp at hx; subst hx; exact ⟨y, by simp, hy⟩
        | succ i => simpa using h2 i x (by simpa using hx)
theorem frz_dat {x : AV} {u : Value} (h : DV P w I x u) (all : Bool) (S : Stk) : x.frz all S = some x := by cases h <;> rfl
theorem RV.frz {all : Bool} {x : AV} {u : Value} (h : RV P w I G S x u) : ∀ y, x.frz all S = some y → RV P w I G S y u := by
  induction h with
  | dat h =>
    intro y hy
    rw [frz_dat h] at hy
    cases hy
    exact .dat h
  | agg cs vs hl h ih =>
    intro y hy
    simp only [AV.frz, Option.map_eq_some_iff] at hy
    obtain ⟨ds, h1, rfl⟩ := hy
    obtain ⟨h2, h3⟩ := frzs_some h1
    refine .agg ds vs (by omega) fun i y u hy hu => ?_
    obtain ⟨x, h4, h5⟩ := h3 i y hy
    exact ih i x u h4 hu y h5
  | tup cs vs hl h ih =>
    intro y hy
    simp only [AV.frz, Option.map_eq_some_iff] at hy
    obtain ⟨ds, h1, rfl⟩ := hy
    obtain ⟨h2, h3⟩ := frzs_some h1
    refine .tup ds vs (by omega) fun i y u hy hu => ?_
    obtain ⟨x, h4, h5⟩ := h3 i y hy
    exact ih i x u h4 hu y h5
  | ptr k s off g hg => intro y hy; simp only [AV.frz, Option.some.injEq] at hy; subst hy; exact .ptr k s off g hg
  | ref cs ad hs u h => intro y hy; simp only [AV.frz, Option.some.injEq] at hy; subst hy; exact .ref cs ad hs u h
  | row k s n g e sz xs val hg hS hn hd hl =>
    intro y hy
    simp only [AV.frz] at hy
    split at hy
    · rw [hS] at hy
      simp only [Option.some.injEq] at hy
      subst hy
      exact .dat hd
    · cases hy
      exact .row k s n g e sz xs val hg hS hn hd hl
  | clo f caps vs hl h ih => intro y hy; simp only [AV.frz, Option.some.injEq] at hy; subst hy; exact .clo f caps vs hl h
  | ifc t h ih => intro y hy; simp only [AV.frz, Option.some.injEq] at hy; subst hy; exact .ifc t h

/-- The cells of one new block never change any more. -/
def withBlock (I : Nat → Nat → Prop) (b n : Nat) : Nat → Nat → Prop := fun b' o => I b' o ∨ (b' = b ∧ o < n)

theorem tr_block {w' : World} (hs : SR P w I B G S) (n : Nat) (hb : Below w.heap.size w w') (hc : ∀ o, o < n → ∃ u, w'.cell? ⟨w.heap.size, o, none⟩ = some u) : Tr P B none w I G S w' (withBlock I w.heap.size n) G S := by
  have hlt : ∀ b j, I b j → b < w.heap.size := fun b j h => by
    obtain ⟨u, hu⟩ := hs.cell b j h
    exact World.block_lt_of_cell? w _ hu
  refine tr_more hs hb (fun b j hbl => ?_) (fun b j h => ?_)
  · constructor
    · rintro (h | ⟨h, _⟩)
      · exact h
      · omega
    · exact .inl
  · rcases h with h | ⟨rfl, h⟩
    · obtain ⟨u, hu⟩ := hs.cell b j h
      exact ⟨u, (hb.cell (p := ⟨b, j, none⟩) (hlt b j h)).trans hu⟩
    · exact hc j h

theorem chunk_get (sz : Nat) : ∀ (n : Nat) (cs : List AV) (i : Nat), (chunk sz n cs)[i]? = if i < n then some ((cs.drop (i * sz)).take sz) else none := by
  intro n
  induction n with
  | zero => intro cs i; simp [chunk]
  | succ n ih =>
    intro cs i
    cases i with
    | zero => simp [chunk]
    | succ i =>
      simp only [chunk, List.getElem?_cons_succ, ih, List.drop_drop, Nat.add_lt_add_iff_right]
      rw [show sz + i * sz = (i + 1) * sz by rw [Nat.add_mul]; omega]
theorem chunk_length (sz : Nat) : ∀ (n : Nat) (cs : List AV), (chunk sz n cs).length = n := by
  intro n
  induction n with
  | zero => intro cs; rfl
  | succ n ih => intro cs; simp [chunk, ih]

theorem flat_rep {α : Type} (l : List α) (_hl : 0 < l.length) : ∀ (n j : Nat), ((List.replicate n l).flatten)[j]? = if j < n * l.length then l[j % l.length]? else none := by
  intro n
  induction n with
  | zero => intro j; simp
  | succ n ih =>
    intro j
    simp only [List.replicate_succ, List.flatten_cons]
    by_cases hj : j < l.length
    · rw [List.getElem?_append_left hj, Nat.mod_eq_of_lt hj]
      have : j < (n + 1) * l.length := by rw [Nat.add_mul]; omega
      simp [this]
    · rw [List.getElem?_append_right (by omega), ih]
      have e : j % l.length = (j - l.length) % l.length := Nat.mod_eq_sub_mod (by omega)
      rw [e]
      by_cases h2 : j - l.length < n * l.length
      · have : j < (n + 1) * l.length := by rw [Nat.add_mul]; omega
        simp [h2, this]
      · have : ¬ j < (n + 1) * l.length := by rw [Nat.add_mul]; omega
        simp [h2, this]

theorem rv_dat {x : AV} {u : Value} (hr : RV P w I G S x u) (hdx : x.dat = true) : DV P w I x u := by
  cases hr with
  | dat h => exact h
  | _ => simp [AV.dat] at hdx

/-- A list of chunks in one new block. -/
theorem dv_chunks {w' : World} {I' : Nat → Nat → Prop} {G' : Gh} {S' : Stk} {e : TypeId} {sz n b c : Nat} {cells : List AV} {vs : Array Value} (hz : tsize P e = some sz) (hlen : cells.length = n * sz) (hc : n ≤ c) (hcr : CR P w' I' G' S' cells vs) (hd : allDat cells = true)
    (hcell : ∀ o, o < n * sz → w'.cell? ⟨b, o, none⟩ = vs[o]? ∧ I' b o) : DV P w' I' (.lst e (chunk sz n cells)) (.slice (some ⟨b, 0, none⟩) n c) := by
  have hbound : ∀ i j, i < n → j < sz → i * sz + j < n * sz := by
    intro i j hi hj
    have : (i + 1) * sz ≤ n * sz := Nat.mul_le_mul_right _ hi
    rw [Nat.add_mul] at this
    omega
  have hget : ∀ (i : Nat) (cs : List AV) (j : Nat) (x : AV), (chunk sz n cells)[i]? = some cs → cs[j]? = some x → i < n ∧ j < sz ∧ cells[i * sz + j]? = some x := by
    intro i cs j x h1 h2
    rw [chunk_get] at h1
    split at h1
    · rename_i hi
      cases h1
      have hj := (List.getElem?_eq_some_iff.1 h2).1
      simp at hj
      rw [List.getElem?_take_of_lt (by omega), List.getElem?_drop] at h2
      exact ⟨hi, by omega, h2⟩
    · cases h1
  have hl : (chunk sz n cells).length = n := chunk_length _ _ _
  have := DV.lst (P := P) (w := w') (I := I') e (chunk sz n cells) (some ⟨b, 0, none⟩) c sz (fun i j => (vs[i * sz + j]?).getD undef) (by rw [hl]; exact hc) hz (fun i cs h1 => by
      rw [chunk_get] at h1
      split at h1
      · rename_i hi
        cases h1
        simp
        have := hbound i 0 hi
        have h3 : (i + 1) * sz ≤ n * sz := Nat.mul_le_mul_right _ hi
        rw [Nat.add_mul] at h3
        omega
      · cases h1) (fun _ => ⟨⟨b, 0, none⟩, rfl, rfl, fun i j hi hj => by
        rw [hl] at hi
        have hb := hbound i j hi hj
        obtain ⟨h1, h2⟩ := hcell (i * sz + j) hb
        have hv : vs[i * sz + j]? = some (vs[i * sz + j]'(by rw [hcr.1]; omega)) := Array.getElem?_eq_getElem _
        simp only [Nat.zero_add]
        exact ⟨by rw [h1, hv]; rfl, h2⟩⟩) (fun i cs j x h1 h2 => List.all_eq_true.1 hd _ (List.mem_of_getElem? (hget i cs j x h1 h2).2.2)) (fun i cs j x h1 h2 => by
        obtain ⟨hi, hj, hx⟩ := hget i cs j x h1 h2
        have hb := hbound i j hi hj
        have hv : vs[i * sz + j]? = some (vs[i * sz + j]'(by rw [hcr.1]; omega)) := Array.getElem?_eq_getElem _
        have hr := hcr.2 _ x _ hx hv
        rw [hv]
        have hdx : x.dat = true := List.all_eq_true.1 hd _ (List.mem_of_getElem? hx)
        exact rv_dat hr hdx)
  rw [hl] at this
  exact this

mutual
theorem frz_own (all : Bool) (S : Stk) : ∀ x : AV, x.noStk = true → x.frz all S = some x
  | .agg cs, h => by simp only [AV.noStk] at h; simp [AV.frz, frzs_own all S cs h]
  | .tup cs, h => by simp only [AV.noStk] at h; simp [AV.frz, frzs_own all S cs h]
  | .row .., h => by simp [AV.noStk] at h
  | .v _, _ => rfl
  | .nils, _ => rfl
  | .lst .., _ => rfl
  | .ref _, _ => rfl
  | .ptr .., _ => rfl
  | .clo .., _ => rfl
  | .ifc .., _ => rfl
theorem frzs_own (all : Bool) (S : Stk) : ∀ xs : List AV, noStks xs = true → frzs all S xs = some xs
  | [], _ => rfl
  | x :: r, h => by
    simp only [noStks, Bool.and_eq_true] at h
    simp only [frzs, frz_own all S x h.1, frzs_own all S r h.2]
end
theorem own_frz {all : Bool} {S : Stk} {ys zs : List AV} (h : ownYs ys = some zs) : frzs all S ys = some zs := by
  unfold ownYs at h
  split at h
  · rename_i hn
    cases h
    exact frzs_own all S ys hn
  · cases h

theorem mem_buildSlice (t : TypeId) (len : Nat) (parts : Array (Nat × Operand)) : MemOK P (.buildSlice t len parts) := by
  intro w I B G st a next Q o x L S ho hs hf h hk
  simp only [evMem] at h
  split at h
  · rename_i e ys ht hys
    split at h
    · rename_i sz z zs hsz hz hzs0
      have hzs : frzs true (st.L :: st.S) ys = some zs := own_frz hzs0
      split at h
      · rename_i hc
        obtain ⟨hc1, hc2, hc3, hc4⟩ := hc
        split at h
        · rename_i cells hfill
          split at h
          · rename_i hdat
            obtain ⟨it, zv, hi, hz1, hcr, hzz⟩ := cr_zero (w := w) (I := I) (G := G) (S := st.L :: st.S) hz
            have hszi : it.size = sz := by
              have : tsize P e = some it.size := by simp [tsize, hi]
              exact Option.some.inj (this.symm.trans hsz)
            have hzs' : zv.cells.size = sz := by rw [hcr.1]; exact hc3
            -- the parts, as values
            have hparts : ((parts.toList.map (·.1)).zip zs).length = (parts.toList.map fun p => (p.1, a.eval p.2)).length ∧ ∀ (i : Nat) (p : Nat × AV) (q : Nat × Value), ((parts.toList.map (·.1)).zip zs)[i]? = some p → (parts.toList.map fun p => (p.1, a.eval p.2))[i]? = some q → p.1 = q.1 ∧ RV P w I G (st.L :: st.S) p.2 q.2 ∧ allOne p.2.cells = true := by
              have hlen := (evals_some hys).1
              have hlen2 := (frzs_some hzs).1
              simp only [List.length_map, Array.length_toList] at hlen
              refine ⟨by simp; omega, fun i p q hp hq => ?_⟩
              rw [List.getElem?_zip_eq_some] at hp
              obtain ⟨hp1, hp2⟩ := hp
              rw [List.getElem?_map, Option.map_eq_some_iff] at hp1 hq
              obtain ⟨b, hb, hb1⟩ := hp1
              obtain ⟨b', hb', rfl⟩ := hq
              rw [hb] at hb'
              cases hb'
              obtain ⟨y, hy1, hy2⟩ := (frzs_some hzs).2 i p.2 hp2
              obtain ⟨z', hz', hr⟩ := evals_rv hf hys i y hy1
              rw [List.getElem?_map, hb] at hz'
              simp only [Option.map_some, Option.some.injEq] at hz'
              subst hz'
              exact ⟨hb1.symm, hr.frz _ hy2, List.all_eq_true.1 hc4 _ (List.mem_of_getElem? hp2)⟩
            -- the cells ahead of them
            let base : Array Value := (Array.range (len * sz)).map (zv.cells[· % zv.cells.size]!)
            have hbase : CR P w I G (st.L :: st.S) (List.replicate len z).flatten base := by
              refine ⟨by simp [base, hc3], fun j y u hy hu => ?_⟩
              have hj : j < len * sz := by
                have := (Array.getElem?_eq_some_iff.1 hu).1
                simpa [base] using this
              rw [flat_rep z (by omega), hc3] at hy
              simp only [hj, if_true] at hy
              have hu2 : u = zv.cells[j % zv.cells.size]! := by
                have h2 : base[j]? = some (zv.cells[j % zv.cells.size]!) := by simp [base, hj]
                exact Option.some.inj (hu.symm.trans h2)
              have hlt : j % zv.cells.size < zv.cells.size := Nat.mod_lt _ (by omega)
              rw [hu2, getElem!_pos zv.cells (j % zv.cells.size) hlt]
              have h3 := hcr.2 (j % sz) y (zv.cells[j % zv.cells.size]) hy (by rw [← hzs']; exact Array.getElem?_eq_getElem hlt)
              exact h3
            obtain ⟨vs', g1, g2⟩ := fill_sound _ _ _ _ _ _ hparts.1 hparts.2 hbase hfill
            have hfl : ((List.replicate len z).flatten).length = len * sz := by simp [hc3]
            have hcl : cells.length = len * sz := by
              have : ∀ (ps : List (Nat × AV)) (cs cs' : List AV), fillA (fun i => some (i * sz, sz)) cs ps = some cs' → cs'.length = cs.length := by
                intro ps
                induction ps with
                | nil => intro cs cs' h; simp only [fillA, Option.some.injEq] at h; rw [h]
                | cons p r ih =>
                  intro cs cs' h
                  simp only [fillA] at h
                  split at h
                  · cases h
                  · split at h
                    · rename_i c hp
                      obtain ⟨p1, rfl⟩ := putCells_some hp
                      rw [ih _ _ h]
                      simp
                      omega
                    · cases h
              rw [this _ _ _ hfill, hfl]
            have hrun : (Instr.buildSlice t len (parts.map fun (i, x) => (i, a.eval x))).run P w = .ok (.slice (some ⟨w.heap.size, 0, none⟩) len len) (w.alloc (.cells vs' e)) := by
              have hle : ¬ (16777216 < len * sz) := by omega
              have e1 : (parts.map fun (i, x) => (i, a.eval x)).toList = parts.toList.map fun p => (p.1, a.eval p.2) := by simp
              by_cases h0 : len = 0
              · subst h0
                have e2 : (List.map (fun x => zv.cells[x % zv.cells.size]!) (List.range (0 * sz))).toArray = (#[] : Array Value) := by simp
                have g3 : Instr.fill (fun i => some (i * sz, sz)) (#[] : Array Value) (parts.toList.map fun p => (p.1, a.eval p.2)) = some vs' := by
                  have hb : base = #[] := Array.eq_empty_of_size_eq_zero (by simp [base])
                  rw [hb] at g1
                  exact g1
                have hr0 : Array.range 0 = (#[] : Array Nat) := rfl
                simp [Instr.buildSlice, run_underlying ht, tsize_run hsz, hr0, g3, newRow]
              · have h1 : ¬ (len * sz = 0) := by
                  rw [Nat.mul_eq_zero]
                  omega
                have g3 : Instr.fill (fun i => some (i * sz, sz)) ((Array.range (len * sz)).map (fun x => zv.cells[x % zv.cells.size]!)) (parts.toList.map fun p => (p.1, a.eval p.2)) = some vs' := g1
                simp only [Instr.buildSlice, Sem.run_bind, run_underlying ht, Result.andThen_ok, tsize_run hsz]
                rw [if_neg (by omega)]
                simp only [Sem.run_pure, Sem.run_bind, Result.andThen_ok, h1, if_false, zeroValue, typeInfo, run_program, hi, hz1, e1]
                simp [g3, newRow]
            have hex : (execOp a.eval o).run P w = .ok (.value (.slice (some ⟨w.heap.size, 0, none⟩) len len)) (w.alloc (.cells vs' e)) := by
              simp at hrun
              simp [execOp, ho, hrun]
            split at h
            · rename_i h0
              subst h0
              split at h
              · rename_i d hd
                simp only [Option.map_eq_some_iff, Prod.mk.injEq] at h
                obtain ⟨L', hL, rfl, rfl, rfl⟩ := h
                obtain ⟨rfl, hq1, hq2, _⟩ := new_some hL
                obtain ⟨g0, G0, rfl⟩ := sr_head hs
                have hlt : ∀ b j, I b j → b < w.heap.size := fun b j h => by
                  obtain ⟨u, hu⟩ := hs.cell b j h
                  exact World.block_lt_of_cell? w _ hu
                have hv0 : vs' = #[] := Array.eq_empty_of_size_eq_zero (by rw [g2.1, hcl]; simp)
                subst hv0
                have hfut : Fut w I (w.alloc (.cells #[] e)) I := fun b j h => ⟨h, (below_new w _).cell (p := ⟨b, j, none⟩) (hlt b j h)⟩
                refine wp_of_run hex (hk (some d) _ I (gset (g0 :: G0) d (0, .slice (some ⟨w.heap.size, 0, none⟩) 0 0)) _ (fun k hk' => by cases hk'; exact ⟨hd, hq1⟩) ?_ ?_)
                · refine tr_new hs hq2 (below_new w _) (fun _ _ _ => Iff.rfl) (fun b j h => ?_) ?_ ?_
                  · obtain ⟨u, hu⟩ := hs.cell b j h
                    exact ⟨u, (hfut b j h).2.trans hu⟩
                  · refine .row e sz [] [] hsz hc2 ⟨by simp, .inr ⟨w.heap.size, 0, #[], rfl, hs.base, alloc_at w _, Nat.le_refl _, by simp [maxLen], by simp, by simp⟩⟩ (fun i cs h => by simp at h) (fun i cs j x h => by simp at h) (fun i cs j x u h => by simp at h) fun b hb j => ?_
                    simp only [Value.ownBlock, Option.some.injEq] at hb
                    subst hb
                    constructor
                    · intro h; have := hlt _ _ h; simp at this
                    · intro h; simp at h
                  · intro b hb
                    simp only [blkOf, Value.ownBlock, Option.some.injEq] at hb
                    omega
                · refine .row 0 d 0 (fun q => if q = d then (0, .slice (some ⟨w.heap.size, 0, none⟩) 0 0) else g0 q) e sz [] _ (by simp [gset]) (by simp [sget, kget_kset]) (by simp) ?_ (fun _ => by simp)
                  exact .lst e [] _ 0 sz (fun _ _ => undef) (by simp) hsz (fun i cs h => by simp at h) (fun h => by simp at h) (fun i cs j x h => by simp at h) (fun i cs j x h => by simp at h)
              · cases h
            · rename_i h0
              simp only [Option.some.injEq, Prod.mk.injEq] at h
              obtain ⟨rfl, rfl, rfl⟩ := h
              have hsize : vs'.size = len * sz := by rw [g2.1, hcl]
              have hcell : ∀ o, o < len * sz → (w.alloc (.cells vs' e)).cell? ⟨w.heap.size, o, none⟩ = vs'[o]? := by
                intro o ho
                unfold World.cell?
                rw [alloc_at]
                rfl
              have htr := tr_block (B := B) hs (len * sz) (below_new w (.cells vs' e)) (fun o ho => ⟨vs'[o]'(by omega), by rw [hcell o ho]; exact Array.getElem?_eq_getElem _⟩)
              refine wp_of_run hex (hk none _ _ _ _ (fun k hk' => by cases hk') htr (.dat (dv_chunks hsz hcl (Nat.le_refl _) (G' := G) (S' := st.L :: st.S) ⟨g2.1, fun i x u hx hu => (g2.2 i x u hx hu).move htr.fut htr.evo (fun s hs => by cases hs)⟩ hdat fun o ho => ⟨hcell o ho, .inr ⟨rfl, ho⟩⟩)))
          · cases h
        · cases h
      · cases h
    · cases h
  · cases h
end
end Go.Proofs.YtffjdcbegohmiaaDoor.Ev
