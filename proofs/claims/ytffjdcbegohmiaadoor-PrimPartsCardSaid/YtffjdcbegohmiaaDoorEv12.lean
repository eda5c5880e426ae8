/-
  Calls: of what hangs on no store; of what only reads; any.
-/
import Derived.Test.YtffjdcbegohmiaaDoorEv11
namespace Go.Proofs.YtffjdcbegohmiaaDoor.Ev
open Go Go.RowKit

section
variable {P : Program} {w : World} {I : Nat → Nat → Prop} {B : Nat} {G : Gh} {S : Stk} {st : St}

/-- A call comes to what the evaluator says. -/
def CallOK (P : Program) (call : CallT) : Prop := ∀ (g : FuncId) (ys : List AV) (S0 : Stk) (r : AV) (S' : Stk), call g ys S0 = some (r, S') → ∀ (w : World) (I : Nat → Nat → Prop) (B : Nat) (G : Gh) (args : Array Value), SR P w I B G S0 → args.size = ys.length →
  (∀ (i : Nat) (y : AV) (u : Value), ys[i]? = some y → args[i]? = some u → RV P w I ((fun _ => (0, undef)) :: G) ([] :: S0) y u) →
  Calls P g args w fun e w' => ∃ v, e = .returned v ∧ ∃ I' G', Tr P B none w I G S0 w' I' G' S' ∧ RV P w' I' G' S' r v

theorem sr_free (hs : SR P w I B G S) : SR P w I w.heap.size [] [] :=
  ⟨rfl, fun k s o h => by simp [sget] at h, fun k s o g k' s' o' g' h => by simp [sget] at h, hs.cell, Nat.le_refl _, Top.up hs.top hs.base⟩

/-- A call below the stores leaves them. -/
theorem tr_back {w' : World} {I' : Nat → Nat → Prop} {G' : Gh} {S' : Stk} (hs : SR P w I B G S) (h : Tr P w.heap.size none w I [] [] w' I' G' S') : Tr P B none w I G S w' I' G S :=
  tr_more hs h.bel (fun b j hb => ⟨h.low b j hb, fun h1 => (h.fut b j h1).1⟩) h.sr.cell

theorem noStks_get {cs : List AV} (h : noStks cs = true) : ∀ (i : Nat) (x : AV), cs[i]? = some x → x.noStk = true := by
  induction cs with
  | nil => intro i x hx; simp at hx
  | cons y r ih =>
    simp only [noStks, Bool.and_eq_true] at h
    intro i x hx
    cases i with
    | zero => simp at hx; subst hx; exact h.1
    | succ i => exact ih h.2 i x (by simpa using hx)
/-- What speaks of no store means the same among all stores. -/
theorem RV.free {r : AV} {v : Value} (h : RV P w I G S r v) : r.noStk = true → ∀ G2 S2, RV P w I G2 S2 r v := by
  induction h with
  | dat h => exact fun _ _ _ => .dat h
  | agg cs vs hl h ih =>
    intro hn G2 S2
    simp only [AV.noStk] at hn
    exact .agg cs vs hl fun i x u hx hu => ih i x u hx hu (noStks_get hn i x hx) G2 S2
  | tup cs vs hl h ih =>
    intro hn G2 S2
    simp only [AV.noStk] at hn
    exact .tup cs vs hl fun i x u hx hu => ih i x u hx hu (noStks_get hn i x hx) G2 S2
  | ptr => intro hn; simp [AV.noStk] at hn
  | ref cs ad hs u h => exact fun _ _ _ => .ref cs ad hs u h
  | row => intro hn; simp [AV.noStk] at hn
  | clo f caps vs hl h ih =>
    intro hn G2 S2
    simp only [AV.noStk] at hn
    exact .clo f caps vs hl fun i x u hx hu => ih i x u hx hu (noStks_get hn i x hx) G2 S2
  | ifc t h ih => intro hn G2 S2; simp only [AV.noStk] at hn; exact .ifc t (ih hn G2 S2)

theorem RV.scal {r : AV} {v : Value} (h : RV P w I G S r v) (hs : r.scal = true) (w2 : World) (I2 : Nat → Nat → Prop) (G2 : Gh) (S2 : Stk) : RV P w2 I2 G2 S2 r v := by
  have one : ∀ {x : AV} {u : Value}, RV P w I G S x u → x.sc = true → RV P w2 I2 G2 S2 x u := by
    intro x u hr hx
    cases x with
    | v y => cases rv_v hr; exact .dat (.v _)
    | nils => cases rv_toVal hr (.slice none 0 0) rfl; exact .dat .nils
    | _ => simp [AV.sc] at hx
  cases h with
  | dat h =>
    cases h with
    | v => exact .dat (.v _)
    | nils => exact .dat .nils
    | lst => simp [AV.scal, AV.sc] at hs
  | agg cs vs hl h => exact .agg cs vs hl fun i x u hx hu => one (h i x u hx hu) (List.all_eq_true.1 hs x (List.mem_of_getElem? hx))
  | tup cs vs hl h => exact .tup cs vs hl fun i x u hx hu => one (h i x u hx hu) (List.all_eq_true.1 hs x (List.mem_of_getElem? hx))
  | _ => simp [AV.scal, AV.sc] at hs

/-- All variables of all frames, for the time of a call that only reads. -/
def withVars (I : Nat → Nat → Prop) (G : Gh) (S : Stk) : Nat → Nat → Prop := fun b o => I b o ∨ ∃ k s t cs g, sget S k s = some (.blk t cs) ∧ G[k]? = some g ∧ (g s).1 = b ∧ o < cs.length
theorem sr_vars (hs : SR P w I B G S) : SR P w (withVars I G S) w.heap.size [] [] :=
  ⟨rfl, fun k s o h => by simp [sget] at h, fun k s o g k' s' o' g' h => by simp [sget] at h, fun b o h => by
    rcases h with h | ⟨k, s, t, cs, g, h1, h2, rfl, h4⟩
    · exact hs.cell b o h
    · obtain ⟨g', hg', hok⟩ := hs.ob k s _ h1
      obtain rfl : g' = g := Option.some.inj (hg'.symm.trans h2)
      cases hok with
      | blk t cs arr hB hI hb hl h1 h =>
        refine ⟨arr[o]'(by omega), ?_⟩
        unfold World.cell?
        rw [hb]
        simp, Nat.le_refl _, Top.up hs.top hs.base⟩

theorem snaps_some {S : Stk} {cs ds : List AV} (h : snaps S cs = some ds) : cs.length = ds.length ∧ ∀ (i : Nat) (y : AV), ds[i]? = some y → ∃ x, cs[i]? = some x ∧ x.snap S = some y := by
  induction cs generalizing ds with
  | nil => simp only [snaps, Option.some.injEq] at h; subst h; simp
  | cons y r ih =>
    simp only [snaps] at h
    cases hy : y.snap S with
    | none => simp [hy] at h
    | some z =>
      cases hr : snaps S r with
      | none => simp [hy, hr] at h
      | some m =>
        simp only [hy, hr, Option.some.injEq] at h
        subst h
        obtain ⟨h1, h2⟩ := ih hr
        refine ⟨by simp [h1], fun i x hx => ?_⟩
        cases i with
        | zero => simp at hx; subst hx; exact ⟨y, by simp, hy⟩
        | succ i => simpa using h2 i x (by simpa using hx)
theorem snap_dat {x : AV} {u : Value} (h : DV P w I x u) (S : Stk) : x.snap S = some x := by cases h <;> rfl
theorem fut_vars : Fut w I w (withVars I G S) := fun _ _ h => ⟨.inl h, rfl⟩

theorem RV.snap (hs : SR P w I B G S) {x : AV} {u : Value} (h : RV P w I G S x u) (G2 : Gh) (S2 : Stk) : ∀ y, x.snap S = some y → RV P w (withVars I G S) G2 S2 y u := by
  induction h with
  | dat h =>
    intro y hy
    rw [snap_dat h] at hy
    cases hy
    exact .dat (h.move fut_vars)
  | agg cs vs hl h ih =>
    intro y hy
    simp only [AV.snap, Option.map_eq_some_iff] at hy
    obtain ⟨ds, h1, rfl⟩ := hy
    obtain ⟨h2, h3⟩ := snaps_some h1
    refine .agg ds vs (by omega) fun i y u hy hu => ?_
    obtain ⟨x, h4, h5⟩ := h3 i y hy
    exact ih i x u h4 hu y h5
  | tup cs vs hl h ih =>
    intro y hy
    simp only [AV.snap, Option.map_eq_some_iff] at hy
    obtain ⟨ds, h1, rfl⟩ := hy
    obtain ⟨h2, h3⟩ := snaps_some h1
    refine .tup ds vs (by omega) fun i y u hy hu => ?_
    obtain ⟨x, h4, h5⟩ := h3 i y hy
    exact ih i x u h4 hu y h5
  | ptr k s off g hg =>
    intro y hy
    simp only [AV.snap] at hy
    split at hy
    · rename_i t cs hS
      split at hy
      · rename_i ds hds
        split at hy
        · rename_i hdat
          cases hy
          obtain ⟨g', hg', hok⟩ := hs.ob k s _ hS
          obtain rfl : g' = g := Option.some.inj (hg'.symm.trans hg)
          obtain ⟨arr, hb, hl, hrv⟩ : ∃ arr, w.heap[(g' s).1]? = some (.cells arr t (0, 0)) ∧ arr.size = cs.length ∧ ∀ (i : Nat) (x : AV) (u : Value), cs[i]? = some x → arr[i]? = some u → RV P w I (G.drop k) (S.drop k) x u := by
            cases hok with
            | blk t cs arr hB hI hb hl h1 h => exact ⟨arr, hb, hl, h⟩
          obtain ⟨f1, f2⟩ := frzs_some hds
          rw [ups_length] at f1
          refine .ref _ _ rfl (fun j => (arr[off + j]?).getD undef) fun j x hx => ?_
          rw [List.getElem?_drop] at hx
          obtain ⟨z, hz, hfz⟩ := f2 _ x hx
          rw [ups_get, Option.map_eq_some_iff] at hz
          obtain ⟨z0, hz0, rfl⟩ := hz
          have hlt := (List.getElem?_eq_some_iff.1 hz0).1
          have ha : arr[off + j]? = some (arr[off + j]'(by omega)) := Array.getElem?_eq_getElem _
          have hr := (RV.up (hrv _ _ _ hz0 ha)).frz _ hfz
          have hxd : x.dat = true := List.all_eq_true.1 hdat _ (List.mem_of_getElem? hx)
          refine ⟨?_, .inr ⟨k, s, t, cs, g', hS, hg, rfl, hlt⟩, ?_⟩
          · unfold World.cell?
            rw [hb, ha]
            simp [ha]
          · rw [ha]
            exact (rv_dat hr hxd).move fut_vars
        · cases hy
      · cases hy
    · cases hy
  | ref cs ad hs u h =>
    intro y hy
    simp only [AV.snap, Option.some.injEq] at hy
    subst hy
    exact .ref cs ad hs u fun j x hx => ⟨(h j x hx).1, .inl (h j x hx).2.1, (h j x hx).2.2.move fut_vars⟩
  | row k s n g e sz xs val hg hS hn hd hl =>
    intro y hy
    simp only [AV.snap, hS, Option.some.injEq] at hy
    subst hy
    exact .dat (hd.move fut_vars)
  | clo f caps vs hl h ih =>
    intro y hy
    simp only [AV.snap, Option.map_eq_some_iff] at hy
    obtain ⟨ds, h1, rfl⟩ := hy
    obtain ⟨h2, h3⟩ := snaps_some h1
    refine .clo f ds vs (by omega) fun i y u hy hu => ?_
    obtain ⟨x, h4, h5⟩ := h3 i y hy
    exact ih i x u h4 hu y h5
  | ifc t h ih =>
    intro y hy
    simp only [AV.snap, Option.map_eq_some_iff] at hy
    obtain ⟨z, h1, rfl⟩ := hy
    exact .ifc t (ih z h1)
end
end Go.Proofs.YtffjdcbegohmiaaDoor.Ev
