/-
  The evaluator's relation: which values, stores and frames of the machine an abstract one stands for; how it is kept while memory grows.
-/
import Derived.Test.YtffjdcbegohmiaaDoorEv1
namespace Go.Proofs.YtffjdcbegohmiaaDoor.Ev
open Go

/-! ### Lists by keys -/
theorem kget_kset {α : Type} (l : List (Nat × α)) (s t : Nat) (x : α) : kget (kset l s x) t = if t = s then some x else kget l t := by
  induction l with
  | nil => simp [kset, kget]
  | cons p r ih =>
    obtain ⟨q, y⟩ := p
    simp only [kset]
    by_cases h1 : s = q
    · subst h1
      simp only [if_true, kget]
      split <;> simp_all
    · simp only [h1, if_false]
      by_cases h2 : s < q
      · simp only [h2, if_true, kget]
      · simp only [h2, if_false, kget, ih]
        by_cases h3 : t = q
        · subst h3
          have : ¬ t = s := fun e => h1 e.symm
          simp [this]
        · simp [h3]
theorem kget_kdel {α : Type} (l : List (Nat × α)) (s t : Nat) : kget (kdel l s) t = if t = s then none else kget l t := by
  induction l with
  | nil => simp [kdel, kget]
  | cons p r ih =>
    obtain ⟨q, y⟩ := p
    simp only [kdel]
    by_cases h1 : s = q
    · subst h1
      simp only [if_true, ih, kget]
      split <;> simp_all
    · simp only [h1, if_false, kget, ih]
      by_cases h3 : t = q
      · subst h3
        have : ¬ t = s := fun e => h1 e.symm
        simp [this]
      · simp [h3]
theorem kget_kkeep {α : Type} (ks : List Nat) (l : List (Nat × α)) (t : Nat) : kget (kkeep ks l) t = if ks.contains t = true then kget l t else none := by
  induction l with
  | nil => simp [kkeep, kget]
  | cons p r ih =>
    obtain ⟨q, y⟩ := p
    simp only [kkeep]
    by_cases hq : ks.contains q = true
    · simp only [hq, if_true, kget, ih]
      by_cases h3 : t = q
      · subst h3; simp only [hq, if_true]
      · simp only [h3, if_false]
    · simp only [hq, Bool.false_eq_true, if_false, ih, kget]
      by_cases h3 : t = q
      · subst h3; simp only [hq, Bool.false_eq_true, if_false]
      · simp only [h3, if_false]
theorem kget_locGc (F : Fr) (L0 l : Loc) (t : Nat) : kget (locGc F L0 l) t = if (frSays t F || locSays t L0) = true then kget l t else none := by
  induction l with
  | nil => simp [locGc, kget]
  | cons p r ih =>
    obtain ⟨q, y⟩ := p
    simp only [locGc]
    by_cases hq : (frSays q F || locSays q L0) = true
    · simp only [hq, if_true, kget, ih]
      by_cases h3 : t = q
      · subst h3; simp only [hq, if_true]
      · simp only [h3, if_false]
    · simp only [hq, Bool.false_eq_true, if_false, ih, kget]
      by_cases h3 : t = q
      · subst h3; simp only [hq, Bool.false_eq_true, if_false]
      · simp only [h3, if_false]
theorem sget_sset (S : Stk) (k s : Nat) (o : Ob) (j t : Nat) (hk : k < S.length) : sget (sset S k s o) j t = if j = k ∧ t = s then some o else sget S j t := by
  induction S generalizing k j with
  | nil => simp at hk
  | cons L S ih =>
    cases k with
    | zero =>
      cases j with
      | zero => simp [sset, sget, kget_kset]
      | succ j => simp [sset, sget]
    | succ k =>
      cases j with
      | zero => simp [sset, sget]
      | succ j =>
        simp only [sset, sget]
        rw [ih k j (by simpa using hk)]
        simp
theorem sset_length (S : Stk) (k s : Nat) (o : Ob) : (sset S k s o).length = S.length := by
  induction S generalizing k with
  | nil => simp [sset]
  | cons L S ih => cases k <;> simp [sset, ih]
theorem sget_lt (S : Stk) (k s : Nat) (o : Ob) (h : sget S k s = some o) : k < S.length := by
  induction S generalizing k with
  | nil => simp [sget] at h
  | cons L S ih =>
    cases k with
    | zero => simp
    | succ k => simp only [sget] at h; have := ih k h; simp; omega

/-! ### The relation -/
abbrev Gh := List (Nat → Nat × Value)

/-- Data. I: the cells that never change. -/
inductive DV (P : Program) (w : World) (I : Nat → Nat → Prop) : AV → Value → Prop
  | v (x : Value) : DV P w I (.v x) x
  | nils : DV P w I .nils (.slice none 0 0)
  | lst (e : TypeId) (xs : List (List AV)) (A : Option Addr) (c sz : Nat) (u : Nat → Nat → Value) (hc : xs.length ≤ c) (hz : tsize P e = some sz) (hl : ∀ (i : Nat) (cs : List AV), xs[i]? = some cs → cs.length = sz)
      (hA : 0 < xs.length → ∃ ad : Addr, A = some ad ∧ ad.spot = none ∧ ∀ i j, i < xs.length → j < sz → w.cell? ⟨ad.block, ad.off + (i * sz + j), none⟩ = some (u i j) ∧ I ad.block (ad.off + (i * sz + j)))
      (hd : ∀ (i : Nat) (cs : List AV) (j : Nat) (x : AV), xs[i]? = some cs → cs[j]? = some x → x.dat = true)
      (hu : ∀ (i : Nat) (cs : List AV) (j : Nat) (x : AV), xs[i]? = some cs → cs[j]? = some x → DV P w I x (u i j)) : DV P w I (.lst e xs) (.slice A xs.length c)

/-- G: each frame's blocks (of a variable), or what its row's slice is. -/
inductive RV (P : Program) (w : World) (I : Nat → Nat → Prop) (G : Gh) (S : Stk) : AV → Value → Prop
  | dat {x : AV} {u : Value} (h : DV P w I x u) : RV P w I G S x u
  | agg (cs : List AV) (vs : Array Value) (hl : cs.length = vs.size) (h : ∀ (i : Nat) (x : AV) (u : Value), cs[i]? = some x → vs[i]? = some u → RV P w I G S x u) : RV P w I G S (.agg cs) (.agg vs)
  | tup (cs : List AV) (vs : Array Value) (hl : cs.length = vs.size) (h : ∀ (i : Nat) (x : AV) (u : Value), cs[i]? = some x → vs[i]? = some u → RV P w I G S x u) : RV P w I G S (.tup cs) (.tuple vs)
  | ptr (k s off : Nat) (g : Nat → Nat × Value) (hg : G[k]? = some g) : RV P w I G S (.ptr k s off) (.pointer (some ⟨(g s).1, off, none⟩))
  | ref (cs : List AV) (ad : Addr) (hs : ad.spot = none) (u : Nat → Value) (h : ∀ (j : Nat) (x : AV), cs[j]? = some x → w.cell? ⟨ad.block, ad.off + j, none⟩ = some (u j) ∧ I ad.block (ad.off + j) ∧ DV P w I x (u j)) : RV P w I G S (.ref cs) (.pointer (some ad))
  | row (k s n : Nat) (g : Nat → Nat × Value) (e : TypeId) (sz : Nat) (xs : List (List AV)) (val : Value) (hg : G[k]? = some g) (hS : sget S k s = some (.row e sz xs)) (hn : n ≤ xs.length) (hd : DV P w I (.lst e (xs.take n)) val)
      (hl : n = xs.length → val = (g s).2) : RV P w I G S (.row k s n) val
  | clo (f : FuncId) (caps : List AV) (vs : Array Value) (hl : caps.length = vs.size) (h : ∀ (i : Nat) (x : AV) (u : Value), caps[i]? = some x → vs[i]? = some u → RV P w I G S x u) : RV P w I G S (.clo f caps) (.func (.func f) #[] vs)
  | ifc (t : TypeId) {x : AV} {u : Value} (h : RV P w I G S x u) : RV P w I G S (.ifc t x) (.iface t u)

/-- What never changes is kept. -/
def Fut (w : World) (I : Nat → Nat → Prop) (w' : World) (I' : Nat → Nat → Prop) : Prop := ∀ b o, I b o → I' b o ∧ w'.cell? ⟨b, o, none⟩ = w.cell? ⟨b, o, none⟩
theorem Fut.refl (w : World) (I : Nat → Nat → Prop) : Fut w I w I := fun _ _ h => ⟨h, rfl⟩
theorem Fut.trans {w w1 w2 : World} {I I1 I2 : Nat → Nat → Prop} (h : Fut w I w1 I1) (h' : Fut w1 I1 w2 I2) : Fut w I w2 I2 := fun b o hi => by
  obtain ⟨h1, e1⟩ := h b o hi
  obtain ⟨h2, e2⟩ := h' b o h1
  exact ⟨h2, e2.trans e1⟩

theorem DV.move {P : Program} {w w' : World} {I I' : Nat → Nat → Prop} (hf : Fut w I w' I') {x : AV} {u : Value} (h : DV P w I x u) : DV P w' I' x u := by
  induction h with
  | v x => exact .v x
  | nils => exact .nils
  | lst e xs A c sz u hc hz hl hA hd hu ih =>
    refine .lst e xs A c sz u hc hz hl (fun h0 => ?_) hd ih
    obtain ⟨ad, e1, e2, h3⟩ := hA h0
    refine ⟨ad, e1, e2, fun i j hi hj => ?_⟩
    obtain ⟨h4, h5⟩ := h3 i j hi hj
    obtain ⟨h6, h7⟩ := hf _ _ h5
    exact ⟨h7.trans h4, h6⟩

/-- The stores go on: blocks stay; rows are lengthened; but for the key d of the innermost frame. -/
def Evo (d : Option Nat) (G : Gh) (S : Stk) (G' : Gh) (S' : Stk) : Prop := ∀ k s, ¬ (k = 0 ∧ d = some s) → ∀ g, G[k]? = some g → ∃ g', G'[k]? = some g' ∧ (g' s).1 = (g s).1 ∧
  ∀ e sz xs, sget S k s = some (.row e sz xs) → ∃ ys, sget S' k s = some (.row e sz (xs ++ ys)) ∧ (ys = [] → (g' s).2 = (g s).2)
theorem Evo.refl (d : Option Nat) (G : Gh) (S : Stk) : Evo d G S G S := fun _ _ _ g hg => ⟨g, hg, rfl, fun _ _ xs h => ⟨[], by simpa using h, fun _ => rfl⟩⟩
theorem Evo.trans {G G1 G2 : Gh} {S S1 S2 : Stk} {d : Option Nat} (h : Evo d G S G1 S1) (h' : Evo d G1 S1 G2 S2) : Evo d G S G2 S2 := fun k s hk g hg => by
  obtain ⟨g1, hg1, e1, r1⟩ := h k s hk g hg
  obtain ⟨g2, hg2, e2, r2⟩ := h' k s hk g1 hg1
  refine ⟨g2, hg2, e2.trans e1, fun e sz xs hx => ?_⟩
  obtain ⟨ys, hy, hy0⟩ := r1 e sz xs hx
  obtain ⟨zs, hz, hz0⟩ := r2 e sz _ hy
  refine ⟨ys ++ zs, by simpa using hz, fun h0 => ?_⟩
  obtain ⟨rfl, rfl⟩ := List.append_eq_nil_iff.1 h0
  exact (hz0 rfl).trans (hy0 rfl)
theorem Evo.weaken {G G' : Gh} {S S' : Stk} (h : Evo none G S G' S') (d : Option Nat) : Evo d G S G' S' := fun k s _ => h k s (by rintro ⟨_, e⟩; cases e)

/-- x doesn't say the key d. -/
def quietOn (d : Option Nat) (x : AV) : Prop := ∀ s, d = some s → x.says s = false
theorem sayss_false {s : Nat} {cs : List AV} (h : sayss s cs = false) : ∀ (i : Nat) (x : AV), cs[i]? = some x → x.says s = false := by
  induction cs with
  | nil => intro i x hx; simp at hx
  | cons y r ih =>
    simp only [sayss, Bool.or_eq_false_iff] at h
    intro i x hx
    cases i with
    | zero => simp at hx; subst hx; exact h.1
    | succ i => exact ih h.2 i x (by simpa using hx)

theorem RV.move {P : Program} {w w' : World} {I I' : Nat → Nat → Prop} {G G' : Gh} {S S' : Stk} {d : Option Nat} (hf : Fut w I w' I') (he : Evo d G S G' S') {x : AV} {u : Value} (h : RV P w I G S x u) (hq : quietOn d x) : RV P w' I' G' S' x u := by
  induction h with
  | dat h => exact .dat (h.move hf)
  | agg cs vs hl h ih => exact .agg cs vs hl fun i x u hx hu => ih i x u hx hu fun s hs => sayss_false (by have := hq s hs; simpa [AV.says] using this) i x hx
  | tup cs vs hl h ih => exact .tup cs vs hl fun i x u hx hu => ih i x u hx hu fun s hs => sayss_false (by have := hq s hs; simpa [AV.says] using this) i x hx
  | ptr k s off g hg =>
    obtain ⟨g', hg', e1, _⟩ := he k s (by
      rintro ⟨rfl, hd⟩
      have := hq s hd
      simp [AV.says] at this) g hg
    rw [← e1]
    exact .ptr k s off g' hg'
  | ref cs ad hs u h =>
    refine .ref cs ad hs u fun j x hx => ?_
    obtain ⟨h1, h2, h3⟩ := h j x hx
    obtain ⟨h4, h5⟩ := hf _ _ h2
    exact ⟨h5.trans h1, h4, h3.move hf⟩
  | row k s n g e sz xs val hg hS hn hd hl =>
    obtain ⟨g', hg', e1, r⟩ := he k s (by
      rintro ⟨rfl, hd⟩
      have := hq s hd
      simp [AV.says] at this) g hg
    obtain ⟨ys, hy, hy0⟩ := r e sz xs hS
    refine .row k s n g' e sz (xs ++ ys) val hg' hy (by simp; omega) ?_ fun h0 => ?_
    · rw [List.take_append_of_le_length hn]
      exact hd.move hf
    · have hy1 : ys = [] := by
        have : (xs ++ ys).length = xs.length + ys.length := List.length_append
        exact List.eq_nil_of_length_eq_zero (by omega)
      subst hy1
      rw [hy0 rfl]
      exact hl (by simpa using h0)
  | clo f caps vs hl h ih => exact .clo f caps vs hl fun i x u hx hu => ih i x u hx hu fun s hs => sayss_false (by have := hq s hs; simpa [AV.says] using this) i x hx
  | ifc t h ih => exact .ifc t (ih fun s hs => by have := hq s hs; simpa [AV.says] using this)

end Go.Proofs.YtffjdcbegohmiaaDoor.Ev
