/-
  A store into a variable; an owned row lengthened.
-/
import Derived.Test.YtffjdcbegohmiaaDoorEv4
import Derived.Maps.AppendAt
namespace Go.Proofs.YtffjdcbegohmiaaDoor.Ev
open Go Go.RowKit

section
variable {P : Program}

theorem obQuiet_none (o : Ob) : obQuiet none o := by
  cases o with
  | blk t cs => intro i x _ s' hs'; cases hs'
  | row => trivial

theorem tr_store {w w' : World} {I : Nat → Nat → Prop} {B : Nat} {G : Gh} {S : Stk} {k s : Nat} {t : TypeId} {cs cs' : List AV} {g : Nat → Nat × Value} {arr' : Array Value} (hs : SR P w I B G S) (hS : sget S k s = some (.blk t cs)) (hg : G[k]? = some g)
    (hw : w'.heap[(g s).1]? = some (.cells arr' t (0, 0))) (hoth : ∀ b, b ≠ (g s).1 → w'.heap[b]? = w.heap[b]?) (hz : w.heap.size ≤ w'.heap.size) (hos : w'.os = w.os) (htp : w'.tape = w.tape) (hout : w'.output = w.output)
    (hl : arr'.size = cs'.length) (h1 : ∀ (i : Nat) (x : AV), cs'[i]? = some x → x.one = true) (h : ∀ (i : Nat) (x : AV) (u : Value), cs'[i]? = some x → arr'[i]? = some u → RV P w I (G.drop k) (S.drop k) x u) :
    Tr P B none w I G S w' I G (sset S k s (.blk t cs')) := by
  obtain ⟨g', hg', hok⟩ := hs.ob k s _ hS
  obtain rfl : g' = g := Option.some.inj (hg'.symm.trans hg)
  have hk : k < S.length := sget_lt S k s _ hS
  obtain ⟨hBs, hIs⟩ : B ≤ (g' s).1 ∧ ∀ o, ¬ I (g' s).1 o := by cases hok with | blk t cs arr hB hI hb hl h1 h => exact ⟨hB, hI⟩
  have hfut : Fut w I w' I := fun b j hi => ⟨hi, by
    have hne : b ≠ (g' s).1 := by rintro rfl; exact hIs j hi
    exact World.cell?_of_block (a := ⟨b, j, none⟩) (hoth b hne)⟩
  have hevo : Evo none G S G (sset S k s (.blk t cs')) := by
    intro j q _ g1 hg1
    refine ⟨g1, hg1, rfl, fun e sz xs hx => ⟨[], ?_, fun _ => rfl⟩⟩
    rw [sget_sset S k s _ j q hk]
    by_cases hjq : j = k ∧ q = s
    · obtain ⟨rfl, rfl⟩ := hjq
      rw [hS] at hx
      cases hx
    · simpa [hjq] using hx
  refine ⟨hfut, hevo, ⟨by rw [sset_length]; exact hs.len, ?_, ?_, ?_, Nat.le_trans hs.base hz, Top.move hs.top ⟨hos, htp, hout, hz, fun b hb => hoth b (by omega)⟩⟩, ⟨hos, htp, hout, hz, fun b hb => hoth b (by omega)⟩, fun _ _ _ h => h⟩
  · intro j q o1 ho1
    rw [sget_sset S k s _ j q hk] at ho1
    have hev2 := evo_drop0 hevo
    by_cases hjq : j = k ∧ q = s
    · obtain ⟨rfl, rfl⟩ := hjq
      simp only [and_self, if_true, Option.some.injEq] at ho1
      subst ho1
      exact ⟨g', hg, .blk t cs' arr' hBs hIs hw hl h1 fun i x u hx hu => (h i x u hx hu).move hfut (hev2 j) fun s hs => by cases hs⟩
    · simp only [hjq, if_false] at ho1
      obtain ⟨g1, hg1, hok1⟩ := hs.ob j q o1 ho1
      refine ⟨g1, hg1, hok1.move hfut (hev2 j) (obQuiet_none _) (fun b e => hoth b ?_) (fun _ _ _ => Iff.rfl)⟩
      rintro rfl
      exact hs.dis j q o1 g1 k s _ g' ho1 hg1 hS hg hjq _ e rfl
  · intro j q o1 g1 j' q' o2 g2 ho1 e1 ho2 e2 hne b hb1 hb2
    rw [sget_sset S k s _ j q hk] at ho1
    rw [sget_sset S k s _ j' q' hk] at ho2
    by_cases hjq : j = k ∧ q = s
    · obtain ⟨rfl, rfl⟩ := hjq
      have hjq' : ¬ (j' = j ∧ q' = q) := fun h => hne ⟨h.1.symm, h.2.symm⟩
      simp only [and_self, if_true, Option.some.injEq] at ho1
      simp only [hjq', if_false] at ho2
      subst ho1
      exact hs.dis j q _ g1 j' q' o2 g2 hS e1 ho2 e2 hne b hb1 hb2
    · simp only [hjq, if_false] at ho1
      by_cases hjq' : j' = k ∧ q' = s
      · obtain ⟨rfl, rfl⟩ := hjq'
        simp only [and_self, if_true, Option.some.injEq] at ho2
        subst ho2
        exact hs.dis j q o1 g1 j' q' _ g2 ho1 e1 hS e2 hne b hb1 hb2
      · simp only [hjq', if_false] at ho2
        exact hs.dis j q o1 g1 j' q' o2 g2 ho1 e1 ho2 e2 hne b hb1 hb2
  · intro b j hi
    obtain ⟨u, hu⟩ := hs.cell b j hi
    exact ⟨u, (hfut b j hi).2.trans hu⟩

/-- The ghosts, the row s of the frame k being v now. -/
def gval (G : Gh) (k s : Nat) (v : Value) : Gh := match G[k]? with
  | some g => G.set k (fun q => if q = s then ((g s).1, v) else g q)
  | none => G
theorem gval_get (G : Gh) (k s : Nat) (v : Value) (g : Nat → Nat × Value) (hg : G[k]? = some g) (j : Nat) : (gval G k s v)[j]? = if j = k then some (fun q => if q = s then ((g s).1, v) else g q) else G[j]? := by
  have hk : k < G.length := (List.getElem?_eq_some_iff.1 hg).1
  simp only [gval, hg]
  by_cases h : j = k
  · subst h; simp [hk]
  · have h' : ¬ k = j := fun e => h e.symm
    simp [h, List.getElem?_set_ne h']

theorem tr_grow {w w' : World} {I I' : Nat → Nat → Prop} {B : Nat} {G : Gh} {S : Stk} {k s : Nat} {e : TypeId} {sz : Nat} {xs ys : List (List AV)} {g : Nat → Nat × Value} {v' : Value} {cells : List Value} (hs : SR P w I B G S) (hS : sget S k s = some (.row e sz xs)) (hg : G[k]? = some g)
    (hgr : w.grownBy w' (g s).2.ownBlock) (hat : v'.ownBlock = (g s).2.ownBlock ∨ v'.ownBlock = some w.heap.size)
    (hI : ∀ b o, I' b o ↔ I b o ∨ (v'.ownBlock = some b ∧ o < (xs ++ ys).length * sz))
    (hfut : Fut w I w' I') (hcell : ∀ b o, I' b o → ∃ u, w'.cell? ⟨b, o, none⟩ = some u)
    (ho : w'.ownsRow B e sz v' (xs ++ ys).length cells) (hz : tsize P e = some sz) (h0 : 0 < sz) (hl : ∀ (i : Nat) (cs : List AV), (xs ++ ys)[i]? = some cs → cs.length = sz)
    (hd : ∀ (i : Nat) (cs : List AV) (j : Nat) (x : AV), (xs ++ ys)[i]? = some cs → cs[j]? = some x → x.dat = true)
    (h : ∀ (i : Nat) (cs : List AV) (j : Nat) (x : AV) (u : Value), (xs ++ ys)[i]? = some cs → cs[j]? = some x → cells[i * sz + j]? = some u → DV P w' I' x u) (hne : ys ≠ []) :
    Tr P B none w I G S w' I' (gval G k s v') (sset S k s (.row e sz (xs ++ ys))) := by
  have hk : k < S.length := sget_lt S k s _ hS
  have gg := gval_get G k s v' g hg
  have gk : (gval G k s v')[k]? = some (fun q => if q = s then ((g s).1, v') else g q) := by rw [gg]; simp
  have hevo : Evo none G S (gval G k s v') (sset S k s (.row e sz (xs ++ ys))) := by
    intro j q _ g1 hg1
    by_cases hj : j = k
    · subst hj
      obtain rfl : g1 = g := Option.some.inj (hg1.symm.trans hg)
      refine ⟨_, gk, ?_, fun e2 sz2 xs2 hx => ?_⟩
      · by_cases hq : q = s
        · subst hq; simp
        · simp [hq]
      · by_cases hq : q = s
        · subst hq
          rw [hS] at hx
          cases hx
          exact ⟨ys, by rw [sget_sset S _ _ _ _ _ hk]; simp, fun h => absurd h hne⟩
        · exact ⟨[], by rw [sget_sset S _ _ _ _ _ hk]; simpa [hq] using hx, fun _ => by simp [hq]⟩
    · refine ⟨g1, by rw [gg]; simpa [hj] using hg1, rfl, fun e2 sz2 xs2 hx => ⟨[], by rw [sget_sset S _ _ _ _ _ hk]; simpa [hj] using hx, fun _ => rfl⟩⟩
  have hev2 := evo_drop0 hevo
  obtain ⟨g0, hg0, hokr⟩ := hs.ob k s _ hS
  obtain rfl : g0 = g := Option.some.inj (hg0.symm.trans hg)
  have hrow : ∀ b, v'.ownBlock = some b → ¬ (∃ j q o1 g1, sget S j q = some o1 ∧ G[j]? = some g1 ∧ ¬ (j = k ∧ q = s) ∧ blkOf (g1 q) o1 = some b) := by
    rintro b hb ⟨j, q, o1, g1, h1, h2, h3, h4⟩
    rcases hat with hat | hat
    · exact hs.dis j q o1 g1 k s _ g0 h1 h2 hS hg h3 b h4 (hat.symm.trans hb)
    · obtain ⟨g2, hg2, hok2⟩ := hs.ob j q o1 h1
      obtain rfl : g2 = g1 := Option.some.inj (hg2.symm.trans h2)
      have := (blkOf_lt hok2 b h4).2
      rw [hat] at hb
      cases hb
      omega
  have oth : ∀ j q o1 g1, sget S j q = some o1 → G[j]? = some g1 → ¬ (j = k ∧ q = s) → ∀ b, blkOf (g1 q) o1 = some b → w'.heap[b]? = w.heap[b]? ∧ ∀ o, I' b o ↔ I b o := by
    intro j q o1 g1 h1 h2 h3 b h4
    obtain ⟨g2, hg2, hok2⟩ := hs.ob j q o1 h1
    obtain rfl : g2 = g1 := Option.some.inj (hg2.symm.trans h2)
    refine ⟨hgr.block b (blkOf_lt hok2 b h4).2 fun h5 => hs.dis j q o1 g2 k s _ g0 h1 h2 hS hg h3 b h4 h5.symm, fun o => ?_⟩
    rw [hI]
    constructor
    · rintro (h5 | ⟨h5, _⟩)
      · exact h5
      · exact absurd ⟨j, q, o1, g2, h1, h2, h3, h4⟩ (hrow b h5)
    · exact .inl
  have hbsz : w.heap.size ≤ w'.heap.size := hgr.size
  have hbel : Below B w w' := ⟨hgr.os, hgr.tape, hgr.output, hgr.size, fun b hb => hgr.block b (Nat.lt_of_lt_of_le hb hs.base) fun h5 => by
    cases hokr with
    | row e sz xs cells0 hz0 h00 ho0 hl0 hd0 h0' hIr =>
      have := (ho0.lt b h5.symm).1
      omega⟩
  refine ⟨hfut, hevo, ⟨?_, ?_, ?_, hcell, Nat.le_trans hs.base hbsz, Top.move hs.top hbel⟩, hbel, fun b j hbl h6 => by
      rw [hI] at h6
      rcases h6 with h6 | ⟨h6, _⟩
      · exact h6
      · rcases hat with hat | hat
        · have := (blkOf_lt hokr b (hat.symm.trans h6)).1
          omega
        · rw [hat] at h6
          cases h6
          have := hs.base
          omega⟩
  · rw [sset_length]
    have : (gval G k s v').length = G.length := by simp only [gval, hg, List.length_set]
    rw [this]
    exact hs.len
  · intro j q o1 ho1
    rw [sget_sset S k s _ j q hk] at ho1
    by_cases hjq : j = k ∧ q = s
    · obtain ⟨rfl, rfl⟩ := hjq
      simp only [and_self, if_true, Option.some.injEq] at ho1
      subst ho1
      refine ⟨_, gk, ?_⟩
      simp only [if_true]
      refine .row e sz (xs ++ ys) cells hz h0 ho hl hd h fun b hb o => ?_
      simp only at hb
      rw [hI]
      constructor
      · rintro (h5 | ⟨_, h5⟩)
        · rcases hat with hat | hat
          · cases hokr with
            | row e sz xs cells0 hz0 h00 ho0 hl0 hd0 h0' hIr =>
              have := (hIr b (hat.symm.trans hb) o).1 h5
              simp only [List.length_append, Nat.add_mul]
              omega
          · rw [hat] at hb
            cases hb
            obtain ⟨u, hu⟩ := hs.cell _ _ h5
            have : w.heap.size < w.heap.size := World.block_lt_of_cell? w ⟨w.heap.size, o, none⟩ hu
            omega
        · exact h5
      · exact fun h5 => .inr ⟨hb, h5⟩
    · simp only [hjq, if_false] at ho1
      obtain ⟨g1, hg1, hok1⟩ := hs.ob j q o1 ho1
      have hoth := oth j q o1 g1 ho1 hg1 hjq
      by_cases hj : j = k
      · subst hj
        obtain rfl : g1 = g0 := Option.some.inj (hg1.symm.trans hg)
        have hq : ¬ q = s := fun e => hjq ⟨rfl, e⟩
        refine ⟨_, gk, ?_⟩
        simp only [hq, if_false]
        exact hok1.move hfut (hev2 j) (obQuiet_none _) (fun b hb => (hoth b hb).1) (fun b hb => (hoth b hb).2)
      · refine ⟨g1, by rw [gg]; simpa [hj] using hg1, ?_⟩
        exact hok1.move hfut (hev2 j) (obQuiet_none _) (fun b hb => (hoth b hb).1) (fun b hb => (hoth b hb).2)
  · intro j q o1 g1 j' q' o2 g2 ho1 e1 ho2 e2 hne' b hb1 hb2
    rw [sget_sset S k s _ j q hk] at ho1
    rw [sget_sset S k s _ j' q' hk] at ho2
    have back : ∀ j g1, (gval G k s v')[j]? = some g1 → ∀ q, ¬ (j = k ∧ q = s) → ∃ g3, G[j]? = some g3 ∧ g1 q = g3 q := by
      intro j g1 h1 q h2
      rw [gg] at h1
      by_cases hj : j = k
      · subst hj
        have hq : ¬ q = s := fun e => h2 ⟨rfl, e⟩
        simp only [if_true, Option.some.injEq] at h1
        subst h1
        exact ⟨g0, hg, by simp [hq]⟩
      · simp only [hj, if_false] at h1
        exact ⟨g1, h1, rfl⟩
    by_cases hjq : j = k ∧ q = s
    · have hjq' : ¬ (j' = k ∧ q' = s) := fun h => hne' ⟨hjq.1.trans h.1.symm, hjq.2.trans h.2.symm⟩
      obtain ⟨rfl, rfl⟩ := hjq
      simp only [and_self, if_true, Option.some.injEq] at ho1
      subst ho1
      simp only [hjq', if_false] at ho2
      obtain ⟨g3, hg3, e3⟩ := back j' g2 e2 q' hjq'
      rw [gg] at e1
      simp only [if_true, Option.some.injEq] at e1
      subst e1
      simp only [blkOf, if_true] at hb1
      rw [e3] at hb2
      exact hrow b hb1 ⟨j', q', o2, g3, ho2, hg3, hjq', hb2⟩
    · simp only [hjq, if_false] at ho1
      obtain ⟨g3, hg3, e3⟩ := back j g1 e1 q hjq
      rw [e3] at hb1
      by_cases hjq' : j' = k ∧ q' = s
      · obtain ⟨rfl, rfl⟩ := hjq'
        simp only [and_self, if_true, Option.some.injEq] at ho2
        subst ho2
        rw [gg] at e2
        simp only [if_true, Option.some.injEq] at e2
        subst e2
        simp only [blkOf, if_true] at hb2
        exact hrow b hb2 ⟨j, q, o1, g3, ho1, hg3, hjq, hb1⟩
      · simp only [hjq', if_false] at ho2
        obtain ⟨g4, hg4, e4⟩ := back j' g2 e2 q' hjq'
        rw [e4] at hb2
        exact hs.dis j q o1 g3 j' q' o2 g4 ho1 hg3 ho2 hg4 hne' b hb1 hb2
end
end Go.Proofs.YtffjdcbegohmiaaDoor.Ev
