/-
  The four ways in which the evaluator's stores go on: a new variable; a store; a new row that never changes; an owned row made or lengthened.
-/
import Derived.Test.YtffjdcbegohmiaaDoorEv3
namespace Go.Proofs.YtffjdcbegohmiaaDoor.Ev
open Go Go.RowKit

section
variable {P : Program}

structure Tr (P : Program) (B : Nat) (d : Option Nat) (w : World) (I : Nat → Nat → Prop) (G : Gh) (S : Stk) (w' : World) (I' : Nat → Nat → Prop) (G' : Gh) (S' : Stk) : Prop where
  fut : Fut w I w' I'
  evo : Evo d G S G' S'
  sr : SR P w' I' B G' S'
  bel : Below B w w'
  low : ∀ b o, b < B → I' b o → I b o

theorem Tr.refl {B : Nat} {d : Option Nat} {w : World} {I : Nat → Nat → Prop} {G : Gh} {S : Stk} (h : SR P w I B G S) : Tr P B d w I G S w I G S := ⟨Fut.refl _ _, Evo.refl _ _ _, h, Below.refl _ _, fun _ _ _ h => h⟩

def obQuiet (d : Option Nat) : Ob → Prop
  | .blk _ cs => ∀ (i : Nat) (x : AV), cs[i]? = some x → quietOn d x
  | .row .. => True

theorem ownsRow_move {w w' : World} {B e sz n : Nat} {v : Value} {cells : List Value} (h : w.ownsRow B e sz v n cells) (hh : ∀ b, v.ownBlock = some b → w'.heap[b]? = w.heap[b]?) : w'.ownsRow B e sz v n cells := by
  obtain ⟨h1, h2⟩ := h
  refine ⟨h1, ?_⟩
  rcases h2 with h2 | ⟨g, cap, cur, rfl, hB, hb, r⟩
  · exact .inl h2
  · exact .inr ⟨g, cap, cur, rfl, hB, (hh g (by simp [Value.ownBlock])).trans hb, r⟩

theorem ObOK.move {w w' : World} {I I' : Nat → Nat → Prop} {B : Nat} {G G' : Gh} {S S' : Stk} {c : Nat × Value} {o : Ob} {d : Option Nat} (h : ObOK P w I B G S c o) (hf : Fut w I w' I') (he : Evo d G S G' S') (hq : obQuiet d o)
    (hh : ∀ b, blkOf c o = some b → w'.heap[b]? = w.heap[b]?) (hI : ∀ b, blkOf c o = some b → ∀ j, I' b j ↔ I b j) : ObOK P w' I' B G' S' c o := by
  cases h with
  | blk t cs arr hB hIn hb hl h1 h => exact .blk t cs arr hB (fun j hj => hIn j ((hI c.1 rfl j).1 hj)) ((hh c.1 rfl).trans hb) hl h1 fun i x u hx hu => (h i x u hx hu).move hf he (hq i x hx)
  | row e sz xs cells hz h0 ho hl hd h hIr =>
    exact .row e sz xs cells hz h0 (ownsRow_move ho hh) hl hd (fun i cs j x u h1 h2 h3 => (h i cs j x u h1 h2 h3).move hf) fun b hb j => (hI b hb j).trans (hIr b hb j)

theorem blkOf_lt {w : World} {I : Nat → Nat → Prop} {B : Nat} {G : Gh} {S : Stk} {c : Nat × Value} {o : Ob} (h : ObOK P w I B G S c o) : ∀ b, blkOf c o = some b → B ≤ b ∧ b < w.heap.size := by
  cases h with
  | blk t cs arr hB hIn hb hl h1 h =>
    intro b e
    simp only [blkOf, Option.some.injEq] at e
    subst e
    exact ⟨hB, (Array.getElem?_eq_some_iff.1 hb).1⟩
  | row e sz xs cells hz h0 ho hl hd h hIr =>
    intro b e
    exact ho.lt b e

theorem evo_drop {d : Option Nat} {G G' : Gh} {S S' : Stk} (h : Evo d G S G' S') (k : Nat) (hk : 0 < k) : Evo none (G.drop k) (S.drop k) (G'.drop k) (S'.drop k) := by
  intro j s _ g hg
  rw [List.getElem?_drop] at hg
  obtain ⟨g', h1, h2, h3⟩ := h (k + j) s (by omega) g hg
  refine ⟨g', by rw [List.getElem?_drop]; exact h1, h2, fun e sz xs hx => ?_⟩
  rw [sget_drop] at hx
  obtain ⟨ys, h4, h5⟩ := h3 e sz xs (by rw [Nat.add_comm]; exact hx)
  exact ⟨ys, by rw [sget_drop, Nat.add_comm]; exact h4, h5⟩
theorem evo_drop0 {G G' : Gh} {S S' : Stk} (h : Evo none G S G' S') (k : Nat) : Evo none (G.drop k) (S.drop k) (G'.drop k) (S'.drop k) := by
  cases k with
  | zero => simpa using h
  | succ k => exact evo_drop h _ (by omega)

theorem locSays_false {d : Nat} {L : Loc} (h : locSays d L = false) : ∀ s o, kget L s = some o → obQuiet (some d) o := by
  induction L with
  | nil => intro s o ho; simp [kget] at ho
  | cons p r ih =>
    obtain ⟨t, y⟩ := p
    intro s o ho
    simp only [kget] at ho
    have hr : locSays d r = false := by
      cases y with
      | blk t cs => simp only [locSays, Bool.or_eq_false_iff] at h; exact h.2
      | row e sz xs => simpa only [locSays] using h
    split at ho
    · cases ho
      cases y with
      | blk t cs =>
        simp only [locSays, Bool.or_eq_false_iff] at h
        intro i x hx s' hs'
        cases hs'
        exact sayss_false h.1 i x hx
      | row e sz xs => trivial
    · exact ih hr s o ho
theorem frSays_false {d : Nat} {F : Fr} (h : frSays d F = false) : ∀ s x, kget F s = some x → quietOn (some d) x := by
  induction F with
  | nil => intro s o ho; simp [kget] at ho
  | cons p r ih =>
    obtain ⟨t, y⟩ := p
    intro s o ho
    simp only [kget] at ho
    simp only [frSays, Bool.or_eq_false_iff] at h
    split at ho
    · cases ho
      intro s' hs'
      cases hs'
      exact h.1
    · exact ih h.2 s o ho

/-- The ghosts with a new entry. -/
def gset (G : Gh) (d : Nat) (c : Nat × Value) : Gh := match G with
  | [] => []
  | g :: G => (fun s => if s = d then c else g s) :: G

theorem new_some {st : St} {d : Nat} {o : Ob} {L : Loc} (h : st.new d o = some L) : L = kset st.L d o ∧ frSays d (kdel st.F d) = false ∧ locSays d (kdel st.L d) = false ∧ obQuiet (some d) o := by
  unfold St.new at h
  split at h
  · cases h
  · rename_i hc
    cases h
    simp only [Bool.or_eq_true, not_or, Bool.not_eq_true] at hc
    refine ⟨rfl, hc.1.1, hc.1.2, ?_⟩
    have := locSays_false hc.2 d o (by simp [kget])
    exact this

theorem evo_new {st : St} {d : Nat} {o : Ob} {G : Gh} {c : Nat × Value} : Evo (some d) G (st.L :: st.S) (gset G d c) (kset st.L d o :: st.S) := by
  intro k s hk g hg
  cases G with
  | nil => simp at hg
  | cons g0 G =>
    cases k with
    | zero =>
      simp only [List.getElem?_cons_zero, Option.some.injEq] at hg
      subst hg
      have hsd : ¬ s = d := fun e => hk ⟨rfl, by rw [e]⟩
      refine ⟨fun s => if s = d then c else g0 s, by simp [gset], by simp [hsd], fun e sz xs hx => ⟨[], ?_, fun _ => by simp [hsd]⟩⟩
      simpa [sget, kget_kset, hsd] using hx
    | succ k =>
      refine ⟨g, by simpa [gset] using hg, rfl, fun e sz xs hx => ⟨[], ?_, fun _ => rfl⟩⟩
      simpa [sget] using hx

/-- A new object under the key d, in a world that has grown by new blocks alone; the object's block is new. -/
theorem tr_new {w w' : World} {I I' : Nat → Nat → Prop} {B : Nat} {G : Gh} {st : St} {d : Nat} {o : Ob} {c : Nat × Value} (hs : SR P w I B G (st.L :: st.S)) (hq : locSays d (kdel st.L d) = false)
    (hb : Below w.heap.size w w') (hI : ∀ b j, b < w.heap.size → (I' b j ↔ I b j)) (hcell : ∀ b j, I' b j → ∃ u, w'.cell? ⟨b, j, none⟩ = some u)
    (hob : ObOK P w' I' B (gset G d c) (kset st.L d o :: st.S) c o) (hnew : ∀ b, blkOf c o = some b → w.heap.size ≤ b) : Tr P B (some d) w I G (st.L :: st.S) w' I' (gset G d c) (kset st.L d o :: st.S) := by
  have hlt : ∀ b j, I b j → b < w.heap.size := fun b j h => by
    obtain ⟨u, hu⟩ := hs.cell b j h
    exact World.block_lt_of_cell? w _ hu
  have hfut : Fut w I w' I' := fun b j h => ⟨(hI b j (hlt b j h)).2 h, hb.cell (p := ⟨b, j, none⟩) (hlt b j h)⟩
  have hevo : Evo (some d) G (st.L :: st.S) (gset G d c) (kset st.L d o :: st.S) := evo_new
  have hG : G.length = (st.L :: st.S).length := hs.len
  obtain ⟨g0, G0, rfl⟩ : ∃ g0 G0, G = g0 :: G0 := by
    cases G with
    | nil => simp at hG
    | cons g G => exact ⟨g, G, rfl⟩
  -- what was there, is there
  have old : ∀ k s o1, sget (kset st.L d o :: st.S) k s = some o1 → ¬ (k = 0 ∧ s = d) → sget (st.L :: st.S) k s = some o1 := by
    intro k s o1 h1 h2
    cases k with
    | zero =>
      have : ¬ s = d := fun e => h2 ⟨rfl, e⟩
      simpa [sget, kget_kset, this] using h1
    | succ k => simpa [sget] using h1
  have gold : ∀ k s g g', (g0 :: G0)[k]? = some g → (gset (g0 :: G0) d c)[k]? = some g' → ¬ (k = 0 ∧ s = d) → g' s = g s := by
    intro k s g g' h1 h2 h3
    cases k with
    | zero =>
      have : ¬ s = d := fun e => h3 ⟨rfl, e⟩
      simp only [List.getElem?_cons_zero, Option.some.injEq, gset] at h1 h2
      subst h1; subst h2
      simp [this]
    | succ k =>
      simp only [List.getElem?_cons_succ, gset] at h1 h2
      rw [h1] at h2
      cases h2
      rfl
  refine ⟨hfut, hevo, ⟨?_, ?_, ?_, hcell, Nat.le_trans hs.base hb.size, Top.move hs.top (hb.mono hs.base)⟩, hb.mono hs.base, fun b j hbl h => (hI b j (Nat.lt_of_lt_of_le hbl hs.base)).1 h⟩
  · simpa [gset] using hG
  · intro k s o1 h1
    by_cases hk : k = 0 ∧ s = d
    · obtain ⟨rfl, rfl⟩ := hk
      simp only [sget, kget_kset, if_true, Option.some.injEq] at h1
      subst h1
      refine ⟨fun q => if q = s then c else g0 q, by simp [gset], ?_⟩
      simpa using hob
    · have h2 := old k s o1 h1 hk
      obtain ⟨g, hg, hok⟩ := hs.ob k s o1 h2
      obtain ⟨g', hg'⟩ : ∃ g', (gset (g0 :: G0) d c)[k]? = some g' := by
        cases k with
        | zero => exact ⟨fun q => if q = d then c else g0 q, by simp [gset]⟩
        | succ k => exact ⟨g, by simpa [gset] using hg⟩
      refine ⟨g', hg', ?_⟩
      rw [gold k s g g' hg hg' hk]
      have hbl := blkOf_lt hok
      cases k with
      | zero =>
        have hsd : ¬ s = d := fun e => hk ⟨rfl, e⟩
        have hqo : obQuiet (some d) o1 := locSays_false hq s o1 (by rw [kget_kdel]; simpa [hsd, sget] using h2)
        exact hok.move hfut (by simpa using hevo) hqo (fun b e => hb.block b (hbl b e).2) (fun b e j => hI b j (hbl b e).2)
      | succ k =>
        have hqo : obQuiet none o1 := by
          cases o1 with
          | blk t cs => intro i x _ s' hs'; cases hs'
          | row => trivial
        exact hok.move hfut (evo_drop hevo _ (by omega)) hqo (fun b e => hb.block b (hbl b e).2) (fun b e j => hI b j (hbl b e).2)
  · intro k s o1 g1 k' s' o2 g2 h1 e1 h2 e2 hne b hb1
    by_cases hk : k = 0 ∧ s = d
    · obtain ⟨rfl, rfl⟩ := hk
      have hk' : ¬ (k' = 0 ∧ s' = s) := fun h => hne ⟨h.1.symm, h.2.symm⟩
      simp only [sget, kget_kset, if_true, Option.some.injEq] at h1
      subst h1
      simp only [gset, List.getElem?_cons_zero, Option.some.injEq] at e1
      subst e1
      simp only [if_true] at hb1
      have := hnew b hb1
      intro hb2
      obtain ⟨g, hg, hok⟩ := hs.ob k' s' o2 (old k' s' o2 h2 hk')
      rw [gold k' s' g g2 hg e2 hk'] at hb2
      have := (blkOf_lt hok b hb2).2
      omega
    · obtain ⟨g, hg, hok⟩ := hs.ob k s o1 (old k s o1 h1 hk)
      rw [gold k s g g1 hg e1 hk] at hb1
      by_cases hk' : k' = 0 ∧ s' = d
      · obtain ⟨rfl, rfl⟩ := hk'
        simp only [sget, kget_kset, if_true, Option.some.injEq] at h2
        subst h2
        simp only [gset, List.getElem?_cons_zero, Option.some.injEq] at e2
        subst e2
        simp only [if_true]
        intro hb2
        have := hnew b hb2
        have := (blkOf_lt hok b hb1).2
        omega
      · obtain ⟨g', hg', _⟩ := hs.ob k' s' o2 (old k' s' o2 h2 hk')
        rw [gold k' s' g' g2 hg' e2 hk']
        exact hs.dis k s o1 g k' s' o2 g' (old k s o1 h1 hk) hg (old k' s' o2 h2 hk') hg' hne b hb1

/-- New blocks alone: the stores are as they were. -/
theorem tr_more {w w' : World} {I I' : Nat → Nat → Prop} {B : Nat} {G : Gh} {S : Stk} (hs : SR P w I B G S) (hb : Below w.heap.size w w') (hI : ∀ b j, b < w.heap.size → (I' b j ↔ I b j)) (hcell : ∀ b j, I' b j → ∃ u, w'.cell? ⟨b, j, none⟩ = some u) : Tr P B none w I G S w' I' G S := by
  have hlt : ∀ b j, I b j → b < w.heap.size := fun b j h => by
    obtain ⟨u, hu⟩ := hs.cell b j h
    exact World.block_lt_of_cell? w _ hu
  have hfut : Fut w I w' I' := fun b j h => ⟨(hI b j (hlt b j h)).2 h, hb.cell (p := ⟨b, j, none⟩) (hlt b j h)⟩
  refine ⟨hfut, Evo.refl _ _ _, ⟨hs.len, fun k s o h => ?_, hs.dis, hcell, Nat.le_trans hs.base hb.size, Top.move hs.top (hb.mono hs.base)⟩, hb.mono hs.base, fun b j hbl h => (hI b j (Nat.lt_of_lt_of_le hbl hs.base)).1 h⟩
  obtain ⟨g, hg, hok⟩ := hs.ob k s o h
  have hbl := blkOf_lt hok
  refine ⟨g, hg, hok.move hfut (Evo.refl none _ _) ?_ (fun b e => hb.block b (hbl b e).2) (fun b e j => hI b j (hbl b e).2)⟩
  cases o with
  | blk t cs => intro i x _ s' hs'; cases hs'
  | row => trivial
end
end Go.Proofs.YtffjdcbegohmiaaDoor.Ev
