/-
  Slices: elements' addresses, lengths, cuts; appends to owned rows.
-/
import Derived.Test.YtffjdcbegohmiaaDoorEv7
namespace Go.Proofs.YtffjdcbegohmiaaDoor.Ev
open Go Go.RowKit

section
variable {P : Program} {w : World} {I : Nat → Nat → Prop} {B : Nat} {G : Gh} {S : Stk} {st : St}

theorem elems_sound {e : TypeId} {sz : Nat} {y : AV} {u : Value} {xs : List (List AV)} (hz : tsize P e = some sz) (hr : RV P w I G (st.L :: st.S) y u) (h : elemsOf st e y = some xs) : DV P w I (.lst e xs) u := by
  unfold elemsOf at h
  split at h
  · cases h
    cases rv_toVal hr (.slice none 0 0) rfl
    exact .lst e [] none 0 sz (fun _ _ => undef) (by simp) hz (fun i cs hx => by simp at hx) (fun h => by simp at h) (fun i cs j x hx => by simp at hx) (fun i cs j x hx => by simp at hx)
  · rename_i e' xs'
    split at h
    · rename_i he
      cases h
      subst he
      cases hr with
      | dat hd => exact hd
    · cases h
  · rename_i k s n
    split at h
    · rename_i e' sz' xs' hS
      split at h
      · rename_i he
        cases h
        subst he
        cases hr with
        | dat hd => cases hd
        | row _ _ _ g e2 sz2 xs2 _ hg hS2 hn hd hl =>
          rw [hS] at hS2
          cases hS2
          exact hd
      · cases h
    · cases h
  · cases h

theorem lst_inv {e : TypeId} {xs : List (List AV)} {u : Value} (h : DV P w I (.lst e xs) u) : ∃ (A : Option Addr) (c sz : Nat) (f : Nat → Nat → Value), u = .slice A xs.length c ∧ xs.length ≤ c ∧ tsize P e = some sz ∧ (∀ (i : Nat) (cs : List AV), xs[i]? = some cs → cs.length = sz) ∧
    (0 < xs.length → ∃ ad : Addr, A = some ad ∧ ad.spot = none ∧ ∀ i j, i < xs.length → j < sz → w.cell? ⟨ad.block, ad.off + (i * sz + j), none⟩ = some (f i j) ∧ I ad.block (ad.off + (i * sz + j))) ∧
    (∀ (i : Nat) (cs : List AV) (j : Nat) (x : AV), xs[i]? = some cs → cs[j]? = some x → x.dat = true) ∧ (∀ (i : Nat) (cs : List AV) (j : Nat) (x : AV), xs[i]? = some cs → cs[j]? = some x → DV P w I x (f i j)) := by
  cases h with
  | lst e xs A c sz f hc hz hl hA hd hu => exact ⟨A, c, sz, f, rfl, hc, hz, hl, hA, hd, hu⟩

theorem mem_indexAddr (t : TypeId) (y z : Operand) : MemOK P (.indexAddr t y z) := by
  intro w I B G st a next Q o x L S ho hs hf h hk
  simp only [evMem] at h
  split at h
  · rename_i e l kk i ht hy hz
    split at h
    · rename_i xs sz hxs hsz
      by_cases h0 : 0 ≤ i
      · rw [decide_eq_true h0, cond_true] at h
        split at h
        · rename_i cs hcs
          split at h
          · rename_i hlen
            cases h
            have hd := elems_sound hsz (fr_eval hf hy) hxs
            obtain ⟨A, c, sz', f, e1, hc, hz', hl, hA, hdat, hu⟩ := lst_inv hd
            have hilt : i.toNat < xs.length := (List.getElem?_eq_some_iff.1 hcs).1
            obtain ⟨⟨b, off, sp⟩, rfl, e2, hcell⟩ := hA (by omega)
            simp only at e2
            subst e2
            obtain rfl : sz' = sz := Option.some.inj (hz'.symm.trans hsz)
            have e3 := rv_v (fr_eval hf hz)
            refine wp_of_run (v := .pointer (some ⟨b, off + i.toNat * sz', none⟩)) (w' := w) ?_ (goes_same hs hk (.ref cs _ rfl (fun j => f i.toNat j) fun j x hx => ?_))
            · have hi2 : i < (xs.length : Int) := by omega
              simp only [execOp, ho, Instr.indexAt, Sem.run_bind, Sem.run_pure, e1, e3, asIntOf, run_underlying ht, Result.andThen_ok]
              simp [h0, hi2, tsize_run hsz, add_at]
            · have hj : j < sz' := by have := (List.getElem?_eq_some_iff.1 hx).1; omega
              obtain ⟨h5, h6⟩ := hcell i.toNat j hilt hj
              refine ⟨?_, ?_, hu _ cs j x hcs hx⟩
              · simpa [Nat.add_assoc] using h5
              · simpa [Nat.add_assoc] using h6
          · cases h
        · cases h
      · rw [decide_eq_false h0, cond_false] at h
        cases h
    · cases h
  · cases h

theorem dv_cut {e : TypeId} {xs : List (List AV)} {A : Option Addr} {c sz : Nat} (hz : tsize P e = some sz) (h : DV P w I (.lst e xs) (.slice A xs.length c)) (i j : Nat) (hij : i ≤ j) (hj : j ≤ xs.length) :
    DV P w I (.lst e ((xs.take j).drop i)) (.slice (if c = i then A else A.map (·.add (i * sz))) (j - i) (c - i)) := by
  obtain ⟨A', c', sz', f, e1, hc, hz', hl, hA, hd, hu⟩ := lst_inv h
  cases e1
  obtain rfl : sz' = sz := Option.some.inj (hz'.symm.trans hz)
  have hlen : ((xs.take j).drop i).length = j - i := by simp; omega
  have hget : ∀ (q : Nat) (cs : List AV), ((xs.take j).drop i)[q]? = some cs → xs[i + q]? = some cs := by
    intro q cs hq
    rw [List.getElem?_drop] at hq
    have h1 := (List.getElem?_eq_some_iff.1 hq).1
    simp at h1
    rwa [List.getElem?_take_of_lt (by omega)] at hq
  rw [← hlen]
  refine .lst e _ _ (c - i) sz' (fun q r => f (i + q) r) (by rw [hlen]; omega) hz (fun q cs hq => hl _ cs (hget q cs hq)) (fun h0 => ?_) (fun q cs r x hq hx => hd _ cs r x (hget q cs hq) hx) (fun q cs r x hq hx => hu _ cs r x (hget q cs hq) hx)
  rw [hlen] at h0
  obtain ⟨⟨b, off, sp⟩, rfl, e2, hcell⟩ := hA (by omega)
  simp only at e2
  subst e2
  rw [if_neg (by omega)]
  refine ⟨⟨b, off + i * sz', none⟩, by simp [add_at], rfl, fun q r hq hr => ?_⟩
  rw [hlen] at hq
  obtain ⟨h5, h6⟩ := hcell (i + q) r (by omega) hr
  simp only
  rw [show off + i * sz' + (q * sz' + r) = off + ((i + q) * sz' + r) by rw [Nat.add_mul]; omega]
  exact ⟨h5, h6⟩

theorem run_cut {t e : TypeId} (ht : P.underlying t = some (.slice e)) {sz : Nat} (hz : tsize P e = some sz) (A : Option Addr) (n c a b : Nat) (lo hi : Option Value) (hlo : (lo = none ∧ a = 0) ∨ ∃ k, lo = some (.int k a)) (hhi : (hi = none ∧ b = n) ∨ ∃ k, hi = some (.int k b)) (hab : a ≤ b) (hb : b ≤ n) (hn : n ≤ c) (w : World) :
    (Instr.sliceAt t (.slice A n c) lo hi none).run P w = .ok (.slice (if c = a then A else A.map (·.add (a * sz))) (b - a) (c - a)) w := by
  have hzz := tsize_run hz w
  have hbc2 : b ≤ c := by omega
  have e0 : (0 : Int) ≤ (a : Int) := Int.natCast_nonneg _
  have e1 : (0 : Int) ≤ (b : Int) := Int.natCast_nonneg _
  rcases hlo with ⟨rfl, rfl⟩ | ⟨k, rfl⟩ <;> rcases hhi with ⟨rfl, rfl⟩ | ⟨k', rfl⟩ <;>
    simp [Instr.sliceAt, run_underlying ht, Instr.slice, Instr.sliceBounds, Instr.sliceBound, asIntOf, hzz, hbc2, hab, e0, e1] <;> (try (intro hx; omega))

theorem mem_slice (t : TypeId) (y : Operand) (lo hi mx : Option Operand) : MemOK P (.slice t y lo hi mx) := by
  intro w I B G st a next Q o x L S ho hs hf h hk
  cases mx with
  | some m => simp only [evMem] at h; cases h
  | none =>
    simp only [evMem] at h
    split at h
    · rename_i e l ht hy
      split at h
      · rename_i xs sz hxs hsz
        have hd := elems_sound hsz (fr_eval hf hy) hxs
        obtain ⟨A, c, sz', f, e1, hc, _⟩ := lst_inv hd
        have fin : ∀ (p q : Nat) (z : List (List AV)), p ≤ q → q ≤ xs.length → z = (xs.take q).drop p → ((lo.map a.eval = none ∧ p = 0) ∨ ∃ k, lo.map a.eval = some (.int k p)) → ((hi.map a.eval = none ∧ q = xs.length) ∨ ∃ k, hi.map a.eval = some (.int k q)) →
            some (.lst e z, st.L, st.S) = some (x, L, S) → o.wp P a w next Q := by
          intro p q z h1 h2 hz h3 h4 h5
          simp only [Option.some.injEq, Prod.mk.injEq] at h5
          obtain ⟨rfl, rfl, rfl⟩ := h5
          subst hz
          rw [e1] at hd
          refine wp_of_run (v := .slice (if c = p then A else A.map (·.add (p * sz))) (q - p) (c - p)) (w' := w) ?_ (goes_same hs hk (.dat (dv_cut hsz hd p q h1 h2)))
          have := run_cut ht hsz A xs.length c p q _ _ h3 h4 h1 h2 hc w
          simp only [execOp, ho, e1, Option.map_none, Sem.run_bind, this, Result.andThen_ok]
          rfl
        split at h
        · rename_i k1 p k2 q hlo hhi
          obtain ⟨lo', rfl, hlo'⟩ := Option.map_eq_some_iff.1 hlo
          obtain ⟨hi', rfl, hhi'⟩ := Option.map_eq_some_iff.1 hhi
          by_cases hb : (decide (0 ≤ p) && decide (p ≤ q) && decide (q ≤ (xs.length : Int))) = true
          · rw [hb, cond_true] at h
            simp only [Bool.and_eq_true, decide_eq_true_eq] at hb
            obtain ⟨⟨b1, b2⟩, b3⟩ := hb
            have r1 := rv_v (fr_eval hf hlo')
            have r2 := rv_v (fr_eval hf hhi')
            refine fin p.toNat q.toNat _ (by omega) (by omega) rfl (.inr ⟨k1, ?_⟩) (.inr ⟨k2, ?_⟩) h
            · simp [r1, Int.toNat_of_nonneg b1]
            · simp [r2, Int.toNat_of_nonneg (show 0 ≤ q by omega)]
          · rw [Bool.not_eq_true] at hb
            rw [hb, cond_false] at h
            cases h
        · rename_i k2 q hlo hhi
          obtain ⟨hi', rfl, hhi'⟩ := Option.map_eq_some_iff.1 hhi
          by_cases hb : (decide (0 ≤ q) && decide (q ≤ (xs.length : Int))) = true
          · rw [hb, cond_true] at h
            simp only [Bool.and_eq_true, decide_eq_true_eq] at hb
            obtain ⟨b1, b3⟩ := hb
            have r2 := rv_v (fr_eval hf hhi')
            refine fin 0 q.toNat _ (by omega) (by omega) (by simp) (.inl ⟨by simpa using hlo, rfl⟩) (.inr ⟨k2, ?_⟩) h
            simp [r2, Int.toNat_of_nonneg b1]
          · rw [Bool.not_eq_true] at hb
            rw [hb, cond_false] at h
            cases h
        · rename_i k1 p hlo hhi
          obtain ⟨lo', rfl, hlo'⟩ := Option.map_eq_some_iff.1 hlo
          by_cases hb : (decide (0 ≤ p) && decide (p ≤ (xs.length : Int))) = true
          · rw [hb, cond_true] at h
            simp only [Bool.and_eq_true, decide_eq_true_eq] at hb
            obtain ⟨b1, b3⟩ := hb
            have r1 := rv_v (fr_eval hf hlo')
            refine fin p.toNat xs.length _ (by omega) (by omega) (by simp) (.inr ⟨k1, ?_⟩) (.inl ⟨by simpa using hhi, rfl⟩) h
            simp [r1, Int.toNat_of_nonneg b1]
          · rw [Bool.not_eq_true] at hb
            rw [hb, cond_false] at h
            cases h
        · rename_i hlo hhi
          exact fin 0 xs.length _ (by omega) (by omega) (by simp) (.inl ⟨by simpa using hlo, rfl⟩) (.inl ⟨by simpa using hhi, rfl⟩) h
        · cases h
      · cases h
    · cases h

theorem mem_extract (y : Operand) (i : Nat) : MemOK P (.extract y i) := by
  intro w I B G st a next Q o x L S ho hs hf h hk
  simp only [evMem] at h
  split at h
  · rename_i vs hy
    simp only [Option.map_eq_some_iff, Prod.mk.injEq] at h
    obtain ⟨z, hz, rfl, rfl, rfl⟩ := h
    have hr := fr_eval hf hy
    generalize hu : a.eval y = u at hr
    cases hr with
    | dat hd => cases hd
    | tup _ us hl hp =>
      have hi : i < us.size := by have := (List.getElem?_eq_some_iff.1 hz).1; omega
      refine wp_of_run (v := us[i]) (w' := w) ?_ (goes_same hs hk (hp i z _ hz (Array.getElem?_eq_getElem hi)))
      simp [execOp, ho, hu, Instr.extract, hi]
  · cases h

theorem mem_makeInterface (t : TypeId) (y : Operand) : MemOK P (.makeInterface t y) := by
  intro w I B G st a next Q o x L S ho hs hf h hk
  simp only [evMem] at h
  split at h
  · cases h
  · rename_i d hn hd
    simp only [Option.map_eq_some_iff, Prod.mk.injEq] at h
    obtain ⟨z, hz, rfl, rfl, rfl⟩ := h
    have hr := fr_eval hf hz
    refine wp_of_run (v := .iface t (a.eval y)) (w' := w) ?_ (goes_same hs hk ?_)
    · simp only [execOp, ho, Instr.makeInterface, Sem.run_bind, run_underlying hd, Result.andThen_ok]
      cases d <;> first | rfl | (exfalso; exact hn _ hd)
    · split
      · rename_i v hv
        rw [rv_toVal hr v hv]
        exact .dat (.v _)
      · exact .ifc t hr
  · cases h

theorem evals_rv {l : List Operand} {ys : List AV} {a : Act} (hf : FR P w I G (st.L :: st.S) st.F a.tmps) (h : evals st l = some ys) : ∀ (i : Nat) (y : AV), ys[i]? = some y → ∃ z, l[i]? = some z ∧ RV P w I G (st.L :: st.S) y (a.eval z) := by
  obtain ⟨h1, h2⟩ := evals_some h
  intro i y hy
  have hi : i < l.length := by have := (List.getElem?_eq_some_iff.1 hy).1; omega
  obtain ⟨y', h3, h4⟩ := h2 i l[i] (List.getElem?_eq_getElem hi)
  rw [hy] at h3
  cases h3
  exact ⟨l[i], List.getElem?_eq_getElem hi, fr_eval hf h4⟩

theorem mem_makeFunc (fn : Fn) (first caps : Array Operand) : MemOK P (.makeFunc fn first caps) := by
  intro w I B G st a next Q o x L S ho hs hf h hk
  cases fn with
  | func f =>
    simp only [evMem] at h
    split at h
    · rename_i hfst
      obtain rfl : first = #[] := Array.eq_empty_of_size_eq_zero hfst
      simp only [Option.map_eq_some_iff, Prod.mk.injEq] at h
      obtain ⟨cs, hc, rfl, rfl, rfl⟩ := h
      refine wp_of_run (v := .func (.func f) #[] (caps.map a.eval)) (w' := w) (by simp [execOp, ho, Instr.makeFunc]) (goes_same hs hk (.clo f cs _ ?_ fun i y u hy hu => ?_))
      · have := (evals_some hc).1
        simpa using this
      · obtain ⟨z, hz, hr⟩ := evals_rv hf hc i y hy
        simp only [Array.getElem?_map, Option.map_eq_some_iff] at hu
        obtain ⟨z', hz', rfl⟩ := hu
        rw [Array.getElem?_toList] at hz
        rw [hz] at hz'
        cases hz'
        exact hr
    · cases h
  | _ => simp only [evMem] at h; cases h
end
end Go.Proofs.YtffjdcbegohmiaaDoor.Ev
