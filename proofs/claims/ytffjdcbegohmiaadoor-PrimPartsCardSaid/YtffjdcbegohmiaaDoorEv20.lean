/-
  Regions that draw their order.
-/
import Derived.Test.YtffjdcbegohmiaaDoorEv19
namespace Go.Proofs.YtffjdcbegohmiaaDoor.Ev
open Go Go.RowKit

section
variable {P : Program} {C : Cfg} {call : CallT}

theorem edgeBits_spec {acc : List Nat} {i : Nat} : ∀ (es : List Edge) (b : Nat), (edgeBits acc b es).testBit i = true → b.testBit i = true ∨ ∃ e ∈ es, Region.binds .any e = true ∧ (e.on = i ∨ (acc.getD e.on 0).testBit i = true) := by
  intro es
  induction es with
  | nil => intro b h; exact .inl h
  | cons e r ih =>
    intro b h
    simp only [edgeBits] at h
    rcases ih _ h with h | ⟨e', he', h'⟩
    · split at h
      · rename_i hb
        rw [Nat.testBit_or, Nat.testBit_or, Bool.or_eq_true, Bool.or_eq_true] at h
        rcases h with (h | h) | h
        · exact .inl h
        · refine .inr ⟨e, List.mem_cons_self .., hb, .inl ?_⟩
          rw [Nat.one_shiftLeft, Nat.testBit_two_pow] at h
          simpa using h
        · exact .inr ⟨e, List.mem_cons_self .., hb, .inr h⟩
      · exact .inl h
    · exact .inr ⟨e', List.mem_cons_of_mem _ he', h'⟩

theorem ancs_pre : ∀ (l : List Oper) (acc : List Nat) (k : Nat), k < acc.length → (ancs l acc).getD k 0 = acc.getD k 0 := by
  intro l
  induction l with
  | nil => intro acc k _; rfl
  | cons o r ih =>
    intro acc k hk
    simp only [ancs]
    rw [ih _ k (by simp; omega)]
    simp [List.getD, List.getElem?_append_left hk]
theorem ancs_spec : ∀ (l : List Oper) (acc : List Nat) (k : Nat) (o : Oper) (i : Nat), l[k]? = some o → ((ancs l acc).getD (acc.length + k) 0).testBit i = true →
    ∃ e ∈ o.after.toList, Region.binds .any e = true ∧ (e.on = i ∨ ((ancs l acc).getD e.on 0).testBit i = true) := by
  intro l
  induction l with
  | nil => intro acc k o i h; simp at h
  | cons p r ih =>
    intro acc k o i h hb
    cases k with
    | zero =>
      simp at h
      subst h
      simp only [ancs, Nat.add_zero] at hb ⊢
      rw [ancs_pre _ _ _ (by simp)] at hb
      have e1 : (acc ++ [edgeBits acc 0 p.after.toList]).getD acc.length 0 = edgeBits acc 0 p.after.toList := by simp [List.getD]
      rw [e1] at hb
      rcases edgeBits_spec _ _ hb with h | ⟨e, he, h1, h2⟩
      · simp at h
      · refine ⟨e, he, h1, ?_⟩
        rcases h2 with h2 | h2
        · exact .inl h2
        · right
          have hlt : e.on < acc.length := by
            rcases Nat.lt_or_ge e.on acc.length with h | h
            · exact h
            · simp [List.getD, List.getElem?_eq_none h] at h2
          rw [ancs_pre _ _ _ (by simp; omega)]
          simpa [List.getD, List.getElem?_append_left hlt] using h2
    | succ k =>
      simp only [ancs] at hb ⊢
      have e2 : acc.length + (k + 1) = (acc ++ [edgeBits acc 0 p.after.toList]).length + k := by simp; omega
      rw [e2] at hb
      exact ih _ k o i (by simpa using h) hb

theorem any_binds {e : Edge} (h : Region.binds .any e = true) (md : Region.Mode) : Region.binds md e = true := by
  unfold Region.binds at h ⊢
  cases hg : e.ground <;> simp [hg] at h ⊢

/-- What drawOK says of two. -/
structure PairOK (P : Program) (ops : Array Oper) (cl : Nat → Nat) : Prop where
  dst : ∀ (i j : Nat) (x y : Oper), ops[i]? = some x → ops[j]? = some y → i ≠ j → ∀ d, x.dst = some d → y.dst ≠ some d
  free : ∀ (i j : Nat) (x y : Oper), ops[i]? = some x → ops[j]? = some y → i < j → ((ancs ops.toList []).getD j 0).testBit i = false → x.apart ops y = true ∧ free2 (opCls P (cl i) x) (opCls P (cl j) y) x y = true

theorem mem_zip {ops : Array Oper} {i : Nat} {x : Oper} (h : ops[i]? = some x) : (x, i) ∈ ops.toList.zipIdx := by
  rw [List.mem_zipIdx_iff_getElem?]
  simpa using h
theorem pair_of {ops : Array Oper} {cl : Nat → Nat} (h : drawOK P ops cl = true) : PairOK P ops cl := by
  simp only [drawOK, Bool.and_eq_true, List.all_eq_true] at h
  have hp := h.1.1
  have two : ∀ (i j : Nat) (x y : Oper), ops[i]? = some x → ops[j]? = some y → i < j → (x.dst.isSome = false ∨ x.dst ≠ y.dst) ∧ (((ancs ops.toList []).getD j 0).testBit i = true ∨ (x.apart ops y = true ∧ free2 (opCls P (cl i) x) (opCls P (cl j) y) x y = true)) := by
    intro i j x y hx hy hij
    have := hp (y, j) (mem_zip hy) (x, i) (mem_zip hx)
    simp only [Bool.or_eq_true, decide_eq_true_eq, Bool.and_eq_true, Bool.not_eq_true', bne_iff_ne] at this
    rcases this with h | ⟨h1, h2⟩
    · omega
    · exact ⟨h1, h2⟩
  refine ⟨fun i j x y hx hy hne d hd hd' => ?_, fun i j x y hx hy hij hb => ?_⟩
  · rcases Nat.lt_or_gt_of_ne hne with hlt | hlt
    · rcases (two i j x y hx hy hlt).1 with h | h
      · simp [hd] at h
      · exact h (hd.trans hd'.symm)
    · rcases (two j i y x hy hx hlt).1 with h | h
      · simp [hd'] at h
      · exact h (hd'.trans hd.symm)
  · rcases (two i j x y hx hy hij).2 with h | h
    · rw [hb] at h; cases h
    · exact h

theorem step1_keeps {N : Nat} {ops : Array Oper} {cl : Nat → Nat} {i : Nat} {x : Oper} {st st1 : St} (hi : ops[i]? = some x) (h : step1 P C call N ops cl i st = some st1) (d : Nat) (hd : x.dst ≠ some d) : kget st1.F d = kget st.F d := by
  obtain ⟨F, L, S⟩ := st
  rw [step1_val hi] at h
  obtain ⟨r, _, h⟩ := Option.bind_eq_some_iff.1 h
  obtain ⟨F', hF, rfl⟩ := Option.map_eq_some_iff.1 h
  exact putF_get hF d hd

def FreshAt (ops : Array Oper) (F : Fr) (l : List Nat) : Prop := ∀ i ∈ l, ∀ (x : Oper) (d : Nat), ops[i]? = some x → x.dst = some d → kget F d = none

/-- One step may come ahead of those that it hangs not on. -/
theorem to_front {N : Nat} {ops : Array Oper} {cl : Nat → Nat} {j : Nat} {y : Oper} (hp : PairOK P ops cl) (hj : ops[j]? = some y) : ∀ (m1 m2 : List Nat) (st st' : St), m1.Nodup → (∀ i ∈ m1, i < j ∧ i < ops.size ∧ ((ancs ops.toList []).getD j 0).testBit i = false) → FreshAt ops st.F m1 →
    evOps P C call N ops cl (m1 ++ j :: m2) st = some st' → evOps P C call N ops cl (j :: (m1 ++ m2)) st = some st' := by
  intro m1
  induction m1 with
  | nil => intro m2 st st' _ _ _ h; exact h
  | cons i r ih =>
    intro m2 st st' hnd hm hf h
    simp only [List.cons_append, evOps] at h
    split at h
    · rename_i st1 h1
      obtain ⟨hij, hin, hb⟩ := hm i (List.mem_cons_self ..)
      have hx : ops[i]? = some ops[i] := Array.getElem?_eq_getElem hin
      rw [List.nodup_cons] at hnd
      have hf1 : FreshAt ops st1.F r := by
        intro q hq z d hz hd
        have hne : i ≠ q := by rintro rfl; exact hnd.1 hq
        rw [step1_keeps hx h1 d (fun e => hp.dst i q _ z hx hz hne d e hd)]
        exact hf q (List.mem_cons_of_mem _ hq) z d hz hd
      have h2 := ih m2 st1 st' hnd.2 (fun q hq => hm q (List.mem_cons_of_mem _ hq)) hf1 h
      simp only [evOps] at h2
      split at h2
      · rename_i st2 h3
        obtain ⟨ha, hfr⟩ := hp.free i j _ y hx hj hij hb
        obtain ⟨F, L, S⟩ := st
        obtain ⟨st3, h4, h5⟩ := swap_ok hx hj ha hfr (fun d hd => hf i (List.mem_cons_self ..) _ d hx hd) h1 h3
        simp only [List.cons_append, evOps, h4, h5]
        exact h2
      · cases h2
    · cases h

/-! ### The orders that a mode allows -/
def rest (ops : Array Oper) (listed : Array Bool) : List Nat := (List.range ops.size).filter fun i => !listed.getD i true

theorem mem_rest {ops : Array Oper} {listed : Array Bool} {i : Nat} : i ∈ rest ops listed ↔ i < ops.size ∧ listed.getD i true = false := by
  simp [rest]

theorem complete_spec {md : Region.Mode} {ops : Array Oper} {listed : Array Bool} (hs : listed.size = ops.size) : ∀ (l pre : List Nat), prefixOK md ops pre l = true → (∀ p ∈ pre, listed.getD p false = true) → Region.ready md ops listed = [] → ∀ q ∈ l, listed.getD q false = true := by
  intro l
  induction l with
  | nil => intro pre _ _ _ q hq; simp at hq
  | cons i r ih =>
    intro pre h hpre hr
    simp only [prefixOK, Bool.and_eq_true] at h
    obtain ⟨h1, h2⟩ := h
    have hi : listed.getD i false = true := by
      split at h1
      · rename_i o ho
        have hlt : i < listed.size := by rw [hs]; exact (Array.getElem?_eq_some_iff.1 ho).1
        cases hl : listed[i] with
        | true => simp [hlt, hl]
        | false =>
          exfalso
          have hm : i ∈ Region.ready md ops listed := by
            rw [mem_ready]
            refine ⟨by simp [hlt, hl], o, ho, fun e he hb => ?_⟩
            have := List.all_eq_true.1 h1 e (by simpa using he)
            simp only [hb, Bool.not_true, Bool.false_or] at this
            exact hpre _ (by simpa using this)
          rw [hr] at hm
          cases hm
      · cases h1
    intro q hq
    rcases List.mem_cons.1 hq with rfl | hq
    · exact hi
    · exact ih (i :: pre) h2 (fun p hp => by
        rcases List.mem_cons.1 hp with rfl | hp
        · exact hi
        · exact hpre p hp) hr q hq
end
end Go.Proofs.YtffjdcbegohmiaaDoor.Ev
