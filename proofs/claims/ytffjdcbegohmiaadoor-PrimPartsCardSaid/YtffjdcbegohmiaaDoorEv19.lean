/-
  Two steps of a region, in either order: the swap.
-/
import Derived.Test.YtffjdcbegohmiaaDoorEv18
namespace Go.Proofs.YtffjdcbegohmiaaDoor.Ev
open Go Go.RowKit

section
variable {P : Program} {C : Cfg} {call : CallT} {F : Fr} {L : Loc} {S : Stk}

theorem kset_comm {α : Type} {a b : Nat} {x y : α} (h : a ≠ b) : ∀ l : List (Nat × α), kset (kset l a x) b y = kset (kset l b y) a x := by
  have key : ∀ {a b : Nat} {x y : α}, a < b → ∀ l : List (Nat × α), kset (kset l a x) b y = kset (kset l b y) a x := by
    intro a b x y hlt l
    induction l with
    | nil =>
      have h1 : ¬ b = a := by omega
      have h2 : ¬ a = b := by omega
      have h3 : ¬ b < a := by omega
      simp [kset, h1, h2, h3, hlt]
    | cons p r ih =>
      obtain ⟨t, z⟩ := p
      have h1 : ¬ b = a := by omega
      have h2 : ¬ a = b := by omega
      have h3 : ¬ b < a := by omega
      by_cases a1 : a = t
      · subst a1
        simp [kset, h1, h3]
      · by_cases a2 : a < t
        · by_cases b1 : b = t
          · subst b1
            simp [kset, h1, h2, h3, a2]
          · by_cases b2 : b < t
            · simp [kset, h1, h2, h3, a1, a2, b1, b2, hlt]
            · simp [kset, h1, h3, a1, a2, b1, b2]
        · have b1 : ¬ b = t := by omega
          have b2 : ¬ b < t := by omega
          simp [kset, a1, a2, b1, b2, ih]
  intro l
  rcases Nat.lt_or_gt_of_ne h with h | h
  · exact key h l
  · exact (key h l).symm

theorem putF_get {N : Nat} {dst : Option Tmp} {x : AV} {F' : Fr} (h : putF N F dst x = some F') (t : Nat) (ht : dst ≠ some t) : kget F' t = kget F t := by
  cases dst with
  | none => cases h; rfl
  | some d =>
    simp only [putF] at h
    split at h
    · cases h
      rw [kget_kset]
      have : t ≠ d := by rintro rfl; exact ht rfl
      simp [this]
    · cases h
theorem putF_comm {N : Nat} {dx dy : Option Tmp} {v u : AV} {F1 F2 : Fr} (hne : ∀ d, dx = some d → dy ≠ some d) (h1 : putF N F dx v = some F1) (h2 : putF N F1 dy u = some F2) : ∃ F3, putF N F dy u = some F3 ∧ putF N F3 dx v = some F2 := by
  cases dx with
  | none => cases h1; exact ⟨F2, h2, rfl⟩
  | some a =>
    cases dy with
    | none => cases h2; exact ⟨F, rfl, h1⟩
    | some b =>
      simp only [putF] at h1 h2 ⊢
      split at h1
      · split at h2
        · cases h1
          cases h2
          rename_i ha hb
          rw [if_pos hb]
          refine ⟨_, rfl, ?_⟩
          rw [if_pos ha]
          rw [kset_comm (hne a rfl ∘ fun e => by rw [e])]
        · cases h2
      · cases h1
theorem putF_new {N : Nat} {dx : Option Tmp} {v : AV} {F1 : Fr} (h : putF N F dx v = some F1) (hn : ∀ d, dx = some d → kget F d = none) : ∀ d ob L', (⟨F1, L, S⟩ : St).new d ob = some L' → (⟨F, L, S⟩ : St).new d ob = some L' := by
  intro d ob L' h1
  cases dx with
  | none => cases h; exact h1
  | some a =>
    simp only [putF] at h
    split at h
    · cases h
      exact new_mono (hn a rfl) h1
    · cases h

theorem swap_ok {N : Nat} {ops : Array Oper} {cl : Nat → Nat} {i j : Nat} {x y : Oper} {st1 st2 : St} (hi : ops[i]? = some x) (hj : ops[j]? = some y) (hap : x.apart ops y = true) (hfree : free2 (opCls P (cl i) x) (opCls P (cl j) y) x y = true)
    (hnx : ∀ d, x.dst = some d → kget F d = none) (h1 : step1 P C call N ops cl i ⟨F, L, S⟩ = some st1) (h2 : step1 P C call N ops cl j st1 = some st2) :
    ∃ st3, step1 P C call N ops cl j ⟨F, L, S⟩ = some st3 ∧ step1 P C call N ops cl i st3 = some st2 := by
  obtain ⟨hxy, hne, hyx⟩ := Oper.apart_spec hap
  rw [step1_val hi] at h1
  obtain ⟨⟨v, L1, S1⟩, hv, h1⟩ := Option.bind_eq_some_iff.1 h1
  obtain ⟨F1, hF1, rfl⟩ := Option.map_eq_some_iff.1 h1
  simp only at hF1
  rw [step1_val hj] at h2
  obtain ⟨⟨u, L2, S2⟩, hu, h2⟩ := Option.bind_eq_some_iff.1 h2
  obtain ⟨F2, hF2, rfl⟩ := Option.map_eq_some_iff.1 h2
  simp only at hF2 hu
  obtain ⟨F3, hF3, hF4⟩ := putF_comm hne hF1 hF2
  have ly : ∀ t ∈ y.looksAt ops, kget F1 t = kget F t := fun t ht => putF_get hF1 t fun e => hxy t e ht
  have ly' : ∀ t ∈ y.looksAt ops, kget F t = kget F1 t := fun t ht => (ly t ht).symm
  have lx : ∀ t ∈ x.looksAt ops, kget F3 t = kget F t := fun t ht => putF_get hF3 t fun e => hyx t e ht
  have hnew := putF_new (L := L) (S := S) hF1 hnx
  -- it is enough to know the two values
  have fin : ∀ L3 S3, valOf P C call ops (cl j) y ⟨F, L, S⟩ = some (u, L3, S3) → valOf P C call ops (cl i) x ⟨F3, L3, S3⟩ = some (v, L2, S2) →
      ∃ st3, step1 P C call N ops cl j ⟨F, L, S⟩ = some st3 ∧ step1 P C call N ops cl i st3 = some ⟨F2, L2, S2⟩ := by
    intro L3 S3 e1 e2
    refine ⟨⟨F3, L3, S3⟩, ?_, ?_⟩
    · rw [step1_val hj, e1]
      simp [hF3]
    · rw [step1_val hi, e2]
      simp [hF4]
  have back : L1 = L → S1 = S → valOf P C call ops (cl j) y ⟨F, L, S⟩ = some (u, L2, S2) := by
    rintro rfl rfl
    exact val3 ly' hnew hu
  simp only [free2, Bool.or_eq_true, Bool.and_eq_true, decide_eq_true_eq] at hfree
  rcases hfree with ((h0 | ⟨h0, hle⟩) | ⟨h0, h1'⟩) | ⟨⟨⟨h0, h1'⟩, hld⟩, hnw⟩
  · obtain ⟨e1, e2⟩ := val1 (.inl h0) hv
    refine fin L2 S2 (back e1 e2) ?_
    rw [val0 (L := L) (S := S) h0 lx, hv]
    rfl
  · have e := val0 (P := P) (C := C) (call := call) (F := F1) (L := L1) (S := S1) (F2 := F) (L2 := L) (S2 := S) h0 ly'
    rw [hu] at e
    obtain ⟨e1, e2⟩ := val1 (.inl h0) hu
    subst e1; subst e2
    refine fin L S e ?_
    rw [val2 (by omega) lx]
    exact hv
  · obtain ⟨e1, e2⟩ := val1 (.inr h0) hv
    refine fin L2 S2 (back e1 e2) ?_
    obtain ⟨e3, e4⟩ := val1 (.inr h1') hu
    subst e3; subst e4; subst e1; subst e2
    rw [val2 (by omega) lx]
    exact hv
  · obtain ⟨e1, e2⟩ := val1 (.inr h0) hv
    have hb := back e1 e2
    refine fin L2 S2 hb ?_
    subst e1; subst e2
    -- the load, behind the new object
    cases hop : x.op with
    | load t z =>
      unfold valOf at hv hb ⊢
      simp only [look_guard lx]
      cases hw : wantedA ops F x with
      | none => simp [hw] at hv
      | some b =>
        simp only [hw] at hv ⊢
        cases b with
        | false =>
          simp only [Option.some.injEq, Prod.mk.injEq] at hv
          obtain ⟨rfl, _, _⟩ := hv
          rfl
        | true =>
          simp only at hv
          have hcal : ∀ F L S, calleeOf P ⟨F, L, S⟩ x = none := by intro F L S; unfold calleeOf; rw [hop]
          have hx : evMem P ⟨F, L1, S1⟩ x.dst (.load t z) = some (v, L1, S1) := by
            unfold evOp at hv
            rw [hcal, hop] at hv
            simp only at hv
            split at hv
            · rename_i r hm; cases hv; exact hm
            · simp [isNew] at hv
          have hsh : Shape F L1 S1 y.dst L2 S2 := by
            cases hwy : wantedA ops F y with
            | none => simp [hwy] at hb
            | some b =>
              simp only [hwy] at hb
              cases b with
              | false =>
                simp only [Option.some.injEq, Prod.mk.injEq] at hb
                exact .inl ⟨hb.2.1.symm, hb.2.2.symm⟩
              | true =>
                simp only at hb
                unfold evOp at hb
                split at hb
                · rename_i g ys hcy
                  exfalso
                  unfold calleeOf at hcy
                  split at hcy
                  · rename_i c hopy
                    simp only [hopy, isNew] at hnw
                    split at hnw
                    · rename_i hc; simp only [hc] at hcy; cases hcy
                    · cases hnw
                  · cases hcy
                · split at hb
                  · rename_i r hm
                    cases hb
                    exact new_shape hnw hm
                  · simp [hnw] at hb
          have hz : ∀ d, y.dst = some d → z ≠ .tmp d := by
            rintro d hd rfl
            exact hyx d hd (List.mem_append_left _ (List.mem_filterMap.2 ⟨.tmp d, by simp [hop, Op.operands], rfl⟩))
          have h5 := load_new (dx := x.dst) hsh hz hx
          have h6 : evMem P ⟨F3, L2, S2⟩ x.dst (.load t z) = some (v, L2, S2) := by
            rw [mem2 (o := x) (cl := 0) (F := F) hop (.inr (by simp [opCls, hop])) (by rw [← hop]; exact look_op lx)]
            exact h5
          unfold evOp
          rw [hcal, hop, h6]
    | _ => simp [hop, isLoad] at hld
end
end Go.Proofs.YtffjdcbegohmiaaDoor.Ev
