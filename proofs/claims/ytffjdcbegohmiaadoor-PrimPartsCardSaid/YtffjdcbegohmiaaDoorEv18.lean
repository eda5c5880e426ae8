/-
  Two steps of a region, in either order: the steps.
-/
import Derived.Test.YtffjdcbegohmiaaDoorEv17
namespace Go.Proofs.YtffjdcbegohmiaaDoor.Ev
open Go Go.RowKit

section
variable {P : Program} {C : Cfg} {call : CallT} {F F2 : Fr} {L L2 : Loc} {S S2 : Stk}

def Shape (F : Fr) (L : Loc) (S : Stk) (dst : Option Tmp) (L' : Loc) (S' : Stk) : Prop :=
  (L' = L ∧ S' = S) ∨ (∃ d ob, dst = some d ∧ (⟨F, L, S⟩ : St).new d ob = some L' ∧ S' = S) ∨ (∃ k s e sz xs ob, sget (L :: S) k s = some (.row e sz xs) ∧ sset (L :: S) k s ob = L' :: S')

theorem new_shape {op : Op} {dst : Option Tmp} (hnew : isNew op = true) {u : AV} {L' : Loc} {S' : Stk} (he : evMem P ⟨F, L, S⟩ dst op = some (u, L', S')) : Shape F L S dst L' S' := by
  cases op with
  | alloc t =>
    simp only [evMem] at he
    split at he
    · rename_i d cs _
      split at he
      · simp only [Option.map_eq_some_iff, Prod.mk.injEq] at he
        obtain ⟨_, h1, _, rfl, rfl⟩ := he
        exact .inr (.inl ⟨d, _, rfl, h1, rfl⟩)
      · cases he
    · cases he
  | box t y =>
    simp only [evMem] at he
    split at he
    · rename_i d y _
      split at he
      · simp only [Option.map_eq_some_iff, Prod.mk.injEq] at he
        obtain ⟨_, h1, _, rfl, rfl⟩ := he
        exact .inr (.inl ⟨d, _, rfl, h1, rfl⟩)
      · cases he
    · cases he
  | load t y =>
    have := mem1 (cl := 0) (o := { dst := none, op := .load t y, type := 0, pos := "", after := #[], guard := none }) rfl rfl he
    exact .inl this
  | buildSlice t n parts =>
    simp only [evMem] at he
    split at he
    · split at he
      · split at he
        · split at he
          · split at he
            · split at he
              · split at he
                · rename_i d
                  simp only [Option.map_eq_some_iff, Prod.mk.injEq] at he
                  obtain ⟨_, h1, _, rfl, rfl⟩ := he
                  exact .inr (.inl ⟨d, _, rfl, h1, rfl⟩)
                · cases he
              · simp only [Option.some.injEq, Prod.mk.injEq] at he
                obtain ⟨_, rfl, rfl⟩ := he
                exact .inl ⟨rfl, rfl⟩
            · cases he
          · cases he
        · cases he
      · cases he
    · cases he
  | call c =>
    simp only [evMem] at he
    split at he
    · split at he
      · simp only [Option.map_eq_some_iff, Prod.mk.injEq] at he
        obtain ⟨_, h1, _, rfl, rfl⟩ := he
        exact .inl ⟨rfl, rfl⟩
      · cases he
    · split at he
      · split at he
        · split at he
          · split at he
            · simp only [Option.map_eq_some_iff, Prod.mk.injEq] at he
              obtain ⟨_, h1, _, rfl, rfl⟩ := he
              exact .inl ⟨rfl, rfl⟩
            · split at he
              · split at he
                · split at he
                  · rename_i d
                    split at he
                    · simp only [Option.map_eq_some_iff, Prod.mk.injEq] at he
                      obtain ⟨_, h1, _, rfl, rfl⟩ := he
                      exact .inr (.inl ⟨d, _, rfl, h1, rfl⟩)
                    · cases he
                  · cases he
                · rename_i k s n _
                  split at he
                  · rename_i hS
                    split at he
                    · split at he
                      · split at he
                        · rename_i hss
                          simp only [Option.some.injEq, Prod.mk.injEq] at he
                          obtain ⟨_, rfl, rfl⟩ := he
                          exact .inr (.inr ⟨k, s, _, _, _, _, hS, hss⟩)
                        · cases he
                      · cases he
                    · cases he
                  · cases he
                · cases he
              · cases he
          · cases he
        · cases he
      · cases he
    · cases he
  | _ => simp [isNew] at hnew

theorem ofVal_ptr {v : Value} {k s off : Nat} : ofVal v ≠ .ptr k s off := by
  intro h
  cases v with
  | tuple vs => simp [ofVal] at h
  | agg cs => simp [ofVal, ofVal1] at h
  | slice A n c =>
    simp only [ofVal, ofVal1] at h
    unfold ofCell at h
    split at h <;> cases h
  | _ => simp [ofVal, ofVal1, ofCell] at h

/-- A load does not see what is new. -/
theorem load_new {t : TypeId} {y : Operand} {dx dy : Option Tmp} {v : AV} {L' : Loc} {S' : Stk} (hsh : Shape F L S dy L' S') (hy : ∀ d, dy = some d → y ≠ .tmp d) (he : evMem P ⟨F, L, S⟩ dx (.load t y) = some (v, L, S)) :
    evMem P ⟨F, L', S'⟩ dx (.load t y) = some (v, L', S') := by
  simp only [evMem, eval_F] at he ⊢
  split at he
  · rename_i cs h1
    simp only [Option.map_eq_some_iff, Prod.mk.injEq] at he ⊢
    obtain ⟨z, hz, rfl, _, _⟩ := he
    exact ⟨z, hz, by simp⟩
  · rename_i k s off h1
    split at he
    · rename_i u cs hS
      simp only [Option.map_eq_some_iff, Prod.mk.injEq] at he
      obtain ⟨z, hz, rfl, _, _⟩ := he
      have hS' : sget (L' :: S') k s = some (.blk u cs) := by
        rcases hsh with ⟨rfl, rfl⟩ | ⟨d, ob, rfl, hn, rfl⟩ | ⟨k', s', e, sz, xs, ob, hS2, hss⟩
        · exact hS
        · obtain ⟨rfl, h2, _, _⟩ := new_some hn
          simp only at h2
          cases k with
          | succ k => simpa [sget] using hS
          | zero =>
            simp only [sget] at hS ⊢
            rw [kget_kset]
            have hne : s ≠ d := by
              rintro rfl
              cases y with
              | tmp q =>
                have hq : q ≠ s := by rintro rfl; exact hy _ rfl rfl
                have := frSays_false h2 q (.ptr 0 s off) (by rw [kget_kdel]; simpa [hq, evF] using h1) s rfl
                simp [AV.says] at this
              | const c => simp only [evF, Option.some.injEq] at h1; exact ofVal_ptr h1
              | global g => cases h1
              | func f => cases h1
            simpa [hne] using hS
        · rw [← hss, sget_sset _ _ _ _ _ _ (sget_lt _ _ _ _ hS2)]
          have hne : ¬ (k = k' ∧ s = s') := by
            rintro ⟨rfl, rfl⟩
            rw [hS] at hS2
            cases hS2
          simpa [hne] using hS
      rw [hS']
      simp [hz]
    · cases he
  · cases he

/-! ### Values of steps -/
def valOf (P : Program) (C : Cfg) (call : CallT) (ops : Array Oper) (cl : Nat) (o : Oper) (st : St) : Option Res := match wantedA ops st.F o with
  | some true => evOp P C call cl st o
  | some false => some (.v undef, st.L, st.S)
  | none => none
def putF (N : Nat) (F : Fr) (dst : Option Tmp) (x : AV) : Option Fr := match dst with
  | none => some F
  | some d => if d < N then some (kset F d x) else none

theorem put_F {N : Nat} (dst : Option Tmp) (x : AV) : St.put N ⟨F, L, S⟩ dst x = (putF N F dst x).map fun F' => ⟨F', L, S⟩ := by
  cases dst with
  | none => rfl
  | some d =>
    by_cases hlt : d < N
    · simp [St.put, putF, hlt]
    · simp [St.put, putF, hlt]
theorem step1_val {N : Nat} {ops : Array Oper} {cl : Nat → Nat} {i : Nat} {o : Oper} (ho : ops[i]? = some o) : step1 P C call N ops cl i ⟨F, L, S⟩ = (valOf P C call ops (cl i) o ⟨F, L, S⟩).bind fun r => (putF N F o.dst r.1).map fun F' => ⟨F', r.2.1, r.2.2⟩ := by
  unfold step1 valOf
  simp only [ho]
  cases hw : wantedA ops F o with
  | none => rfl
  | some b =>
    cases b with
    | false => simp only [put_F, Option.bind_some]
    | true =>
      simp only
      cases he : evOp P C call (cl i) ⟨F, L, S⟩ o with
      | none => rfl
      | some r =>
        obtain ⟨x, L', S'⟩ := r
        simp only [put_F, Option.bind_some]

theorem look_op {ops : Array Oper} {o : Oper} (h : ∀ t ∈ o.looksAt ops, kget F2 t = kget F t) : ∀ x ∈ o.op.operands, evF F2 x = evF F x := by
  intro x hx
  cases x with
  | tmp t => exact h t (List.mem_append_left _ (List.mem_filterMap.2 ⟨.tmp t, by simpa using hx, rfl⟩))
  | _ => rfl
theorem look_guard {ops : Array Oper} {o : Oper} (h : ∀ t ∈ o.looksAt ops, kget F2 t = kget F t) : wantedA ops F2 o = wantedA ops F o := by
  unfold wantedA
  cases hg : o.guard with
  | none => rfl
  | some gw =>
    obtain ⟨g, want⟩ := gw
    simp only
    cases hd : (ops[g]?).bind (·.dst) with
    | none => rfl
    | some d => simp only [h d (by simp [Oper.looksAt, hg, hd])]

theorem val0 {ops : Array Oper} {o : Oper} {cl : Nat} (hc : opCls P cl o = 0) (h : ∀ t ∈ o.looksAt ops, kget F2 t = kget F t) : valOf P C call ops cl o ⟨F2, L2, S2⟩ = (valOf P C call ops cl o ⟨F, L, S⟩).map fun r => (r.1, L2, S2) := by
  unfold valOf
  simp only [look_guard h]
  split
  · exact op0 hc (look_op h)
  · rfl
  · rfl
theorem val2 {ops : Array Oper} {o : Oper} {cl : Nat} (hc : opCls P cl o ≠ 3) (h : ∀ t ∈ o.looksAt ops, kget F2 t = kget F t) : valOf P C call ops cl o ⟨F2, L, S⟩ = valOf P C call ops cl o ⟨F, L, S⟩ := by
  unfold valOf
  simp only [look_guard h]
  split
  · exact op2 hc (look_op h)
  · rfl
  · rfl
theorem val1 {ops : Array Oper} {o : Oper} {cl : Nat} (hc : opCls P cl o = 0 ∨ opCls P cl o = 1) {x : AV} {L' : Loc} {S' : Stk} (h : valOf P C call ops cl o ⟨F, L, S⟩ = some (x, L', S')) : L' = L ∧ S' = S := by
  unfold valOf at h
  split at h
  · rcases hc with hc | hc
    · exact op0_keeps hc h
    · exact op1 hc h
  · simp only [Option.some.injEq, Prod.mk.injEq] at h; obtain ⟨_, rfl, rfl⟩ := h; exact ⟨rfl, rfl⟩
  · cases h

theorem op3 {o : Oper} {cl : Nat} (h : ∀ x ∈ o.op.operands, evF F2 x = evF F x) (hn : ∀ d ob L', (⟨F, L, S⟩ : St).new d ob = some L' → (⟨F2, L, S⟩ : St).new d ob = some L') {r : Res}
    (he : evOp P C call cl ⟨F, L, S⟩ o = some r) : evOp P C call cl ⟨F2, L, S⟩ o = some r := by
  unfold evOp at he ⊢
  rw [callee_agree (L := L) (S := S) h, plain_agree (L := L) (S := S) h]
  split at he
  · split at he
    · rename_i hent
      rw [if_pos hent]
      exact he
    · rename_i hent
      rw [if_neg hent]
      split at he
      · rename_i nx hp
        cases nx <;> exact he
      · cases he
  · split at he
    · rename_i q hm
      cases he
      rw [mem3 h hn hm]
    · rename_i hm
      split at he
      · cases he
      · rename_i hnew
        rw [Bool.not_eq_true] at hnew
        rw [mem2 (o := o) (cl := cl) rfl (.inl hnew) h, hm]
        simp only [hnew, Bool.false_eq_true, if_false]
        split at he
        · rename_i nx hp
          cases nx <;> exact he
        · cases he
theorem val3 {ops : Array Oper} {o : Oper} {cl : Nat} (h : ∀ t ∈ o.looksAt ops, kget F2 t = kget F t) (hn : ∀ d ob L', (⟨F, L, S⟩ : St).new d ob = some L' → (⟨F2, L, S⟩ : St).new d ob = some L') {r : Res}
    (he : valOf P C call ops cl o ⟨F, L, S⟩ = some r) : valOf P C call ops cl o ⟨F2, L, S⟩ = some r := by
  unfold valOf at he ⊢
  simp only [look_guard h]
  cases hw : wantedA ops F o with
  | none => simp [hw] at he
  | some b =>
    simp only [hw] at he ⊢
    cases b with
    | false => exact he
    | true => exact op3 (look_op h) hn he
end
end Go.Proofs.YtffjdcbegohmiaaDoor.Ev
