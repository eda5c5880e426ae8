/-
  What an operation hangs on: its operands; the stores, if it is of such a class.
-/
import Derived.Test.YtffjdcbegohmiaaDoorEv15
namespace Go.Proofs.YtffjdcbegohmiaaDoor.Ev
open Go Go.RowKit

section
variable {P : Program} {C : Cfg} {call : CallT} {F F2 : Fr} {L L2 : Loc} {S S2 : Stk}

def evF (F : Fr) : Operand → Option AV
  | .tmp t => kget F t
  | .const v => some (ofVal v)
  | .global _ => none
  | .func f => some (.v (.func (.func f) #[] #[]))
theorem eval_F (F : Fr) (L : Loc) (S : Stk) (x : Operand) : (⟨F, L, S⟩ : St).eval x = evF F x := by cases x <;> rfl

theorem evals_agree : ∀ (l : List Operand), (∀ x ∈ l, evF F2 x = evF F x) → evals ⟨F2, L2, S2⟩ l = evals ⟨F, L, S⟩ l := by
  intro l
  induction l with
  | nil => intro _; rfl
  | cons x r ih =>
    intro h
    simp only [evals, eval_F, h x (List.mem_cons_self ..), ih fun y hy => h y (List.mem_cons_of_mem _ hy)]

theorem plain_agree {o : Oper} (h : ∀ x ∈ o.op.operands, evF F2 x = evF F x) : (⟨F2, L2, S2⟩ : St).plain P o = (⟨F, L, S⟩ : St).plain P o := by
  have he : evals ⟨F2, L2, S2⟩ o.op.operands.toList = evals ⟨F, L, S⟩ o.op.operands.toList := evals_agree _ fun x hx => h x (Array.mem_toList_iff.1 hx)
  unfold St.plain
  rw [he]
  by_cases hs : ∃ cs b, o.op = .select cs b
  · obtain ⟨cs, b, e⟩ := hs
    rw [e]
  · have hx := execOp_congr o (fun cs b e => hs ⟨cs, b, e⟩) (ρ := fun x => (((⟨F2, L2, S2⟩ : St).eval x).bind AV.toVal).getD undef) (ρ' := fun x => (((⟨F, L, S⟩ : St).eval x).bind AV.toVal).getD undef)
      (fun x hx => by simp only [eval_F, h x hx])
    rw [hx]

theorem callee_agree {o : Oper} (h : ∀ x ∈ o.op.operands, evF F2 x = evF F x) : calleeOf P ⟨F2, L2, S2⟩ o = calleeOf P ⟨F, L, S⟩ o := by
  unfold calleeOf
  rw [plain_agree (L2 := L2) (S2 := S2) (L := L) (S := S) h]
  split
  · rename_i c ho
    have ha : evals ⟨F2, L2, S2⟩ c.args.toList = evals ⟨F, L, S⟩ c.args.toList := evals_agree _ fun x hx => h x (by rw [ho]; simp only [Op.operands, Call.operands]; exact Array.mem_append.2 (.inr (Array.mem_toList_iff.1 hx)))
    split
    · rename_i f hc
      have hf : evF F2 f = evF F f := h f (by rw [ho]; simp [Op.operands, Call.operands, hc])
      simp only [eval_F, hf, ha]
    · rfl
    · rfl
  · rfl

/-- Class 0: no store is looked at. -/
theorem mem0 {op : Op} {dst : Option Tmp} {cl : Nat} {o : Oper} (ho : o.op = op) (hc : opCls P cl o = 0) (h : ∀ x ∈ op.operands, evF F2 x = evF F x) :
    evMem P ⟨F2, L2, S2⟩ dst op = (evMem P ⟨F, L, S⟩ dst op).map fun r => (r.1, L2, S2) := by
  have one : ∀ x, op.operands = #[x] → evF F2 x = evF F x := fun x hx => h x (by simp [hx])
  cases op with
  | move y => simp only [evMem, eval_F, one y rfl]; cases evF F y <;> rfl
  | assign y => simp only [evMem, eval_F, one y rfl]; cases evF F y <;> rfl
  | pick c a b =>
    simp only [evMem, eval_F, h c (by simp [Op.operands]), h a (by simp [Op.operands]), h b (by simp [Op.operands])]
    split
    · rename_i t _
      cases t
      · cases evF F b <;> rfl
      · cases evF F a <;> rfl
    · rfl
  | nilCheck y => simp only [evMem, eval_F, one y rfl]; split <;> rfl
  | fieldAddr t y i =>
    simp only [evMem, eval_F, one y rfl]
    split
    · split
      · split
        · split <;> rfl
        · rfl
      · rfl
    · rfl
  | build t parts =>
    have he : evals ⟨F2, L2, S2⟩ (parts.toList.map (·.2)) = evals ⟨F, L, S⟩ (parts.toList.map (·.2)) := evals_agree _ fun x hx => h x (by simpa [Op.operands] using hx)
    simp only [evMem, he]
    split
    · split
      · split
        · simp only [Option.map_map]; rfl
        · rfl
      · rfl
    · rfl
  | makeInterface t y =>
    simp only [evMem, eval_F, one y rfl]
    split
    · rfl
    · cases evF F y <;> rfl
    · rfl
  | extract y i =>
    simp only [evMem, eval_F, one y rfl]
    split
    · simp only [Option.map_map]; rfl
    · rfl
  | field t y i =>
    simp only [evMem, eval_F, one y rfl]
    split
    · split
      · simp only [Option.map_map]; rfl
      · rfl
    · rfl
  | convert src dst' y =>
    simp only [evMem, eval_F, one y rfl]
    split
    · split <;> rfl
    · rfl
  | call c =>
    simp only [opCls, ho] at hc
    simp only [evMem]
    split at hc
    · rename_i e
      simp only [e]
      split at hc
      · cases hc
      · rename_i hns
        have none2 : ∀ (x : Option AV) (L : Loc) (S : Stk) (st : St), (match c.argTypes[0]?.bind P.underlying, x with
          | some (.slice e), some l => (elemsOf st e l).map fun xs => (AV.v (.int .i64 xs.length), L, S)
          | _, _ => none) = none := by
          intro x L S st
          split
          · rename_i e l h1
            exact absurd h1 (hns e)
          · rfl
        split
        · exact (none2 _ L2 S2 ⟨F2, L2, S2⟩).trans (congrArg (Option.map fun r : Res => (r.1, L2, S2)) (none2 _ L S ⟨F, L, S⟩)).symm
        · rename_i h1 _
          cases h1
        · rfl
    · rename_i e; simp only [e]; rfl
    · rename_i e; simp only [e]; rfl
    · cases hc
    · cases hc
    · rename_i hne1 hne2 hne3 hne4 hne5
      cases hcal : c.callee with
      | builtin b => exact absurd hcal (hne5 b)
      | value f => rfl
      | invoke r m => rfl
  | slice t x lo hi mx => simp [opCls, ho] at hc
  | buildSlice t n parts =>
    have hn : n ≠ 0 := by rintro rfl; simp [opCls, ho] at hc
    have he : evals ⟨F2, L2, S2⟩ (parts.toList.map (·.2)) = evals ⟨F, L, S⟩ (parts.toList.map (·.2)) := evals_agree _ fun x hx => h x (by simpa [Op.operands] using hx)
    simp only [evMem, he, hn, if_false]
    split
    · split
      · split
        · split
          · split <;> rfl
          · rfl
        · rfl
      · rfl
    · rfl
  | _ => first | rfl | (simp [opCls, ho] at hc)

theorem elems_F (e : TypeId) (x : AV) : elemsOf ⟨F2, L, S⟩ e x = elemsOf ⟨F, L, S⟩ e x := rfl

/-- No new objects: the operands and the stores are all. -/
theorem mem2 {op : Op} {dst : Option Tmp} {cl : Nat} {o : Oper} (ho : o.op = op) (hc : isNew op = false ∨ opCls P cl o ≠ 3) (h : ∀ x ∈ op.operands, evF F2 x = evF F x) : evMem P ⟨F2, L, S⟩ dst op = evMem P ⟨F, L, S⟩ dst op := by
  have one : ∀ x, op.operands = #[x] → evF F2 x = evF F x := fun x hx => h x (by simp [hx])
  cases op with
  | move y => simp only [evMem, eval_F, one y rfl]
  | assign y => simp only [evMem, eval_F, one y rfl]
  | pick c a b => simp only [evMem, eval_F, h c (by simp [Op.operands]), h a (by simp [Op.operands]), h b (by simp [Op.operands])]
  | nilCheck y => simp only [evMem, eval_F, one y rfl]
  | fieldAddr t y i => simp only [evMem, eval_F, one y rfl]
  | load t y => simp only [evMem, eval_F, one y rfl]
  | store t y z => simp only [evMem, eval_F, h y (by simp [Op.operands]), h z (by simp [Op.operands])]
  | indexAddr t y z => simp only [evMem, eval_F, h y (by simp [Op.operands]), h z (by simp [Op.operands]), elems_F (F2 := F2) (F := F)]
  | build t parts =>
    have he : evals ⟨F2, L, S⟩ (parts.toList.map (·.2)) = evals ⟨F, L, S⟩ (parts.toList.map (·.2)) := evals_agree _ fun x hx => h x (by simpa [Op.operands] using hx)
    simp only [evMem, he]
  | buildSlice t n parts =>
    have he : evals ⟨F2, L, S⟩ (parts.toList.map (·.2)) = evals ⟨F, L, S⟩ (parts.toList.map (·.2)) := evals_agree _ fun x hx => h x (by simpa [Op.operands] using hx)
    have hn : n ≠ 0 := by rintro rfl; simp [opCls, ho, isNew] at hc
    simp only [evMem, he, hn, if_false]
  | makeInterface t y => simp only [evMem, eval_F, one y rfl]
  | extract y i => simp only [evMem, eval_F, one y rfl]
  | field t y i => simp only [evMem, eval_F, one y rfl]
  | convert src dst' y => simp only [evMem, eval_F, one y rfl]
  | slice t y lo hi mx =>
    have e1 := h y (by simp [Op.operands])
    cases mx with
    | some m => simp only [evMem]
    | none =>
      cases lo with
      | none =>
        cases hi with
        | none => simp only [evMem, eval_F, e1, Option.map_none, elems_F (F2 := F2) (F := F)]
        | some z => simp only [evMem, eval_F, e1, Option.map_none, Option.map_some, h z (by simp [Op.operands]), elems_F (F2 := F2) (F := F)]
      | some q =>
        cases hi with
        | none => simp only [evMem, eval_F, e1, Option.map_none, Option.map_some, h q (by simp [Op.operands]), elems_F (F2 := F2) (F := F)]
        | some z => simp only [evMem, eval_F, e1, Option.map_some, h q (by simp [Op.operands]), h z (by simp [Op.operands]), elems_F (F2 := F2) (F := F)]
  | makeFunc fn first caps =>
    cases fn with
    | func f =>
      have he : evals ⟨F2, L, S⟩ caps.toList = evals ⟨F, L, S⟩ caps.toList := evals_agree _ fun x hx => h x (by simp only [Op.operands]; exact Array.mem_append.2 (.inr (Array.mem_toList_iff.1 hx)))
      simp only [evMem, he]
    | _ => simp only [evMem]
  | call c =>
    simp only [opCls, ho, isNew] at hc
    have ha : ∀ x ∈ c.args.toList, evF F2 x = evF F x := fun x hx => h x (by simp only [Op.operands, Call.operands]; exact Array.mem_append.2 (.inr (Array.mem_toList_iff.1 hx)))
    simp only [evMem]
    split
    · rename_i y e1 e2
      simp only [eval_F, ha y (by rw [e2]; simp), elems_F (F2 := F2) (F := F)]
    · rename_i y z e1 e2
      simp [e1] at hc
    · rfl
  | alloc t => simp [opCls, ho, isNew] at hc
  | box t y => simp [opCls, ho, isNew] at hc
  | _ => simp only [evMem]

theorem cond_some {α : Type} {b : Bool} {r : Option α} {q : α} (h : cond b r none = some q) : r = some q := by
  cases b with
  | true => exact h
  | false => cases h

/-- Class 1: it only reads. -/
theorem mem1 {op : Op} {dst : Option Tmp} {cl : Nat} {o : Oper} (ho : o.op = op) (hc : opCls P cl o = 1) {x : AV} {L' : Loc} {S' : Stk} (h : evMem P ⟨F, L, S⟩ dst op = some (x, L', S')) : L' = L ∧ S' = S := by
  cases op with
  | load t y =>
    simp only [evMem] at h
    split at h
    · simp only [Option.map_eq_some_iff, Prod.mk.injEq] at h; obtain ⟨_, _, _, rfl, rfl⟩ := h; exact ⟨rfl, rfl⟩
    · split at h
      · simp only [Option.map_eq_some_iff, Prod.mk.injEq] at h; obtain ⟨_, _, _, rfl, rfl⟩ := h; exact ⟨rfl, rfl⟩
      · cases h
    · cases h
  | indexAddr t y z =>
    simp only [evMem] at h
    split at h
    · split at h
      · have h := cond_some h
        split at h
        · split at h
          · simp only [Option.some.injEq, Prod.mk.injEq] at h; obtain ⟨_, rfl, rfl⟩ := h; exact ⟨rfl, rfl⟩
          · cases h
        · cases h
      · cases h
    · cases h
  | slice t y lo hi mx =>
    cases mx with
    | some m => simp [evMem] at h
    | none =>
      have key : ∀ {b : Bool} {y : AV}, cond b (some (y, L, S)) none = some (x, L', S') → L' = L ∧ S' = S := by
        intro b y hb
        cases b with
        | false => cases hb
        | true => simp only [cond_true, Option.some.injEq, Prod.mk.injEq] at hb; obtain ⟨_, rfl, rfl⟩ := hb; exact ⟨rfl, rfl⟩
      simp only [evMem] at h
      split at h
      · split at h
        · split at h
          · exact key h
          · exact key h
          · exact key h
          · simp only [Option.some.injEq, Prod.mk.injEq] at h; obtain ⟨_, rfl, rfl⟩ := h; exact ⟨rfl, rfl⟩
          · cases h
        · cases h
      · cases h
  | buildSlice t n parts => simp only [opCls, ho] at hc; split at hc <;> cases hc
  | call c =>
    simp only [opCls, ho] at hc
    simp only [evMem] at h
    split at h
    · split at h
      · simp only [Option.map_eq_some_iff, Prod.mk.injEq] at h; obtain ⟨_, _, _, rfl, rfl⟩ := h; exact ⟨rfl, rfl⟩
      · cases h
    · rename_i y z e1 e2
      simp [e1] at hc
    · cases h
  | _ => simp [opCls, ho] at hc

theorem ofNext_keeps {nx : Next} {x : AV} {L' : Loc} {S' : Stk} (h : ofNext ⟨F, L, S⟩ nx = some (x, L', S')) : L' = L ∧ S' = S := by
  cases nx <;> simp only [ofNext] at h
  case value => simp only [Option.some.injEq, Prod.mk.injEq] at h; obtain ⟨_, rfl, rfl⟩ := h; exact ⟨rfl, rfl⟩
  case skip => simp only [Option.some.injEq, Prod.mk.injEq] at h; obtain ⟨_, rfl, rfl⟩ := h; exact ⟨rfl, rfl⟩
  all_goals cases h

theorem call_cls {o : Oper} {cl : Nat} {g : FuncId} {ys : List AV} (h : calleeOf P ⟨F, L, S⟩ o = some (g, ys)) : opCls P cl o = cl := by
  unfold calleeOf at h
  split at h
  · rename_i c ho
    simp only [opCls, ho]
    split at h
    · rename_i f hc; simp only [hc]
    · rename_i hc; simp only [hc]
    · cases h
  · cases h

theorem call0 {g : FuncId} {ys : List AV} : evCallOp C call 0 ⟨F2, L2, S2⟩ g ys = (evCallOp C call 0 ⟨F, L, S⟩ g ys).map fun r => (r.1, L2, S2) := by
  unfold evCallOp
  split
  · split
    · split <;> rfl
    · rfl
  · rfl
theorem call1 {g : FuncId} {ys : List AV} {x : AV} {L' : Loc} {S' : Stk} (h : evCallOp C call 1 ⟨F, L, S⟩ g ys = some (x, L', S')) : L' = L ∧ S' = S := by
  have key : ∀ {b : Bool} {r : AV}, (if b = true then some (r, L, S) else none) = some (x, L', S') → L' = L ∧ S' = S := by
    intro b r hb
    split at hb
    · simp only [Option.some.injEq, Prod.mk.injEq] at hb; obtain ⟨_, rfl, rfl⟩ := hb; exact ⟨rfl, rfl⟩
    · cases hb
  unfold evCallOp at h
  split at h
  · split at h
    · exact key h
    · cases h
  · split at h
    · cases h
    · split at h
      · split at h
        · split at h
          · exact key h
          · cases h
        · cases h
      · split at h
        · split at h
          · split at h
            · exact key h
            · cases h
          · split at h
            · cases h
            · rename_i hne; exact absurd rfl hne
        · cases h

theorem op0 {o : Oper} {cl : Nat} (hc : opCls P cl o = 0) (h : ∀ x ∈ o.op.operands, evF F2 x = evF F x) : evOp P C call cl ⟨F2, L2, S2⟩ o = (evOp P C call cl ⟨F, L, S⟩ o).map fun r => (r.1, L2, S2) := by
  unfold evOp
  rw [callee_agree (L := L) (S := S) h, plain_agree (L := L) (S := S) h, mem0 (L := L) (S := S) rfl hc h]
  split
  · rename_i g ys hcal
    have e : cl = 0 := (call_cls hcal).symm.trans hc
    subst e
    split
    · exact call0
    · split
      · rename_i nx _
        cases nx <;> rfl
      · rfl
  · cases evMem P ⟨F, L, S⟩ o.dst o.op with
    | some r => rfl
    | none =>
      simp only [Option.map_none]
      split
      · rfl
      · split
        · rename_i nx _
          cases nx <;> rfl
        · rfl
theorem op2 {o : Oper} {cl : Nat} (hc : opCls P cl o ≠ 3) (h : ∀ x ∈ o.op.operands, evF F2 x = evF F x) : evOp P C call cl ⟨F2, L, S⟩ o = evOp P C call cl ⟨F, L, S⟩ o := by
  unfold evOp
  rw [callee_agree (L := L) (S := S) h, plain_agree (L := L) (S := S) h, mem2 (L := L) (S := S) rfl (.inr hc) h]
  split
  · split
    · rfl
    · split
      · rename_i nx _
        cases nx <;> rfl
      · rfl
  · split
    · rfl
    · split
      · rfl
      · split
        · rename_i nx _
          cases nx <;> rfl
        · rfl
theorem op1 {o : Oper} {cl : Nat} (hc : opCls P cl o = 1) {x : AV} {L' : Loc} {S' : Stk} (h : evOp P C call cl ⟨F, L, S⟩ o = some (x, L', S')) : L' = L ∧ S' = S := by
  unfold evOp at h
  split at h
  · rename_i g ys hcal
    have e : cl = 1 := (call_cls hcal).symm.trans hc
    subst e
    split at h
    · exact call1 h
    · split at h
      · exact ofNext_keeps h
      · cases h
  · split at h
    · rename_i r hm
      cases h
      exact mem1 rfl hc hm
    · split at h
      · cases h
      · split at h
        · exact ofNext_keeps h
        · cases h
theorem op0_keeps {o : Oper} {cl : Nat} (hc : opCls P cl o = 0) {x : AV} {L' : Loc} {S' : Stk} (h : evOp P C call cl ⟨F, L, S⟩ o = some (x, L', S')) : L' = L ∧ S' = S := by
  have := op0 (P := P) (C := C) (call := call) (F := F) (F2 := F) (L := L) (L2 := L) (S := S) (S2 := S) hc (fun _ _ => rfl)
  rw [h] at this
  simp only [Option.map_some, Option.some.injEq, Prod.mk.injEq] at this
  exact ⟨this.2.1, this.2.2⟩
end
end Go.Proofs.YtffjdcbegohmiaaDoor.Ev
