/-
  The evaluator answers alike with more fuel.
-/
import Derived.Test.YtffjdcbegohmiaaDoorK1
namespace Go.Proofs.YtffjdcbegohmiaaDoor.Ev
open Go

section
variable {P : Program} {C : Cfg}

def CallLe (c c' : CallT) : Prop := ∀ g ys S r, c g ys S = some r → c' g ys S = some r
def CodeLe (c c' : FuncId → Nat → Code → St → Option (Ex × St)) : Prop := ∀ f N c0 st r, c f N c0 st = some r → c' f N c0 st = some r

theorem evCallOp_mono {call call' : CallT} (h : CallLe call call') {cl : Nat} {st : St} {g : FuncId} {ys : List AV} {r : Res} (he : evCallOp C call cl st g ys = some r) : evCallOp C call' cl st g ys = some r := by
  have one : ∀ (zs : List AV) (S : Stk) (f : Option (AV × Stk) → Option Res), f none = none → f (call g zs S) = some r → f (call' g zs S) = some r := by
    intro zs S f h0 h1
    cases hc : call g zs S with
    | none => rw [hc, h0] at h1; cases h1
    | some q => rw [hc] at h1; rw [h _ _ _ _ hc]; exact h1
  unfold evCallOp at he ⊢
  by_cases h1 : noStks ys = true
  · rw [if_pos h1] at he ⊢
    exact one ys [] (fun x => match x with | some (r, _) => if r.noStk then some (r, st.L, st.S) else none | none => none) rfl he
  · rw [if_neg h1] at he ⊢
    by_cases h2 : cl = 0
    · rw [if_pos h2] at he; cases he
    · rw [if_neg h2] at he ⊢
      by_cases h3 : C.snap g = true
      · rw [if_pos h3] at he ⊢
        cases hz : snaps (st.L :: st.S) ys with
        | none => rw [hz] at he; cases he
        | some zs =>
          rw [hz] at he
          exact one zs [] (fun x => match x with | some (r, _) => if r.scal then some (r, st.L, st.S) else none | none => none) rfl he
      · rw [if_neg h3] at he ⊢
        cases hz : (if C.keep g then some ys else frzs true (st.L :: st.S) ys) with
        | none => rw [hz] at he; cases he
        | some zs =>
          rw [hz] at he
          dsimp only at he ⊢
          by_cases h4 : noStks zs = true
          · rw [if_pos h4] at he ⊢
            exact one zs [] (fun x => match x with | some (r, _) => if r.noStk then some (r, st.L, st.S) else none | none => none) rfl he
          · rw [if_neg h4] at he ⊢
            by_cases h5 : cl = 1
            · rw [if_pos h5] at he; cases he
            · rw [if_neg h5] at he ⊢
              exact one (ups 1 zs) (st.L :: st.S) (fun x => match x with | some (r, L :: S) => some (r, L, S) | _ => none) rfl he

theorem evOp_mono {call call' : CallT} (h : CallLe call call') {cl : Nat} {st : St} {o : Oper} {r : Res} (he : evOp P C call cl st o = some r) : evOp P C call' cl st o = some r := by
  unfold evOp at he ⊢
  cases hc : calleeOf P st o with
  | none => rw [hc] at he; exact he
  | some q =>
    obtain ⟨g, ys⟩ := q
    rw [hc] at he
    dsimp only at he ⊢
    by_cases h1 : C.ent g = true
    · rw [if_pos h1] at he ⊢
      exact evCallOp_mono h he
    · rw [if_neg h1] at he ⊢; exact he

theorem step1_mono {call call' : CallT} (h : CallLe call call') {N : Nat} {ops : Array Oper} {cl : Nat → Nat} {i : Nat} {st st' : St} (he : step1 P C call N ops cl i st = some st') : step1 P C call' N ops cl i st = some st' := by
  unfold step1 at he ⊢
  cases ho : ops[i]? with
  | none => rw [ho] at he; exact he
  | some o =>
    rw [ho] at he
    dsimp only at he ⊢
    cases hw : wantedA ops st.F o with
    | none => rw [hw] at he; cases he
    | some t =>
      rw [hw] at he
      cases t with
      | false => exact he
      | true =>
        dsimp only at he ⊢
        cases hev : evOp P C call (cl i) st o with
        | none => rw [hev] at he; cases he
        | some r => rw [hev] at he; rw [evOp_mono h hev]; exact he

theorem evOps_mono {call call' : CallT} (h : CallLe call call') {N : Nat} {ops : Array Oper} {cl : Nat → Nat} : ∀ (l : List Nat) (st st' : St), evOps P C call N ops cl l st = some st' → evOps P C call' N ops cl l st = some st' := by
  intro l
  induction l with
  | nil => intro st st' he; exact he
  | cons i rest ih =>
    intro st st' he
    simp only [evOps] at he ⊢
    cases hs : step1 P C call N ops cl i st with
    | none => rw [hs] at he; cases he
    | some s1 => rw [hs] at he; rw [step1_mono h hs]; exact ih s1 st' he

theorem callWith_mono {r1 r2 : FuncId → Nat → Code → St → Option (Ex × St)} (h : CodeLe r1 r2) : CallLe (callWith P C r1) (callWith P C r2) := by
  intro g ys S r he
  unfold callWith at he ⊢
  cases ho : C.orc g ys S with
  | some q => rw [ho] at he; exact he
  | none =>
    rw [ho] at he
    dsimp only at he ⊢
    cases hf : P.funcs[g]? with
    | none => rw [hf] at he; cases he
    | some fn =>
      rw [hf] at he
      dsimp only at he ⊢
      cases hb : fn.body with
      | none => rw [hb] at he; cases he
      | some c =>
        rw [hb] at he
        dsimp only at he ⊢
        by_cases hl : ys.length ≤ fn.ntmps
        · rw [if_pos hl] at he ⊢
          cases hr : r1 g fn.ntmps c { F := params 0 ys, L := [], S := S } with
          | none => rw [hr] at he; cases he
          | some q => rw [hr] at he; rw [h _ _ _ _ _ hr]; exact he
        · rw [if_neg hl] at he; cases he

theorem evCode_succ : ∀ k, CodeLe (evCode P C k) (evCode P C (k + 1)) := by
  intro k
  induction k with
  | zero => intro f N c st r h; simp [evCode] at h
  | succ k ih =>
    have hC := callWith_mono (P := P) (C := C) ih
    intro f N c st r h
    cases c with
    | skip => simpa only [evCode] using h
    | region id ops draw =>
      rw [evCode] at h ⊢
      split at h
      · rename_i h1
        rw [if_pos h1]
        split at h
        · rename_i st1 hev
          rw [evOps_mono hC _ _ _ hev]
          exact h
        · cases h
      · cases h
    | seq a b =>
      rw [evCode] at h ⊢
      cases ha : evCode P C k f N a st with
      | none => rw [ha] at h; cases h
      | some q =>
        rw [ha] at h; rw [ih _ _ _ _ _ ha]
        obtain ⟨ex, s1⟩ := q
        cases ex with
        | normal => exact ih _ _ _ _ _ h
        | exit j => exact h
        | ret => exact h
    | cond c a b =>
      rw [evCode] at h ⊢
      split at h
      · rename_i t hc
        cases t with
        | true => exact ih _ _ _ _ _ h
        | false => exact ih _ _ _ _ _ h
      · cases h
    | block id b =>
      rw [evCode] at h ⊢
      cases ha : evCode P C k f N b st with
      | none => rw [ha] at h; cases h
      | some q => rw [ha] at h; rw [ih _ _ _ _ _ ha]; exact h
    | loop b =>
      rw [evCode] at h ⊢
      cases ha : evCode P C k f N b st with
      | none => rw [ha] at h; cases h
      | some q =>
        rw [ha] at h; rw [ih _ _ _ _ _ ha]
        obtain ⟨ex, s1⟩ := q
        cases ex with
        | normal => exact ih _ _ _ _ _ h
        | exit j => exact h
        | ret => exact h
    | exit id => simpa only [evCode] using h
    | ret => simpa only [evCode] using h
    | _ => simp [evCode] at h

theorem evCode_mono {k k' : Nat} (h : k ≤ k') : CodeLe (evCode P C k) (evCode P C k') := by
  induction h with
  | refl => exact fun _ _ _ _ _ h => h
  | step _ ih => exact fun f N c st r h => evCode_succ _ _ _ _ _ _ (ih _ _ _ _ _ h)
theorem evCall_mono {k k' : Nat} (h : k ≤ k') : CallLe (evCall P C k) (evCall P C k') := callWith_mono (evCode_mono h)

end
end Go.Proofs.YtffjdcbegohmiaaDoor.Ev
