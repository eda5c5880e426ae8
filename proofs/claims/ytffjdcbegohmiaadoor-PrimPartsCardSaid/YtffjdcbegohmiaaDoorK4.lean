/-
  What the trees say, the evaluator says: code and calls.
-/
import Derived.Test.YtffjdcbegohmiaaDoorK3
namespace Go.Proofs.YtffjdcbegohmiaaDoor.Ev
open Go

section
variable {P : Program} {C : Cfg} {H : Hint} {ρ : Type}

/-- A call told what comes next, against the plain calls with more and more fuel. -/
def CallKOK (P : Program) (C : Cfg) (callK : CallKT ρ) : Prop := ∀ g ys S K x, callK g ys S K = some x → ∃ k r S', evCall P C k g ys S = some (r, S') ∧ K r S' = some x

theorem evCallOpK_sound {call : CallKT ρ} (hC : CallKOK P C call) {cl : Nat} {st : St} {g : FuncId} {ys : List AV} {K : Res → Option ρ} {x : ρ} (he : evCallOpK C call cl st g ys K = some x) :
    ∃ k r, evCallOp C (evCall P C k) cl st g ys = some r ∧ K r = some x := by
  unfold evCallOpK at he
  by_cases h1 : noStks ys = true
  · rw [if_pos h1] at he
    obtain ⟨k, r, S', h2, h3⟩ := hC _ _ _ _ _ he
    by_cases h4 : r.noStk = true
    · rw [if_pos h4] at h3
      refine ⟨k, _, ?_, h3⟩
      unfold evCallOp
      rw [if_pos h1, h2]
      dsimp only
      rw [if_pos h4]
    · rw [if_neg h4] at h3; cases h3
  · rw [if_neg h1] at he
    by_cases h2 : cl = 0
    · rw [if_pos h2] at he; cases he
    · rw [if_neg h2] at he
      by_cases h3 : C.snap g = true
      · rw [if_pos h3] at he
        cases hz : snaps (st.L :: st.S) ys with
        | none => rw [hz] at he; cases he
        | some zs =>
          rw [hz] at he
          obtain ⟨k, r, S', h4, h5⟩ := hC _ _ _ _ _ he
          by_cases h6 : r.scal = true
          · rw [if_pos h6] at h5
            refine ⟨k, _, ?_, h5⟩
            unfold evCallOp
            rw [if_neg h1, if_neg h2, if_pos h3, hz]
            dsimp only
            rw [h4]
            dsimp only
            rw [if_pos h6]
          · rw [if_neg h6] at h5; cases h5
      · rw [if_neg h3] at he
        cases hz : (if C.keep g then some ys else frzs true (st.L :: st.S) ys) with
        | none => rw [hz] at he; cases he
        | some zs =>
          rw [hz] at he
          dsimp only at he
          by_cases h4 : noStks zs = true
          · rw [if_pos h4] at he
            obtain ⟨k, r, S', h5, h6⟩ := hC _ _ _ _ _ he
            by_cases h7 : r.noStk = true
            · rw [if_pos h7] at h6
              refine ⟨k, _, ?_, h6⟩
              unfold evCallOp
              rw [if_neg h1, if_neg h2, if_neg h3, hz]
              dsimp only
              rw [if_pos h4, h5]
              dsimp only
              rw [if_pos h7]
            · rw [if_neg h7] at h6; cases h6
          · rw [if_neg h4] at he
            by_cases h5 : cl = 1
            · rw [if_pos h5] at he; cases he
            · rw [if_neg h5] at he
              obtain ⟨k, r, S', h6, h7⟩ := hC _ _ _ _ _ he
              cases S' with
              | nil => cases h7
              | cons L S =>
                refine ⟨k, _, ?_, h7⟩
                unfold evCallOp
                rw [if_neg h1, if_neg h2, if_neg h3, hz]
                dsimp only
                rw [if_neg h4, if_neg h5, h6]

theorem evOpK_sound (hH : HintOK P C H) {call : CallKT ρ} (hC : CallKOK P C call) {cl : Nat} {st : St} {o : Oper} {K : Res → Option ρ} {x : ρ} (he : evOpK P C H call cl st o K = some x) :
    ∃ k r, evOp P C (evCall P C k) cl st o = some r ∧ K r = some x := by
  unfold evOpK at he
  cases hc : calleeOf P st o with
  | some q =>
    obtain ⟨g, ys⟩ := q
    rw [hc] at he
    dsimp only at he
    by_cases h1 : C.ent g = true
    · rw [if_pos h1] at he
      obtain ⟨k, r, h2, h3⟩ := evCallOpK_sound hC he
      refine ⟨k, r, ?_, h3⟩
      unfold evOp
      rw [hc]
      dsimp only
      rw [if_pos h1]
      exact h2
    · rw [if_neg h1] at he
      split at he
      · rename_i nx hp
        split at he
        · rename_i r hr
          exact ⟨0, r, by unfold evOp; rw [hc]; dsimp only; rw [if_neg h1, hp]; exact hr, he⟩
        · cases he
      · cases he
  | none =>
    rw [hc] at he
    dsimp only at he
    split at he
    · rename_i c a b hop
      split at he
      · rename_i t y z h1 h2 h3
        have hm : evMem P st o.dst o.op = cond t (some (y, st.L, st.S)) (some (z, st.L, st.S)) := by
          rw [hop]
          simp [evMem, h1, h2, h3]
        cases t with
        | true => exact ⟨0, (y, st.L, st.S), by unfold evOp; rw [hc]; dsimp only; rw [hm]; rfl, he⟩
        | false => exact ⟨0, (z, st.L, st.S), by unfold evOp; rw [hc]; dsimp only; rw [hm]; rfl, he⟩
      · cases he
    · split at he
      · rename_i b r hs
        cases b with
        | false => cases he
        | true => exact ⟨0, r, evSpec_sound hH hc hs, he⟩
      · split at he
        · rename_i r hm
          exact ⟨0, r, by unfold evOp; rw [hc]; dsimp only; rw [hm], he⟩
        · rename_i hm
          split at he
          · cases he
          · rename_i hn
            split at he
            · rename_i nx hp
              split at he
              · rename_i r hr
                exact ⟨0, r, by unfold evOp; rw [hc]; dsimp only; rw [hm]; dsimp only; rw [if_neg hn, hp]; exact hr, he⟩
              · cases he
            · cases he

theorem krep_same {α : Type} : ∀ (l : List (Nat × α)) (d : Nat) (x : α), kget l d = some x → krep l d x = l := by
  intro l
  induction l with
  | nil => intro d x h; rfl
  | cons p r ih =>
    intro d x h
    obtain ⟨t, y⟩ := p
    simp only [kget] at h
    simp only [krep]
    split at h
    · rename_i e; cases h; rw [if_pos e]
    · rename_i e; rw [if_neg e, ih d x h]
theorem know_same {st : St} {d : Nat} {b : Bool} (h : kget st.F d = some (.v (.bool b))) : st.know d b = st := by
  unfold St.know
  rw [krep_same _ _ _ h]
theorem knowOp_same {st : St} {c : Operand} {b : Bool} (h : st.eval c = some (.v (.bool b))) : st.knowOp c b = st := by
  cases c with
  | tmp d => exact know_same h
  | _ => rfl

theorem step1K_sound (hH : HintOK P C H) {call : CallKT ρ} (hC : CallKOK P C call) {N : Nat} {ops : Array Oper} {cl : Nat → Nat} {i : Nat} {st : St} {K : St → Option ρ} {x : ρ} (he : step1K P C H call N ops cl i st K = some x) :
    ∃ k st', step1 P C (evCall P C k) N ops cl i st = some st' ∧ K st' = some x := by
  unfold step1K at he
  cases ho : ops[i]? with
  | none => rw [ho] at he; exact ⟨0, st, by unfold step1; rw [ho], he⟩
  | some o =>
    rw [ho] at he
    dsimp only at he
    have yes : wantedA ops st.F o = some true → doOpK P C H call N (cl i) o K st = some x → ∃ k st', step1 P C (evCall P C k) N ops cl i st = some st' ∧ K st' = some x := by
      intro hw he
      obtain ⟨k, r, h1, h2⟩ := evOpK_sound hH hC he
      split at h2
      · rename_i s1 h3
        refine ⟨k, s1, ?_, h2⟩
        unfold step1
        rw [ho]
        dsimp only
        rw [hw]
        dsimp only
        rw [h1]
        exact h3
      · cases h2
    have no : wantedA ops st.F o = some false → noOpK N o K st = some x → ∃ k st', step1 P C (evCall P C k) N ops cl i st = some st' ∧ K st' = some x := by
      intro hw he
      unfold noOpK at he
      split at he
      · rename_i s1 h1
        exact ⟨0, s1, by unfold step1; rw [ho]; dsimp only; rw [hw]; exact h1, he⟩
      · cases he
    cases hg : o.guard with
    | none =>
      rw [hg] at he
      exact yes (by unfold wantedA; rw [hg]) he
    | some q =>
      obtain ⟨j, want⟩ := q
      rw [hg] at he
      dsimp only at he
      cases hj : (ops[j]?).bind (·.dst) with
      | none =>
        rw [hj] at he
        exact no (by unfold wantedA; rw [hg]; dsimp only; rw [hj]) he
      | some d =>
        rw [hj] at he
        dsimp only at he
        split at he
        · rename_i b hb
          have hw : wantedA ops st.F o = some (b == want) := by unfold wantedA; rw [hg]; dsimp only; rw [hj]; dsimp only; rw [hb]
          cases b with
          | true =>
            rw [know_same hb] at he
            cases want with
            | true => exact yes hw he
            | false => exact no hw he
          | false =>
            rw [know_same hb] at he
            cases want with
            | true => exact no hw he
            | false => exact yes hw he
        · rename_i hb
          exact no (by unfold wantedA; rw [hg]; dsimp only; rw [hj]; dsimp only; rw [hb]) he
        · cases he

theorem evOpsK_sound (hH : HintOK P C H) {call : CallKT ρ} (hC : CallKOK P C call) {N : Nat} {ops : Array Oper} {cl : Nat → Nat} {K : St → Option ρ} {x : ρ} : ∀ (l : List Nat) (st : St), evOpsK P C H call N ops cl l st K = some x →
    ∃ k st', evOps P C (evCall P C k) N ops cl l st = some st' ∧ K st' = some x := by
  intro l
  induction l with
  | nil => exact fun st he => ⟨0, st, rfl, he⟩
  | cons i rest ih =>
    intro st he
    simp only [evOpsK] at he
    obtain ⟨k1, s1, h1, h2⟩ := step1K_sound hH hC he
    obtain ⟨k2, s2, h3, h4⟩ := ih s1 h2
    refine ⟨max k1 k2, s2, ?_, h4⟩
    simp only [evOps]
    rw [step1_mono (evCall_mono (Nat.le_max_left k1 k2)) h1]
    exact evOps_mono (evCall_mono (Nat.le_max_right k1 k2)) _ _ _ h3

theorem firstK_some {α ρ : Type} {K : α → Option ρ} {x : ρ} : ∀ {l : List (Bool × α)}, firstK K l = some x → ∃ y, firstOf l = some y ∧ K y = some x := by
  intro l
  induction l with
  | nil => intro h; cases h
  | cons p r ih =>
    intro h
    obtain ⟨b, y⟩ := p
    cases b with
    | true => exact ⟨y, rfl, h⟩
    | false => exact ih h

/-- The code stands in the function. -/
def InFn (P : Program) (f : FuncId) (p : List Nat) (N : Nat) (c : Code) : Prop := ∃ fn c0, P.funcs[f]? = some fn ∧ fn.body = some c0 ∧ fn.ntmps = N ∧ Code.part c0 p = some c
theorem InFn.child {f : FuncId} {p : List Nat} {N : Nat} {c d : Code} {i : Nat} (h : InFn P f p N c) (hi : Code.child c i = some d) : InFn P f (i :: p) N d := by
  obtain ⟨fn, c0, h1, h2, h3, h4⟩ := h
  exact ⟨fn, c0, h1, h2, h3, by simp [Code.part, h4, hi]⟩

def CodeKOK (P : Program) (C : Cfg) (recK : FuncId → List Nat → Nat → Code → St → (Ex → St → Option ρ) → Option ρ) : Prop := ∀ f p N c st K x, InFn P f p N c → recK f p N c st K = some x → ∃ k ex st', evCode P C k f N c st = some (ex, st') ∧ K ex st' = some x

theorem callK_sound (hH : HintOK P C H) {recK : FuncId → List Nat → Nat → Code → St → (Ex → St → Option ρ) → Option ρ} (hR : CodeKOK P C recK) : CallKOK P C (callK P H recK) := by
  intro g ys S K x he
  unfold callK at he
  cases ho : H.orc g ys S with
  | some q =>
    rw [ho] at he
    obtain ⟨⟨r, S'⟩, h1, h2⟩ := firstK_some he
    exact ⟨0, r, S', by unfold evCall callWith; rw [hH.orc _ _ _ _ _ ho h1], h2⟩
  | none =>
    rw [ho] at he
    dsimp only at he
    cases hf : P.funcs[g]? with
    | none => rw [hf] at he; cases he
    | some fn =>
      rw [hf] at he
      dsimp only at he
      cases hb : fn.body with
      | none => rw [hb] at he; cases he
      | some c =>
        rw [hb] at he
        dsimp only at he
        by_cases hl : ys.length ≤ fn.ntmps
        · rw [if_pos hl] at he
          obtain ⟨k, ex, st', h1, h2⟩ := hR _ _ _ _ _ _ _ ⟨fn, c, hf, hb, rfl, rfl⟩ he
          have fin : (match resultsA P st' fn.results.toList with | some l => K (asOne l) st'.S | none => none) = some x → (∀ j, ex ≠ .exit j) → ∃ k r S', evCall P C k g ys S = some (r, S') ∧ K r S' = some x := by
            intro h3 hx
            cases hr : resultsA P st' fn.results.toList with
            | none => rw [hr] at h3; cases h3
            | some l =>
              rw [hr] at h3
              refine ⟨k, _, _, ?_, h3⟩
              unfold evCall callWith
              rw [hH.non _ _ _ ho]
              dsimp only
              rw [hf]
              dsimp only
              rw [hb]
              dsimp only
              rw [if_pos hl, h1]
              cases ex with
              | exit j => exact absurd rfl (hx j)
              | normal => dsimp only; rw [hr]; rfl
              | ret => dsimp only; rw [hr]; rfl
          cases ex with
          | exit j => cases h2
          | normal => exact fin h2 (fun j e => by cases e)
          | ret => exact fin h2 (fun j e => by cases e)
        · rw [if_neg hl] at he; cases he

theorem evCodeK_sound (hH : HintOK P C H) : ∀ k, CodeKOK P C (evCodeK (ρ := ρ) P C H k) := by
  intro k
  induction k with
  | zero => intro f p N c st K x _ he; simp [evCodeK] at he
  | succ k ih =>
    have hC := callK_sound hH ih
    intro f p N c st K x hin he
    cases c with
    | skip => exact ⟨1, .normal, st, by simp [evCode], by simpa [evCodeK] using he⟩
    | exit id => exact ⟨1, .exit id, st, by simp [evCode], by simpa [evCodeK] using he⟩
    | ret => exact ⟨1, .ret, st, by simp [evCode], by simpa [evCodeK] using he⟩
    | region id ops draw =>
      simp only [evCodeK] at he
      split at he
      · rename_i hd
        obtain ⟨k', st', h1, h2⟩ := evOpsK_sound hH hC _ _ he
        refine ⟨k' + 1, .normal, st', ?_, h2⟩
        simp only [evCode]
        rw [if_pos hd]
        have : callWith P C (evCode P C k') = evCall P C k' := rfl
        rw [this, h1]
      · cases he
    | seq a b =>
      simp only [evCodeK] at he
      obtain ⟨k1, ex, s1, h1, h2⟩ := ih _ _ _ _ _ _ _ (hin.child rfl) he
      cases ex with
      | normal =>
        obtain ⟨k2, ex2, s2, h3, h4⟩ := ih _ _ _ _ _ _ _ (hin.child rfl) h2
        refine ⟨max k1 k2 + 1, ex2, s2, ?_, h4⟩
        simp only [evCode]
        rw [evCode_mono (Nat.le_max_left k1 k2) _ _ _ _ _ h1]
        exact evCode_mono (Nat.le_max_right k1 k2) _ _ _ _ _ h3
      | exit j => exact ⟨k1 + 1, .exit j, s1, by simp only [evCode]; rw [h1], h2⟩
      | ret => exact ⟨k1 + 1, .ret, s1, by simp only [evCode]; rw [h1], h2⟩
    | cond c a b =>
      simp only [evCodeK] at he
      split at he
      · rename_i t hc
        cases t with
        | true =>
          rw [knowOp_same hc] at he
          obtain ⟨k1, ex, s1, h1, h2⟩ := ih _ _ _ _ _ _ _ (hin.child rfl) he
          exact ⟨k1 + 1, ex, s1, by simp only [evCode, hc]; exact h1, h2⟩
        | false =>
          rw [knowOp_same hc] at he
          obtain ⟨k1, ex, s1, h1, h2⟩ := ih _ _ _ _ _ _ _ (hin.child rfl) he
          exact ⟨k1 + 1, ex, s1, by simp only [evCode, hc]; exact h1, h2⟩
      · cases he
    | block id b =>
      simp only [evCodeK] at he
      obtain ⟨k1, ex, s1, h1, h2⟩ := ih _ _ _ _ _ _ _ (hin.child rfl) he
      cases ex with
      | normal => exact ⟨k1 + 1, .normal, s1, by simp only [evCode]; rw [h1], h2⟩
      | ret => exact ⟨k1 + 1, .ret, s1, by simp only [evCode]; rw [h1], h2⟩
      | exit j =>
        dsimp only at h2
        by_cases hj : j = id
        · rw [if_pos hj] at h2
          exact ⟨k1 + 1, .normal, s1, by simp only [evCode]; rw [h1]; dsimp only; rw [if_pos hj], h2⟩
        · rw [if_neg hj] at h2
          exact ⟨k1 + 1, .exit j, s1, by simp only [evCode]; rw [h1]; dsimp only; rw [if_neg hj], h2⟩
    | loop b =>
      simp only [evCodeK] at he
      split at he
      · rename_i l hl
        obtain ⟨⟨ex, st'⟩, h6, h7⟩ := firstK_some he
        obtain ⟨fn, c0, h1, h2, h3, h4⟩ := hin
        obtain ⟨k1, h5⟩ := hH.lp _ _ _ _ _ _ hl h6 fn c0 b h1 h2 h4
        subst h3
        exact ⟨k1, ex, st', h5, h7⟩
      · obtain ⟨k1, ex, s1, h1, h2⟩ := ih _ _ _ _ _ _ _ (hin.child rfl) he
        cases ex with
        | normal =>
          obtain ⟨k2, ex2, s2, h3, h4⟩ := ih _ _ _ _ _ _ _ hin h2
          refine ⟨max k1 k2 + 1, ex2, s2, ?_, h4⟩
          simp only [evCode]
          rw [evCode_mono (Nat.le_max_left k1 k2) _ _ _ _ _ h1]
          exact evCode_mono (Nat.le_max_right k1 k2) _ _ _ _ _ h3
        | exit j => exact ⟨k1 + 1, .exit j, s1, by simp only [evCode]; rw [h1], h2⟩
        | ret => exact ⟨k1 + 1, .ret, s1, by simp only [evCode]; rw [h1], h2⟩
    | _ => simp [evCodeK] at he

/-- The trees' answers are the evaluator's. -/
theorem evCallK_sound (hH : HintOK P C H) (k : Nat) : CallKOK P C (evCallK (ρ := ρ) P C H k) := callK_sound hH (evCodeK_sound hH k)
end
end Go.Proofs.YtffjdcbegohmiaaDoor.Ev
