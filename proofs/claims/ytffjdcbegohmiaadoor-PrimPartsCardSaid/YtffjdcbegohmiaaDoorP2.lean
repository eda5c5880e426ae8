/-
  The law PrimOrder, on the evaluator.
-/
import Derived.Test.YtffjdcbegohmiaaDoorP1
namespace Go.Proofs.YtffjdcbegohmiaaDoor.Ev
open Go

/-- A number, as a datum. -/
abbrev numC (n : Int) : List AV := [.v (.int .i64 1), .v (.int .i64 n), .v (.string ⟨#[]⟩), .nils]
/-- A number that may be. -/
def okI (n : Int) : Bool := decide (n ≤ 1152921504606846975) && decide (n ≥ -1152921504606846976)
/-- What Eval comes to at arguments that may not be. -/
abbrev badArg : AV := .tup [.agg [.v (.int .i64 0), .v (.int .i64 0), .v (.string ⟨#[]⟩), .nils], .v (.iface 48 (.int .i64 2))]
abbrev truthT (b : Bool) : AV := .tup [.agg [.v (.int .i64 2), .v (.int .i64 (cond b 1 0)), .v (.string ⟨#[]⟩), .nils], .v .nilIface]

theorem less_run (a b : Int) (S : Stk) (K : Ret) : evCallK Tryd.prog (cfgOf O2) (hintOf O2) 200 22 [.v (.int .i64 8), .lst 29 [numC a, numC b]] S K = firstK (fun x => K x.1 x.2) [(okI a && okI b, truthT (decide (a < b)), S), (true, badArg, S)] := by
  have h : evCallK Tryd.prog (cfgOf O2) (hintOf O2) 200 22 [.v (.int .i64 8), .lst 29 [numC a, numC b]] S K =
      cond (decide (a ≤ 1152921504606846975)) (cond (!decide (a ≥ -1152921504606846976)) (K badArg S)
        (cond (decide (b ≤ 1152921504606846975)) (cond (!decide (b ≥ -1152921504606846976)) (K badArg S)
          (cond (decide (a < b)) (K (truthT true) S) (K (truthT false) S))) (K badArg S))) (K badArg S) := by kernel_rfl
  rw [h]
  unfold okI
  generalize decide (a ≤ 1152921504606846975) = p1
  generalize decide (a ≥ -1152921504606846976) = p2
  generalize decide (b ≤ 1152921504606846975) = p3
  generalize decide (b ≥ -1152921504606846976) = p4
  generalize decide (a < b) = p5
  cases p1 <;> cases p2 <;> cases p3 <;> cases p4 <;> cases p5 <;> rfl
theorem same_run (a b : Int) (S : Stk) (K : Ret) : evCallK Tryd.prog (cfgOf O2) (hintOf O2) 200 22 [.v (.int .i64 7), .lst 29 [numC a, numC b]] S K = firstK (fun x => K x.1 x.2) [(okI a && okI b, truthT (a == b), S), (true, badArg, S)] := by
  have h : evCallK Tryd.prog (cfgOf O2) (hintOf O2) 200 22 [.v (.int .i64 7), .lst 29 [numC a, numC b]] S K =
      cond (decide (a ≤ 1152921504606846975)) (cond (!decide (a ≥ -1152921504606846976)) (K badArg S)
        (cond (decide (b ≤ 1152921504606846975)) (cond (!decide (b ≥ -1152921504606846976)) (K badArg S)
          (cond (a == b) (K (truthT true) S) (K (truthT false) S))) (K badArg S))) (K badArg S) := by kernel_rfl
  rw [h]
  unfold okI
  generalize decide (a ≤ 1152921504606846975) = p1
  generalize decide (a ≥ -1152921504606846976) = p2
  generalize decide (b ≤ 1152921504606846975) = p3
  generalize decide (b ≥ -1152921504606846976) = p4
  generalize (a == b) = p5
  cases p1 <;> cases p2 <;> cases p3 <;> cases p4 <;> cases p5 <;> rfl

def new3 (g : FuncId) (ys : List AV) (S : Stk) : Option (List (Bool × AV × Stk)) :=
  if g = 22 then match ys with
    | [.v (.int .i64 n), .lst t [[.v (.int .i64 k), .v (.int .i64 a), .v (.string ⟨⟨[]⟩⟩), .nils], [.v (.int .i64 k'), .v (.int .i64 b), .v (.string ⟨⟨[]⟩⟩), .nils]]] =>
      if t = 29 ∧ k = 1 ∧ k' = 1 then
        if n = 8 then some [(okI a && okI b, truthT (decide (a < b)), S), (true, badArg, S)]
        else if n = 7 then some [(okI a && okI b, truthT (a == b), S), (true, badArg, S)]
        else none
      else none
    | _ => none
  else none
theorem first_fin {l : List (Bool × AV × Stk)} : firstK (fun x => fin x.1 x.2) l = firstOf l := by
  induction l with
  | nil => rfl
  | cons p r ih =>
    obtain ⟨b, x⟩ := p
    cases b
    · exact ih
    · rfl
def O3 : Orc := extO new3 O2
theorem O3_ok : OrcOK Tryd.prog (cfgOf O3) := ext_ok O2_ok fun g ys S l x h hx => by
  unfold new3 at h
  split at h
  · rename_i hg
    subst hg
    split at h
    · rename_i n t k a k' b
      split at h
      · rename_i hc
        obtain ⟨rfl, rfl, rfl⟩ := hc
        split at h
        · rename_i hn
          subst hn
          cases h
          exact run_of (hint_ok _ _) ((less_run a b S fin).trans (first_fin.trans hx))
        · split at h
          · rename_i hn
            subst hn
            cases h
            exact run_of (hint_ok _ _) ((same_run a b S fin).trans (first_fin.trans hx))
          · cases h
      · cases h
    · cases h
  · cases h
end Go.Proofs.YtffjdcbegohmiaaDoor.Ev
