/-
  Contracts of Eval at strings: string-append, string-length, substring.
-/
import Derived.Test.YtffjdcbegohmiaaDoorP2
namespace Go.Proofs.YtffjdcbegohmiaaDoor.Ev
open Go

/-- A string, as a datum. -/
abbrev strC (s : ByteArray) : List AV := [.v (.int .i64 4), .v (.int .i64 0), .v (.string s), .nils]
def okS (s : ByteArray) : Bool := decide ((s.size : Int) ≤ 500)
abbrev strT (s : ByteArray) : AV := .tup [.agg (strC s), .v .nilIface]
abbrev intT (n : Int) : AV := .tup [.agg (numC n), .v .nilIface]
abbrev errT (name : ByteArray) (k : Int) : AV := .tup [.agg [.v (.int .i64 0), .v (.int .i64 0), .v (.string ⟨#[]⟩), .nils], .v (.iface 79 (.agg #[.string name, .iface 48 (.int .i64 k)]))]
abbrev appendN : ByteArray := ⟨#[115, 116, 114, 105, 110, 103, 45, 97, 112, 112, 101, 110, 100]⟩
abbrev substringN : ByteArray := ⟨#[115, 117, 98, 115, 116, 114, 105, 110, 103]⟩
def fitsB (s t : ByteArray) : Bool := !decide (IntKind.wrap IntKind.i64 ((s.size : Int) + (t.size : Int)) > 500)

theorem append_run (s t : ByteArray) (S : Stk) (K : Ret) : evCallK Tryd.prog (cfgOf O2) (hintOf O2) 600 22 [.v (.int .i64 31), .lst 29 [strC s, strC t]] S K = firstK (fun x => K x.1 x.2) [(okS s && okS t && fitsB s t, strT (catS s t), S), (okS s && okS t, errT appendN 14, S), (true, badArg, S)] := by
  have h : evCallK Tryd.prog (cfgOf O2) (hintOf O2) 600 22 [.v (.int .i64 31), .lst 29 [strC s, strC t]] S K =
      cond (!decide ((s.size : Int) ≤ 500)) (K badArg S) (cond (!decide ((t.size : Int) ≤ 500)) (K badArg S)
        (cond (decide (IntKind.wrap IntKind.i64 ((s.size : Int) + (t.size : Int)) > 500)) (K (errT appendN 14) S)
          (cond (decide ((s.data.toList.length : Int) + (t.data.toList.length : Int) ≤ 9223372036854775807)) (K (strT (catS s t)) S) none))) := by kernel_rfl
  rw [h]
  unfold okS fitsB
  by_cases h1 : (s.size : Int) ≤ 500
  · by_cases h2 : (t.size : Int) ≤ 500
    · have h3 : (s.data.toList.length : Int) + (t.data.toList.length : Int) ≤ 9223372036854775807 := by
        rw [← size_bytes, ← size_bytes]; omega
      simp only [h1, h2, h3, decide_true, Bool.not_true, cond_false, cond_true, Bool.true_and, firstK]
      generalize decide (IntKind.wrap IntKind.i64 ((s.size : Int) + (t.size : Int)) > 500) = p
      cases p <;> rfl
    · simp only [h1, h2, decide_true, decide_false, Bool.not_true, Bool.not_false, cond_false, cond_true, Bool.true_and, Bool.false_and, firstK]
  · simp only [h1, decide_false, Bool.not_false, cond_false, cond_true, Bool.false_and, firstK]
theorem length_run (s : ByteArray) (S : Stk) (K : Ret) : evCallK Tryd.prog (cfgOf O2) (hintOf O2) 600 22 [.v (.int .i64 29), .lst 29 [strC s]] S K = firstK (fun x => K x.1 x.2) [(okS s, intT s.size, S), (true, badArg, S)] := by
  have h : evCallK Tryd.prog (cfgOf O2) (hintOf O2) 600 22 [.v (.int .i64 29), .lst 29 [strC s]] S K =
      cond (!decide ((s.size : Int) ≤ 500)) (K badArg S) (K (intT s.size) S) := by kernel_rfl
  rw [h]
  unfold okS
  generalize decide ((s.size : Int) ≤ 500) = p
  cases p <;> rfl
theorem sub_run (s : ByteArray) (i j : Int) (S : Stk) (K : Ret) : evCallK Tryd.prog (cfgOf O2) (hintOf O2) 600 22 [.v (.int .i64 33), .lst 29 [strC s, numC i, numC j]] S K =
    firstK (fun x => K x.1 x.2) [(okS s && okI i && okI j && (decide (0 ≤ i) && (decide (i ≤ j) && decide (j ≤ (s.size : Int)))), strT (cutS s i.toNat j.toNat), S), (okS s && okI i && okI j, errT substringN 13, S), (true, badArg, S)] := by
  have h : evCallK Tryd.prog (cfgOf O2) (hintOf O2) 600 22 [.v (.int .i64 33), .lst 29 [strC s, numC i, numC j]] S K =
      cond (!decide ((s.size : Int) ≤ 500)) (K badArg S)
        (cond (decide (i ≤ 1152921504606846975)) (cond (!decide (i ≥ -1152921504606846976)) (K badArg S)
          (cond (decide (j ≤ 1152921504606846975)) (cond (!decide (j ≥ -1152921504606846976)) (K badArg S)
            (cond (decide (i < 0)) (K (errT substringN 13) S) (cond (decide (i > j)) (K (errT substringN 13) S) (cond (decide (j > (s.size : Int))) (K (errT substringN 13) S)
              (cond (decide (0 ≤ i) && (decide (i ≤ j) && decide (j ≤ (s.data.toList.length : Int)))) (K (strT (cutS s i.toNat j.toNat)) S) none)))))
            (K badArg S))) (K badArg S)) := by kernel_rfl
  rw [h, ← size_bytes]
  unfold okS okI
  have e1 : decide (i < 0) = !decide (0 ≤ i) := by by_cases h : 0 ≤ i <;> simp [h] <;> omega
  have e2 : decide (i > j) = !decide (i ≤ j) := by by_cases h : i ≤ j <;> simp [h] <;> omega
  have e3 : decide (j > (s.size : Int)) = !decide (j ≤ (s.size : Int)) := by by_cases h : j ≤ (s.size : Int) <;> simp [h] <;> omega
  rw [e1, e2, e3]
  generalize decide ((s.size : Int) ≤ 500) = p1
  generalize decide (i ≤ 1152921504606846975) = p2
  generalize decide (i ≥ -1152921504606846976) = p3
  generalize decide (j ≤ 1152921504606846975) = p4
  generalize decide (j ≥ -1152921504606846976) = p5
  generalize decide (0 ≤ i) = p6
  generalize decide (i ≤ j) = p7
  generalize decide (j ≤ (s.size : Int)) = p8
  cases p1 <;> cases p2 <;> cases p3 <;> cases p4 <;> cases p5 <;> cases p6 <;> cases p7 <;> cases p8 <;> rfl

def new7 (g : FuncId) (ys : List AV) (S : Stk) : Option (List (Bool × AV × Stk)) :=
  if g = 22 then match ys with
    | [.v (.int .i64 n), .lst t [[.v (.int .i64 k), .v (.int .i64 z), .v (.string s), .nils], [.v (.int .i64 k'), .v (.int .i64 z'), .v (.string s'), .nils]]] =>
      if n = 31 ∧ t = 29 ∧ k = 4 ∧ z = 0 ∧ k' = 4 ∧ z' = 0 then some [(okS s && okS s' && fitsB s s', strT (catS s s'), S), (okS s && okS s', errT appendN 14, S), (true, badArg, S)] else none
    | [.v (.int .i64 n), .lst t [[.v (.int .i64 k), .v (.int .i64 z), .v (.string s), .nils]]] =>
      if n = 29 ∧ t = 29 ∧ k = 4 ∧ z = 0 then some [(okS s, intT s.size, S), (true, badArg, S)] else none
    | [.v (.int .i64 n), .lst t [[.v (.int .i64 k), .v (.int .i64 z), .v (.string s), .nils], [.v (.int .i64 k1), .v (.int .i64 i), .v (.string ⟨⟨[]⟩⟩), .nils], [.v (.int .i64 k2), .v (.int .i64 j), .v (.string ⟨⟨[]⟩⟩), .nils]]] =>
      if n = 33 ∧ t = 29 ∧ k = 4 ∧ z = 0 ∧ k1 = 1 ∧ k2 = 1 then some [(okS s && okI i && okI j && (decide (0 ≤ i) && (decide (i ≤ j) && decide (j ≤ (s.size : Int)))), strT (cutS s i.toNat j.toNat), S), (okS s && okI i && okI j, errT substringN 13, S), (true, badArg, S)] else none
    | _ => none
  else none
def O7 : Orc := extO new7 O2
theorem O7_ok : OrcOK Tryd.prog (cfgOf O7) := ext_ok O2_ok fun g ys S l x h hx => by
  unfold new7 at h
  split at h
  · rename_i hg
    subst hg
    split at h
    · split at h
      · rename_i hc
        obtain ⟨rfl, rfl, rfl, rfl, rfl, rfl⟩ := hc
        cases h
        exact run_of (hint_ok _ _) ((append_run _ _ S fin).trans (first_fin.trans hx))
      · cases h
    · split at h
      · rename_i hc
        obtain ⟨rfl, rfl, rfl, rfl⟩ := hc
        cases h
        exact run_of (hint_ok _ _) ((length_run _ S fin).trans (first_fin.trans hx))
      · cases h
    · split at h
      · rename_i hc
        obtain ⟨rfl, rfl, rfl, rfl, rfl, rfl⟩ := hc
        cases h
        exact run_of (hint_ok _ _) ((sub_run _ _ _ S fin).trans (first_fin.trans hx))
      · cases h
    · cases h
  · cases h
end Go.Proofs.YtffjdcbegohmiaaDoor.Ev
