/-
  PrimParts on the evaluator: two strings, one behind the other, are as long as both; their parts are they.
-/
import Derived.Test.YtffjdcbegohmiaaDoorP7
namespace Go.Proofs.YtffjdcbegohmiaaDoor.Ev
open Go

theorem parts_tree (s t : ByteArray) : evCallK Tryd.prog (cfgOf O7) (hintOf O7) 600 5 [.v (.string s), .v (.string t)] [] fin =
cond (decide (((ByteArray.size s : Nat) : Int) > 600)) (fin (.v (.bool true)) [])
 (cond (decide (((ByteArray.size t : Nat) : Int) > 600)) (fin (.v (.bool true)) [])
  (cond (okS s && okS t && fitsB s t) (cond (decide (((ByteArray.size s : Nat) : Int) > 500)) (fin (.v (.bool false)) [])
    (cond (decide (((ByteArray.size t : Nat) : Int) > 500)) (fin (.v (.bool false)) [])
     (cond (okS (catS s t)) (cond (okS (catS s t) && okI 0 && okI ((ByteArray.size s : Nat) : Int) && (decide ((0 : Int) ≤ 0) && (decide (0 ≤ ((ByteArray.size s : Nat) : Int)) && decide (((ByteArray.size s : Nat) : Int) ≤ ((ByteArray.size (catS s t) : Nat) : Int))))) (cond (okS (catS s t) && okI ((ByteArray.size s : Nat) : Int) && okI ((ByteArray.size (catS s t) : Nat) : Int) && (decide (0 ≤ ((ByteArray.size s : Nat) : Int)) && (decide (((ByteArray.size s : Nat) : Int) ≤ ((ByteArray.size (catS s t) : Nat) : Int)) && decide (((ByteArray.size (catS s t) : Nat) : Int) ≤ ((ByteArray.size (catS s t) : Nat) : Int))))) (cond (((ByteArray.size (catS s t) : Nat) : Int) == IntKind.wrap IntKind.i64 (((ByteArray.size s : Nat) : Int) + ((ByteArray.size t : Nat) : Int))) (cond (eqS (cutS (catS s t) (Int.toNat 0) (Int.toNat ((ByteArray.size s : Nat) : Int))) s) (fin (.v (.bool (eqS (cutS (catS s t) (Int.toNat ((ByteArray.size s : Nat) : Int)) (Int.toNat ((ByteArray.size (catS s t) : Nat) : Int))) t))) [])
          (fin (.v (.bool false)) []))
         (fin (.v (.bool false)) []))
        (cond (okS (catS s t) && okI ((ByteArray.size s : Nat) : Int) && okI ((ByteArray.size (catS s t) : Nat) : Int)) (cond (((ByteArray.size (catS s t) : Nat) : Int) == IntKind.wrap IntKind.i64 (((ByteArray.size s : Nat) : Int) + ((ByteArray.size t : Nat) : Int))) (fin (.v (.bool false)) [])
          (fin (.v (.bool false)) []))
         (cond (((ByteArray.size (catS s t) : Nat) : Int) == IntKind.wrap IntKind.i64 (((ByteArray.size s : Nat) : Int) + ((ByteArray.size t : Nat) : Int))) (fin (.v (.bool false)) [])
          (fin (.v (.bool false)) []))))
       (cond (okS (catS s t) && okI 0 && okI ((ByteArray.size s : Nat) : Int)) (cond (okS (catS s t) && okI ((ByteArray.size s : Nat) : Int) && okI ((ByteArray.size (catS s t) : Nat) : Int) && (decide (0 ≤ ((ByteArray.size s : Nat) : Int)) && (decide (((ByteArray.size s : Nat) : Int) ≤ ((ByteArray.size (catS s t) : Nat) : Int)) && decide (((ByteArray.size (catS s t) : Nat) : Int) ≤ ((ByteArray.size (catS s t) : Nat) : Int))))) (cond (((ByteArray.size (catS s t) : Nat) : Int) == IntKind.wrap IntKind.i64 (((ByteArray.size s : Nat) : Int) + ((ByteArray.size t : Nat) : Int))) (fin (.v (.bool false)) [])
          (fin (.v (.bool false)) []))
         (cond (okS (catS s t) && okI ((ByteArray.size s : Nat) : Int) && okI ((ByteArray.size (catS s t) : Nat) : Int)) (cond (((ByteArray.size (catS s t) : Nat) : Int) == IntKind.wrap IntKind.i64 (((ByteArray.size s : Nat) : Int) + ((ByteArray.size t : Nat) : Int))) (fin (.v (.bool false)) [])
           (fin (.v (.bool false)) []))
          (cond (((ByteArray.size (catS s t) : Nat) : Int) == IntKind.wrap IntKind.i64 (((ByteArray.size s : Nat) : Int) + ((ByteArray.size t : Nat) : Int))) (fin (.v (.bool false)) [])
           (fin (.v (.bool false)) []))))
        (cond (okS (catS s t) && okI ((ByteArray.size s : Nat) : Int) && okI ((ByteArray.size (catS s t) : Nat) : Int) && (decide (0 ≤ ((ByteArray.size s : Nat) : Int)) && (decide (((ByteArray.size s : Nat) : Int) ≤ ((ByteArray.size (catS s t) : Nat) : Int)) && decide (((ByteArray.size (catS s t) : Nat) : Int) ≤ ((ByteArray.size (catS s t) : Nat) : Int))))) (cond (((ByteArray.size (catS s t) : Nat) : Int) == IntKind.wrap IntKind.i64 (((ByteArray.size s : Nat) : Int) + ((ByteArray.size t : Nat) : Int))) (fin (.v (.bool false)) [])
          (fin (.v (.bool false)) []))
         (cond (okS (catS s t) && okI ((ByteArray.size s : Nat) : Int) && okI ((ByteArray.size (catS s t) : Nat) : Int)) (cond (((ByteArray.size (catS s t) : Nat) : Int) == IntKind.wrap IntKind.i64 (((ByteArray.size s : Nat) : Int) + ((ByteArray.size t : Nat) : Int))) (fin (.v (.bool false)) [])
           (fin (.v (.bool false)) []))
          (cond (((ByteArray.size (catS s t) : Nat) : Int) == IntKind.wrap IntKind.i64 (((ByteArray.size s : Nat) : Int) + ((ByteArray.size t : Nat) : Int))) (fin (.v (.bool false)) [])
           (fin (.v (.bool false)) []))))))
      (cond (okS (catS s t) && okI 0 && okI ((ByteArray.size s : Nat) : Int) && (decide ((0 : Int) ≤ 0) && (decide (0 ≤ ((ByteArray.size s : Nat) : Int)) && decide (((ByteArray.size s : Nat) : Int) ≤ ((ByteArray.size (catS s t) : Nat) : Int))))) (cond (!decide (((ByteArray.size (catS s t) : Nat) : Int) ≤ 500)) (cond (0 == IntKind.wrap IntKind.i64 (((ByteArray.size s : Nat) : Int) + ((ByteArray.size t : Nat) : Int))) (fin (.v (.bool false)) [])
         (fin (.v (.bool false)) []))
        (cond (decide (((ByteArray.size s : Nat) : Int) ≤ 1152921504606846975)) (cond (0 == IntKind.wrap IntKind.i64 (((ByteArray.size s : Nat) : Int) + ((ByteArray.size t : Nat) : Int))) (fin (.v (.bool false)) [])
          (fin (.v (.bool false)) []))
         (cond (0 == IntKind.wrap IntKind.i64 (((ByteArray.size s : Nat) : Int) + ((ByteArray.size t : Nat) : Int))) (fin (.v (.bool false)) [])
          (fin (.v (.bool false)) []))))
       (cond (okS (catS s t) && okI 0 && okI ((ByteArray.size s : Nat) : Int)) (cond (!decide (((ByteArray.size (catS s t) : Nat) : Int) ≤ 500)) (cond (0 == IntKind.wrap IntKind.i64 (((ByteArray.size s : Nat) : Int) + ((ByteArray.size t : Nat) : Int))) (fin (.v (.bool false)) [])
          (fin (.v (.bool false)) []))
         (cond (decide (((ByteArray.size s : Nat) : Int) ≤ 1152921504606846975)) (cond (0 == IntKind.wrap IntKind.i64 (((ByteArray.size s : Nat) : Int) + ((ByteArray.size t : Nat) : Int))) (fin (.v (.bool false)) [])
           (fin (.v (.bool false)) []))
          (cond (0 == IntKind.wrap IntKind.i64 (((ByteArray.size s : Nat) : Int) + ((ByteArray.size t : Nat) : Int))) (fin (.v (.bool false)) [])
           (fin (.v (.bool false)) []))))
        (cond (!decide (((ByteArray.size (catS s t) : Nat) : Int) ≤ 500)) (cond (0 == IntKind.wrap IntKind.i64 (((ByteArray.size s : Nat) : Int) + ((ByteArray.size t : Nat) : Int))) (fin (.v (.bool false)) [])
          (fin (.v (.bool false)) []))
         (cond (decide (((ByteArray.size s : Nat) : Int) ≤ 1152921504606846975)) (cond (0 == IntKind.wrap IntKind.i64 (((ByteArray.size s : Nat) : Int) + ((ByteArray.size t : Nat) : Int))) (fin (.v (.bool false)) [])
           (fin (.v (.bool false)) []))
          (cond (0 == IntKind.wrap IntKind.i64 (((ByteArray.size s : Nat) : Int) + ((ByteArray.size t : Nat) : Int))) (fin (.v (.bool false)) [])
           (fin (.v (.bool false)) [])))))))))
   (cond (okS s && okS t) (cond (decide (((ByteArray.size s : Nat) : Int) > 500)) (fin (.v (.bool false)) [])
     (cond (decide (((ByteArray.size t : Nat) : Int) > 500)) (fin (.v (.bool false)) [])
      (fin (.v (.bool (decide (IntKind.wrap IntKind.i64 (((ByteArray.size s : Nat) : Int) + ((ByteArray.size t : Nat) : Int)) > 500)))) [])))
    (cond (decide (((ByteArray.size s : Nat) : Int) > 500)) (fin (.v (.bool true)) [])
     (cond (decide (((ByteArray.size t : Nat) : Int) > 500)) (fin (.v (.bool true)) [])
      (fin (.v (.bool false)) [])))))) := by kernel_rfl

theorem wrap_sizes {s t : ByteArray} (h1 : (s.size : Int) ≤ 600) (h2 : (t.size : Int) ≤ 600) : IntKind.wrap IntKind.i64 ((s.size : Int) + (t.size : Int)) = (s.size : Int) + (t.size : Int) := by
  unfold IntKind.wrap
  simp [IntKind.bits, IntKind.signed]
  omega
theorem cat_size (s t : ByteArray) : (catS s t).size = s.size + t.size := by
  rw [← cat_bytes]; simp [ByteArray.size_append]
theorem cut_fst (s t : ByteArray) : cutS (catS s t) 0 s.size = s := by
  apply WideShapes.bytes_inj
  simp only [cutS, catS, List.drop_zero]
  rw [size_bytes]
  exact List.take_left
theorem cut_snd (s t : ByteArray) : cutS (catS s t) s.size (s.size + t.size) = t := by
  apply WideShapes.bytes_inj
  simp only [cutS, catS]
  rw [size_bytes s, size_bytes t, List.take_of_length_le (by rw [List.length_append]; exact Nat.le_refl _)]
  exact List.drop_left
theorem eqS_refl (s : ByteArray) : eqS s s = true := by rw [eqS, eqL_iff]; exact beq_self_eq_true _

theorem parts_true (s t : ByteArray) : ∃ k, evCall Tryd.prog (cfgOf O7) k 5 [.v (.string s), .v (.string t)] [] = some (.v (.bool true), []) := by
  refine run_of (hint_ok _ _) ((parts_tree s t).trans ?_)
  by_cases h1 : (s.size : Int) > 600
  · simp only [h1, decide_true, cond_true]
  · by_cases h2 : (t.size : Int) > 600
    · simp only [h1, h2, decide_true, decide_false, cond_true, cond_false]
    · have hw := wrap_sizes (s := s) (t := t) (by omega) (by omega)
      simp only [h1, h2, hw, decide_false, cond_false]
      by_cases h3 : (s.size : Int) ≤ 500
      · have h3' : ¬ (s.size : Int) > 500 := by omega
        by_cases h4 : (t.size : Int) ≤ 500
        · have h4' : ¬ (t.size : Int) > 500 := by omega
          have hs : okS s = true := decide_eq_true h3
          have ht : okS t = true := decide_eq_true h4
          by_cases h5 : (s.size : Int) + (t.size : Int) > 500
          · have hf : fitsB s t = false := by unfold fitsB; rw [hw]; simp [h5]
            simp only [hs, ht, hf, h3', h4', h5, Bool.and_false, Bool.and_true, decide_true, decide_false, cond_true, cond_false]
          · have hf : fitsB s t = true := by unfold fitsB; rw [hw]; simp [h5]
            have hc : okS (catS s t) = true := by unfold okS; rw [cat_size]; simp; omega
            have k1 : okI (s.size : Int) = true := by unfold okI; simp; omega
            have k2 : okI ((catS s t).size : Int) = true := by unfold okI; rw [cat_size]; simp; omega
            have k0 : okI 0 = true := by decide
            have l1 : (0 : Int) ≤ (s.size : Int) := by omega
            have l2 : (s.size : Int) ≤ ((catS s t).size : Int) := by rw [cat_size]; omega
            have e1 : (((catS s t).size : Int) == (s.size : Int) + (t.size : Int)) = true := by rw [cat_size]; simp
            have e2 : cutS (catS s t) (Int.toNat 0) (Int.toNat (s.size : Int)) = s := cut_fst s t
            have e3 : cutS (catS s t) (Int.toNat (s.size : Int)) (Int.toNat ((catS s t).size : Int)) = t := by rw [Int.toNat_natCast, Int.toNat_natCast, cat_size]; exact cut_snd s t
            simp only [hs, ht, hf, hc, k0, k1, k2, l1, l2, e1, e2, e3, eqS_refl, h3', h4', Int.le_refl, Bool.and_true, decide_true, decide_false, cond_true, cond_false]
        · have ht : okS t = false := decide_eq_false h4
          have h4' : (t.size : Int) > 500 := by omega
          simp only [ht, h3', h4', Bool.and_false, Bool.false_and, decide_true, decide_false, cond_true, cond_false]
      · have hs : okS s = false := decide_eq_false h3
        have h3' : (s.size : Int) > 500 := by omega
        simp only [hs, h3', Bool.false_and, decide_true, cond_true, cond_false]
end Go.Proofs.YtffjdcbegohmiaaDoor.Ev
