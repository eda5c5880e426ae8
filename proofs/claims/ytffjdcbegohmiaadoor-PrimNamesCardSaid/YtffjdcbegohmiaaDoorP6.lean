/-
  PrimNames on the evaluator, at whatever arguments.
-/
import Derived.Test.YtffjdcbegohmiaaDoorP6a
import Derived.Test.YtffjdcbegohmiaaDoorP6b
import Derived.Test.YtffjdcbegohmiaaDoorP6c
namespace Go.Proofs.YtffjdcbegohmiaaDoor.Ev
open Go

theorem names_in (n : Int) (s : ByteArray) (h : inR n = true) : evCallK Tryd.prog (cfgOf O6) (hintOf O6) 600 4 [.v (.int .i64 n), .v (.string s)] [] fin = namesTree s := by
  simp only [inR, Bool.and_eq_true, decide_eq_true_eq] at h
  obtain ⟨k, rfl⟩ : ∃ k : Nat, n = (k : Int) := ⟨n.toNat, by omega⟩
  have hk : k < 55 := by omega
  have hk0 : k ≠ 0 := by omega
  match k, hk, hk0 with
  | 0, _, h => exact absurd rfl h
  | 1, _, _ => exact names_1 s
  | 2, _, _ => exact names_2 s
  | 3, _, _ => exact names_3 s
  | 4, _, _ => exact names_4 s
  | 5, _, _ => exact names_5 s
  | 6, _, _ => exact names_6 s
  | 7, _, _ => exact names_7 s
  | 8, _, _ => exact names_8 s
  | 9, _, _ => exact names_9 s
  | 10, _, _ => exact names_10 s
  | 11, _, _ => exact names_11 s
  | 12, _, _ => exact names_12 s
  | 13, _, _ => exact names_13 s
  | 14, _, _ => exact names_14 s
  | 15, _, _ => exact names_15 s
  | 16, _, _ => exact names_16 s
  | 17, _, _ => exact names_17 s
  | 18, _, _ => exact names_18 s
  | 19, _, _ => exact names_19 s
  | 20, _, _ => exact names_20 s
  | 21, _, _ => exact names_21 s
  | 22, _, _ => exact names_22 s
  | 23, _, _ => exact names_23 s
  | 24, _, _ => exact names_24 s
  | 25, _, _ => exact names_25 s
  | 26, _, _ => exact names_26 s
  | 27, _, _ => exact names_27 s
  | 28, _, _ => exact names_28 s
  | 29, _, _ => exact names_29 s
  | 30, _, _ => exact names_30 s
  | 31, _, _ => exact names_31 s
  | 32, _, _ => exact names_32 s
  | 33, _, _ => exact names_33 s
  | 34, _, _ => exact names_34 s
  | 35, _, _ => exact names_35 s
  | 36, _, _ => exact names_36 s
  | 37, _, _ => exact names_37 s
  | 38, _, _ => exact names_38 s
  | 39, _, _ => exact names_39 s
  | 40, _, _ => exact names_40 s
  | 41, _, _ => exact names_41 s
  | 42, _, _ => exact names_42 s
  | 43, _, _ => exact names_43 s
  | 44, _, _ => exact names_44 s
  | 45, _, _ => exact names_45 s
  | 46, _, _ => exact names_46 s
  | 47, _, _ => exact names_47 s
  | 48, _, _ => exact names_48 s
  | 49, _, _ => exact names_49 s
  | 50, _, _ => exact names_50 s
  | 51, _, _ => exact names_51 s
  | 52, _, _ => exact names_52 s
  | 53, _, _ => exact names_53 s
  | 54, _, _ => exact names_54 s
  | k + 55, h, _ => omega

/-- PrimNames, at whatever arguments. -/
theorem names_true (n : Int) (s : ByteArray) : ∃ k, evCall Tryd.prog (cfgOf O6) k 4 [.v (.int .i64 n), .v (.string s)] [] = some (.v (.bool true), []) := by
  cases h : inR n with
  | false => exact run_of hintOut_ok (names_out n s h)
  | true => exact run_of (hint_ok _ _) ((names_in n s h).trans (by unfold namesTree; rw [find_same]; rfl))
end Go.Proofs.YtffjdcbegohmiaaDoor.Ev
