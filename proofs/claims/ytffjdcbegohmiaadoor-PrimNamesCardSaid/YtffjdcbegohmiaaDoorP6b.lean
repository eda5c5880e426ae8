/-
  PrimNames on the evaluator, at single numbers.
-/
import Derived.Test.YtffjdcbegohmiaaDoorP5
namespace Go.Proofs.YtffjdcbegohmiaaDoor.Ev
open Go
theorem names_19 (s : ByteArray) : evCallK Tryd.prog (cfgOf O6) (hintOf O6) 600 4 [.v (.int .i64 19), .v (.string s)] [] fin = namesTree s := by kernel_rfl
theorem names_20 (s : ByteArray) : evCallK Tryd.prog (cfgOf O6) (hintOf O6) 600 4 [.v (.int .i64 20), .v (.string s)] [] fin = namesTree s := by kernel_rfl
theorem names_21 (s : ByteArray) : evCallK Tryd.prog (cfgOf O6) (hintOf O6) 600 4 [.v (.int .i64 21), .v (.string s)] [] fin = namesTree s := by kernel_rfl
theorem names_22 (s : ByteArray) : evCallK Tryd.prog (cfgOf O6) (hintOf O6) 600 4 [.v (.int .i64 22), .v (.string s)] [] fin = namesTree s := by kernel_rfl
theorem names_23 (s : ByteArray) : evCallK Tryd.prog (cfgOf O6) (hintOf O6) 600 4 [.v (.int .i64 23), .v (.string s)] [] fin = namesTree s := by kernel_rfl
theorem names_24 (s : ByteArray) : evCallK Tryd.prog (cfgOf O6) (hintOf O6) 600 4 [.v (.int .i64 24), .v (.string s)] [] fin = namesTree s := by kernel_rfl
theorem names_25 (s : ByteArray) : evCallK Tryd.prog (cfgOf O6) (hintOf O6) 600 4 [.v (.int .i64 25), .v (.string s)] [] fin = namesTree s := by kernel_rfl
theorem names_26 (s : ByteArray) : evCallK Tryd.prog (cfgOf O6) (hintOf O6) 600 4 [.v (.int .i64 26), .v (.string s)] [] fin = namesTree s := by kernel_rfl
theorem names_27 (s : ByteArray) : evCallK Tryd.prog (cfgOf O6) (hintOf O6) 600 4 [.v (.int .i64 27), .v (.string s)] [] fin = namesTree s := by kernel_rfl
theorem names_28 (s : ByteArray) : evCallK Tryd.prog (cfgOf O6) (hintOf O6) 600 4 [.v (.int .i64 28), .v (.string s)] [] fin = namesTree s := by kernel_rfl
theorem names_29 (s : ByteArray) : evCallK Tryd.prog (cfgOf O6) (hintOf O6) 600 4 [.v (.int .i64 29), .v (.string s)] [] fin = namesTree s := by kernel_rfl
theorem names_30 (s : ByteArray) : evCallK Tryd.prog (cfgOf O6) (hintOf O6) 600 4 [.v (.int .i64 30), .v (.string s)] [] fin = namesTree s := by kernel_rfl
theorem names_31 (s : ByteArray) : evCallK Tryd.prog (cfgOf O6) (hintOf O6) 600 4 [.v (.int .i64 31), .v (.string s)] [] fin = namesTree s := by kernel_rfl
theorem names_32 (s : ByteArray) : evCallK Tryd.prog (cfgOf O6) (hintOf O6) 600 4 [.v (.int .i64 32), .v (.string s)] [] fin = namesTree s := by kernel_rfl
theorem names_33 (s : ByteArray) : evCallK Tryd.prog (cfgOf O6) (hintOf O6) 600 4 [.v (.int .i64 33), .v (.string s)] [] fin = namesTree s := by kernel_rfl
theorem names_34 (s : ByteArray) : evCallK Tryd.prog (cfgOf O6) (hintOf O6) 600 4 [.v (.int .i64 34), .v (.string s)] [] fin = namesTree s := by kernel_rfl
theorem names_35 (s : ByteArray) : evCallK Tryd.prog (cfgOf O6) (hintOf O6) 600 4 [.v (.int .i64 35), .v (.string s)] [] fin = namesTree s := by kernel_rfl
theorem names_36 (s : ByteArray) : evCallK Tryd.prog (cfgOf O6) (hintOf O6) 600 4 [.v (.int .i64 36), .v (.string s)] [] fin = namesTree s := by kernel_rfl
end Go.Proofs.YtffjdcbegohmiaaDoor.Ev
