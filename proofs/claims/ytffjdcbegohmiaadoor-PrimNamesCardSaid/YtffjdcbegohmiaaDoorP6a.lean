/-
  PrimNames on the evaluator, at single numbers.
-/
import Derived.Test.YtffjdcbegohmiaaDoorP5
namespace Go.Proofs.YtffjdcbegohmiaaDoor.Ev
open Go
theorem names_1 (s : ByteArray) : evCallK Tryd.prog (cfgOf O6) (hintOf O6) 600 4 [.v (.int .i64 1), .v (.string s)] [] fin = namesTree s := by kernel_rfl
theorem names_2 (s : ByteArray) : evCallK Tryd.prog (cfgOf O6) (hintOf O6) 600 4 [.v (.int .i64 2), .v (.string s)] [] fin = namesTree s := by kernel_rfl
theorem names_3 (s : ByteArray) : evCallK Tryd.prog (cfgOf O6) (hintOf O6) 600 4 [.v (.int .i64 3), .v (.string s)] [] fin = namesTree s := by kernel_rfl
theorem names_4 (s : ByteArray) : evCallK Tryd.prog (cfgOf O6) (hintOf O6) 600 4 [.v (.int .i64 4), .v (.string s)] [] fin = namesTree s := by kernel_rfl
theorem names_5 (s : ByteArray) : evCallK Tryd.prog (cfgOf O6) (hintOf O6) 600 4 [.v (.int .i64 5), .v (.string s)] [] fin = namesTree s := by kernel_rfl
theorem names_6 (s : ByteArray) : evCallK Tryd.prog (cfgOf O6) (hintOf O6) 600 4 [.v (.int .i64 6), .v (.string s)] [] fin = namesTree s := by kernel_rfl
theorem names_7 (s : ByteArray) : evCallK Tryd.prog (cfgOf O6) (hintOf O6) 600 4 [.v (.int .i64 7), .v (.string s)] [] fin = namesTree s := by kernel_rfl
theorem names_8 (s : ByteArray) : evCallK Tryd.prog (cfgOf O6) (hintOf O6) 600 4 [.v (.int .i64 8), .v (.string s)] [] fin = namesTree s := by kernel_rfl
theorem names_9 (s : ByteArray) : evCallK Tryd.prog (cfgOf O6) (hintOf O6) 600 4 [.v (.int .i64 9), .v (.string s)] [] fin = namesTree s := by kernel_rfl
theorem names_10 (s : ByteArray) : evCallK Tryd.prog (cfgOf O6) (hintOf O6) 600 4 [.v (.int .i64 10), .v (.string s)] [] fin = namesTree s := by kernel_rfl
theorem names_11 (s : ByteArray) : evCallK Tryd.prog (cfgOf O6) (hintOf O6) 600 4 [.v (.int .i64 11), .v (.string s)] [] fin = namesTree s := by kernel_rfl
theorem names_12 (s : ByteArray) : evCallK Tryd.prog (cfgOf O6) (hintOf O6) 600 4 [.v (.int .i64 12), .v (.string s)] [] fin = namesTree s := by kernel_rfl
theorem names_13 (s : ByteArray) : evCallK Tryd.prog (cfgOf O6) (hintOf O6) 600 4 [.v (.int .i64 13), .v (.string s)] [] fin = namesTree s := by kernel_rfl
theorem names_14 (s : ByteArray) : evCallK Tryd.prog (cfgOf O6) (hintOf O6) 600 4 [.v (.int .i64 14), .v (.string s)] [] fin = namesTree s := by kernel_rfl
theorem names_15 (s : ByteArray) : evCallK Tryd.prog (cfgOf O6) (hintOf O6) 600 4 [.v (.int .i64 15), .v (.string s)] [] fin = namesTree s := by kernel_rfl
theorem names_16 (s : ByteArray) : evCallK Tryd.prog (cfgOf O6) (hintOf O6) 600 4 [.v (.int .i64 16), .v (.string s)] [] fin = namesTree s := by kernel_rfl
theorem names_17 (s : ByteArray) : evCallK Tryd.prog (cfgOf O6) (hintOf O6) 600 4 [.v (.int .i64 17), .v (.string s)] [] fin = namesTree s := by kernel_rfl
theorem names_18 (s : ByteArray) : evCallK Tryd.prog (cfgOf O6) (hintOf O6) 600 4 [.v (.int .i64 18), .v (.string s)] [] fin = namesTree s := by kernel_rfl
end Go.Proofs.YtffjdcbegohmiaaDoor.Ev
