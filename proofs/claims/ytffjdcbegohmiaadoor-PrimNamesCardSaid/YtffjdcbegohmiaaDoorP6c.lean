/-
  PrimNames on the evaluator, at single numbers.
-/
import Derived.Test.YtffjdcbegohmiaaDoorP5
namespace Go.Proofs.YtffjdcbegohmiaaDoor.Ev
open Go
theorem names_37 (s : ByteArray) : evCallK Tryd.prog (cfgOf O6) (hintOf O6) 600 4 [.v (.int .i64 37), .v (.string s)] [] fin = namesTree s := by kernel_rfl
theorem names_38 (s : ByteArray) : evCallK Tryd.prog (cfgOf O6) (hintOf O6) 600 4 [.v (.int .i64 38), .v (.string s)] [] fin = namesTree s := by kernel_rfl
theorem names_39 (s : ByteArray) : evCallK Tryd.prog (cfgOf O6) (hintOf O6) 600 4 [.v (.int .i64 39), .v (.string s)] [] fin = namesTree s := by kernel_rfl
theorem names_40 (s : ByteArray) : evCallK Tryd.prog (cfgOf O6) (hintOf O6) 600 4 [.v (.int .i64 40), .v (.string s)] [] fin = namesTree s := by kernel_rfl
theorem names_41 (s : ByteArray) : evCallK Tryd.prog (cfgOf O6) (hintOf O6) 600 4 [.v (.int .i64 41), .v (.string s)] [] fin = namesTree s := by kernel_rfl
theorem names_42 (s : ByteArray) : evCallK Tryd.prog (cfgOf O6) (hintOf O6) 600 4 [.v (.int .i64 42), .v (.string s)] [] fin = namesTree s := by kernel_rfl
theorem names_43 (s : ByteArray) : evCallK Tryd.prog (cfgOf O6) (hintOf O6) 600 4 [.v (.int .i64 43), .v (.string s)] [] fin = namesTree s := by kernel_rfl
theorem names_44 (s : ByteArray) : evCallK Tryd.prog (cfgOf O6) (hintOf O6) 600 4 [.v (.int .i64 44), .v (.string s)] [] fin = namesTree s := by kernel_rfl
theorem names_45 (s : ByteArray) : evCallK Tryd.prog (cfgOf O6) (hintOf O6) 600 4 [.v (.int .i64 45), .v (.string s)] [] fin = namesTree s := by kernel_rfl
theorem names_46 (s : ByteArray) : evCallK Tryd.prog (cfgOf O6) (hintOf O6) 600 4 [.v (.int .i64 46), .v (.string s)] [] fin = namesTree s := by kernel_rfl
theorem names_47 (s : ByteArray) : evCallK Tryd.prog (cfgOf O6) (hintOf O6) 600 4 [.v (.int .i64 47), .v (.string s)] [] fin = namesTree s := by kernel_rfl
theorem names_48 (s : ByteArray) : evCallK Tryd.prog (cfgOf O6) (hintOf O6) 600 4 [.v (.int .i64 48), .v (.string s)] [] fin = namesTree s := by kernel_rfl
theorem names_49 (s : ByteArray) : evCallK Tryd.prog (cfgOf O6) (hintOf O6) 600 4 [.v (.int .i64 49), .v (.string s)] [] fin = namesTree s := by kernel_rfl
theorem names_50 (s : ByteArray) : evCallK Tryd.prog (cfgOf O6) (hintOf O6) 600 4 [.v (.int .i64 50), .v (.string s)] [] fin = namesTree s := by kernel_rfl
theorem names_51 (s : ByteArray) : evCallK Tryd.prog (cfgOf O6) (hintOf O6) 600 4 [.v (.int .i64 51), .v (.string s)] [] fin = namesTree s := by kernel_rfl
theorem names_52 (s : ByteArray) : evCallK Tryd.prog (cfgOf O6) (hintOf O6) 600 4 [.v (.int .i64 52), .v (.string s)] [] fin = namesTree s := by kernel_rfl
theorem names_53 (s : ByteArray) : evCallK Tryd.prog (cfgOf O6) (hintOf O6) 600 4 [.v (.int .i64 53), .v (.string s)] [] fin = namesTree s := by kernel_rfl
theorem names_54 (s : ByteArray) : evCallK Tryd.prog (cfgOf O6) (hintOf O6) 600 4 [.v (.int .i64 54), .v (.string s)] [] fin = namesTree s := by kernel_rfl
end Go.Proofs.YtffjdcbegohmiaaDoor.Ev
