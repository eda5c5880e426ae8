/-
  Contracts of prim's functions: all (the names), the law's awake; Eval at two numbers.
-/
import Derived.Test.YtffjdcbegohmiaaDoorB2
namespace Go.Proofs.YtffjdcbegohmiaaDoor.Ev
open Go

abbrev Ret := AV → Stk → Option (AV × Stk)
abbrev fin : Ret := fun r S => some (r, S)
abbrev Orc := FuncId → List AV → Stk → Option (List (Bool × AV × Stk))

def new1 (g : FuncId) (ys : List AV) (S : Stk) : Option (List (Bool × AV × Stk)) :=
  if g = 34 then match ys with
    | [] => some [(true, strs 9 namesL, S)]
    | _ => none
  else none
theorem all_run (S : Stk) : evCallK Tryd.prog (cfgOf orcB) (hintOf orcB) 50 34 [] S fin = some (strs 9 namesL, S) := by kernel_rfl
def O1 : Orc := extO new1 orcB
theorem O1_ok : OrcOK Tryd.prog (cfgOf O1) := ext_ok orcB_ok fun g ys S l x h hx => by
  unfold new1 at h
  split at h
  · rename_i hg
    subst hg
    split at h
    · cases h; cases hx; exact run_of (hint_ok _ _) (all_run S)
    · cases h
  · cases h

def new2 (g : FuncId) (ys : List AV) (S : Stk) : Option (List (Bool × AV × Stk)) :=
  if g = 15 then match ys with
    | [] => some [(true, .v (.bool true), S)]
    | _ => none
  else none
theorem awake_run (S : Stk) : evCallK Tryd.prog (cfgOf O1) (hintOf O1) 400 15 [] S fin = some (.v (.bool true), S) := by kernel_rfl
def O2 : Orc := extO new2 O1
theorem O2_ok : OrcOK Tryd.prog (cfgOf O2) := ext_ok O1_ok fun g ys S l x h hx => by
  unfold new2 at h
  split at h
  · rename_i hg
    subst hg
    split at h
    · cases h; cases hx; exact run_of (hint_ok _ _) (awake_run S)
    · cases h
  · cases h
end Go.Proofs.YtffjdcbegohmiaaDoor.Ev
