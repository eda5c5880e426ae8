/-
  PrimNames on the evaluator: at a number that is no procedure's.
-/
import Derived.Test.YtffjdcbegohmiaaDoorP4
namespace Go.Proofs.YtffjdcbegohmiaaDoor.Ev
open Go

def newOut (g : FuncId) (ys : List AV) (S : Stk) : Option (List (Bool × AV × Stk)) :=
  match ys with
  | [.v (.int .i64 n)] =>
    if g = 18 then some [(!inR n, .v (.string ⟨#[]⟩), S)]
    else if g = 19 then some [(!inR n, .v (.string ⟨#[]⟩), S)]
    else none
  | _ => none
theorem hintOut_ok : HintOK Tryd.prog (cfgOf O6) (hintOf (extO newOut O6)) where
  orc g ys S l x h hx := by
    simp only [hintOf, extO] at h
    split at h
    · rename_i l' hl
      cases h
      unfold newOut at hl
      have fin : ∀ n : Int, firstOf [(!inR n, AV.v (.string ⟨#[]⟩), S)] = some x → x = (AV.v (.string (nameOf n)), S) := by
        intro n hx
        unfold nameOf
        cases he : inR n with
        | true => rw [he] at hx; cases hx
        | false => rw [he] at hx; cases hx; rfl
      split at hl
      · rename_i n
        split at hl
        · rename_i hg; subst hg; cases hl; rw [fin n hx]; rfl
        · split at hl
          · rename_i hg; subst hg; cases hl; rw [fin n hx]; rfl
          · cases hl
      · cases hl
    · simp [cfgOf, orcOf, h, hx]
  non g ys S h := by
    simp only [hintOf, extO] at h
    split at h
    · cases h
    · simp [cfgOf, orcOf, h]
  rd e xs n cs h := by cases h
  lp f p st l ex st' h := by cases h

theorem eqL_comm : ∀ a b : List UInt8, eqL a b = eqL b a := fun a b => by rw [eqL_iff, eqL_iff, Bool.eq_iff_iff, beq_iff_eq, beq_iff_eq]; exact eq_comm
theorem eqS_comm (a b : ByteArray) : eqS a b = eqS b a := eqL_comm _ _
theorem find_same (s : ByteArray) : (findL (fun x => eqS s x) namesL 1 == findL (fun x => eqS x s) namesL 1) = true := by
  have : (fun x => eqS s x) = fun x => eqS x s := funext fun x => eqS_comm s x
  rw [this]
  exact beq_self_eq_true _

theorem names_out (n : Int) (s : ByteArray) (h : inR n = false) : evCallK Tryd.prog (cfgOf O6) (hintOf (extO newOut O6)) 600 4 [.v (.int .i64 n), .v (.string s)] [] fin = some (.v (.bool true), []) := by
  have e : evCallK Tryd.prog (cfgOf O6) (hintOf (extO newOut O6)) 600 4 [.v (.int .i64 n), .v (.string s)] [] fin =
    cond (!inR n) (cond (!inR n) (cond (findL (fun x => eqS s x) namesL 1 == findL (fun x => eqS x s) namesL 1) (cond (!inR n) (cond (!inR n) (cond (pureB n == pureB n) (cond (!inR n) (fin (.v (.bool true)) []) none) (fin (.v (.bool false)) [])) none) none) (fin (.v (.bool false)) [])) none) none := by kernel_rfl
  rw [e, h, find_same, beq_self_eq_true]
  rfl
abbrev namesTree (s : ByteArray) : Option (AV × Stk) := cond (findL (fun x => eqS s x) namesL 1 == findL (fun x => eqS x s) namesL 1) (fin (.v (.bool true)) []) (fin (.v (.bool false)) [])
end Go.Proofs.YtffjdcbegohmiaaDoor.Ev
