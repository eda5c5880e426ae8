/-
  Contracts: word (of the document's list of the procedures of one argument); PrimNames at each number.
-/
import Derived.Test.YtffjdcbegohmiaaDoorP3
namespace Go.Proofs.YtffjdcbegohmiaaDoor.Ev
open Go

def oneT : ByteArray := ⟨#[99, 97, 114, 32, 99, 100, 114, 32, 110, 117, 108, 108, 63, 32, 112, 97, 105, 114, 63, 32, 115, 121, 109, 98, 111, 108, 63, 32, 115, 116, 114, 105, 110, 103, 63, 32, 99, 104, 97, 114, 63, 32, 118, 101, 99, 116, 111, 114, 63, 32, 112, 114, 111, 99, 101, 100, 117, 114, 101, 63, 32, 98, 111, 111, 108, 101, 97, 110, 63, 32, 105, 110, 116, 101, 103, 101, 114, 63, 32, 118, 101, 99, 116, 111, 114, 45, 108, 101, 110, 103, 116, 104, 32, 115, 116, 114, 105, 110, 103, 45, 108, 101, 110, 103, 116, 104, 32, 110, 117, 109, 98, 101, 114, 45, 62, 115, 116, 114, 105, 110, 103, 32, 115, 116, 114, 105, 110, 103, 45, 62, 110, 117, 109, 98, 101, 114, 32, 115, 121, 109, 98, 111, 108, 45, 62, 115, 116, 114, 105, 110, 103, 32, 115, 116, 114, 105, 110, 103, 45, 62, 115, 121, 109, 98, 111, 108, 32, 99, 104, 97, 114, 45, 62, 105, 110, 116, 101, 103, 101, 114, 32, 105, 110, 116, 101, 103, 101, 114, 45, 62, 99, 104, 97, 114, 32, 100, 105, 115, 112, 108, 97, 121, 32, 119, 114, 105, 116, 101, 32, 114, 97, 105, 115, 101, 32, 99, 97, 108, 108, 47, 99, 99, 32, 111, 110, 45, 116, 105, 99, 107, 32, 111, 110, 45, 107, 101, 121, 32, 101, 114, 114, 111, 114, 45, 107, 105, 110, 100, 32, 101, 114, 114, 111, 114, 45, 118, 97, 108, 117, 101]⟩
def oneL : List ByteArray := [
  ⟨#[99, 97, 114]⟩,
  ⟨#[99, 100, 114]⟩,
  ⟨#[110, 117, 108, 108, 63]⟩,
  ⟨#[112, 97, 105, 114, 63]⟩,
  ⟨#[115, 121, 109, 98, 111, 108, 63]⟩,
  ⟨#[115, 116, 114, 105, 110, 103, 63]⟩,
  ⟨#[99, 104, 97, 114, 63]⟩,
  ⟨#[118, 101, 99, 116, 111, 114, 63]⟩,
  ⟨#[112, 114, 111, 99, 101, 100, 117, 114, 101, 63]⟩,
  ⟨#[98, 111, 111, 108, 101, 97, 110, 63]⟩,
  ⟨#[105, 110, 116, 101, 103, 101, 114, 63]⟩,
  ⟨#[118, 101, 99, 116, 111, 114, 45, 108, 101, 110, 103, 116, 104]⟩,
  ⟨#[115, 116, 114, 105, 110, 103, 45, 108, 101, 110, 103, 116, 104]⟩,
  ⟨#[110, 117, 109, 98, 101, 114, 45, 62, 115, 116, 114, 105, 110, 103]⟩,
  ⟨#[115, 116, 114, 105, 110, 103, 45, 62, 110, 117, 109, 98, 101, 114]⟩,
  ⟨#[115, 121, 109, 98, 111, 108, 45, 62, 115, 116, 114, 105, 110, 103]⟩,
  ⟨#[115, 116, 114, 105, 110, 103, 45, 62, 115, 121, 109, 98, 111, 108]⟩,
  ⟨#[99, 104, 97, 114, 45, 62, 105, 110, 116, 101, 103, 101, 114]⟩,
  ⟨#[105, 110, 116, 101, 103, 101, 114, 45, 62, 99, 104, 97, 114]⟩,
  ⟨#[100, 105, 115, 112, 108, 97, 121]⟩,
  ⟨#[119, 114, 105, 116, 101]⟩,
  ⟨#[114, 97, 105, 115, 101]⟩,
  ⟨#[99, 97, 108, 108, 47, 99, 99]⟩,
  ⟨#[111, 110, 45, 116, 105, 99, 107]⟩,
  ⟨#[111, 110, 45, 107, 101, 121]⟩,
  ⟨#[101, 114, 114, 111, 114, 45, 107, 105, 110, 100]⟩,
  ⟨#[101, 114, 114, 111, 114, 45, 118, 97, 108, 117, 101]⟩]
def anyL (p : ByteArray → Bool) : List ByteArray → Bool
  | [] => false
  | x :: r => cond (p x) true (anyL p r)
def anyK (p : ByteArray → Bool) (K : Bool → Option (AV × Stk)) : List ByteArray → Option (AV × Stk)
  | [] => K false
  | x :: r => cond (p x) (K true) (anyK p K r)
theorem anyK_eq (p : ByteArray → Bool) (K : Bool → Option (AV × Stk)) : ∀ l : List ByteArray, anyK p K l = K (anyL p l) := by
  intro l
  induction l with
  | nil => rfl
  | cons x r ih =>
    simp only [anyK, anyL, ih]
    cases p x <;> rfl
theorem word_run (s : ByteArray) (S : Stk) : evCallK Tryd.prog (cfgOf O5) (hintOf O5) 700 31 [.v (.string oneT), .v (.string s)] S fin = some (.v (.bool (anyL (fun x => eqS x s) oneL)), S) := by
  have h : evCallK Tryd.prog (cfgOf O5) (hintOf O5) 700 31 [.v (.string oneT), .v (.string s)] S fin = anyK (fun x => eqS x s) (fun b => fin (.v (.bool b)) S) oneL := by kernel_rfl
  rw [h, anyK_eq]

def new6 (g : FuncId) (ys : List AV) (S : Stk) : Option (List (Bool × AV × Stk)) :=
  if g = 31 then match ys with
    | [.v (.string o), .v (.string s)] => some [(eqS o oneT, .v (.bool (anyL (fun x => eqS x s) oneL)), S)]
    | _ => none
  else none
def O6 : Orc := extO new6 O5
theorem O6_ok : OrcOK Tryd.prog (cfgOf O6) := ext_ok O5_ok fun g ys S l x h hx => by
  unfold new6 at h
  split at h
  · rename_i hg
    subst hg
    split at h
    · rename_i o s
      cases h
      simp only [firstOf] at hx
      cases he : eqS o oneT with
      | false => rw [he] at hx; cases hx
      | true =>
        rw [he] at hx
        cases hx
        obtain rfl := eqS_eq he
        exact run_of (hint_ok _ _) (word_run s S)
    · cases h
  · cases h
end Go.Proofs.YtffjdcbegohmiaaDoor.Ev
