/-
  Contracts of the functions of names and numbers: Find, Name, Pure, the program's and the document's.
-/
import Derived.Test.YtffjdcbegohmiaaDoorP1
namespace Go.Proofs.YtffjdcbegohmiaaDoor.Ev
open Go

/-- The place of the first name for which p holds, counted from i on; 0: there is none. -/
def findL (p : ByteArray → Bool) : List ByteArray → Int → Int
  | [], _ => 0
  | x :: r, i => cond (p x) i (findL p r (i + 1))
def findK (p : ByteArray → Bool) (K : Int → Option (AV × Stk)) : List ByteArray → Int → Option (AV × Stk)
  | [], _ => K 0
  | x :: r, i => cond (p x) (K i) (findK p K r (i + 1))
theorem findK_eq (p : ByteArray → Bool) (K : Int → Option (AV × Stk)) : ∀ (l : List ByteArray) (i : Int), findK p K l i = K (findL p l i) := by
  intro l
  induction l with
  | nil => intro i; rfl
  | cons x r ih =>
    intro i
    simp only [findK, findL, ih]
    cases p x <;> rfl

theorem find_run (s : ByteArray) (S : Stk) (K : Ret) : evCallK Tryd.prog (cfgOf O2) (hintOf O2) 400 16 [.v (.string s)] S K = K (.v (.int .i64 (findL (fun x => eqS s x) namesL 1))) S := by
  have h : evCallK Tryd.prog (cfgOf O2) (hintOf O2) 400 16 [.v (.string s)] S K = findK (fun x => eqS s x) (fun i => K (.v (.int .i64 i)) S) namesL 1 := by kernel_rfl
  rw [h, findK_eq]
theorem findR_run (s : ByteArray) (S : Stk) (K : Ret) : evCallK Tryd.prog (cfgOf O2) (hintOf O2) 400 17 [.v (.string s)] S K = K (.v (.int .i64 (findL (fun x => eqS x s) namesL 1))) S := by
  have h : evCallK Tryd.prog (cfgOf O2) (hintOf O2) 400 17 [.v (.string s)] S K = findK (fun x => eqS x s) (fun i => K (.v (.int .i64 i)) S) namesL 1 := by kernel_rfl
  rw [h, findK_eq]

/-- Elements of a list of strings, read. -/
def isStr : Option (List AV) → Bool
  | some [.v (.string _)] => true
  | _ => false
def strAt : Option (List AV) → ByteArray
  | some [.v (.string s)] => s
  | _ => ⟨#[]⟩
def rdS (e : TypeId) (xs : List (List AV)) (i : Nat) : Option (Bool × List AV) :=
  if e = 9 then some (isStr xs[i]?, [.v (.string (strAt xs[i]?))]) else none
theorem rdS_ok (e : TypeId) (xs : List (List AV)) (n : Nat) (cs : List AV) (h : rdS e xs n = some (true, cs)) : xs[n]? = some cs ∧ tsize Tryd.prog e = some cs.length := by
  unfold rdS at h
  split at h
  · rename_i he
    subst he
    simp only [Option.some.injEq, Prod.mk.injEq] at h
    obtain ⟨h1, rfl⟩ := h
    unfold isStr at h1
    split at h1
    · rename_i s hs
      rw [hs]
      exact ⟨rfl, by kernel_rfl⟩
    · cases h1
  · cases h
def hintS (o : Orc) : Hint := { orc := o, rd := rdS, lp := fun _ _ _ => none }
theorem hintS_ok (o : Orc) : HintOK Tryd.prog (cfgOf o) (hintS o) where
  orc g ys S l x h hx := by simp only [hintS] at h; simp [cfgOf, orcOf, h, hx]
  non g ys S h := by simp only [hintS] at h; simp [cfgOf, orcOf, h]
  rd := rdS_ok
  lp f p st l ex st' h := by cases h

def inR (n : Int) : Bool := decide (n ≥ 1) && decide (n ≤ 54)
/-- The name with a number. -/
def nameOf (n : Int) : ByteArray := cond (inR n) ((namesL[(n - 1).toNat]?).getD ⟨#[]⟩) ⟨#[]⟩
def pureB (n : Int) : Bool := (decide (n ≥ 1) && decide (n ≤ 8)) || (decide (n ≥ 29) && decide (n ≤ 39))

abbrev namesR : AV := strs 9 (⟨#[]⟩ :: namesL)
theorem namesR_run (S : Stk) : evCallK Tryd.prog (cfgOf O2) (hintOf O2) 100 35 [] S fin = some (namesR, S) := by kernel_rfl

def new4 (g : FuncId) (ys : List AV) (S : Stk) : Option (List (Bool × AV × Stk)) :=
  if g = 16 then match ys with
    | [.v (.string s)] => some [(true, .v (.int .i64 (findL (fun x => eqS s x) namesL 1)), S)]
    | _ => none
  else if g = 17 then match ys with
    | [.v (.string s)] => some [(true, .v (.int .i64 (findL (fun x => eqS x s) namesL 1)), S)]
    | _ => none
  else if g = 35 then match ys with
    | [] => some [(true, namesR, S)]
    | _ => none
  else none
def O4 : Orc := extO new4 O2
theorem O4_ok : OrcOK Tryd.prog (cfgOf O4) := ext_ok O2_ok fun g ys S l x h hx => by
  unfold new4 at h
  split at h
  · rename_i hg
    subst hg
    split at h
    · cases h; cases hx; exact run_of (hint_ok _ _) (find_run _ S fin)
    · cases h
  · split at h
    · rename_i hg
      subst hg
      split at h
      · cases h; cases hx; exact run_of (hint_ok _ _) (findR_run _ S fin)
      · cases h
    · split at h
      · rename_i hg
        subst hg
        split at h
        · cases h; cases hx; exact run_of (hint_ok _ _) (namesR_run S)
        · cases h
      · cases h

theorem wrap_small {n : Int} (h0 : -9223372036854775808 ≤ n) (h1 : n ≤ 9223372036854775807) : IntKind.wrap .i64 n = n := by
  unfold IntKind.wrap
  simp [IntKind.bits, IntKind.signed]
  omega

theorem strs_at (l : List ByteArray) (i : Nat) (h : i < l.length) : isStr (l.map fun s => [AV.v (.string s)])[i]? = true ∧ strAt (l.map fun s => [AV.v (.string s)])[i]? = (l[i]?).getD ⟨#[]⟩ := by
  rw [List.getElem?_map, List.getElem?_eq_getElem h]
  exact ⟨rfl, rfl⟩

theorem len54 : namesL.length = 54 := by kernel_rfl

theorem name_run (n : Int) (S : Stk) : evCallK Tryd.prog (cfgOf O4) (hintS O4) 100 18 [.v (.int .i64 n)] S fin = some (.v (.string (nameOf n)), S) := by
  have h : evCallK Tryd.prog (cfgOf O4) (hintS O4) 100 18 [.v (.int .i64 n)] S fin =
    cond (decide (n ≥ 1)) (cond (decide (n ≤ ((namesL.map fun s => [AV.v (.string s)]).length : Int))) (cond (decide (0 ≤ IntKind.wrap .i64 (n - 1)) && isStr (namesL.map fun s => [AV.v (.string s)])[(IntKind.wrap .i64 (n - 1)).toNat]?)
      (fin (.v (.string (strAt (namesL.map fun s => [AV.v (.string s)])[(IntKind.wrap .i64 (n - 1)).toNat]?))) S) none) (fin (.v (.string ⟨#[]⟩)) S)) (fin (.v (.string ⟨#[]⟩)) S) := by kernel_rfl
  rw [h, List.length_map, len54]
  unfold nameOf inR
  by_cases h1 : n ≥ 1
  · by_cases h2 : n ≤ 54
    · have hw : IntKind.wrap .i64 (n - 1) = n - 1 := wrap_small (by omega) (by omega)
      obtain ⟨e1, e2⟩ := strs_at namesL (n - 1).toNat (by rw [len54]; omega)
      have h0 : (0 : Int) ≤ n - 1 := by omega
      have h2' : n ≤ ((54 : Nat) : Int) := h2
      simp only [h1, h2, h2', hw, e1, e2, h0, decide_true, Bool.and_true, cond_true]
    · have h2' : ¬ n ≤ ((54 : Nat) : Int) := h2
      simp only [h1, h2, h2', decide_true, decide_false, Bool.and_false, cond_true, cond_false]
  · simp only [h1, decide_false, Bool.false_and, cond_false]
theorem nameR_run (n : Int) (S : Stk) : evCallK Tryd.prog (cfgOf O4) (hintS O4) 100 19 [.v (.int .i64 n)] S fin = some (.v (.string (nameOf n)), S) := by
  have h : evCallK Tryd.prog (cfgOf O4) (hintS O4) 100 19 [.v (.int .i64 n)] S fin =
    cond (decide (n < 1)) (fin (.v (.string ⟨#[]⟩)) S) (cond (decide (n ≥ (((⟨#[]⟩ :: namesL).map fun s => [AV.v (.string s)]).length : Int))) (fin (.v (.string ⟨#[]⟩)) S) (cond (decide (0 ≤ n) && isStr ((⟨#[]⟩ :: namesL).map fun s => [AV.v (.string s)])[n.toNat]?)
      (fin (.v (.string (strAt ((⟨#[]⟩ :: namesL).map fun s => [AV.v (.string s)])[n.toNat]?))) S) none)) := by kernel_rfl
  have len55 : ((⟨#[]⟩ :: namesL : List ByteArray).length) = 55 := by rw [List.length_cons, len54]
  rw [h, List.length_map, len55]
  unfold nameOf inR
  by_cases h1 : n ≥ 1
  · have h1' : ¬ n < 1 := by omega
    by_cases h2 : n ≤ 54
    · have h2' : ¬ n ≥ ((55 : Nat) : Int) := by omega
      obtain ⟨e1, e2⟩ := strs_at (⟨#[]⟩ :: namesL) n.toNat (by rw [len55]; omega)
      have e3 : (⟨#[]⟩ :: namesL : List ByteArray)[n.toNat]? = namesL[(n - 1).toNat]? := by
        have : n.toNat = (n - 1).toNat + 1 := by omega
        rw [this, List.getElem?_cons_succ]
      have h0 : (0 : Int) ≤ n := by omega
      simp only [h1, h1', h2, h2', e1, e2, e3, h0, decide_true, decide_false, Bool.and_true, cond_true, cond_false]
    · have h2' : n ≥ ((55 : Nat) : Int) := by omega
      simp only [h1, h1', h2, h2', decide_true, decide_false, Bool.and_false, cond_true, cond_false]
  · have h1' : n < 1 := by omega
    simp only [h1, h1', decide_true, decide_false, Bool.false_and, cond_true, cond_false]
theorem pure_tree (n : Int) (S : Stk) : cond (decide (n ≥ 1)) (cond (decide (n ≤ 8)) (fin (.v (.bool true)) S) (cond (decide (n ≥ 29)) (fin (.v (.bool (decide (n ≤ 39)))) S) (fin (.v (.bool false)) S))) (cond (decide (n ≥ 29)) (fin (.v (.bool (decide (n ≤ 39)))) S) (fin (.v (.bool false)) S)) = some (.v (.bool (pureB n)), S) := by
  unfold pureB
  generalize decide (n ≥ 1) = p1
  generalize decide (n ≤ 8) = p2
  generalize decide (n ≥ 29) = p3
  generalize decide (n ≤ 39) = p4
  cases p1 <;> cases p2 <;> cases p3 <;> cases p4 <;> rfl
theorem pure_run (n : Int) (S : Stk) : evCallK Tryd.prog (cfgOf O4) (hintS O4) 100 20 [.v (.int .i64 n)] S fin = some (.v (.bool (pureB n)), S) := by
  rw [← pure_tree]
  kernel_rfl
theorem pureR_run (n : Int) (S : Stk) : evCallK Tryd.prog (cfgOf O4) (hintS O4) 100 21 [.v (.int .i64 n)] S fin = some (.v (.bool (pureB n)), S) := by
  rw [← pure_tree]
  kernel_rfl

def new5 (g : FuncId) (ys : List AV) (S : Stk) : Option (List (Bool × AV × Stk)) :=
  match ys with
  | [.v (.int .i64 n)] =>
    if g = 18 then some [(true, .v (.string (nameOf n)), S)]
    else if g = 19 then some [(true, .v (.string (nameOf n)), S)]
    else if g = 20 then some [(true, .v (.bool (pureB n)), S)]
    else if g = 21 then some [(true, .v (.bool (pureB n)), S)]
    else none
  | _ => none
def O5 : Orc := extO new5 O4
theorem O5_ok : OrcOK Tryd.prog (cfgOf O5) := ext_ok O4_ok fun g ys S l x h hx => by
  unfold new5 at h
  split at h
  · rename_i n
    split at h
    · rename_i hg; subst hg; cases h; cases hx; exact run_of (hintS_ok _) (name_run n S)
    · split at h
      · rename_i hg; subst hg; cases h; cases hx; exact run_of (hintS_ok _) (nameR_run n S)
      · split at h
        · rename_i hg; subst hg; cases h; cases hx; exact run_of (hintS_ok _) (pure_run n S)
        · split at h
          · rename_i hg; subst hg; cases h; cases hx; exact run_of (hintS_ok _) (pureR_run n S)
          · cases h
  · cases h
end Go.Proofs.YtffjdcbegohmiaaDoor.Ev
