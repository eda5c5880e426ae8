/-
  What the rows have in common: what the listed variables give; a start that meets the condition; from the evaluator's answer to the machine's.
-/
import Derived.Test.YtffjdcbegohmiaaDoorB2
import Derived.Test.YtffjdcbegohmiaaDoorRows
import Derived.ProofKit
import Derived.LaidMore
import Derived.LaidSub
import Derived.OpenShut
import Derived.Stop.Joined
import Derived.LaidHandle
namespace Go.Proofs.YtffjdcbegohmiaaDoor.Row
open Go Go.ChangeShapes Go.WideShapes Go.ChangeAt Go.RowKit Go.Proofs.YtffjdcbegohmiaaDoor.Ev

theorem own : ownKnob Tryd.prog.godebug = none := by kernel_rfl

/-- The six listed variables. -/
abbrev laid6 : List (String × DataW Unit) := [("math/bits.deBruijn32tab", Rows.laid_math_bits_deBruijn32tab), ("math/bits.deBruijn64tab", Rows.laid_math_bits_deBruijn64tab), ("internal/strconv.uint64pow10", Rows.laid_internal_strconv_uint64pow10), ("errors.errorType", Rows.laid_errors_errorType), ("unicode.White_Space", Rows.laid_unicode_White_Space), ("strings.asciiSpace", Rows.laid_strings_asciiSpace)]

theorem one_of {W : World} {n : String} {d : DataW Unit} (h : laidMetH Tryd.prog laid6 W) (hf : laid6.filter (fun x => x.1 == n) = [(n, d)]) (hp : d.handleName?.isNone = true) : laidMet Tryd.prog [(n, d)] W := by
  have h1 := h.filter fun x => x.1 == n
  rw [hf] at h1
  rwa [MakeChecks.laidMetH_plain _ _ _ (by simp [hp])] at h1

theorem gSpace : Tryd.prog.globalNamed "strings.asciiSpace" = some 1 := by kernel_rfl
theorem tSpace : (Tryd.prog.globals[1]?).map (·.type) = some 131 := by kernel_rfl
theorem gPow : Tryd.prog.globalNamed "internal/strconv.uint64pow10" = some 4 := by kernel_rfl
theorem tPow : (Tryd.prog.globals[4]?).map (·.type) = some 183 := by kernel_rfl
theorem gErr : Tryd.prog.globalNamed "errors.errorType" = some 0 := by kernel_rfl
theorem rt : (Tryd.prog.cutTypes.find? (·.1 == "internal/reflectlite.rtype")).map (·.2) = some 112 := by kernel_rfl
theorem tysize : Tryd.prog.types.size = 214 := by kernel_rfl
theorem oneRow : ((List.range 214).filter fun t => Tryd.prog.rowNamed t [101, 114, 114, 111, 114]) = [25] := by kernel_rfl
theorem hdEq : typeHandle Tryd.prog 25 = As.hd 25 := by kernel_rfl

set_option maxRecDepth 100000 in
theorem mem4 : (("errors.errorType", Rows.laid_errors_errorType) : String × DataW Unit) ∈ laid6.filter fun x => x.2.handleName?.isSome := by
  have h : (laid6.filter fun x => x.2.handleName?.isSome) = [("errors.errorType", Rows.laid_errors_errorType)] := by kernel_rfl
  rw [h]
  exact .head _

set_option maxRecDepth 100000 in
/-- What the condition gives the evaluator. -/
theorem top_of {W : World} (h : laidMetH Tryd.prog laid6 W) : Top.ok W.heap.size W := by
  suffices hh : Lib.TabIs Tryd.prog W "strings.asciiSpace" .u8 Lib.asciiSpaceTab ∧ Lib.TabIs Tryd.prog W "internal/strconv.uint64pow10" .u64 Lib.pow10Tab ∧ W.cell? ⟨0, 0, none⟩ = some (.iface 112 (.agg #[As.hd 25])) from
    ⟨⟨World.block_lt_of_cell? W _ (hh.1.cell gSpace 0 (by decide)), World.block_lt_of_cell? W _ (hh.2.1.cell gPow 0 (by decide))⟩, hh⟩
  refine ⟨?_, ?_, ?_⟩
  · have h1 := one_of (n := "strings.asciiSpace") (d := Rows.laid_strings_asciiSpace) h (by kernel_rfl) (by kernel_rfl)
    exact Lib.tabIs_of_head gSpace tSpace Tryd.underlying131 Tryd.underlying5 (by kernel_rfl) (by kernel_rfl) (rest := []) h1
  · have h1 := one_of (n := "internal/strconv.uint64pow10") (d := Rows.laid_internal_strconv_uint64pow10) h (by kernel_rfl) (by kernel_rfl)
    exact Lib.tabIs_of_head gPow tPow Tryd.underlying183 Tryd.underlying176 (by kernel_rfl) (by kernel_rfl) (rest := []) h1
  · obtain ⟨_, h2⟩ := laidMetH_iff.1 h
    obtain ⟨name, u, ty, e1, e2, e3, e4, e5⟩ := h2 ("errors.errorType", Rows.laid_errors_errorType) mem4
    have en : name = [101, 114, 114, 111, 114] := (Option.some.inj e1).symm
    subst en
    obtain rfl := Option.some.inj (rt.symm.trans e2)
    have hm : ty ∈ (List.range 214).filter fun t => Tryd.prog.rowNamed t [101, 114, 114, 111, 114] := List.mem_filter.2 ⟨List.mem_range.2 (by rw [← tysize]; exact e3), e4⟩
    rw [oneRow] at hm
    obtain rfl := List.mem_singleton.1 hm
    rw [hdEq] at e5
    simpa using World.var?_cell gErr e5 0

theorem door_met (os : Os) (args : Array Value) : laidMetH Tryd.prog laid6 ((World.doorLaid Tryd.prog 400 os).forCall (fun _ _ => 0) ⟨#[], args, []⟩).memory :=
  laidMetH_of_parts3 (fuel := 8) (laidMet_of_run' 8 (by kernel_rfl) (by kernel_rfl)) (by kernel_rfl) (by kernel_rfl)

theorem kept_of_below {W W' : World} (h : Below W.heap.size W W') (may : MemPlace → Prop) : W.keptBut W' may := by
  refine ⟨h.os, h.output, fun i hi => ?_⟩
  rw [h.block i hi]
  cases hb : W.heap[i]? with
  | none => rfl
  | some o => cases o <;> simp

/-- The evaluator's answer at a start. -/
theorem start {o : FuncId → List AV → Stk → Option (List (Bool × AV × Stk))} (hO : OrcOK Tryd.prog (cfgOf o)) {g : FuncId} {ys : List AV} {r : AV} (hrun : ∃ k, evCall Tryd.prog (cfgOf o) k g ys [] = some (r, [])) {W : World} {I : Nat → Nat → Prop} {args : Array Value}
    (htop : Top.ok W.heap.size W) (hI : ∀ b o, I b o → ∃ u, W.cell? ⟨b, o, none⟩ = some u) (hn : args.size = ys.length) (ha : ∀ (i : Nat) (y : AV) (u : Value), ys[i]? = some y → args[i]? = some u → DV Tryd.prog W I y u) :
    Calls Tryd.prog g args W fun e W' => ∃ v I', e = .returned v ∧ Below W.heap.size W W' ∧ RV Tryd.prog W' I' [] [] r v := by
  obtain ⟨k, hk⟩ := hrun
  have hs : SR Tryd.prog W I W.heap.size [] [] := ⟨rfl, fun k s o h => by simp [sget] at h, fun k s o g k' s' o' g' h => by simp [sget] at h, hI, Nat.le_refl _, htop⟩
  refine (evCall_ok hO (ent_ok o) k g ys [] r [] hk W I W.heap.size [] args hs hn fun i y u hy hu => .dat (ha i y u hy hu)).mono ?_
  rintro e W' ⟨v, rfl, I', G', tr, rv⟩
  have hG : G' = [] := List.eq_nil_of_length_eq_zero tr.sr.len
  subst hG
  exact ⟨v, I', rfl, tr.bel, rv⟩
end Go.Proofs.YtffjdcbegohmiaaDoor.Row
