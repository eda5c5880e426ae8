/-
  PrimOrder: of two numbers just one of this holds: less, equal, greater. For every input; the package-level variables that the row lists are as the program's text lays them (tied).
-/
import Derived.Test.YtffjdcbegohmiaaDoorP2
import Derived.Test.YtffjdcbegohmiaaDoorR0
import Derived.Test.YtffjdcbegohmiaaDoorCards
import Derived.Test.YtffjdcbegohmiaaDoorTie
import Derived.SevenTiedAt
namespace Go.Proofs.YtffjdcbegohmiaaDoor.Row
open Go Go.ChangeShapes Go.WideShapes Go.ChangeAt Go.RowKit Go.Proofs.YtffjdcbegohmiaaDoor.Ev

theorem order_run (a b : Int) : evCallK Tryd.prog (cfgOf O3) (hintOf O3) 400 6 [.v (.int .i64 a), .v (.int .i64 b)] [] fin = some (.v (.bool true), []) := by
  have h : evCallK Tryd.prog (cfgOf O3) (hintOf O3) 400 6 [.v (.int .i64 a), .v (.int .i64 b)] [] fin =
      cond (okI a && okI b) (cond (okI a && okI b) (cond (okI b && okI a) (cond (IntKind.wrap IntKind.i64 (IntKind.wrap IntKind.i64 ((bif decide (a < b) then 1 else 0) + bif a == b then 1 else 0) + bif decide (b < a) then 1 else 0) == 1) (cond (((bif decide (a < b) then (1 : Int) else 0) == 1) == decide (a < b)) (fin (.v (.bool (((bif a == b then (1 : Int) else 0) == 1) == (a == b)))) [])
        (fin (.v (.bool false)) []))
        (fin (.v (.bool false)) []))
        (fin (.v (.bool true)) []))
        (cond (okI b && okI a) (fin (.v (.bool true)) []) (fin (.v (.bool true)) [])))
      (cond (okI a && okI b) (cond (okI b && okI a) (fin (.v (.bool true)) []) (fin (.v (.bool true)) []))
        (cond (okI b && okI a) (fin (.v (.bool true)) []) (fin (.v (.bool true)) []))) := by kernel_rfl
  rw [h]
  cases h1 : (okI a && okI b) with
  | false => cases (okI b && okI a) <;> rfl
  | true =>
    cases (okI b && okI a) with
    | false => rfl
    | true =>
      rcases Int.lt_trichotomy a b with h2 | h2 | h2
      · have h3 : ¬ b < a := by omega
        have h4 : (a == b) = false := by simp; omega
        simp only [h2, h3, h4, decide_true, decide_false, cond_true, cond_false]
        rfl
      · subst h2
        simp only [Int.lt_irrefl, decide_false, beq_self_eq_true, cond_true, cond_false]
        rfl
      · have h3 : ¬ a < b := by omega
        have h4 : (a == b) = false := by simp; omega
        simp only [h2, h3, h4, decide_true, decide_false, cond_true, cond_false]
        rfl

abbrev FO : Nat := 6
set_option maxRecDepth 100000 in
theorem order_lifted (os : Os) (started : os.Started) (H : Type) (enc : TypeId × Value → H) :
    ReturnsInHanded {} Tryd.checked os FO .any (fun w args => (Rows.primOrderSpec.pre enc Tryd.prog Tryd.f6 [] false w args ∧ laidMetH Tryd.prog laid6 w) ∧ sizedMet enc Tryd.prog Tryd.f6 (OpenSpec.ofChange Rows.primOrderSpec) false w args)
      (Rows.primOrderSpec.post enc Tryd.prog Tryd.f6 false true false false) := by
  refine returnsInHanded_of_change_and (C := Tryd.checked) (X := fun w _ => laidMetH Tryd.prog laid6 w) (fun _ _ _ hh h => h.of_heap hh) own started (by kernel_rfl) Tryd.func6
    (ChangeSpec.witness_shaped (enc := enc) (C := Tryd.checked) (os := os) (X := fun w _ => laidMetH Tryd.prog laid6 w) false (World.doorLaid Tryd.prog 400 os) #[.int .i64 0, .int .i64 0] 8 rfl (World.shaped_of_RefB (by kernel_rfl) (by kernel_rfl)) (by kernel_rfl) (by kernel_rfl) (by kernel_rfl) (door_met os _)) ?_
  intro W base args ds gs before hval0 hW _ _ hL _
  have hval : ∀ (j : Nat) t v, Tryd.f6.params[j]? = some t → args[j]? = some v → Value.okWide Tryd.prog W .any base t v := hval0
  have hW' := hW
  obtain ⟨p, q, hA0, hV, rfl, hfz, hnd⟩ := hW
  have hA : DataW.TrodAll enc Tryd.prog W 0 (fun _ => true) true Tryd.f6.params.toList args.toList ds p := hA0
  rw [Tryd.params6] at hA hval
  obtain ⟨v0, v1, d0, d1, p0, p1, rfl, rfl, rfl, h0, h1⟩ := trodAll_two hA
  obtain ⟨rfl, rfl⟩ := trodVars_none hV
  obtain ⟨a, rfl, rfl, rfl, wa⟩ := open_int Tryd.underlying3 (hval 0 3 v0 rfl rfl) h0
  obtain ⟨b, rfl, rfl, rfl, wb⟩ := open_int Tryd.underlying3 (hval 1 3 v1 rfl rfl) h1
  clear hA0 hval0
  simp only [List.append_nil] at hW'
  refine (start O3_ok (run_of (hint_ok _ _) (order_run a b)) (top_of hL) (I := fun _ _ => False) (fun _ _ h => h.elim) (by rfl) ?_).mono ?_
  · intro i y u hy hu
    match i, hy, hu with
    | 0, hy, hu => cases hy; cases hu; exact .v _
    | 1, hy, hu => cases hy; cases hu; exact .v _
  · rintro e W' ⟨v, I', rfl, hb, rv⟩
    obtain rfl := rv_v1 rv
    refine ⟨_, rfl, _, _, _, [], [], [], hW', ?_, ?_, ?_, kept_of_below hb _, fun h => by cases h⟩
    · exact trodAll_mk1 (shut_bool Tryd.underlying4 true)
    · exact trodAll_mk2 (shut_int Tryd.underlying3 wa) (shut_int Tryd.underlying3 wb)
    · rfl

theorem order_row : Rows.PrimOrderSaid :=
  OpenClaim.holds_of_wide FO Tryd.f6 rfl rfl rfl rfl rfl rfl rfl ⟨rfl, rfl, rfl, rfl, rfl⟩ rfl rfl rfl rfl rfl (by kernel_rfl) Tryd.func6 (by kernel_rfl)
    (of_decide_eq_true (by kernel_rfl)) (by unfold Func.isWrapper; rw [if_neg (of_decide_eq_false (by kernel_rfl))]; exact ⟨rfl, rfl⟩)
    (fun os started H enc _ => order_lifted os started H enc)

/-- The tied card. -/
theorem order_card : Rows.PrimOrderCardSaid :=
  Claim7.holds_tied_plain_at .later [] [.data, .data, .data, .handle, .listed, .data] true (true, "e09720c5f309aa53b1df21d05dfe80ef837b1ac36570dbc5c21a428c41cac9d7") true
    order_row (fun _ h => by cases h) (by kernel_rfl) (fun _ h => by cases h) primOrder_row_tie rfl ⟨rfl, rfl⟩ (by kernel_rfl) rfl
    (fun f fn hf hfn => by
      obtain rfl : f = FO := Option.some.inj ((show Tryd.prog.funcNamed "spindle/spindlelaw18.PrimOrder" = some FO by kernel_rfl).symm.trans hf) |>.symm
      obtain rfl : fn = Tryd.f6 := (Option.some.inj (Tryd.func6.symm.trans hfn)).symm
      exact ⟨by kernel_rfl, fun j t ht => by
        rw [Tryd.params6] at ht
        have hm : t ∈ [3, 3] := by simpa using Array.mem_of_getElem? ht
        have hall : ([3, 3].all fun u => !Tryd.prog.wantsStandIn u) = true := by kernel_rfl
        exact (show Tryd.prog.wantsStandIn t = false by simpa using List.all_eq_true.1 hall t hm)⟩)
    (by kernel_rfl)
end Go.Proofs.YtffjdcbegohmiaaDoor.Row
namespace Go.Proofs.YtffjdcbegohmiaaDoor
theorem primOrder_card : Rows.PrimOrderCardSaid := Row.order_card
#print axioms primOrder_card
end Go.Proofs.YtffjdcbegohmiaaDoor
