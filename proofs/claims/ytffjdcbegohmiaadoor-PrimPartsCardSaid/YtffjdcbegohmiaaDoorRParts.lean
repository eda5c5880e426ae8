/-
  PrimParts: two strings, one behind the other, are as long as both; their parts are they. For every input; the package-level variables that the row lists are as the program's text lays them (tied).
-/
import Derived.Test.YtffjdcbegohmiaaDoorP8
import Derived.Test.YtffjdcbegohmiaaDoorR0
import Derived.Test.YtffjdcbegohmiaaDoorCards
import Derived.Test.YtffjdcbegohmiaaDoorTie
import Derived.SevenTiedAt
namespace Go.Proofs.YtffjdcbegohmiaaDoor.Row
open Go Go.ChangeShapes Go.WideShapes Go.ChangeAt Go.RowKit Go.Proofs.YtffjdcbegohmiaaDoor.Ev
open Go.ChangeMaps (open_string shut_string)

abbrev FP : Nat := 5
set_option maxRecDepth 100000 in
theorem primParts_lifted (os : Os) (started : os.Started) (H : Type) (enc : TypeId × Value → H) :
    ReturnsInHanded {} Tryd.checked os FP .any (fun w args => (Rows.primPartsSpec.pre enc Tryd.prog Tryd.f5 [] false w args ∧ laidMetH Tryd.prog laid6 w) ∧ sizedMet enc Tryd.prog Tryd.f5 (OpenSpec.ofChange Rows.primPartsSpec) false w args)
      (Rows.primPartsSpec.post enc Tryd.prog Tryd.f5 false true false false) := by
  refine returnsInHanded_of_change_and (C := Tryd.checked) (X := fun w _ => laidMetH Tryd.prog laid6 w) (fun _ _ _ hh h => h.of_heap hh) own started (by kernel_rfl) Tryd.func5
    (ChangeSpec.witness_shaped (enc := enc) (C := Tryd.checked) (os := os) (X := fun w _ => laidMetH Tryd.prog laid6 w) false (World.doorLaid Tryd.prog 400 os) #[.string ⟨#[]⟩, .string ⟨#[]⟩] 8 rfl (World.shaped_of_RefB (by kernel_rfl) (by kernel_rfl)) (by kernel_rfl) (by kernel_rfl) (by kernel_rfl) (door_met os _)) ?_
  intro W base args ds gs before hval0 hW _ _ hL _
  have hval : ∀ (j : Nat) t v, Tryd.f5.params[j]? = some t → args[j]? = some v → Value.okWide Tryd.prog W .any base t v := hval0
  have hW' := hW
  obtain ⟨p, q, hA0, hV, rfl, hfz, hnd⟩ := hW
  have hA : DataW.TrodAll enc Tryd.prog W 0 (fun _ => true) true Tryd.f5.params.toList args.toList ds p := hA0
  rw [Tryd.params5] at hA hval
  obtain ⟨v0, v1, d0, d1, p0, p1, rfl, rfl, rfl, h0, h1⟩ := trodAll_two hA
  obtain ⟨rfl, rfl⟩ := trodVars_none hV
  obtain ⟨a, rfl, rfl, rfl, hla⟩ := open_string Tryd.underlying9 (hval 0 9 v0 rfl rfl) h0
  obtain ⟨b, rfl, rfl, rfl, hlen⟩ := open_string Tryd.underlying9 (hval 1 9 v1 rfl rfl) h1
  clear hA0 hval0
  simp only [List.append_nil] at hW'
  refine (start O7_ok (parts_true a b) (top_of hL) (I := fun _ _ => False) (fun _ _ h => h.elim) (by rfl) ?_).mono ?_
  · intro i y u hy hu
    match i, hy, hu with
    | 0, hy, hu => cases hy; cases hu; exact .v _
    | 1, hy, hu => cases hy; cases hu; exact .v _
  · rintro e W' ⟨v, I', rfl, hb, rv⟩
    obtain rfl := rv_v1 rv
    refine ⟨_, rfl, _, _, _, [], [], [], hW', ?_, ?_, ?_, kept_of_below hb _, fun h => by cases h⟩
    · exact trodAll_mk1 (shut_bool Tryd.underlying4 true)
    · exact trodAll_mk2 (shut_string Tryd.underlying9 hla) (shut_string Tryd.underlying9 hlen)
    · rfl

theorem primParts_row : Rows.PrimPartsSaid :=
  OpenClaim.holds_of_wide FP Tryd.f5 rfl rfl rfl rfl rfl rfl rfl ⟨rfl, rfl, rfl, rfl, rfl⟩ rfl rfl rfl rfl rfl (by kernel_rfl) Tryd.func5 (by kernel_rfl)
    (of_decide_eq_true (by kernel_rfl)) (by unfold Func.isWrapper; rw [if_neg (of_decide_eq_false (by kernel_rfl))]; exact ⟨rfl, rfl⟩)
    (fun os started H enc _ => primParts_lifted os started H enc)

/-- The tied card. -/
theorem primParts_card : Rows.PrimPartsCardSaid :=
  Claim7.holds_tied_plain_at .later [] [.data, .data, .data, .handle, .listed, .data] true (true, "e09720c5f309aa53b1df21d05dfe80ef837b1ac36570dbc5c21a428c41cac9d7") true
    primParts_row (fun _ h => by cases h) (by kernel_rfl) (fun _ h => by cases h) primParts_row_tie rfl ⟨rfl, rfl⟩ (by kernel_rfl) rfl
    (fun f fn hf hfn => by
      obtain rfl : f = FP := Option.some.inj ((show Tryd.prog.funcNamed "spindle/spindlelaw18.PrimParts" = some FP by kernel_rfl).symm.trans hf) |>.symm
      obtain rfl : fn = Tryd.f5 := (Option.some.inj (Tryd.func5.symm.trans hfn)).symm
      exact ⟨by kernel_rfl, fun j t ht => by
        rw [Tryd.params5] at ht
        have hm : t ∈ [9, 9] := by simpa using Array.mem_of_getElem? ht
        have hall : ([9, 9].all fun u => !Tryd.prog.wantsStandIn u) = true := by kernel_rfl
        exact (show Tryd.prog.wantsStandIn t = false by simpa using List.all_eq_true.1 hall t hm)⟩)
    (by kernel_rfl)
end Go.Proofs.YtffjdcbegohmiaaDoor.Row
namespace Go.Proofs.YtffjdcbegohmiaaDoor
theorem primParts_card : Rows.PrimPartsCardSaid := Row.primParts_card
#print axioms primParts_card
end Go.Proofs.YtffjdcbegohmiaaDoor
