/-
  Two steps of a region, in either order.
-/
import Derived.Test.YtffjdcbegohmiaaDoorEv16
namespace Go.Proofs.YtffjdcbegohmiaaDoor.Ev
open Go Go.RowKit

section
variable {P : Program} {C : Cfg} {call : CallT} {F F2 : Fr} {L L2 : Loc} {S S2 : Stk}

/-! ### New objects -/
theorem frSays_iff {s : Nat} : ∀ {F : Fr}, frSays s F = false ↔ ∀ p ∈ F, p.2.says s = false := by
  intro F
  induction F with
  | nil => simp [frSays]
  | cons p r ih =>
    obtain ⟨t, y⟩ := p
    simp only [frSays, Bool.or_eq_false_iff, ih, List.mem_cons, forall_eq_or_imp]
theorem mem_kdel {α : Type} {s : Nat} : ∀ {l : List (Nat × α)} {p : Nat × α}, p ∈ kdel l s ↔ p ∈ l ∧ p.1 ≠ s := by
  intro l
  induction l with
  | nil => intro p; simp [kdel]
  | cons q r ih =>
    intro p
    obtain ⟨t, y⟩ := q
    simp only [kdel]
    split
    · rename_i e
      rw [ih]
      constructor
      · rintro ⟨h1, h2⟩; exact ⟨List.mem_cons_of_mem _ h1, h2⟩
      · rintro ⟨h1, h2⟩
        rcases List.mem_cons.1 h1 with rfl | h1
        · exact absurd e.symm h2
        · exact ⟨h1, h2⟩
    · rename_i e
      rw [List.mem_cons, List.mem_cons, ih]
      constructor
      · rintro (rfl | ⟨h1, h2⟩)
        · exact ⟨.inl rfl, fun h => e h.symm⟩
        · exact ⟨.inr h1, h2⟩
      · rintro ⟨rfl | h1, h2⟩
        · exact .inl rfl
        · exact .inr ⟨h1, h2⟩
theorem mem_kset {α : Type} {s : Nat} {x : α} : ∀ {l : List (Nat × α)} {p : Nat × α}, kget l s = none → p ∈ l → p ∈ kset l s x := by
  intro l
  induction l with
  | nil => intro p _ h; simp at h
  | cons q r ih =>
    intro p hn h
    obtain ⟨t, y⟩ := q
    simp only [kget] at hn
    simp only [kset]
    split at hn
    · cases hn
    · rename_i e
      simp only [e, if_false]
      split
      · exact List.mem_cons_of_mem _ h
      · rcases List.mem_cons.1 h with rfl | h
        · exact List.mem_cons_self ..
        · exact List.mem_cons_of_mem _ (ih hn h)
theorem new_mono {dx : Nat} {v : AV} (hn : kget F dx = none) {d : Nat} {ob : Ob} {L' : Loc} (h : (⟨kset F dx v, L, S⟩ : St).new d ob = some L') : (⟨F, L, S⟩ : St).new d ob = some L' := by
  unfold St.new at h ⊢
  simp only at h ⊢
  have key : frSays d (kdel (kset F dx v) d) = false → frSays d (kdel F d) = false := by
    intro h1
    rw [frSays_iff] at h1 ⊢
    intro p hp
    rw [mem_kdel] at hp
    exact h1 p (mem_kdel.2 ⟨mem_kset hn hp.1, hp.2⟩)
  split at h
  · cases h
  · rename_i hc
    rw [Bool.not_eq_true, Bool.or_eq_false_iff, Bool.or_eq_false_iff] at hc
    rw [if_neg]
    · exact h
    · simp [key hc.1.1, hc.1.2, hc.2]

/-- A new object in a frame that says less. -/
theorem mem3 {op : Op} {dst : Option Tmp} (h : ∀ x ∈ op.operands, evF F2 x = evF F x) (hn : ∀ d ob L', (⟨F, L, S⟩ : St).new d ob = some L' → (⟨F2, L, S⟩ : St).new d ob = some L') {r : Res}
    (he : evMem P ⟨F, L, S⟩ dst op = some r) : evMem P ⟨F2, L, S⟩ dst op = some r := by
  have mp : ∀ {d : Nat} {ob : Ob} {g : Loc → Res}, ((⟨F, L, S⟩ : St).new d ob).map g = some r → ((⟨F2, L, S⟩ : St).new d ob).map g = some r := by
    intro d ob g hg
    obtain ⟨L', h1, h2⟩ := Option.map_eq_some_iff.1 hg
    rw [hn _ _ _ h1]
    simp [h2]
  by_cases hnew : isNew op = false
  · rw [mem2 (o := { dst := none, op := op, type := 0, pos := "", after := #[], guard := none }) (cl := 0) rfl (.inl hnew) h]
    exact he
  · cases op with
    | alloc t =>
      simp only [evMem] at he ⊢
      split at he
      · split at he
        · rename_i hc; rw [if_pos hc]; exact mp he
        · cases he
      · cases he
    | box t y =>
      have e1 := h y (by simp [Op.operands])
      simp only [evMem, eval_F, e1] at he ⊢
      split at he
      · split at he
        · rename_i hc; rw [if_pos hc]; exact mp he
        · cases he
      · cases he
    | load t y =>
      have e1 := h y (by simp [Op.operands])
      simp only [evMem, eval_F, e1] at he ⊢
      exact he
    | buildSlice t n parts =>
      have e1 : evals ⟨F2, L, S⟩ (parts.toList.map (·.2)) = evals ⟨F, L, S⟩ (parts.toList.map (·.2)) := evals_agree _ fun x hx => h x (by simpa [Op.operands] using hx)
      simp only [evMem, e1] at he ⊢
      split at he
      · split at he
        · split at he
          · rename_i hc
            rw [if_pos hc]
            split at he
            · split at he
              · rename_i hd
                rw [if_pos hd]
                split at he
                · rename_i h0
                  rw [if_pos h0]
                  split at he
                  · exact mp he
                  · cases he
                · rename_i h0
                  rw [if_neg h0]
                  exact he
              · cases he
            · cases he
          · cases he
        · cases he
      · cases he
    | call c =>
      have ha : ∀ x ∈ c.args.toList, evF F2 x = evF F x := fun x hx => h x (by simp only [Op.operands, Call.operands]; exact Array.mem_append.2 (.inr (Array.mem_toList_iff.1 hx)))
      simp only [evMem] at he ⊢
      split at he
      · rename_i y e1 e2
        simp only [eval_F, ha y (by rw [e2]; simp), elems_F (F2 := F2) (F := F)] at he ⊢
        exact he
      · rename_i y z e1 e2
        simp only [eval_F, ha y (by rw [e2]; simp), ha z (by rw [e2]; simp), elems_F (F2 := F2) (F := F)] at he ⊢
        split at he
        · split at he
          · rename_i htt
            rw [if_pos htt]
            split at he
            · split at he
              · exact he
              · split at he
                · rename_i hc
                  rw [if_pos hc]
                  split at he
                  · split at he
                    · split at he
                      · rename_i h30
                        rw [if_pos h30]
                        exact mp he
                      · cases he
                    · cases he
                  · exact he
                  · cases he
                · cases he
            · cases he
          · cases he
        · cases he
      · cases he
    | _ => simp [isNew] at hnew
end
end Go.Proofs.YtffjdcbegohmiaaDoor.Ev
