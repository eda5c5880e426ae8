/-
  Regions that draw their order: any order comes to what the text's order comes to.
-/
import Derived.Test.YtffjdcbegohmiaaDoorEv20
namespace Go.Proofs.YtffjdcbegohmiaaDoor.Ev
open Go Go.RowKit

section
variable {P : Program} {C : Cfg} {call : CallT}

theorem rest_set {ops : Array Oper} {listed : Array Bool} {i : Nat} (hi : i < listed.size) : rest ops (listed.setIfInBounds i true) = (rest ops listed).filter fun k => k != i := by
  unfold rest
  rw [List.filter_filter]
  apply List.filter_congr
  intro k _
  by_cases hk : k = i
  · subst hk
    simp [hi]
  · have : (listed.setIfInBounds i true).getD k true = listed.getD k true := getD_set_ne true (Ne.symm hk)
    rw [this]
    simp [hk]

theorem any_sound (hC : CallOK P call) (hE : EntOK P C) {N B : Nat} {ops : Array Oper} {cl : Nat → Nat} {md : Region.Mode} {st' : St} {Q : Exit → Act → World → Prop} (hp : PairOK P ops cl)
    (hcomp : ∀ listed : Array Bool, listed.size = ops.size → Region.ready md ops listed = [] → rest ops listed = []) :
    ∀ (fuel : Nat) (listed : Array Bool) (st : St) (a : Act) (w : World) (I : Nat → Nat → Prop) (G : Gh), listed.size = ops.size → (rest ops listed).length ≤ fuel →
      (∀ k, listed.getD k false = true → ∀ i, ((ancs ops.toList []).getD k 0).testBit i = true → listed.getD i false = true) → FreshAt ops st.F (rest ops listed) →
      evOps P C call N ops cl (rest ops listed) st = some st' → At P N B w I G st a → (∀ a' w' I' G', At P N B w' I' G' st' a' → Out w B I G st.S w' I' G' st'.S → Q .normal a' w') →
      wpAny P md ops Q fuel listed a w := by
  intro fuel
  induction fuel with
  | zero =>
    intro listed st a w I G hs hlen hcl hf hev ha hK
    have h0 : rest ops listed = [] := List.eq_nil_of_length_eq_zero (by omega)
    refine ⟨?_, ?_⟩
    · cases hr : Region.ready md ops listed with
      | nil => rfl
      | cons q r =>
        have hq : q ∈ Region.ready md ops listed := by rw [hr]; exact List.mem_cons_self ..
        obtain ⟨h1, o, ho, _⟩ := mem_ready.1 hq
        have : q ∈ rest ops listed := mem_rest.2 ⟨(Array.getElem?_eq_some_iff.1 ho).1, h1⟩
        rw [h0] at this
        cases this
    · rw [h0] at hev
      simp only [evOps, Option.some.injEq] at hev
      subst hev
      exact hK a w I G ha (Out.refl _ _ _ _ _)
  | succ fuel ih =>
    intro listed st a w I G hs hlen hcl hf hev ha hK
    refine ⟨fun hr => ?_, fun j hj => ?_⟩
    · rw [hcomp listed hs hr] at hev
      simp only [evOps, Option.some.injEq] at hev
      subst hev
      exact hK a w I G ha (Out.refl _ _ _ _ _)
    · obtain ⟨hjun, y, hy, hall⟩ := mem_ready.1 hj
      have hjn : j < ops.size := (Array.getElem?_eq_some_iff.1 hy).1
      have hjr : j ∈ rest ops listed := mem_rest.2 ⟨hjn, hjun⟩
      -- who must come ahead of j, is listed
      have hanc : ∀ i, ((ancs ops.toList []).getD j 0).testBit i = true → listed.getD i false = true := by
        intro i hb
        obtain ⟨e, he, h1, h2⟩ := ancs_spec ops.toList [] j y i (by simpa using hy) (by simpa using hb)
        have hl := hall e (by simpa using he) (any_binds h1 md)
        rcases h2 with rfl | h2
        · exact hl
        · exact hcl _ hl i h2
      obtain ⟨m1, m2, hm⟩ := List.append_of_mem hjr
      have hsorted : (rest ops listed).Pairwise (· < ·) := List.Pairwise.filter _ List.pairwise_lt_range
      rw [hm] at hsorted hev hf
      have hs1 := List.pairwise_append.1 hsorted
      have hm1 : ∀ i ∈ m1, i < j := fun i hi => hs1.2.2 i hi j (List.mem_cons_self ..)
      have hm2 : ∀ i ∈ m2, j < i := fun i hi => (List.pairwise_cons.1 hs1.2.1).1 i hi
      have hnd : m1.Nodup := hs1.1.imp (fun h => Nat.ne_of_lt h)
      have hin : ∀ i ∈ m1 ++ m2, i < ops.size ∧ listed.getD i true = false := fun i hi => by
        refine mem_rest.1 ?_
        rw [hm]
        rcases List.mem_append.1 hi with h | h
        · exact List.mem_append_left _ h
        · exact List.mem_append_right _ (List.mem_cons_of_mem _ h)
      have h1 := to_front (C := C) (call := call) (N := N) hp hy m1 m2 st st' hnd (fun i hi => ⟨hm1 i hi, (hin i (List.mem_append_left _ hi)).1, by
        cases hb : ((ancs ops.toList []).getD j 0).testBit i with
        | false => rfl
        | true =>
          have h3 := hanc i hb
          have h4 := (hin i (List.mem_append_left _ hi)).2
          have hlt : i < listed.size := by rw [hs]; exact (hin i (List.mem_append_left _ hi)).1
          simp [hlt] at h3 h4
          rw [h3] at h4
          cases h4⟩) (fun i hi => hf i (List.mem_append_left _ hi)) hev
      simp only [evOps] at h1
      split at h1
      · rename_i st1 h2
        have hrest : rest ops (listed.setIfInBounds j true) = m1 ++ m2 := by
          rw [rest_set (by omega), hm, List.filter_append, List.filter_cons]
          have e1 : m1.filter (fun k => k != j) = m1 := List.filter_eq_self.2 fun k hk => by have := hm1 k hk; simp; omega
          have e2 : m2.filter (fun k => k != j) = m2 := List.filter_eq_self.2 fun k hk => by have := hm2 k hk; simp; omega
          rw [e1, e2]
          simp
        refine step1_sound hC hE h2 ha fun a1 w1 I1 G1 ha1 ho1 => ?_
        refine ih (listed.setIfInBounds j true) st1 a1 w1 I1 G1 (by simpa using hs) ?_ ?_ ?_ (by rw [hrest]; exact h1) ha1 fun a' w' I' G' h3 h4 => hK a' w' I' G' h3 (ho1.trans h4)
        · rw [hrest]
          rw [hm] at hlen
          simp at hlen ⊢
          omega
        · intro k hk i hb
          by_cases hkj : k = j
          · subst hkj
            exact getD_set_true (hanc i hb)
          · rw [getD_set_ne false (Ne.symm hkj)] at hk
            exact getD_set_true (hcl k hk i hb)
        · rw [hrest]
          intro i hi x d hx hd
          have hne : i ≠ j := by
            rintro rfl
            rcases List.mem_append.1 hi with h | h
            · have := hm1 i h; omega
            · have := hm2 i h; omega
          rw [step1_keeps hy h2 d (fun e => hp.dst j i y x hy hx (Ne.symm hne) d e hd)]
          refine hf i ?_ x d hx hd
          rcases List.mem_append.1 hi with h | h
          · exact List.mem_append_left _ h
          · exact List.mem_append_right _ (List.mem_cons_of_mem _ h)
      · cases h1

theorem draw_ok (hE : EntOK P C) : DrawOK P C := by
  intro call hC N ops cl st st' a w I G B Q hd hev hfr ha hK mixed t
  have hp := pair_of hd
  simp only [drawOK, Bool.and_eq_true, Bool.or_eq_true, Bool.not_eq_true'] at hd
  obtain ⟨⟨_, hany⟩, hdep⟩ := hd
  have comp : ∀ {md : Region.Mode} {l : List Nat}, complete md ops l = true → ∀ listed : Array Bool, listed.size = ops.size → Region.ready md ops listed = [] → rest ops listed = [] := by
    intro md l h listed hs hr
    simp only [complete, Bool.and_eq_true, List.all_eq_true] at h
    cases hre : rest ops listed with
    | nil => rfl
    | cons q r =>
      exfalso
      have hq : q ∈ rest ops listed := by rw [hre]; exact List.mem_cons_self ..
      obtain ⟨h1, h2⟩ := mem_rest.1 hq
      have h3 := complete_spec hs l [] h.1 (fun p hp => by simp at hp) hr q (by simpa using h.2 q (List.mem_range.2 h1))
      have hlt : q < listed.size := by omega
      simp [hlt] at h2 h3
      rw [h3] at h2
      cases h2
  have hrest : rest ops (Array.replicate ops.size false) = List.range ops.size := by
    unfold rest
    refine List.filter_eq_self.2 fun k hk => ?_
    have := List.mem_range.1 hk
    simp [this]
  have go : ∀ (md : Region.Mode) (l : List Nat), complete md ops l = true → ∀ t, wpOps P ops Q (Region.linearise md ops t) a w := by
    intro md l h t
    refine wpAny_sound (md := md) ops.size t _ a w (any_sound hC hE hp (comp h) _ _ st a w I G (by simp) (by rw [hrest]; simp) (fun k hk i hb => ?_) (fun i hi x d hx hxd => ?_) (by rw [hrest]; exact hev) ha hK)
    · by_cases hlt : k < ops.size
      · simp [hlt] at hk
      · simp [hlt] at hk
    · exact hfr x (by have := Array.mem_of_getElem? hx; simpa using this) d hxd
  unfold Region.schedule
  split
  · exact go .any _ hany t
  · rename_i hm
    rcases hdep with hdep | ⟨h1, h2⟩
    · simp [hdep] at hm
    · split
      · exact go .text _ h1 _
      · exact go .gc _ h2 _

/-- The evaluator's calls are the machine's. -/
theorem evCall_ok (hO : OrcOK P C) (hE : EntOK P C) (k : Nat) : CallOK P (evCall P C k) := evCall_sound hO hE (draw_ok hE) k
end
end Go.Proofs.YtffjdcbegohmiaaDoor.Ev
