/-
  Code: a function's body, and calls, by fuel.
-/
import Derived.Test.YtffjdcbegohmiaaDoorEv14
import Derived.LoopN
namespace Go.Proofs.YtffjdcbegohmiaaDoor.Ev
open Go Go.RowKit

section
variable {P : Program} {C : Cfg} {w w' : World} {I I' : Nat → Nat → Prop} {B N : Nat} {G G' : Gh} {S S' : Stk} {st : St} {call : CallT} {a : Act}

/-- A region whose order is drawn comes to what the text's order comes to. -/
def DrawOK (P : Program) (C : Cfg) : Prop := ∀ (call : CallT), CallOK P call → ∀ (N : Nat) (ops : Array Oper) (cl : Nat → Nat) (st st' : St) (a : Act) (w : World) (I : Nat → Nat → Prop) (G : Gh) (B : Nat) (Q : Exit → Act → World → Prop),
  drawOK P ops cl = true → evOps P C call N ops cl (List.range ops.size) st = some st' → (∀ o ∈ ops.toList, ∀ d, o.dst = some d → kget st.F d = none) → At P N B w I G st a →
  (∀ a' w' I' G', At P N B w' I' G' st' a' → Out w B I G st.S w' I' G' st'.S → Q .normal a' w') → ∀ mixed t, wpOps P ops Q (Region.schedule mixed ops t) a w

/-- The contracts hold. -/
def OrcOK (P : Program) (C : Cfg) : Prop := CallOK P C.orc

theorem sr_tail {L : Loc} (h : SR P w I B G (L :: S)) : SR P w I B (G.drop 1) S := by
  refine ⟨by have := h.len; simp at this ⊢; omega, fun k s o hk => ?_, fun k s o g k' s' o' g' h1 h2 h3 h4 hne => ?_, h.cell, h.base, h.top⟩
  · obtain ⟨g, hg, hok⟩ := h.ob (k + 1) s o (by simpa [sget] using hk)
    refine ⟨g, by rw [List.getElem?_drop, Nat.add_comm]; exact hg, ?_⟩
    rw [List.drop_drop, Nat.add_comm]
    simpa using hok
  · rw [List.getElem?_drop, Nat.add_comm] at h2 h4
    exact h.dis (k + 1) s o g (k' + 1) s' o' g' (by simpa [sget] using h1) h2 (by simpa [sget] using h3) h4 (by omega)
theorem sr_push {g : Nat → Nat × Value} (h : SR P w I B G S) : SR P w I B (g :: G) ([] :: S) := by
  refine ⟨by simpa using h.len, fun k s o hk => ?_, fun k s o g1 k' s' o' g' h1 h2 h3 h4 hne => ?_, h.cell, h.base, h.top⟩
  · cases k with
    | zero => simp [sget, kget] at hk
    | succ k => simpa using h.ob k s o (by simpa [sget] using hk)
  · cases k with
    | zero => simp [sget, kget] at h1
    | succ k => cases k' with
      | zero => simp [sget, kget] at h3
      | succ k' => exact h.dis k s o g1 k' s' o' g' (by simpa [sget] using h1) (by simpa using h2) (by simpa [sget] using h3) (by simpa using h4) (by omega)

theorem params_get : ∀ (l : List AV) (i s : Nat) (x : AV), kget (params i l) s = some x → i ≤ s ∧ l[s - i]? = some x := by
  intro l
  induction l with
  | nil => intro i s x h; simp [params, kget] at h
  | cons y r ih =>
    intro i s x h
    simp only [params, kget] at h
    split at h
    · rename_i e
      subst e
      cases h
      exact ⟨Nat.le_refl _, by simp⟩
    · obtain ⟨h1, h2⟩ := ih (i + 1) s x h
      refine ⟨by omega, ?_⟩
      have : s - i = (s - (i + 1)) + 1 := by omega
      rw [this]
      simpa using h2

def exQ (e : Ex) (Q : Exit → Act → World → Prop) : Act → World → Prop := match e with
  | .normal => Q .normal
  | .exit id => Q (.exit id)
  | .ret => Q .ret

def CodeOK (P : Program) (C : Cfg) (k : Nat) : Prop := ∀ (f N : Nat) (c : Code) (st : St) (e : Ex) (st' : St), evCode P C k f N c st = some (e, st') → ∀ (w : World) (I : Nat → Nat → Prop) (B : Nat) (G : Gh) (a : Act), At P N B w I G st a → ∀ Q : Exit → Act → World → Prop,
  (∀ a' w' I' G', At P N B w' I' G' st' a' → Out w B I G st.S w' I' G' st'.S → exQ e Q a' w') → c.wp P Q a w ∧ ∀ b, c = .loop b → Code.rounds P b Q k a w

theorem call_sound (hO : OrcOK P C) {k : Nat} (h : CodeOK P C k) : CallOK P (callWith P C (evCode P C k)) := by
  intro g ys S0 r S' hc w I B G args hs hn ha
  unfold callWith at hc
  split at hc
  · rename_i q ho
    cases hc
    exact hO g ys S0 r S' ho w I B G args hs hn ha
  · split at hc
    · rename_i fn hf
      split at hc
      · rename_i c hb
        split at hc
        · rename_i hle
          have fin : ∀ e st', evCode P C k g fn.ntmps c { F := params 0 ys, L := [], S := S0 } = some (e, st') → (e = .normal ∨ e = .ret) → ((resultsA P st' fn.results.toList).map fun l => (asOne l, st'.S)) = some (r, S') →
              Calls P g args w fun e w' => ∃ v, e = .returned v ∧ ∃ I' G', Tr P B none w I G S0 w' I' G' S' ∧ RV P w' I' G' S' r v := by
            intro e st' he hex hr
            simp only [Option.map_eq_some_iff, Prod.mk.injEq] at hr
            obtain ⟨l, hl, rfl, rfl⟩ := hr
            have hat : At P fn.ntmps B w I ((fun _ => (0, undef)) :: G) { F := params 0 ys, L := [], S := S0 } { tmps := args ++ Array.replicate (fn.ntmps - args.size) undef, defers := [] } := by
              refine ⟨sr_push hs, fun s x hx => ?_, by simp; omega, rfl⟩
              obtain ⟨_, h2⟩ := params_get ys 0 s x hx
              simp only [Nat.sub_zero] at h2
              have hlt : s < args.size := by have := (List.getElem?_eq_some_iff.1 h2).1; omega
              refine ⟨args[s], ?_, ha s x _ h2 (Array.getElem?_eq_getElem hlt)⟩
              rw [Array.getElem?_append_left hlt]
              exact Array.getElem?_eq_getElem hlt
            refine calls_of_wp hf hb (h g fn.ntmps c _ e st' he w I B _ _ hat _ ?_).1
            intro a' w' I' G' h1 h2
            obtain ⟨v, hv, hrv⟩ := results_sound h1 hl
            have hpost : a'.defers = [] ∧ ∃ v, (results fn a'.tmps).run P w' = .ok v w' ∧ (∃ v', Ending.returned v = .returned v' ∧ ∃ I' G', Tr P B none w I G S0 w' I' G' st'.S ∧ RV P w' I' G' st'.S (asOne l) v') :=
              ⟨h1.defers, v, hv, v, rfl, I', G'.drop 1, ⟨h2.fut, by simpa using h2.evo, sr_tail h1.sr, h2.bel, h2.low⟩, hrv⟩
            rcases hex with rfl | rfl
            · exact hpost
            · exact hpost
          split at hc
          · cases hc
          · rename_i e st' hne he
            refine fin e st' he ?_ hc
            cases e with
            | normal => exact .inl rfl
            | ret => exact .inr rfl
            | exit id => exact (hne id rfl).elim
          · cases hc
        · cases hc
      · cases hc
    · cases hc

theorem code_sound (hO : OrcOK P C) (hE : EntOK P C) (hD : DrawOK P C) : ∀ k, CodeOK P C k := by
  intro k
  induction k with
  | zero => intro f N c st e st' h; simp [evCode] at h
  | succ k ih =>
    have hC := call_sound hO ih
    intro f N c st e st' h w I B G a ha Q hQ
    cases c with
    | skip =>
      simp only [evCode, Option.some.injEq, Prod.mk.injEq] at h
      obtain ⟨rfl, rfl⟩ := h
      exact ⟨wp_skip (hQ a w I G ha (Out.refl _ _ _ _ _)), by simp⟩
    | region id ops draw =>
      refine ⟨?_, by simp⟩
      simp only [evCode] at h
      split at h
      · rename_i hdr
        split at h
        · rename_i st1 hev
          simp only [Option.some.injEq, Prod.mk.injEq] at h
          obtain ⟨rfl, rfl⟩ := h
          obtain ⟨ha1, e1⟩ := at_at (C.live f id) ha
          obtain ⟨ha2, e2⟩ := at_fresh ops draw ha1
          have hQ' : ∀ a' w' I' G', At P N B w' I' G' st1 a' → Out w B I G ((st.at (C.live f id)).fresh ops draw).S w' I' G' st1.S → Q .normal a' w' := by
            rw [e2, e1]
            exact hQ
          cases draw with
          | false => exact wp_region (evOps_sound hC hE _ _ _ _ _ _ _ hev ha2 hQ')
          | true =>
            simp only [Bool.not_true, Bool.false_or] at hdr
            simp only [if_true] at hev
            refine wp_region_draw fun t => ?_
            have hw : ∀ (wd : World), wd = { w with drawn := w.drawn + 1 } → At P N B wd I G ((st.at (C.live f id)).fresh ops true) a := by
              rintro wd rfl
              refine ⟨⟨ha2.sr.len, fun k s o hk => ?_, ha2.sr.dis, ha2.sr.cell, ha2.sr.base, Top.move ha2.sr.top (Below.refl B w).drew⟩, fun s x hx => ?_, ha2.size, ha2.defers⟩
              · obtain ⟨g, hg, hok⟩ := ha2.sr.ob k s o hk
                exact ⟨g, hg, hok.move (w' := { w with drawn := w.drawn + 1 }) (fun b o h => ⟨h, rfl⟩) (Evo.refl none _ _) (obQuiet_none _) (fun _ _ => rfl) (fun _ _ _ => Iff.rfl)⟩
              · obtain ⟨u, hu, hr⟩ := ha2.fr s x hx
                exact ⟨u, hu, RV.move (w := w) (w' := { w with drawn := w.drawn + 1 }) (fun b o h => ⟨h, rfl⟩) (Evo.refl none _ _) hr (fun s hs => by cases hs)⟩
            refine hD _ hC N ops _ _ _ a _ I G B Q hdr hev (fun o ho d hd => ?_) (hw _ rfl) (fun a' w' I' G' h1 h2 => hQ' a' w' I' G' h1 ?_) _ _
            · simp only [St.fresh, if_true]
              cases hg : kget (dropDst ops.toList (st.at (C.live f id)).F) d with
              | none => rfl
              | some x => exact absurd hd ((dropDst_get _ _ _ _ hg).2 o ho)
            · exact ⟨fun b o h => h2.fut b o h, h2.evo, (Below.refl B w).drew.trans h2.bel, h2.low⟩
        · cases h
      · cases h
    | seq x y =>
      refine ⟨?_, by simp⟩
      simp only [evCode] at h
      refine wp_seq ?_
      split at h
      · rename_i st1 hx
        refine (ih f N x st _ st1 hx w I B G a ha _ fun a1 w1 I1 G1 h1 h2 => ?_).1
        refine (ih f N y st1 e st' h w1 I1 B G1 a1 h1 Q fun a' w' I' G' h3 h4 => hQ a' w' I' G' h3 (h2.trans h4)).1
      · rename_i hne
        refine (ih f N x st e st' h w I B G a ha _ fun a1 w1 I1 G1 h1 h2 => ?_).1
        have := hQ a1 w1 I1 G1 h1 h2
        cases e with
        | normal => exact absurd h (hne st')
        | exit id => exact this
        | ret => exact this
    | cond c x y =>
      refine ⟨?_, by simp⟩
      simp only [evCode] at h
      split at h
      · rename_i t hc
        have hb := rv_v (fr_eval ha.fr hc)
        refine wp_cond hb ?_
        cases t with
        | true => exact (ih f N x st e st' h w I B G a ha Q hQ).1
        | false => exact (ih f N y st e st' h w I B G a ha Q hQ).1
      · cases h
    | block id x =>
      refine ⟨?_, by simp⟩
      simp only [evCode] at h
      refine wp_block ?_
      split at h
      · rename_i j st1 hx
        split at h
        · rename_i hj
          subst hj
          simp only [Option.some.injEq, Prod.mk.injEq] at h
          obtain ⟨rfl, rfl⟩ := h
          refine (ih f N x st _ st1 hx w I B G a ha _ fun a1 w1 I1 G1 h1 h2 => ?_).1
          simp only [exQ, Exit.inBlock, if_true]
          exact hQ a1 w1 I1 G1 h1 h2
        · rename_i hj
          simp only [Option.some.injEq, Prod.mk.injEq] at h
          obtain ⟨rfl, rfl⟩ := h
          refine (ih f N x st _ st1 hx w I B G a ha _ fun a1 w1 I1 G1 h1 h2 => ?_).1
          simp only [exQ, Exit.inBlock, hj, if_false]
          exact hQ a1 w1 I1 G1 h1 h2
      · rename_i hne
        refine (ih f N x st e st' h w I B G a ha _ fun a1 w1 I1 G1 h1 h2 => ?_).1
        have := hQ a1 w1 I1 G1 h1 h2
        cases e with
        | normal => exact this
        | exit id => exact absurd h (hne id st')
        | ret => exact this
    | loop b =>
      have main : Code.rounds P b Q (k + 1) a w := by
        simp only [evCode] at h
        rw [rounds_succ]
        split at h
        · rename_i st1 hx
          refine (ih f N b st _ st1 hx w I B G a ha _ fun a1 w1 I1 G1 h1 h2 => ?_).1
          exact (ih f N (.loop b) st1 e st' h w1 I1 B G1 a1 h1 Q fun a' w' I' G' h3 h4 => hQ a' w' I' G' h3 (h2.trans h4)).2 b rfl
        · rename_i hne
          refine (ih f N b st e st' h w I B G a ha _ fun a1 w1 I1 G1 h1 h2 => ?_).1
          have := hQ a1 w1 I1 G1 h1 h2
          cases e with
          | normal => exact absurd h (hne st')
          | exit id => exact this
          | ret => exact this
      exact ⟨wp_loop_rounds (k + 1) main, fun b' e => by cases e; exact main⟩
    | exit id =>
      simp only [evCode, Option.some.injEq, Prod.mk.injEq] at h
      obtain ⟨rfl, rfl⟩ := h
      exact ⟨wp_exit (hQ a w I G ha (Out.refl _ _ _ _ _)), by simp⟩
    | ret =>
      simp only [evCode, Option.some.injEq, Prod.mk.injEq] at h
      obtain ⟨rfl, rfl⟩ := h
      exact ⟨wp_ret (hQ a w I G ha (Out.refl _ _ _ _ _)), by simp⟩
    | _ => simp [evCode] at h

theorem evCall_sound (hO : OrcOK P C) (hE : EntOK P C) (hD : DrawOK P C) (k : Nat) : CallOK P (evCall P C k) := call_sound hO (code_sound hO hE hD k)
end
end Go.Proofs.YtffjdcbegohmiaaDoor.Ev
