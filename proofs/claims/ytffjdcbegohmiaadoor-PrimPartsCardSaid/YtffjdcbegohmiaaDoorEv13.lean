/-
  Operations, calls among them.
-/
import Derived.Test.YtffjdcbegohmiaaDoorEv12
import Derived.Conc.MuLone
namespace Go.Proofs.YtffjdcbegohmiaaDoor.Ev
open Go Go.RowKit

section
variable {P : Program} {C : Cfg} {w : World} {I : Nat → Nat → Prop} {B : Nat} {G : Gh} {S : Stk} {st : St} {call : CallT}

/-- What a call may go on with. -/
abbrev CallsTo (P : Program) (B : Nat) (w : World) (I : Nat → Nat → Prop) (G : Gh) (st : St) (x : AV) (L : Loc) (S : Stk) (e : Ending) (w' : World) : Prop :=
  ∃ v, e = .returned v ∧ ∃ I' G', Tr P B none w I G (st.L :: st.S) w' I' G' (L :: S) ∧ RV P w' I' G' (L :: S) x v

theorem evCallOp_sound (hC : CallOK P call) {cl : Nat} {g : FuncId} {ys : List AV} {x : AV} {L : Loc} {args : Array Value} (h : evCallOp C call cl st g ys = some (x, L, S)) (hs : SR P w I B G (st.L :: st.S)) (hn : args.size = ys.length)
    (ha : ∀ (i : Nat) (y : AV) (u : Value), ys[i]? = some y → args[i]? = some u → RV P w I G (st.L :: st.S) y u) : Calls P g args w (CallsTo P B w I G st x L S) := by
  -- a call of what hangs on no store
  have low : ∀ (zs : List AV) (r : AV) (S' : Stk), zs.length = ys.length → (∀ (i : Nat) (y : AV) (u : Value), zs[i]? = some y → args[i]? = some u → RV P w I G (st.L :: st.S) y u) → noStks zs = true → call g zs [] = some (r, S') → r.noStk = true →
      Calls P g args w (CallsTo P B w I G st r st.L st.S) := by
    intro zs r S' hl hz hns hc hr
    refine (hC g zs [] r S' hc w I w.heap.size [] args (sr_free hs) (by omega) fun i y u hy hu => (hz i y u hy hu).free (noStks_get hns i y hy) _ _).mono ?_
    rintro e w' ⟨v, rfl, I', G', h1, h2⟩
    exact ⟨v, rfl, I', G, tr_back hs h1, h2.free hr _ _⟩
  unfold evCallOp at h
  split at h
  · rename_i hns
    split at h
    · rename_i r S' hc
      split at h
      · rename_i hr
        simp only [Option.some.injEq, Prod.mk.injEq] at h
        obtain ⟨rfl, rfl, rfl⟩ := h
        exact low ys r S' rfl ha hns hc hr
      · cases h
    · cases h
  · split at h
    · cases h
    · split at h
      · split at h
        · rename_i zs hz
          split at h
          · rename_i r S' hc
            split at h
            · rename_i hr
              simp only [Option.some.injEq, Prod.mk.injEq] at h
              obtain ⟨rfl, rfl, rfl⟩ := h
              obtain ⟨h1, h2⟩ := snaps_some hz
              refine (hC g zs [] r S' hc w (withVars I G (st.L :: st.S)) w.heap.size [] args (sr_vars hs) (by omega) fun i y u hy hu => ?_).mono ?_
              · obtain ⟨y0, hy0, hy1⟩ := h2 i y hy
                exact (ha i y0 u hy0 hu).snap hs _ _ y hy1
              · rintro e w' ⟨v, rfl, I', G', h3, h4⟩
                refine ⟨v, rfl, I, G, tr_more hs h3.bel (fun _ _ _ => Iff.rfl) (fun b j hb => ?_), h4.scal hr _ _ _ _⟩
                obtain ⟨u, hu⟩ := hs.cell b j hb
                exact ⟨u, (h3.bel.cell (p := ⟨b, j, none⟩) (World.block_lt_of_cell? w _ hu)).trans hu⟩
            · cases h
          · cases h
        · cases h
      · split at h
        · rename_i zs hz
          have hzs : zs.length = ys.length ∧ ∀ (i : Nat) (y : AV) (u : Value), zs[i]? = some y → args[i]? = some u → RV P w I G (st.L :: st.S) y u := by
            split at hz
            · cases hz
              exact ⟨rfl, ha⟩
            · obtain ⟨h1, h2⟩ := frzs_some hz
              refine ⟨h1.symm, fun i y u hy hu => ?_⟩
              obtain ⟨y0, hy0, hy1⟩ := h2 i y hy
              exact (ha i y0 u hy0 hu).frz y hy1
          split at h
          · rename_i hns
            split at h
            · rename_i r S' hc
              split at h
              · rename_i hr
                simp only [Option.some.injEq, Prod.mk.injEq] at h
                obtain ⟨rfl, rfl, rfl⟩ := h
                exact low zs r S' hzs.1 hzs.2 hns hc hr
              · cases h
            · cases h
          · split at h
            · cases h
            · split at h
              · rename_i r L' S' hc
                simp only [Option.some.injEq, Prod.mk.injEq] at h
                obtain ⟨rfl, rfl, rfl⟩ := h
                refine (hC g _ _ _ _ hc w I B G args hs (by rw [ups_length]; omega) fun i y u hy hu => ?_).mono ?_
                · rw [ups_get, Option.map_eq_some_iff] at hy
                  obtain ⟨y0, hy0, rfl⟩ := hy
                  exact RV.up (k := 1) (G := (fun _ => (0, undef)) :: G) (S := [] :: st.L :: st.S) (hzs.2 i y0 u hy0 hu)
                · rintro e w' ⟨v, rfl, I', G', h3, h4⟩
                  exact ⟨v, rfl, I', G', h3, h4⟩
              · cases h
        · cases h

/-- The functions that may be called have bodies. -/
def EntOK (P : Program) (C : Cfg) : Prop := ∀ g, C.ent g = true → ∃ fn c, P.funcs[g]? = some fn ∧ (fn.name == "runtime.NumGoroutine") = false ∧ fn.body = some c

theorem evals_args {a : Act} {l : List Operand} {ys : List AV} (hf : FR P w I G (st.L :: st.S) st.F a.tmps) (h : evals st l = some ys) : ∀ (i : Nat) (y : AV) (u : Value), ys[i]? = some y → (l.map a.eval)[i]? = some u → RV P w I G (st.L :: st.S) y u := by
  intro i y u hy hu
  obtain ⟨z, hz, hr⟩ := evals_rv hf h i y hy
  rw [List.getElem?_map, hz] at hu
  cases hu
  exact hr

theorem callee_sound {a : Act} {o : Oper} {g : FuncId} {ys : List AV} (hE : EntOK P C) (he : C.ent g = true) (hf : FR P w I G (st.L :: st.S) st.F a.tmps) (h : calleeOf P st o = some (g, ys)) :
    ∃ args : Array Value, (execOp a.eval o).run P w = .ok (.enter g args) w ∧ args.size = ys.length ∧ ∀ (i : Nat) (y : AV) (u : Value), ys[i]? = some y → args[i]? = some u → RV P w I G (st.L :: st.S) y u := by
  obtain ⟨fn, c0, hfn, hname, hb⟩ := hE g he
  have hent := fun args w => MuLone.run_callFunc_enter (P := P) hfn hname hb args w
  unfold calleeOf at h
  split at h
  · rename_i c hop
    split at h
    · rename_i f hcal
      split at h
      · rename_i g' fs cs zs hv hz
        split at h
        · rename_i h0
          simp only [Option.some.injEq, Prod.mk.injEq] at h
          obtain ⟨rfl, rfl⟩ := h
          have e := rv_v (fr_eval hf hv)
          have h1 : fs = #[] := Array.eq_empty_of_size_eq_zero h0.1
          have h2 : cs = #[] := Array.eq_empty_of_size_eq_zero h0.2
          subst h1; subst h2
          refine ⟨c.args.map a.eval, ?_, ?_, ?_⟩
          · unfold execOp
            simp [hop, resolve, hcal, e, Deferred.ofValue, invoke, hent]
          · have := (evals_some hz).1
            simp; simpa using this.symm
          · intro i y u hy hu
            exact evals_args hf hz i y u hy (by simpa using hu)
        · cases h
      · rename_i g' caps zs hv hz
        simp only [Option.some.injEq, Prod.mk.injEq] at h
        obtain ⟨rfl, rfl⟩ := h
        have hr := fr_eval hf hv
        obtain ⟨vs, e, hl, hc⟩ : ∃ vs : Array Value, a.eval f = .func (.func g') #[] vs ∧ caps.length = vs.size ∧ ∀ (i : Nat) (x : AV) (u : Value), caps[i]? = some x → vs[i]? = some u → RV P w I G (st.L :: st.S) x u := by
          generalize a.eval f = v at hr
          cases hr with
          | dat hd => cases hd
          | clo _ _ vs hl h => exact ⟨vs, rfl, hl, h⟩
        have hlen : zs.length = c.args.size := by rw [(evals_some hz).1]; exact Array.length_toList
        refine ⟨c.args.map a.eval ++ vs, ?_, ?_, ?_⟩
        · unfold execOp
          simp [hop, resolve, hcal, e, Deferred.ofValue, invoke, hent]
        · simp only [Array.size_append, Array.size_map, List.length_append, hl, hlen]
        · intro i y u hy hu
          rw [List.getElem?_append] at hy
          rw [Array.getElem?_append] at hu
          simp only [Array.size_map] at hu
          split at hy
          · rename_i hi
            rw [if_pos (by omega)] at hu
            exact evals_args hf hz i y u hy (by simpa using hu)
          · rename_i hi
            rw [if_neg (by omega)] at hu
            rw [hlen] at hy
            exact hc _ y u hy hu
      · cases h
    · split at h
      · rename_i g' args hpl
        simp only [Option.some.injEq, Prod.mk.injEq] at h
        obtain ⟨rfl, rfl⟩ := h
        refine ⟨args, run_plain hf hpl, by simp, fun i y u hy hu => ?_⟩
        rw [List.getElem?_map, Option.map_eq_some_iff] at hy
        obtain ⟨v, hv, rfl⟩ := hy
        rw [Array.getElem?_toList, hu] at hv
        cases hv
        exact rv_ofVal u
      · cases h
    · cases h
  · cases h

theorem evOp_sound (hC : CallOK P call) (hE : EntOK P C) {cl : Nat} {a : Act} {next : Act → World → Prop} {Q : Exit → Act → World → Prop} {o : Oper} {x : AV} {L : Loc} (hs : SR P w I B G (st.L :: st.S)) (hf : FR P w I G (st.L :: st.S) st.F a.tmps)
    (h : evOp P C call cl st o = some (x, L, S)) (hk : Goes P B w I G st o.dst x L S fun u w' => next (a.put o.dst u) w') : o.wp P a w next Q := by
  have plain : (match st.plain P o with | some nx => ofNext st nx | none => none) = some (x, L, S) → o.wp P a w next Q := by
    intro h
    split at h
    · rename_i nx hp
      have hr := run_plain hf hp
      cases nx with
      | value y =>
        simp only [ofNext, Option.some.injEq, Prod.mk.injEq] at h
        obtain ⟨rfl, rfl, rfl⟩ := h
        exact wp_of_run hr (goes_same hs hk (rv_ofVal y))
      | skip =>
        simp only [ofNext, Option.some.injEq, Prod.mk.injEq] at h
        obtain ⟨rfl, rfl, rfl⟩ := h
        exact wp_of_skip hr (goes_same hs hk (.dat (.v _)))
      | _ => simp [ofNext] at h
    · cases h
  unfold evOp at h
  split at h
  · rename_i g ys hc
    split at h
    · rename_i he
      obtain ⟨args, hrun, hn, ha⟩ := callee_sound hE he hf hc
      unfold Oper.wp
      rw [hrun, Oper.upon_enter]
      refine (evCallOp_sound hC h hs hn ha).mono ?_
      rintro e w' ⟨v, rfl, I', G', h1, h2⟩
      exact hk none w' I' G' v (fun _ h => by cases h) h1 h2
    · exact plain h
  · split at h
    · rename_i r hm
      cases h
      exact evMem_sound o.op w I B G st a next Q o x L S rfl hs hf hm hk
    · split at h
      · cases h
      · exact plain h
end
end Go.Proofs.YtffjdcbegohmiaaDoor.Ev
