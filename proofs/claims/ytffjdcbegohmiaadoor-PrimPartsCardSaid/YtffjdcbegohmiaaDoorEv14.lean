/-
  Steps of a region; what a region begins with; results.
-/
import Derived.Test.YtffjdcbegohmiaaDoorEv13
namespace Go.Proofs.YtffjdcbegohmiaaDoor.Ev
open Go Go.RowKit

section
variable {P : Program} {C : Cfg} {w w' : World} {I I' : Nat → Nat → Prop} {B N : Nat} {G G' : Gh} {S S' : Stk} {st : St} {call : CallT} {a : Act}

structure At (P : Program) (N B : Nat) (w : World) (I : Nat → Nat → Prop) (G : Gh) (st : St) (a : Act) : Prop where
  sr : SR P w I B G (st.L :: st.S)
  fr : FR P w I G (st.L :: st.S) st.F a.tmps
  size : a.tmps.size = N
  defers : a.defers = []

/-- What the frames outside see. -/
structure Out (w : World) (B : Nat) (I : Nat → Nat → Prop) (G : Gh) (S : Stk) (w' : World) (I' : Nat → Nat → Prop) (G' : Gh) (S' : Stk) : Prop where
  fut : Fut w I w' I'
  evo : Evo none (G.drop 1) S (G'.drop 1) S'
  bel : Below B w w'
  low : ∀ b o, b < B → I' b o → I b o

theorem Out.refl (w : World) (B : Nat) (I : Nat → Nat → Prop) (G : Gh) (S : Stk) : Out w B I G S w I G S := ⟨Fut.refl _ _, Evo.refl _ _ _, Below.refl _ _, fun _ _ _ h => h⟩
theorem Out.trans {w1 : World} {I1 : Nat → Nat → Prop} {G1 : Gh} {S1 : Stk} (h : Out w B I G S w1 I1 G1 S1) (h' : Out w1 B I1 G1 S1 w' I' G' S') : Out w B I G S w' I' G' S' :=
  ⟨h.fut.trans h'.fut, h.evo.trans h'.evo, h.bel.trans h'.bel, fun b o hb hi => h.low b o hb (h'.low b o hb hi)⟩

theorem at_put {d : Option Nat} {L : Loc} {dst : Option Tmp} {x : AV} {u : Value} {st' : St} (ha : At P N B w I G st a) (tr : Tr P B d w I G (st.L :: st.S) w' I' G' (L :: S)) (hd : ∀ k, d = some k → dst = some k ∧ frSays k (kdel st.F k) = false) (rv : RV P w' I' G' (L :: S) x u)
    (hp : St.put N { st with L := L, S := S } dst x = some st') : At P N B w' I' G' st' (a.put dst u) ∧ Out w B I G st.S w' I' G' st'.S := by
  have hout : Out w B I G st.S w' I' G' S := ⟨tr.fut, evo_drop tr.evo 1 (by omega), tr.bel, tr.low⟩
  cases dst with
  | none =>
    simp only [St.put, Option.some.injEq] at hp
    subst hp
    refine ⟨⟨tr.sr, fun s y hy => ?_, ha.size, ha.defers⟩, hout⟩
    obtain ⟨v, hv, hr⟩ := ha.fr s y hy
    exact ⟨v, hv, hr.move tr.fut tr.evo fun k hk => absurd (hd k hk).1 (by simp)⟩
  | some k =>
    simp only [St.put] at hp
    split at hp
    · rename_i hk
      cases hp
      refine ⟨⟨tr.sr, fun s y hy => ?_, ?_, ha.defers⟩, hout⟩
      · simp only [kget_kset] at hy
        split at hy
        · rename_i hsk
          cases hy
          subst hsk
          have hlt : s < a.tmps.size := by rw [ha.size]; exact hk
          exact ⟨u, by simp [Act.put, hlt], rv⟩
        · rename_i hsk
          obtain ⟨v, hv, hr⟩ := ha.fr s y hy
          refine ⟨v, ?_, hr.move tr.fut tr.evo fun k' hk' => ?_⟩
          · have hne : k ≠ s := fun e => hsk e.symm
            simpa [Act.put, Array.getElem?_setIfInBounds_ne hne] using hv
          · obtain ⟨e1, e2⟩ := hd k' hk'
            cases e1
            exact frSays_false e2 s y (by rw [kget_kdel]; simpa [hsk] using hy) k rfl
      · simpa [Act.put] using ha.size
    · cases hp

theorem wanted_sound {ops : Array Oper} {o : Oper} {F : Fr} {b : Bool} (hf : FR P w I G S F a.tmps) (h : wantedA ops F o = some b) : Region.wanted o (yielded ops a.tmps) = b := by
  unfold wantedA at h
  unfold Region.wanted
  cases hg : o.guard with
  | none => simp [hg] at h; simp [h]
  | some gw =>
    obtain ⟨j, want⟩ := gw
    simp only [hg] at h ⊢
    unfold yielded
    cases hd : (ops[j]?).bind (·.dst) with
    | none => simp [hd] at h; simp [h]
    | some d =>
      simp only [hd] at h
      split at h
      · rename_i c hc
        obtain ⟨u, hu, hr⟩ := hf d _ hc
        cases rv_v hr
        cases h
        simp only [Option.bind_some, hu]
        cases c <;> cases want <;> rfl
      · rename_i c hc
        obtain ⟨u, hu, hr⟩ := hf d _ hc
        cases rv_v hr
        cases h
        simp only [Option.bind_some, hu]
        rfl
      · cases h

theorem step1_sound (hC : CallOK P call) (hE : EntOK P C) {ops : Array Oper} {cl : Nat → Nat} {i : Nat} {st' : St} {K : Act → World → Prop} {Q : Exit → Act → World → Prop} (h : step1 P C call N ops cl i st = some st') (ha : At P N B w I G st a)
    (hK : ∀ a' w' I' G', At P N B w' I' G' st' a' → Out w B I G st.S w' I' G' st'.S → K a' w') : wpOp P ops Q i K a w := by
  unfold step1 at h
  unfold wpOp
  cases ho : ops[i]? with
  | none =>
    simp only [ho, Option.some.injEq] at h
    subst h
    exact hK a w I G ha (Out.refl _ _ _ _ _)
  | some o =>
    simp only [ho] at h ⊢
    split at h
    · rename_i hw
      have hw2 := wanted_sound ha.fr hw
      simp only [hw2, if_true]
      refine .inl ?_
      split at h
      · rename_i x L S hev
        refine evOp_sound hC hE ha.sr ha.fr hev fun d w' I' G' u hd tr rv => ?_
        obtain ⟨h1, h2⟩ := at_put ha tr hd rv h
        exact hK _ _ _ _ h1 h2
      · cases h
    · rename_i hw
      have hw2 := wanted_sound ha.fr hw
      simp only [hw2, Bool.false_eq_true, if_false]
      obtain ⟨h1, h2⟩ := at_put (d := none) (L := st.L) (S := st.S) (u := undef) ha (Tr.refl ha.sr) (fun k hk => by cases hk) (.dat (.v _)) h
      exact hK _ _ _ _ h1 h2
    · cases h

theorem evOps_sound (hC : CallOK P call) (hE : EntOK P C) {ops : Array Oper} {cl : Nat → Nat} {Q : Exit → Act → World → Prop} : ∀ (l : List Nat) (st st' : St) (a : Act) (w : World) (I : Nat → Nat → Prop) (G : Gh), evOps P C call N ops cl l st = some st' → At P N B w I G st a →
    (∀ a' w' I' G', At P N B w' I' G' st' a' → Out w B I G st.S w' I' G' st'.S → Q .normal a' w') → wpOps P ops Q l a w := by
  intro l
  induction l with
  | nil =>
    intro st st' a w I G h ha hK
    simp only [evOps, Option.some.injEq] at h
    subst h
    exact hK a w I G ha (Out.refl _ _ _ _ _)
  | cons i r ih =>
    intro st st' a w I G h ha hK
    simp only [evOps] at h
    split at h
    · rename_i st1 h1
      rw [wpOps_cons]
      refine step1_sound hC hE h1 ha fun a1 w1 I1 G1 ha1 ho1 => ?_
      exact ih st1 st' a1 w1 I1 G1 h ha1 fun a' w' I' G' h2 h3 => hK a' w' I' G' h2 (ho1.trans h3)
    · cases h

/-! ### A region's begin -/
theorem says_frSays {F : Fr} {s t : Nat} {x : AV} (h : kget F t = some x) (hx : x.says s = true) : frSays s F = true := by
  cases hf : frSays s F with
  | true => rfl
  | false =>
    have := frSays_false hf t x h s rfl
    rw [hx] at this
    cases this
theorem says_locSays {L : Loc} {s q : Nat} {t : TypeId} {cs : List AV} {i : Nat} {x : AV} (h : kget L q = some (.blk t cs)) (hi : cs[i]? = some x) (hx : x.says s = true) : locSays s L = true := by
  cases hf : locSays s L with
  | true => rfl
  | false =>
    have := locSays_false hf q _ h i x hi s rfl
    rw [hx] at this
    cases this
theorem sayss_get {s : Nat} {cs : List AV} {i : Nat} {x : AV} (h : cs[i]? = some x) (hx : x.says s = true) : sayss s cs = true := by
  cases hf : sayss s cs with
  | true => rfl
  | false =>
    have := sayss_false hf i x h
    rw [hx] at this
    cases this

/-- Objects that nothing speaks of may be forgotten. -/
theorem RV.keep {L L' : Loc} {S : Stk} {x : AV} {u : Value} (h : RV P w I G (L :: S) x u) : (∀ s, x.says s = true → kget L' s = kget L s) → RV P w I G (L' :: S) x u := by
  generalize hS : (L :: S) = S0 at h
  induction h with
  | dat h => exact fun _ => .dat h
  | agg cs vs hl h ih => intro hk; exact .agg cs vs hl fun i x u hx hu => ih i x u hx hu fun s hs => hk s (by simp only [AV.says]; exact sayss_get hx hs)
  | tup cs vs hl h ih => intro hk; exact .tup cs vs hl fun i x u hx hu => ih i x u hx hu fun s hs => hk s (by simp only [AV.says]; exact sayss_get hx hs)
  | ptr k s off g hg => exact fun _ => .ptr k s off g hg
  | ref cs ad hs u h => exact fun _ => .ref cs ad hs u h
  | row k s n g e sz xs val hg hS1 hn hd hl =>
    intro hk
    refine .row k s n g e sz xs val hg ?_ hn hd hl
    rw [← hS] at hS1
    cases k with
    | zero =>
      simp only [sget] at hS1 ⊢
      rw [hk s (by simp [AV.says])]
      exact hS1
    | succ k => simpa [sget] using hS1
  | clo f caps vs hl h ih => intro hk; exact .clo f caps vs hl fun i x u hx hu => ih i x u hx hu fun s hs => hk s (by simp only [AV.says]; exact sayss_get hx hs)
  | ifc t h ih => intro hk; exact .ifc t (ih fun s hs => hk s (by simpa only [AV.says] using hs))

theorem at_at (ks : Option (List Nat)) (ha : At P N B w I G st a) : At P N B w I G (st.at ks) a ∧ (st.at ks).S = st.S := by
  cases ks with
  | none => exact ⟨ha, rfl⟩
  | some ks =>
    refine ⟨⟨?_, ?_, ha.size, ha.defers⟩, rfl⟩
    · simp only [St.at]
      have sub : ∀ k s o, sget (locGc (kkeep ks st.F) st.L st.L :: st.S) k s = some o → sget (st.L :: st.S) k s = some o := by
        intro k s o h
        cases k with
        | zero =>
          simp only [sget, kget_locGc] at h ⊢
          split at h
          · exact h
          · cases h
        | succ k => simpa [sget] using h
      refine ⟨by have := ha.sr.len; simpa using this, fun k s o h => ?_, fun k s o g k' s' o' g' h1 h2 h3 h4 => ha.sr.dis k s o g k' s' o' g' (sub _ _ _ h1) h2 (sub _ _ _ h3) h4, ha.sr.cell, ha.sr.base, ha.sr.top⟩
      obtain ⟨g, hg, hok⟩ := ha.sr.ob k s o (sub k s o h)
      refine ⟨g, hg, ?_⟩
      cases k with
      | succ k => simpa using hok
      | zero =>
        simp only [List.drop_zero] at hok ⊢
        have h0 := sub 0 s o h
        simp only [sget] at h0
        cases hok with
        | blk t cs arr hB hI hb hl h1 hr =>
          refine .blk t cs arr hB hI hb hl h1 fun i x u hx hu => (hr i x u hx hu).keep fun q hq => ?_
          rw [kget_locGc, says_locSays h0 hx hq]
          simp
        | row e sz xs cells hz h00 ho hl hd hv hI => exact .row e sz xs cells hz h00 ho hl hd hv hI
    · intro s x hx
      simp only [St.at] at hx ⊢
      have hx0 : kget st.F s = some x := by
        rw [kget_kkeep] at hx
        split at hx
        · exact hx
        · cases hx
      obtain ⟨u, hu, hr⟩ := ha.fr s x hx0
      refine ⟨u, hu, hr.keep fun q hq => ?_⟩
      rw [kget_locGc, says_frSays hx hq]
      simp

theorem dropDst_get : ∀ (l : List Oper) (F : Fr) (s : Nat) (x : AV), kget (dropDst l F) s = some x → kget F s = some x ∧ ∀ o ∈ l, o.dst ≠ some s := by
  intro l
  induction l with
  | nil => intro F s x h; exact ⟨h, by simp⟩
  | cons o r ih =>
    intro F s x h
    simp only [dropDst] at h
    cases hd : o.dst with
    | none =>
      simp only [hd] at h
      obtain ⟨h1, h2⟩ := ih F s x h
      refine ⟨h1, fun o' ho' => ?_⟩
      rcases List.mem_cons.1 ho' with rfl | ho'
      · rw [hd]; simp
      · exact h2 o' ho'
    | some d =>
      simp only [hd, kget_kdel] at h
      split at h
      · cases h
      · rename_i hne
        obtain ⟨h1, h2⟩ := ih F s x h
        refine ⟨h1, fun o' ho' => ?_⟩
        rcases List.mem_cons.1 ho' with rfl | ho'
        · rw [hd]; simp; exact fun e => hne e.symm
        · exact h2 o' ho'
theorem at_fresh (ops : Array Oper) (draw : Bool) (ha : At P N B w I G st a) : At P N B w I G (st.fresh ops draw) a ∧ (st.fresh ops draw).S = st.S := by
  cases draw with
  | false => exact ⟨ha, rfl⟩
  | true => exact ⟨⟨ha.sr, fun s x hx => ha.fr s x (dropDst_get _ _ _ _ hx).1, ha.size, ha.defers⟩, rfl⟩

/-! ### Results -/
def res1 (tmps : Array Value) (r : ResultVar) : Sem Value := match r with
  | .tmp t => pure (tmps.getD t undef)
  | .cell ad t => do loadVar t (← asAddr (tmps.getD ad undef))
theorem results_res1 (fn : Func) (tmps : Array Value) : results fn tmps = (do let vs ← fn.results.mapM (res1 tmps); pure (if h : vs.size = 1 then vs[0] else .tuple vs)) := by
  unfold results
  congr 1
theorem result_sound {r : ResultVar} {x : AV} (ha : At P N B w I G st a) (h : oneResult P st r = some x) :
    ∃ u, (res1 a.tmps r).run P w = .ok u w ∧ RV P w I (G.drop 1) st.S x u := by
  have fin : ∀ {y : AV} {u : Value}, RV P w I G (st.L :: st.S) y u → ((y.frz false (st.L :: st.S)).bind fun z => z.down 1) = some x → RV P w I (G.drop 1) st.S x u := by
    intro y u hr hx
    obtain ⟨z, hz, hd⟩ := Option.bind_eq_some_iff.1 hx
    exact (hr.frz z hz).down x hd
  cases r with
  | tmp t =>
    simp only [oneResult] at h
    split at h
    · rename_i y hy
      obtain ⟨u, hu, hr⟩ := ha.fr t y hy
      exact ⟨u, by simp [res1, Array.getD_eq_getD_getElem?, hu], fin hr h⟩
    · cases h
  | cell ad t =>
    simp only [oneResult] at h
    split at h
    · rename_i k s off hp
      split at h
      · rename_i t' cs hS
        obtain ⟨z, hz, hx⟩ := Option.bind_eq_some_iff.1 h
        obtain ⟨v, hv, hr0⟩ := ha.fr ad _ hp
        obtain ⟨g, hg, rfl⟩ := ptr_inv hr0
        obtain ⟨arr, hb, hl, _, hc⟩ := blk_cells ha.sr hS hg
        obtain ⟨u, hr, hu⟩ := load_sound (w := w) (b := (g s).1) (off := off) (G := G.drop k) (S := (st.L :: st.S).drop k) (fun j x hx => by
          rw [List.getElem?_drop] at hx
          have hj : off + j < arr.size := by have := (List.getElem?_eq_some_iff.1 hx).1; omega
          exact ⟨arr[off + j], by simp [World.cell?, hb, hj], hc _ x _ hx (Array.getElem?_eq_getElem hj)⟩) hz
        refine ⟨u, ?_, fin hu.up hx⟩
        simp [res1, Array.getD_eq_getD_getElem?, hv, asAddr, hr]
      · cases h
    · cases h

theorem resultsA_sound : ∀ (l : List ResultVar) (xs : List AV), At P N B w I G st a → resultsA P st l = some xs →
    ∃ us : List Value, (l.mapM (res1 a.tmps)).run P w = .ok us w ∧ us.length = xs.length ∧
      ∀ (i : Nat) (x : AV) (u : Value), xs[i]? = some x → us[i]? = some u → RV P w I (G.drop 1) st.S x u := by
  intro l
  induction l with
  | nil =>
    intro xs ha h
    simp only [resultsA, Option.some.injEq] at h
    subst h
    exact ⟨[], by simp, rfl, by simp⟩
  | cons r l ih =>
    intro xs ha h
    simp only [resultsA] at h
    split at h
    · rename_i x ys hx hys
      cases h
      obtain ⟨u, hr, hu⟩ := result_sound ha hx
      obtain ⟨us, h1, h2, h3⟩ := ih ys ha hys
      refine ⟨u :: us, ?_, by simp [h2], fun i y v hy hv => ?_⟩
      · rw [List.mapM_cons]
        simp only [Sem.run_bind, hr, Result.andThen_ok, h1, Sem.run_pure]
      · cases i with
        | zero => simp at hy hv; subst hy; subst hv; exact hu
        | succ i => exact h3 i y v (by simpa using hy) (by simpa using hv)
    · cases h

theorem results_sound {fn : Func} {xs : List AV} (ha : At P N B w I G st a) (h : resultsA P st fn.results.toList = some xs) : ∃ v, (results fn a.tmps).run P w = .ok v w ∧ RV P w I (G.drop 1) st.S (asOne xs) v := by
  obtain ⟨us, h1, h2, h3⟩ := resultsA_sound _ _ ha h
  have hm : (results fn a.tmps).run P w = .ok (if h : us.toArray.size = 1 then us.toArray[0] else .tuple us.toArray) w := by
    rw [results_res1, Array.mapM_eq_mapM_toList]
    simp only [Sem.run_bind, Sem.run_map, h1, Result.andThen_ok, Sem.run_pure]
  refine ⟨_, hm, ?_⟩
  clear hm h h1
  match xs, us, h2, h3 with
  | [x], [u], _, h3 => exact h3 0 x u rfl rfl
  | [], [], _, _ => exact .tup [] #[] rfl (fun i x u hx => by simp at hx)
  | x :: y :: r, u :: v :: q, hl, h3 =>
    have hne : ¬ ((u :: v :: q).toArray.size = 1) := by simp
    rw [dif_neg hne]
    exact .tup _ _ (by simpa using hl.symm) fun i x u hx hu => h3 i x u hx (by simpa using hu)
end
end Go.Proofs.YtffjdcbegohmiaaDoor.Ev
