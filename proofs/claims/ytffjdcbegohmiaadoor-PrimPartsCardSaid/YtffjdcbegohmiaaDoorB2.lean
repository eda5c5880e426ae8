/-
  The library's contracts hold: strings.Fields of the names, errors.As at an About and at a Kind; what stands in memory from the start.
-/
import Derived.Test.YtffjdcbegohmiaaDoorB1
import Derived.Test.YtffjdcbegohmiaaDoorAs
import Derived.Test.YtffjdcbegohmiaaDoorShelf
import Derived.WalkSmall
namespace Go.Proofs.YtffjdcbegohmiaaDoor.Ev
open Go Go.RowKit Go.Lib

theorem ent_ok (o : FuncId → List AV → Stk → Option (List (Bool × AV × Stk))) : EntOK Tryd.prog (cfgOf o) := by
  have all : (bodies.all fun g => match Tryd.prog.funcs[g]? with
    | some fn => fn.body.isSome && !(fn.name == "runtime.NumGoroutine")
    | none => false) = true := by kernel_rfl
  intro g hg
  have hm : g ∈ bodies := by simpa [cfgOf] using hg
  have h := List.all_eq_true.1 all g hm
  split at h
  · rename_i fn hf
    simp only [Bool.and_eq_true, Bool.not_eq_true'] at h
    obtain ⟨c, hc⟩ := Option.isSome_iff_exists.1 h.1
    exact ⟨fn, c, hf, h.2, hc⟩
  · cases h

section
variable {P : Program} {w : World} {I : Nat → Nat → Prop} {B : Nat} {G : Gh} {S : Stk}
theorem rv_v1 {x u : Value} (h : RV P w I G S (.v x) u) : u = x := by
  cases h with
  | dat h => cases h; rfl
theorem rv_ptr1 {k s off : Nat} {u : Value} (h : RV P w I G S (.ptr k s off) u) : ∃ g : Nat → Nat × Value, G[k]? = some g ∧ u = .pointer (some ⟨(g s).1, off, none⟩) := by
  cases h with
  | dat h => cases h
  | ptr k s off g hg => exact ⟨g, hg, rfl⟩
theorem rv_ifc1 {t : TypeId} {x : AV} {u : Value} (h : RV P w I G S (.ifc t x) u) : ∃ v, u = .iface t v ∧ RV P w I G S x v := by
  cases h with
  | dat h => cases h
  | ifc t h => exact ⟨_, rfl, h⟩
end

theorem Tr.trans {P : Program} {B : Nat} {d : Option Nat} {w w1 w2 : World} {I I1 I2 : Nat → Nat → Prop} {G G1 G2 : Gh} {S S1 S2 : Stk} (h : Tr P B d w I G S w1 I1 G1 S1) (h' : Tr P B d w1 I1 G1 S1 w2 I2 G2 S2) : Tr P B d w I G S w2 I2 G2 S2 :=
  ⟨h.fut.trans h'.fut, h.evo.trans h'.evo, h'.sr, h.bel.trans h'.bel, fun b o hb hi => h.low b o hb (h'.low b o hb hi)⟩

theorem eqS_eq {a b : ByteArray} (h : eqS a b = true) : a = b := by
  rw [eqS, eqL_iff] at h
  exact WideShapes.bytes_inj (eq_of_beq h)

theorem fields_names : fields namesT.data.toList = namesL.map fun s => s.data.toList := by kernel_rfl
theorem ascii_names : (namesT.data.toList.all fun b => decide (b.toNat < 128)) = true := by kernel_rfl

theorem fields_ok {w : World} {I : Nat → Nat → Prop} {B : Nat} {G : Gh} {S : Stk} (hs : SR Tryd.prog w I B G S) :
    Calls Tryd.prog 55 #[.string namesT] w fun e w' => ∃ v, e = .returned v ∧ ∃ I' G', Tr Tryd.prog B none w I G S w' I' G' S ∧ RV Tryd.prog w' I' G' S (strs 9 namesL) v := by
  refine (Tryd.strings_Fields namesT w (of_decide_eq_true (by kernel_rfl)) (fun j b h => by simpa using List.all_eq_true.1 ascii_names b (List.mem_of_getElem? h)) hs.top.2.1).mono ?_
  rintro e w' ⟨rfl, rfl⟩
  rw [fields_names]
  have hcells : ((namesL.map fun s => s.data.toList).map fun l => Value.string ⟨l.toArray⟩) = namesL.map Value.string := by
    rw [List.map_map]
    apply List.map_congr_left
    intro s _
    simp
  rw [hcells, List.length_map]
  have hc : ∀ o, o < namesL.length → (w.alloc (.cells (namesL.map Value.string).toArray 9)).cell? ⟨w.heap.size, o, none⟩ = (namesL[o]?).map Value.string := by
    intro o ho
    rw [World.cell?_alloc_at _ _ _ _ rfl]
    simp
  have hlen : (namesL.map fun s => [AV.v (.string s)]).length = namesL.length := List.length_map ..
  refine ⟨_, rfl, _, _, tr_block hs namesL.length ((Below.refl _ _).alloc (Nat.le_refl _) _) (fun o ho => ?_), .dat ?_⟩
  · rw [hc o ho, List.getElem?_eq_getElem ho]
    exact ⟨_, rfl⟩
  · have := DV.lst (P := Tryd.prog) (w := w.alloc (.cells (namesL.map Value.string).toArray 9)) (I := withBlock I w.heap.size namesL.length) 9 (namesL.map fun s => [AV.v (.string s)]) (some ⟨w.heap.size, 0, none⟩) namesL.length 1
      (fun i _ => .string (namesL.getD i ByteArray.empty)) (by rw [hlen]; exact Nat.le_refl _) (by kernel_rfl)
      (fun i cs h => by rw [List.getElem?_map, Option.map_eq_some_iff] at h; obtain ⟨a, _, rfl⟩ := h; rfl)
      (fun _ => ⟨_, rfl, rfl, fun i j hi hj => by
        obtain rfl : j = 0 := by omega
        rw [hlen] at hi
        simp only [Nat.mul_one, Nat.add_zero, Nat.zero_add]
        rw [hc i hi]
        refine ⟨by simp [hi], .inr ⟨rfl, hi⟩⟩⟩)
      (fun i cs j x h hx => by
        rw [List.getElem?_map, Option.map_eq_some_iff] at h
        obtain ⟨a, _, rfl⟩ := h
        cases j with
        | zero => simp at hx; subst hx; rfl
        | succ j => simp at hx)
      (fun i cs j x h hx => by
        rw [List.getElem?_map, Option.map_eq_some_iff] at h
        obtain ⟨a, ha, rfl⟩ := h
        cases j with
        | zero =>
          simp at hx; subst hx
          simp only [List.getD, ha, Option.getD_some]
          exact .v _
        | succ j => simp at hx)
    rw [hlen] at this
    exact this

section
variable {w : World} {I : Nat → Nat → Prop} {B : Nat} {G : Gh} {S : Stk}

theorem below_hit (w : World) (t : Nat) (a b : Value) : Below w.heap.size w (As.hitW w t a b) := by
  unfold As.hitW
  refine Below.alloc (Below.alloc (Below.alloc (Below.alloc (Below.refl _ _) (Nat.le_refl _) _) ?_ _) ?_ _) ?_ _ <;> simp <;> omega
theorem below_miss (w : World) (t : Nat) : Below w.heap.size w (As.missW w t) := by
  unfold As.missW
  refine Below.alloc (Below.alloc (Below.alloc (Below.refl _ _) (Nat.le_refl _) _) ?_ _) ?_ _ <;> simp <;> omega

theorem oneV_oneCell {a : Value} (h : oneV a = true) : a.oneCell' = true := by cases a <;> simp_all [oneV, Value.oneCell']

theorem as_hit_ok {k s : Nat} {t : TypeId} {x y : AV} {a b : Value} {g : Nat → Nat × Value} (hs : SR Tryd.prog w I B G S) (hS : sget S k s = some (.blk t [x, y])) (hg : G[k]? = some g) (ha : oneV a = true) (hb : oneV b = true) :
    Calls Tryd.prog 30 #[.iface 79 (.agg #[a, b]), .iface 102 (.pointer (some ⟨(g s).1, 0, none⟩))] w fun e w' => ∃ v, e = .returned v ∧ ∃ I' G', Tr Tryd.prog B none w I G S w' I' G' (sset S k s (.blk t [.v a, .v b])) ∧ RV Tryd.prog w' I' G' (sset S k s (.blk t [.v a, .v b])) (.v (.bool true)) v := by
  obtain ⟨g', hg', hok⟩ := hs.ob k s _ hS
  obtain rfl : g' = g := Option.some.inj (hg'.symm.trans hg)
  cases hok with
  | blk _ _ arr hB hI hheap hl h1 h =>
    have hl2 : arr.size = 2 := hl
    have hlt : (g' s).1 < w.heap.size := by
      rcases Nat.lt_or_ge (g' s).1 w.heap.size with h | h
      · exact h
      · rw [Array.getElem?_eq_none h] at hheap; cases hheap
    have cell : ∀ o : Nat, o < 2 → ∃ u, w.cell? ⟨(g' s).1, o, none⟩ = some u := fun o ho => ⟨arr[o]'(by omega), by simp [World.cell?, hheap, Array.getElem?_eq_getElem (show o < arr.size by omega)]⟩
    have froz : ∀ o : Nat, w.frozen? ⟨(g' s).1, o, none⟩ = false := fun o => by simp [World.frozen?, hheap]
    obtain ⟨u0, c0⟩ := cell 0 (by omega)
    obtain ⟨u1, c1⟩ := cell 1 (by omega)
    refine (As.as_hit (g' s).1 a b u0 u1 w hs.top.2.2.2 c0 c1 froz (oneV_oneCell ha) (oneV_oneCell hb)).mono ?_
    rintro e w' ⟨rfl, rfl⟩
    have t1 : Tr Tryd.prog B none w I G S (As.hitW w (g' s).1 a b) I G S := tr_more hs (below_hit w _ a b) (fun _ _ _ => Iff.rfl) (fun b' j hb' => by
      obtain ⟨u, hu⟩ := hs.cell b' j hb'
      exact ⟨u, ((below_hit w (g' s).1 a b).cell (p := ⟨b', j, none⟩) (World.block_lt_of_cell? w _ hu)).trans hu⟩)
    have hheap1 : (As.hitW w (g' s).1 a b).heap[(g' s).1]? = some (.cells arr t (0, 0)) := ((below_hit w (g' s).1 a b).block _ hlt).trans hheap
    have t2 := tr_store (w' := ((As.hitW w (g' s).1 a b).setCell ⟨(g' s).1, 0, none⟩ a).setCell ⟨(g' s).1, 1, none⟩ b) (cs' := [.v a, .v b]) (arr' := #[a, b]) t1.sr hS hg
      (by
        have e0 : ∀ (W : World) (arr : Array Value) (o : Nat) (v : Value), W.heap[(g' s).1]? = some (.cells arr t (0, 0)) → (W.setCell ⟨(g' s).1, o, none⟩ v).heap[(g' s).1]? = some (.cells (arr.setIfInBounds o v) t (0, 0)) := by
          intro W arr o v h
          simp [World.setCell, Array.getElem?_modify, h]
        rw [e0 _ _ _ _ (e0 _ _ _ _ hheap1)]
        obtain ⟨l⟩ := arr
        match l, hl2 with
        | [p, q], _ => rfl)
      (by
        intro b' hb'
        rw [Below.heap_setCell _ _ _ _ hb', Below.heap_setCell _ _ _ _ hb'])
      (by simp [World.setCell]) rfl rfl rfl rfl (fun i x hx => by
        match i, hx with
        | 0, hx => simp at hx; subst hx; exact ha
        | 1, hx => simp at hx; subst hx; exact hb)
      (fun i x u hx hu => by
        match i, hx, hu with
        | 0, hx, hu => simp at hx hu; subst hx; subst hu; exact .dat (.v _)
        | 1, hx, hu => simp at hx hu; subst hx; subst hu; exact .dat (.v _))
    exact ⟨_, rfl, I, G, t1.trans t2, .dat (.v _)⟩

theorem as_miss_ok {x : Value} {b : Nat} (hs : SR Tryd.prog w I B G S) :
    Calls Tryd.prog 30 #[.iface 48 x, .iface 102 (.pointer (some ⟨b, 0, none⟩))] w fun e w' => ∃ v, e = .returned v ∧ ∃ I' G', Tr Tryd.prog B none w I G S w' I' G' S ∧ RV Tryd.prog w' I' G' S (.v (.bool false)) v := by
  refine (As.as_miss b x w hs.top.2.2.2).mono ?_
  rintro e w' ⟨rfl, rfl⟩
  exact ⟨_, rfl, I, G, tr_more hs (below_miss w b) (fun _ _ _ => Iff.rfl) (fun b' j hb' => by
      obtain ⟨u, hu⟩ := hs.cell b' j hb'
      exact ⟨u, ((below_miss w b).cell (p := ⟨b', j, none⟩) (World.block_lt_of_cell? w _ hu)).trans hu⟩), .dat (.v _)⟩
end

theorem args_one {args : Array Value} (hn : args.size = 1) : ∃ a, args = #[a] := by
  obtain ⟨l⟩ := args
  match l, hn with
  | [a], _ => exact ⟨a, rfl⟩
theorem args_two {args : Array Value} (hn : args.size = 2) : ∃ a b, args = #[a, b] := by
  obtain ⟨l⟩ := args
  match l, hn with
  | [a, b], _ => exact ⟨a, b, rfl⟩

/-- The library's contracts hold. -/
theorem orcB_ok : OrcOK Tryd.prog (cfgOf orcB) := by
  intro g ys S0 r S' hc w I B G args hs hn ha
  simp only [cfgOf, orcOf] at hc
  split at hc
  · rename_i l hl
    unfold orcB at hl
    split at hl
    · rename_i hg
      subst hg
      split at hl
      · rename_i s
        cases hl
        simp only [firstOf] at hc
        cases he : eqS s namesT with
        | false => rw [he] at hc; cases hc
        | true =>
          rw [he] at hc
          cases hc
          obtain rfl := eqS_eq he
          obtain ⟨a, rfl⟩ := args_one hn
          obtain rfl := rv_v1 (ha 0 _ a rfl rfl)
          exact fields_ok hs
      · cases hl; cases hc
    · split at hl
      · rename_i hg
        subst hg
        split at hl
        · rename_i cs k s
          split at hl
          · rename_i a b t x y hcs hS
            cases hl
            simp only [firstOf] at hc
            cases hcond : (oneV a && oneV b) with
            | false => rw [hcond] at hc; cases hc
            | true =>
              rw [hcond] at hc
              simp only [cond_true, Option.some.injEq, Prod.mk.injEq] at hc
              obtain ⟨rfl, rfl⟩ := hc
              rw [Bool.and_eq_true] at hcond
              obtain ⟨p, q, rfl⟩ := args_two hn
              obtain rfl := rv_v1 (ha 0 _ p rfl rfl)
              obtain ⟨v, rfl, h1⟩ := rv_ifc1 (ha 1 _ q rfl rfl)
              obtain ⟨g, hg, rfl⟩ := rv_ptr1 h1
              obtain rfl : cs = #[a, b] := by
                obtain ⟨l⟩ := cs
                simp only at hcs
                rw [hcs]
              exact as_hit_ok hs hS (by simpa using hg) hcond.1 hcond.2
          · cases hl; cases hc
        · cases hl
          simp only [firstOf, cond_true, Option.some.injEq, Prod.mk.injEq] at hc
          obtain ⟨rfl, rfl⟩ := hc
          obtain ⟨p, q, rfl⟩ := args_two hn
          obtain rfl := rv_v1 (ha 0 _ p rfl rfl)
          obtain ⟨v, rfl, h1⟩ := rv_ifc1 (ha 1 _ q rfl rfl)
          obtain ⟨g, hg, rfl⟩ := rv_ptr1 h1
          exact as_miss_ok hs
        · cases hl; cases hc
      · cases hl
  · cases hc

/-- Contracts upon contracts. -/
def extO (new o : FuncId → List AV → Stk → Option (List (Bool × AV × Stk))) : FuncId → List AV → Stk → Option (List (Bool × AV × Stk)) := fun g ys S => match new g ys S with
  | some l => some l
  | none => o g ys S
theorem ext_ok {new o : FuncId → List AV → Stk → Option (List (Bool × AV × Stk))} (hO : OrcOK Tryd.prog (cfgOf o)) (hn : ∀ g ys S l x, new g ys S = some l → firstOf l = some x → ∃ k, evCall Tryd.prog (cfgOf o) k g ys S = some x) : OrcOK Tryd.prog (cfgOf (extO new o)) := by
  intro g ys S0 r S' hc
  simp only [cfgOf, orcOf, extO] at hc
  cases h : new g ys S0 with
  | none =>
    rw [h] at hc
    exact hO g ys S0 r S' (by simpa only [cfgOf, orcOf] using hc)
  | some l =>
    rw [h] at hc
    obtain ⟨k, hk⟩ := hn g ys S0 l (r, S') h hc
    exact evCall_ok hO (ent_ok o) k g ys S0 r S' hk
/-- What the trees say of a call. -/
theorem run_of {o : FuncId → List AV → Stk → Option (List (Bool × AV × Stk))} {H : Hint} (hH : HintOK Tryd.prog (cfgOf o) H) {k : Nat} {g : FuncId} {ys : List AV} {S : Stk} {x : AV × Stk} (h : evCallK Tryd.prog (cfgOf o) H k g ys S (fun r S => some (r, S)) = some x) : ∃ k, evCall Tryd.prog (cfgOf o) k g ys S = some x := by
  obtain ⟨k', r, S', h1, h2⟩ := evCallK_sound hH k _ _ _ _ _ h
  cases h2
  exact ⟨k', h1⟩
end Go.Proofs.YtffjdcbegohmiaaDoor.Ev
