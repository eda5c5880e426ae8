/-
  Bytes of a string; lengths; appends. All operations that are no calls.
-/
import Derived.Test.YtffjdcbegohmiaaDoorEv10
import Derived.Lib.AtoiErrMem
namespace Go.Proofs.YtffjdcbegohmiaaDoor.Ev
open Go Go.RowKit

section
variable {P : Program} {w : World} {I : Nat → Nat → Prop} {B : Nat} {G : Gh} {S : Stk} {st : St}

theorem mem_convert (src dst : TypeId) (y : Operand) : MemOK P (.convert src dst y) := by
  intro w I B G st a next Q o x L S ho hs hf h hk
  simp only [evMem] at h
  split at h
  · rename_i e s h1 h2 h3
    split at h
    · rename_i h4 h5
      simp only [Option.some.injEq, Prod.mk.injEq] at h
      obtain ⟨rfl, rfl, rfl⟩ := h
      have hv := rv_v (fr_eval hf h3)
      have hrun := Lib.run_convert_string_bytes (P := P) w src dst e s h1 h2 h4
      have hlen : s.data.toList.length = s.size := by simp
      have htr := tr_block (B := B) hs s.size (Lib.bytesWorld_below w e s) (fun j hj => ⟨_, Lib.bytesWorld_cell w e s j hj⟩)
      have hex : (execOp a.eval o).run P w = .ok (.value (.slice (some ⟨w.heap.size, 0, none⟩) s.size (grownCap w s.size 0 e))) (Lib.bytesWorld w e s) := by
        simp [execOp, ho, hv, hrun]
      refine wp_of_run hex (hk none _ _ _ _ (fun k hk' => by cases hk') htr (.dat ?_))
      have := DV.lst (P := P) (w := Lib.bytesWorld w e s) (I := withBlock I w.heap.size s.size) e (s.data.toList.map fun b => [AV.v (.int .u8 b.toNat)]) (some ⟨w.heap.size, 0, none⟩) (grownCap w s.size 0 e) 1
        (fun i _ => .int .u8 (s.data.toList.getD i 0).toNat) (by simp; exact grownCap_ge w s.size 0 e) h5 (fun i cs hc => by
          rw [List.getElem?_map, Option.map_eq_some_iff] at hc
          obtain ⟨b, _, rfl⟩ := hc
          rfl) (fun _ => ⟨_, rfl, rfl, fun i j hi hj => by
          have hj0 : j = 0 := by omega
          subst hj0
          have hi2 : i < s.size := by simpa using hi
          simp only [Nat.mul_one, Nat.add_zero, Nat.zero_add]
          exact ⟨Lib.bytesWorld_cell w e s i hi2, .inr ⟨rfl, hi2⟩⟩⟩) (fun i cs j z hc hz => by
          rw [List.getElem?_map, Option.map_eq_some_iff] at hc
          obtain ⟨b, _, rfl⟩ := hc
          cases j with
          | zero => simp at hz; subst hz; rfl
          | succ j => simp at hz) (fun i cs j z hc hz => by
          rw [List.getElem?_map, Option.map_eq_some_iff] at hc
          obtain ⟨b, hb, rfl⟩ := hc
          cases j with
          | zero =>
            simp at hz
            subst hz
            have : s.data.toList.getD i 0 = b := by simp only [List.getD, hb, Option.getD_some]
            rw [this]
            exact .v _
          | succ j => simp at hz)
      simpa using this
    · cases h
  · cases h

theorem eval_list1 {args : Array Operand} {x : Operand} (h : args.toList = [x]) : args = #[x] := by
  apply Array.toList_inj.1
  rw [h]
theorem eval_list2 {args : Array Operand} {x y : Operand} (h : args.toList = [x, y]) : args = #[x, y] := by
  apply Array.toList_inj.1
  rw [h]

/-- append, at least one element. -/
theorem run_append_kept (w : World) (base : Nat) (t ty e : TypeId) (i : TypeInfo) (z : Value) (size bytes : Nat) (ht : P.underlying t = some (.slice e)) (hi : P.info? e = some i) (hz : i.zero = some z)
    (hsize : i.size = size) (hby : i.bytes = bytes) (hzs : z.cells.size = size) (hsz : 0 < size)
    (v : Value) (n : Nat) (xs : List Value) (hown : w.ownsRow base e size v n xs)
    (a : Addr) (m c : Nat) (news : List Value) (hl : news.length = m * size) (hnews : ∀ j u, news[j]? = some u → w.cell? (a.add j) = some u) (h1 : ∀ u ∈ news, u.oneCell' = true)
    (h63 : n + m ≤ maxLen) (hbytes : (n + m) * bytes ≤ 140737488355328) (hbase : base ≤ w.heap.size) (hm : 0 < m) :
    ∃ v' w', (Builtin.append_ #[t, t] ty #[v, .slice (some a) m c]).run P w = .ok v' w' ∧ w'.ownsRow base e size v' (n + m) (xs ++ news) ∧ w.grownBy w' v.ownBlock ∧
      ((v'.ownBlock = v.ownBlock ∧ v.ownBlock ≠ none) ∨ v'.ownBlock = some w.heap.size) ∧ (∀ b o, b < w.heap.size → (some b = v.ownBlock → o < n * size) → w'.cell? ⟨b, o, none⟩ = w.cell? ⟨b, o, none⟩) ∧
      (v.ownBlock = none → ∀ b, b < w.heap.size → w'.heap[b]? = w.heap[b]?) ∧ Below base w w' := by
  subst hsize
  subst hby
  have hsmall : n + m ≤ 9223372036854775807 := by simp only [maxLen] at h63; omega
  have hlen : (xs ++ news).length = (n + m) * i.size := by rw [List.length_append, hown.1, hl, Nat.add_mul]
  have grown : ∀ (old : Nat), old < n + m → ∀ (row : Option Nat),
      (w.drew.alloc (.cells (xs.toArray ++ news.toArray ++ Builtin.zeroCells z.cells (grownCap w (n + m) old e - (n + m))) e)).ownsRow base e i.size
        (.slice (some ⟨w.heap.size, 0, none⟩) (n + m) (grownCap w (n + m) old e)) (n + m) (xs ++ news) ∧
      w.grownBy (w.drew.alloc (.cells (xs.toArray ++ news.toArray ++ Builtin.zeroCells z.cells (grownCap w (n + m) old e - (n + m))) e)) row := by
    intro old ho row
    have hge := grownCap_ge w (n + m) old e
    have hcm : grownCap w (n + m) old e ≤ maxLen := grownCap_le_maxLen w (n + m) old e h63
    refine ⟨⟨hlen, .inr ⟨w.heap.size, _, _, rfl, hbase, heap_alloc_new w.drew _, hge, hcm, ?_, ?_⟩⟩, ⟨rfl, rfl, rfl, by simp, fun k hk _ => _root_.Go.heap_alloc_old w.drew _ hk⟩⟩
    · simp only [Array.size_append, List.size_toArray, size_zeroCells, hzs, hown.1, hl, ← Nat.add_mul]
      congr 1
      omega
    · simp only [Array.toList_append, List.append_assoc]
      rw [← List.append_assoc, ← hlen]
      exact List.take_left
  have old : ∀ (o : Obj) b, b < w.heap.size → (w.drew.alloc o).heap[b]? = w.heap[b]? := fun o b hb => _root_.Go.heap_alloc_old w.drew o hb
  have bel : ∀ (o : Obj), Below base w (w.drew.alloc o) := fun o => ((Below.refl _ _).drew).alloc hbase _
  rcases hown.2 with ⟨rfl, rfl⟩ | ⟨g, cap, cur, rfl, hbg, hg, hnc, hcm, hcs, htake⟩
  · have hx : xs = [] := List.eq_nil_of_length_eq_zero (by simpa using hown.1)
    subst hx
    have hr := run_append_nil (P := P) w t ty e i z ht hi hz a m c news hl hnews (by omega) (by omega) (by have hb := hbytes; simp only [Nat.zero_add] at hb; omega)
    have hgr := grown 0 (by omega) (Value.ownBlock (.slice none 0 0))
    simp only [Nat.zero_add, List.nil_append, Array.empty_append] at hgr ⊢
    exact ⟨_, _, hr, hgr.1, hgr.2, .inr rfl, fun b o hb _ => World.cell?_of_block (old _ b hb), fun _ b hb => old _ b hb, bel _⟩
  · by_cases hroom : n + m ≤ cap
    · have hfit : n * i.size + news.length ≤ cur.size := by rw [hl, hcs, ← Nat.add_mul]; exact Nat.mul_le_mul_right _ hroom
      have hr := run_append_room (P := P) w t ty e i ht hi g n cap cur hg a m c news hl hnews h1 hroom hfit
      refine ⟨_, _, hr, ⟨hlen, .inr ⟨g, cap, _, rfl, hbg, setRow_heap w g cur _ e _ hg, hroom, hcm, ?_, ?_⟩⟩, ⟨rfl, rfl, rfl, by simp, fun k _ hk => _root_.Go.setRow_other w g k _ (fun e => hk (by simp [Value.ownBlock, e]))⟩, .inl ⟨rfl, by simp [Value.ownBlock]⟩, fun b o hb hbo => ?_, fun hn => by simp [Value.ownBlock] at hn, ?_⟩
      · simp only [List.size_toArray, List.length_append, List.length_take, List.length_drop, Array.length_toList]
        omega
      · rw [htake, ← hlen]
        exact List.take_left
      · by_cases hbg2 : b = g
        · subst hbg2
          have ho := hbo rfl
          have hlt : o < cur.size := by omega
          unfold World.cell?
          rw [setRow_heap w b cur _ e _ hg, hg]
          have hlt2 : o < n * i.size ∧ n * i.size ≤ cur.size := ⟨ho, by omega⟩
          have hx : (cur.toList.take (n * i.size) ++ news ++ cur.toList.drop (n * i.size + news.length))[o]? = cur[o]? := by
            rw [List.append_assoc, List.getElem?_append_left (by simp; omega), List.getElem?_take_of_lt ho, Array.getElem?_toList]
          simp only [List.getElem?_toArray, hx]
        · exact World.cell?_of_block (_root_.Go.setRow_other w g b _ hbg2)
      · exact ⟨rfl, rfl, rfl, by simp, fun k hk => _root_.Go.setRow_other w g k _ (by omega)⟩
    · have holds : ∀ j u, xs[j]? = some u → w.cell? ((⟨g, 0, none⟩ : Addr).add j) = some u := hown.cells (g := g) rfl
      have hr := run_append_grow (P := P) w t ty e i z ht hi hz ⟨g, 0, none⟩ n cap xs hown.1 holds a m c news hl hnews (by omega) (by omega) (growslice_fits (by omega) hbytes)
      have hgr := grown cap (by omega) (Value.ownBlock (.slice (some ⟨g, 0, none⟩) n cap))
      exact ⟨_, _, hr, hgr.1, hgr.2, .inr rfl, fun b o hb _ => World.cell?_of_block (old _ b hb), fun _ b hb => old _ b hb, bel _⟩

theorem slice_of {e : TypeId} {y : AV} {u : Value} {xs : List (List AV)} (hr : RV P w I G (st.L :: st.S) y u) (h : elemsOf st e y = some xs) : ∃ A c, u = .slice A xs.length c ∧ xs.length ≤ c := by
  unfold elemsOf at h
  split at h
  · cases h
    cases rv_toVal hr (.slice none 0 0) rfl
    exact ⟨none, 0, rfl, Nat.le_refl _⟩
  · rename_i e' xs'
    split at h
    · cases h
      cases hr with
      | dat hd => obtain ⟨A, c, _, _, rfl, hc, _⟩ := lst_inv hd; exact ⟨A, c, rfl, hc⟩
    · cases h
  · rename_i k s n
    split at h
    · rename_i e' sz' xs' hS
      split at h
      · cases h
        cases hr with
        | dat hd => cases hd
        | row _ _ _ g e2 sz2 xs2 _ hg hS2 hn hd hl =>
          rw [hS] at hS2
          cases hS2
          obtain ⟨A, c, _, _, rfl, hc, _⟩ := lst_inv hd
          exact ⟨A, c, rfl, hc⟩
      · cases h
    · cases h
  · cases h

/-- append of nothing. -/
theorem run_append_none {t ty e : TypeId} {sz n c c' : Nat} {A A' : Option Addr} (ht : P.underlying t = some (.slice e)) (hz : tsize P e = some sz) (hc : n ≤ c) (w : World) : (Builtin.append_ #[t, t] ty #[.slice A n c, .slice A' 0 c']).run P w = .ok (.slice A n c) w := by
  cases A <;> cases A' <;> simp [Builtin.append_, run_underlying ht, tsize_run hz, Builtin.lenOf, hc, Builtin.firstCells, loadCells, loadCellsFrom, storeCells]

/-- The cells of a list, in a row. -/
theorem list_cells {e : TypeId} {sz : Nat} {ys : List (List AV)} {u : Value} (hd : DV P w I (.lst e ys) u) (hz : tsize P e = some sz) (h0 : 0 < ys.length) (hs : 0 < sz) (hg : ∀ (i : Nat) (cs : List AV), ys[i]? = some cs → cs.length = sz) :
    ∃ (ad : Addr) (c : Nat) (news : List Value), u = .slice (some ad) ys.length c ∧ news.length = ys.length * sz ∧ (∀ j v, news[j]? = some v → w.cell? (ad.add j) = some v) ∧ (∀ v ∈ news, v.oneCell' = true) ∧
      ∀ (i : Nat) (cs : List AV) (j : Nat) (x : AV) (v : Value), ys[i]? = some cs → cs[j]? = some x → news[i * sz + j]? = some v → DV P w I x v := by
  obtain ⟨A, c, sz', f, rfl, hc, hz', hl, hA, hdat, hu⟩ := lst_inv hd
  obtain rfl : sz' = sz := Option.some.inj (hz'.symm.trans hz)
  obtain ⟨ad, rfl, hsp, hcell⟩ := hA h0
  have hdiv : ∀ q, q < ys.length * sz' → q / sz' < ys.length ∧ q % sz' < sz' ∧ q / sz' * sz' + q % sz' = q := by
    intro q hq
    refine ⟨(Nat.div_lt_iff_lt_mul hs).2 hq, Nat.mod_lt _ hs, ?_⟩
    rw [Nat.mul_comm]
    exact Nat.div_add_mod q sz'
  refine ⟨ad, c, (List.range (ys.length * sz')).map fun q => f (q / sz') (q % sz'), rfl, by simp, fun j v hj => ?_, fun v hv => ?_, fun i cs j x v hi hj hv => ?_⟩
  · rw [List.getElem?_map, Option.map_eq_some_iff] at hj
    obtain ⟨q, hq, rfl⟩ := hj
    obtain ⟨hq1, hq2⟩ := List.getElem?_eq_some_iff.1 hq
    simp at hq1 hq2
    subst hq2
    obtain ⟨h1, h2, h3⟩ := hdiv _ hq1
    have := (hcell _ _ h1 h2).1
    rw [h3] at this
    cases ad with
    | mk b o s => simp at hsp; subst hsp; rw [add_at]; exact this
  · rw [List.mem_map] at hv
    obtain ⟨q, hq, rfl⟩ := hv
    obtain ⟨h1, h2, _⟩ := hdiv q (by simpa using hq)
    have h4 : ys[q / sz']? = some (ys[q / sz']'h1) := List.getElem?_eq_getElem h1
    have h5 := hl _ _ h4
    have h6 : (ys[q / sz']'h1)[q % sz']? = some ((ys[q / sz']'h1)[q % sz']'(by omega)) := List.getElem?_eq_getElem _
    have h7 := hdat _ _ _ _ h4 h6
    refine rv_one (P := P) (w := w) (I := I) (G := []) (S := []) (.dat (hu _ _ _ _ h4 h6)) ?_
    generalize (ys[q / sz']'h1)[q % sz']'(by omega) = y at h7
    cases y <;> simp_all [AV.dat, AV.one]
  · rw [List.getElem?_map, Option.map_eq_some_iff] at hv
    obtain ⟨q, hq, rfl⟩ := hv
    obtain ⟨hq1, hq2⟩ := List.getElem?_eq_some_iff.1 hq
    simp at hq2
    subst hq2
    have hj2 : j < sz' := by
      have := (List.getElem?_eq_some_iff.1 hj).1
      rw [hl _ _ hi] at this
      exact this
    have e1 : (i * sz' + j) / sz' = i := by
      rw [Nat.add_comm, Nat.add_mul_div_right _ _ hs, Nat.div_eq_of_lt hj2]; omega
    have e2 : (i * sz' + j) % sz' = j := by
      rw [Nat.add_comm, Nat.add_mul_mod_self_right]; exact Nat.mod_eq_of_lt hj2
    rw [e1, e2]
    exact hu _ _ _ _ hi hj

/-- An owned row as a list. -/
theorem dv_own {e : TypeId} {sz : Nat} {ys : List (List AV)} {v : Value} {cells : List Value} (ho : w.ownsRow B e sz v ys.length cells) (hz : tsize P e = some sz) (hl : ∀ (i : Nat) (cs : List AV), ys[i]? = some cs → cs.length = sz)
    (hd : ∀ (i : Nat) (cs : List AV) (j : Nat) (x : AV), ys[i]? = some cs → cs[j]? = some x → x.dat = true) (h : ∀ (i : Nat) (cs : List AV) (j : Nat) (x : AV) (u : Value), ys[i]? = some cs → cs[j]? = some x → cells[i * sz + j]? = some u → DV P w I x u)
    (hI : ∀ b, v.ownBlock = some b → ∀ o, o < ys.length * sz → I b o) : DV P w I (.lst e ys) v := by
  have hlt : ∀ i j, i < ys.length → j < sz → i * sz + j < ys.length * sz := by
    intro i j hi hj
    have : (i + 1) * sz ≤ ys.length * sz := Nat.mul_le_mul_right _ hi
    rw [Nat.add_mul] at this
    omega
  rcases ho.2 with ⟨rfl, h0⟩ | ⟨g, cap, cur, rfl, hB, hb, hn, hm, hc, ht⟩
  · obtain rfl : ys = [] := List.eq_nil_of_length_eq_zero h0
    exact .lst e [] none 0 sz (fun _ _ => undef) (by simp) hz hl (fun h => by simp at h) hd (fun i cs j x hx => by simp at hx)
  · have hget : ∀ i j, i < ys.length → j < sz → cells[i * sz + j]? = some ((cells[i * sz + j]?).getD undef) := by
      intro i j hi hj
      have : i * sz + j < cells.length := by rw [ho.1]; exact hlt i j hi hj
      rw [List.getElem?_eq_getElem this]
      rfl
    refine .lst e ys (some ⟨g, 0, none⟩) cap sz (fun i j => (cells[i * sz + j]?).getD undef) hn hz hl (fun _ => ⟨_, rfl, rfl, fun i j hi hj => ⟨?_, ?_⟩⟩) hd (fun i cs j x h1 h2 => ?_)
    · have := ho.cells (g := g) rfl _ _ (hget i j hi hj)
      rw [add_at] at this
      exact this
    · simp only [Nat.zero_add]
      exact hI g rfl _ (hlt i j hi hj)
    · have hi := (List.getElem?_eq_some_iff.1 h1).1
      have hj := (List.getElem?_eq_some_iff.1 h2).1
      rw [hl i cs h1] at hj
      exact h i cs j x _ h1 h2 (hget i j hi hj)

theorem mem_call (c : Call) : MemOK P (.call c) := by
  intro w I B G st a next Q o x L S ho hs hf h hk
  simp only [evMem] at h
  split at h
  · rename_i y hcal hargs
    have ha := eval_list1 hargs
    split at h
    · rename_i e l ht hl
      simp only [Option.map_eq_some_iff, Prod.mk.injEq] at h
      obtain ⟨xs, hx, rfl, rfl, rfl⟩ := h
      obtain ⟨A, cc, hu, hc⟩ := slice_of (fr_eval hf hl) hx
      rw [Option.bind_eq_some_iff] at ht
      obtain ⟨t, ht0, ht⟩ := ht
      refine wp_of_run (v := .int .i64 xs.length) (w' := w) ?_ (goes_same hs hk (.dat (.v _)))
      simp [execOp, ho, hcal, ha, resolve, invoke, builtin, Builtin.len_, ht0, hu, run_underlying ht, goInt]
    · cases h
  · rename_i y z hcal hargs
    have ha := eval_list2 hargs
    split at h
    · rename_i t t' e l m htt ht hl hm
      split at h
      · rename_i he
        subst he
        have hat' : c.argTypes = #[t, t] := Array.toList_inj.1 htt
        rw [Option.bind_eq_some_iff] at ht
        obtain ⟨t2, ht0, ht⟩ := ht
        have e0 : t2 = t := by simp [hat'] at ht0; exact ht0.symm
        subst e0
        split at h
        · rename_i sz by' z0 ys hsz hby hz0 hys
          have hdm := elems_sound hsz (fr_eval hf hm) hys
          split at h
          · simp only [Option.map_eq_some_iff, Prod.mk.injEq] at h
            obtain ⟨xs, hx, rfl, rfl, rfl⟩ := h
            obtain ⟨A, cc, hu, hc⟩ := slice_of (fr_eval hf hl) hx
            obtain ⟨A', cc', hu', hc'⟩ := slice_of (fr_eval hf hm) hys
            have hr := run_append_none (P := P) (ty := o.type) (A := A) (A' := A') (c' := cc') ht hsz hc w
            refine wp_of_run (v := .slice A xs.length cc) (w' := w) ?_ (goes_same hs hk ?_)
            · simp only [List.length_nil] at hu'
              simp [execOp, ho, hcal, ha, resolve, invoke, builtin, hat', hu, hu', hr]
            · rw [← hu]
              exact fr_eval hf hl
          · rename_i y0 yr
            split at h
            · rename_i hc
              obtain ⟨hc1, hc2, hc3, hc4⟩ := hc
              have hlen : ∀ (i : Nat) (cs : List AV), (y0 :: yr)[i]? = some cs → cs.length = sz := fun i cs hi => by
                have := List.all_eq_true.1 hc4 _ (List.mem_of_getElem? hi)
                simp only [Bool.and_eq_true, decide_eq_true_eq] at this
                exact this.1
              have hdat : ∀ (i : Nat) (cs : List AV) (j : Nat) (x : AV), (y0 :: yr)[i]? = some cs → cs[j]? = some x → x.dat = true := fun i cs j x hi hj => by
                have := List.all_eq_true.1 hc4 _ (List.mem_of_getElem? hi)
                simp only [Bool.and_eq_true, decide_eq_true_eq] at this
                exact List.all_eq_true.1 this.2 _ (List.mem_of_getElem? hj)
              generalize hys2 : (y0 :: yr) = ys at *
              have hpos : 0 < ys.length := by rw [← hys2]; simp
              have hne : ys ≠ [] := by rw [← hys2]; simp
              obtain ⟨ad, c', news, hu', hnl, hnews, hn1, hnd⟩ := list_cells hdm hsz hpos hc1 hlen
              obtain ⟨it, zv, hi, hz1, _, hzz⟩ := cr_zero (w := w) (I := I) (G := G) (S := st.L :: st.S) hz0
              have hszi : it.size = sz := by
                have : tsize P e = some it.size := by simp [tsize, hi]
                exact Option.some.inj (this.symm.trans hsz)
              have hby2 : it.bytes = by' := by
                simp only [hi, Option.map_some, Option.some.injEq] at hby
                exact hby
              have hzs : zv.cells.size = sz := by
                rw [hzz] at hc3
                simpa using hc3
              have hltI : ∀ b j, I b j → b < w.heap.size := fun b j h => by
                obtain ⟨u, hu⟩ := hs.cell b j h
                exact World.block_lt_of_cell? w _ hu
              have hmax : ∀ n : Nat, n + ys.length ≤ 1073741824 → n + ys.length ≤ maxLen ∧ (n + ys.length) * by' ≤ 140737488355328 := by
                intro n hn
                have h1 : (n + ys.length) * by' ≤ 1073741824 * 1024 := Nat.mul_le_mul hn hc2
                simp only [maxLen]
                omega
              split at h
              · rename_i hl1 hl
                split at h
                · rename_i d hd
                  split at h
                  · rename_i h30
                    simp only [Option.map_eq_some_iff, Prod.mk.injEq] at h
                    obtain ⟨L', hL, rfl, rfl, rfl⟩ := h
                    obtain ⟨rfl, hq1, hq2, _⟩ := new_some hL
                    obtain ⟨g0, G0, rfl⟩ := sr_head hs
                    have hu : a.eval y = .slice none 0 0 := rv_toVal (fr_eval hf hl) _ rfl
                    obtain ⟨hm1, hm2⟩ := hmax 0 (by omega)
                    obtain ⟨v', w', hr, hown, hgr, hat, hkeep, hnone, hbel⟩ := run_append_kept (P := P) w B t2 o.type e it zv sz by' ht hi hz1 hszi hby2 hzs hc1 (.slice none 0 0) 0 [] (World.ownsRow_nil w B e sz) ad ys.length c' news hnl hnews hn1 hm1 hm2 hs.base hpos
                    have hat2 : v'.ownBlock = some w.heap.size := by
                      rcases hat with ⟨_, h⟩ | h
                      · simp [Value.ownBlock] at h
                      · exact h
                    have hb0 : Below w.heap.size w w' := ⟨hgr.os, hgr.tape, hgr.output, hgr.size, fun k hk => hnone rfl k hk⟩
                    simp only [Nat.zero_add, List.nil_append] at hown
                    have hfut : Fut w I w' (withBlock I w.heap.size (ys.length * sz)) := fun b j h => ⟨.inl h, hb0.cell (p := ⟨b, j, none⟩) (hltI b j h)⟩
                    have hDV : ∀ (i : Nat) (cs : List AV) (j : Nat) (x : AV) (u : Value), ys[i]? = some cs → cs[j]? = some x → news[i * sz + j]? = some u → DV P w' (withBlock I w.heap.size (ys.length * sz)) x u := fun i cs j x u h1 h2 h3 => (hnd i cs j x u h1 h2 h3).move hfut
                    have hex : (execOp a.eval o).run P w = .ok (.value v') w' := by
                      simp [execOp, ho, hcal, ha, resolve, invoke, builtin, hat', hu, hu', hr]
                    refine wp_of_run hex (hk (some d) _ (withBlock I w.heap.size (ys.length * sz)) (gset (g0 :: G0) d (0, v')) _ (fun k hk' => by cases hk'; exact ⟨hd, hq1⟩) ?_ ?_)
                    · refine tr_new hs hq2 hb0 (fun b j hb => ⟨fun h => h.elim id (fun h => by omega), .inl⟩) (fun b j h => ?_) ?_ ?_
                      · rcases h with h | ⟨rfl, h⟩
                        · obtain ⟨u, hu⟩ := hs.cell b j h
                          exact ⟨u, (hfut b j h).2.trans hu⟩
                        · have hj : j < news.length := by rw [hnl]; exact h
                          have := hown.cells hat2 j _ (List.getElem?_eq_getElem hj)
                          rw [add_at] at this
                          simp only [Nat.zero_add] at this
                          exact ⟨_, this⟩
                      · refine .row e sz ys news hsz hc1 hown hlen hdat hDV fun b hb j => ?_
                        rw [hat2] at hb
                        cases hb
                        exact ⟨fun h => h.elim (fun h => by have := hltI _ _ h; omega) (fun h => h.2), fun h => .inr ⟨rfl, h⟩⟩
                      · intro b hb
                        simp only [blkOf, hat2, Option.some.injEq] at hb
                        omega
                    · refine .row 0 d ys.length (fun q => if q = d then (0, v') else g0 q) e sz ys _ (by simp [gset]) (by simp [sget, kget_kset]) (Nat.le_refl _) ?_ (fun _ => by simp)
                      rw [List.take_length]
                      exact dv_own hown hsz hlen hdat hDV (fun b hb o ho => by
                        rw [hat2] at hb
                        cases hb
                        exact .inr ⟨rfl, ho⟩)
                  · cases h
                · cases h
              · rename_i k s n
                split at h
                · rename_i e2 sz2 xs hS
                  split at h
                  · rename_i h3
                    obtain ⟨rfl, rfl, rfl⟩ := h3
                    split at h
                    · rename_i h30
                      split at h
                      · rename_i L' S' hss
                        simp only [Option.some.injEq, Prod.mk.injEq] at h
                        obtain ⟨rfl, rfl, rfl⟩ := h
                        have hrl := fr_eval hf hl
                        obtain ⟨g, hg, hv⟩ : ∃ g, G[k]? = some g ∧ a.eval y = (g s).2 := by
                          generalize a.eval y = v at hrl
                          cases hrl with
                          | dat hd => cases hd
                          | row _ _ _ g e3 sz3 xs3 _ hg hS3 hn3 hd3 hl3 =>
                            rw [hS] at hS3
                            cases hS3
                            exact ⟨g, hg, hl3 rfl⟩
                        obtain ⟨g1, hg1, hok⟩ := hs.ob k s _ hS
                        obtain rfl : g1 = g := Option.some.inj (hg1.symm.trans hg)
                        have hok2 := hok
                        obtain ⟨cells, hrow, hl0, hd0, hdv0, hI0⟩ : ∃ cells, w.ownsRow B e2 sz2 (g1 s).2 xs.length cells ∧ (∀ (i : Nat) (cs : List AV), xs[i]? = some cs → cs.length = sz2) ∧ (∀ (i : Nat) (cs : List AV) (j : Nat) (x : AV), xs[i]? = some cs → cs[j]? = some x → x.dat = true) ∧
                            (∀ (i : Nat) (cs : List AV) (j : Nat) (x : AV) (u : Value), xs[i]? = some cs → cs[j]? = some x → cells[i * sz2 + j]? = some u → DV P w I x u) ∧ (∀ b, (g1 s).2.ownBlock = some b → ∀ o, I b o ↔ o < xs.length * sz2) := by
                          cases hok2 with
                          | row _ _ _ cells hz h0 ho hl hd h hI => exact ⟨cells, ho, hl, hd, h, hI⟩
                        obtain ⟨hm1, hm2⟩ := hmax xs.length h30
                        obtain ⟨v', w', hr, hown, hgr, hat, hkeep, hnone, hbel⟩ := run_append_kept (P := P) w B t2 o.type e2 it zv sz2 by' ht hi hz1 hszi hby2 hzs hc1 (g1 s).2 xs.length cells hrow ad ys.length c' news hnl hnews hn1 hm1 hm2 hs.base hpos
                        have hl2 : (xs ++ ys).length = xs.length + ys.length := List.length_append
                        have hcl : cells.length = xs.length * sz2 := hrow.1
                        have hfut : Fut w I w' (fun b o => I b o ∨ (v'.ownBlock = some b ∧ o < (xs ++ ys).length * sz2)) := fun b o h => ⟨.inl h, hkeep b o (hltI b o h) (fun hb => (hI0 b hb.symm o).1 h)⟩
                        have hlen2 : ∀ (i : Nat) (cs : List AV), (xs ++ ys)[i]? = some cs → cs.length = sz2 := fun i cs h => by
                          rw [List.getElem?_append] at h
                          split at h
                          · exact hl0 i cs h
                          · exact hlen _ cs h
                        have hdat2 : ∀ (i : Nat) (cs : List AV) (j : Nat) (x : AV), (xs ++ ys)[i]? = some cs → cs[j]? = some x → x.dat = true := fun i cs j x h h' => by
                          rw [List.getElem?_append] at h
                          split at h
                          · exact hd0 i cs j x h h'
                          · exact hdat _ cs j x h h'
                        have hDV : ∀ (i : Nat) (cs : List AV) (j : Nat) (x : AV) (u : Value), (xs ++ ys)[i]? = some cs → cs[j]? = some x → (cells ++ news)[i * sz2 + j]? = some u → DV P w' (fun b o => I b o ∨ (v'.ownBlock = some b ∧ o < (xs ++ ys).length * sz2)) x u := by
                          intro i cs j x u h1 h2 h3
                          have hj := (List.getElem?_eq_some_iff.1 h2).1
                          rw [hlen2 i cs h1] at hj
                          rw [List.getElem?_append] at h1
                          split at h1
                          · rename_i hlt
                            have h4 : (i + 1) * sz2 ≤ xs.length * sz2 := Nat.mul_le_mul_right _ hlt
                            rw [Nat.add_mul] at h4
                            rw [List.getElem?_append_left (by omega)] at h3
                            exact (hdv0 i cs j x u h1 h2 h3).move hfut
                          · rename_i hge
                            have h4 : xs.length * sz2 ≤ i * sz2 := Nat.mul_le_mul_right _ (by omega)
                            rw [List.getElem?_append_right (by omega)] at h3
                            have h5 : i * sz2 + j - cells.length = (i - xs.length) * sz2 + j := by rw [Nat.sub_mul]; omega
                            rw [h5] at h3
                            exact (hnd _ cs j x u h1 h2 h3).move hfut
                        have hcells : ∀ b o, v'.ownBlock = some b → o < (xs ++ ys).length * sz2 → ∃ u, w'.cell? ⟨b, o, none⟩ = some u := fun b o hb h => by
                          have hj : o < (cells ++ news).length := by rw [List.length_append, hcl, hnl, ← Nat.add_mul, ← hl2]; exact h
                          have := hown.cells hb o _ (List.getElem?_eq_getElem hj)
                          rw [add_at] at this
                          simp only [Nat.zero_add] at this
                          exact ⟨_, this⟩
                        have htr := tr_grow (v' := v') (ys := ys) (cells := cells ++ news) hs hS hg hgr (hat.elim (fun h => .inl h.1) .inr) (fun _ _ => Iff.rfl) hfut (fun b o h => by
                          rcases h with h | ⟨h1, h2⟩
                          · obtain ⟨u, hu⟩ := hs.cell b o h
                            exact ⟨u, (hfut b o h).2.trans hu⟩
                          · exact hcells b o h1 h2) (by rw [hl2]; exact hown) hsz hc1 hlen2 hdat2 hDV hne
                        rw [hss] at htr
                        have hex : (execOp a.eval o).run P w = .ok (.value v') w' := by
                          simp [execOp, ho, hcal, ha, resolve, invoke, builtin, hat', hv, hu', hr]
                        refine wp_of_run hex (hk none _ _ _ _ (fun k hk' => by cases hk') htr ?_)
                        have hkl : k < (st.L :: st.S).length := sget_lt _ k s _ hS
                        refine .row k s _ (fun q => if q = s then ((g1 s).1, v') else g1 q) e2 sz2 (xs ++ ys) _ (by rw [gval_get _ _ _ _ g1 hg]; simp) (by rw [← hss, sget_sset _ _ _ _ _ _ hkl]; simp) (by omega) ?_ (fun _ => by simp)
                        rw [← hl2, List.take_length]
                        exact dv_own (by rw [hl2]; exact hown) hsz hlen2 hdat2 hDV (fun b hb o ho => .inr ⟨hb, ho⟩)
                      · cases h
                    · cases h
                  · cases h
                · cases h
              · cases h
            · cases h
        · cases h
      · cases h
    · cases h
  · cases h

theorem evMem_sound (op : Op) : MemOK P op := by
  cases op with
  | move y => exact mem_move y
  | assign y => exact mem_assign y
  | pick c a b => exact mem_pick c a b
  | alloc t => exact mem_alloc t
  | box t y => exact mem_box t y
  | load t y => exact mem_load t y
  | store t y z => exact mem_store t y z
  | nilCheck y => exact mem_nilCheck y
  | fieldAddr t y i => exact mem_fieldAddr t y i
  | indexAddr t y z => exact mem_indexAddr t y z
  | build t parts => exact mem_build t parts
  | buildSlice t n parts => exact mem_buildSlice t n parts
  | makeInterface t y => exact mem_makeInterface t y
  | extract y i => exact mem_extract y i
  | field t y i => exact mem_field t y i
  | slice t y lo hi mx => exact mem_slice t y lo hi mx
  | convert src dst y => exact mem_convert src dst y
  | makeFunc f first caps => exact mem_makeFunc f first caps
  | call c => exact mem_call c
  | _ => intro w I B G st a next Q o x L S ho hs hf h hk; simp [evMem] at h
end
end Go.Proofs.YtffjdcbegohmiaaDoor.Ev
