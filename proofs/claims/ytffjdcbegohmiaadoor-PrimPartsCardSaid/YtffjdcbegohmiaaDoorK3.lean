/-
  What the trees say, the evaluator says: operations with a condition.
-/
import Derived.Test.YtffjdcbegohmiaaDoorK2
import Derived.Lib.Strings
namespace Go.Proofs.YtffjdcbegohmiaaDoor.Ev
open Go

/-- What is told holds. -/
structure HintOK (P : Program) (C : Cfg) (H : Hint) : Prop where
  orc : ∀ g ys S l x, H.orc g ys S = some l → firstOf l = some x → C.orc g ys S = some x
  non : ∀ g ys S, H.orc g ys S = none → C.orc g ys S = none
  rd : ∀ e xs n cs, H.rd e xs n = some (true, cs) → xs[n]? = some cs ∧ tsize P e = some cs.length
  lp : ∀ f p st l ex st', H.lp f p st = some l → firstOf l = some (ex, st') → ∀ fn c b, P.funcs[f]? = some fn → fn.body = some c → Code.part c p = some (.loop b) → ∃ k, evCode P C k f fn.ntmps (.loop b) st = some (ex, st')

section
variable {P : Program} {C : Cfg} {H : Hint} {call : CallT}

theorem eqL_iff : ∀ a b : List UInt8, eqL a b = (a == b) := by
  intro a
  induction a with
  | nil => intro b; cases b <;> rfl
  | cons x a ih =>
    intro b
    cases b with
    | nil => rfl
    | cons y b =>
      simp only [eqL, ih, List.cons_beq_cons]
      congr 1
      rw [Bool.eq_iff_iff, Nat.beq_eq, beq_iff_eq, UInt8.toNat_inj]
theorem eqS_iff (a b : ByteArray) : eqS a b = (a.toList == b.toList) := by
  rw [eqS, eqL_iff, Lib.toList_data, Lib.toList_data]

theorem pr_bind {α β : Type} (s : Sem α) (f : α → Sem β) {a : α} (h : pr P s = some a) : pr P (s >>= f) = pr P (f a) := by
  show pr P (Sem.bind s f) = _
  induction s with
  | pure b => simp only [pr, Option.some.injEq] at h; subst h; rfl
  | program k ih => simp only [pr, Sem.bind] at h ⊢; exact ih P h
  | mark m k ih => simp only [pr, Sem.bind] at h ⊢; exact ih h
  | _ => simp [pr] at h
theorem pr_pure {α : Type} (a : α) : pr P (pure a : Sem α) = some a := rfl
theorem pr_underlying {t : TypeId} {d : TypeDesc} (h : P.underlying t = some d) : pr P (underlying t) = some d := by
  unfold underlying
  rw [pr_bind (P := P) program _ (a := P) rfl, h]
  rfl
theorem pr_value {s : Sem Value} {v : Value} (h : pr P s = some v) : pr P (do pure (Next.value (← s))) = some (.value v) := by
  rw [pr_bind s _ h]; rfl

theorem bnd_some {st : St} {d a : Int} {x : Option Operand} (h : bnd st d x = some a) : (x = none ∧ a = d) ∨ ∃ y k, x = some y ∧ st.eval y = some (.v (.int k a)) := by
  unfold bnd at h
  split at h
  · cases h; exact .inl ⟨rfl, rfl⟩
  · rename_i y
    split at h
    · rename_i k b hb
      cases h
      exact .inr ⟨y, k, rfl, hb⟩
    · cases h

theorem plain_two {st : St} {o : Oper} {x y : Operand} {a b : Value} (hs : ∀ cs bl, o.op ≠ .select cs bl) (ho : o.op.operands.toList = [x, y]) (hx : st.eval x = some (.v a)) (hy : st.eval y = some (.v b)) :
    st.plain P o = pr P (execOp (fun x => ((st.eval x).bind AV.toVal).getD undef) o) := by
  unfold St.plain
  split
  · rfl
  · rename_i h
    exfalso
    split at h
    · rename_i cs bl h'; exact hs _ _ h'
    · rw [ho] at h; simp [evals, hx, hy, toVals, AV.toVal] at h

/-- A plain operation's answer is the operation's. -/
theorem evOp_plain {cl : Nat} {st : St} {o : Oper} {v : Value} {r : Res} (hc : calleeOf P st o = none) (hm : evMem P st o.dst o.op = none) (hn : isNew o.op = false) (hp : st.plain P o = some (.value v)) (hr : (ofVal v, st.L, st.S) = r) : evOp P C call cl st o = some r := by
  unfold evOp
  rw [hc]
  dsimp only
  rw [hm]
  dsimp only
  rw [if_neg (by simp [hn]), hp]
  simp [ofNext, hr]

theorem get_bytes (s : ByteArray) (n : Nat) : s[n]? = s.data.toList[n]? := by
  by_cases h : n < s.size
  · rw [getElem?_pos s n h]
    have h' : n < s.data.toList.length := by simpa using h
    rw [List.getElem?_eq_getElem h']
    rfl
  · rw [getElem?_neg s n h, List.getElem?_eq_none (by simpa using Nat.le_of_not_lt h)]

theorem size_bytes (s : ByteArray) : s.size = s.data.toList.length := (Array.length_toList).symm

theorem pr_index {t : TypeId} {s : ByteArray} {k : IntKind} {i : Int} (h : P.underlying t = some .string) (h0 : 0 ≤ i) (h1 : i < (s.data.toList.length : Int)) : pr P (Instr.index t (.string s) (.int k i)) = some (.int .u8 (byteAt s i.toNat)) := by
  unfold Instr.index
  rw [pr_bind (asIntOf (.int k i)) _ (a := (k, i)) rfl]
  dsimp only
  rw [pr_bind (underlying t) _ (pr_underlying h)]
  dsimp only
  rw [if_pos h0, get_bytes]
  have h2 : i.toNat < s.data.toList.length := by omega
  rw [List.getElem?_eq_getElem h2]
  simp only [byteAt, List.getElem?_eq_getElem h2, Option.getD_some]
  rfl

theorem cut_bytes (s : ByteArray) (a b : Nat) (h : b ≤ s.data.toList.length) : s.extract a b = cutS s a b := by
  unfold cutS
  cases s with
  | mk d =>
    apply ByteArray.ext
    simp [ByteArray.data_extract]
    apply Array.ext'
    simp [List.drop_take]

theorem cat_bytes (a b : ByteArray) : a ++ b = catS a b := by
  unfold catS
  apply ByteArray.ext
  simp

theorem pr_strAdd {t : TypeId} {x y : Operand} {a b : ByteArray} (h : (a.data.toList.length + b.data.toList.length : Int) ≤ 9223372036854775807) :
    pr P (do eqGuard .add t x y (.string a) (.string b); binOp .add t (.string a) (.string b)) = some (.string (catS a b)) := by
  have e : binOp .add t (.string a) (.string b) = pure (.string (a ++ b)) := by
    simp only [binOp, Op.stringOp]
    rw [if_neg]
    rw [size_bytes, size_bytes]
    have : IntKind.i64.max = 9223372036854775807 := by decide
    rw [this]
    omega
  rw [e, cat_bytes]
  rfl
theorem pr_strEq {t : TypeId} {x y : Operand} {a b : ByteArray} :
    pr P (do eqGuard .eql t x y (.string a) (.string b); binOp .eql t (.string a) (.string b)) = some (.bool (eqS a b)) := by
  have e : binOp .eql t (.string a) (.string b) = pure (.bool (a.toList == b.toList)) := rfl
  rw [e, ← eqS_iff]
  rfl
theorem pr_strNe {t : TypeId} {x y : Operand} {a b : ByteArray} :
    pr P (do eqGuard .neq t x y (.string a) (.string b); binOp .neq t (.string a) (.string b)) = some (.bool (!eqS a b)) := by
  have e : binOp .neq t (.string a) (.string b) = pure (.bool (!(a.toList == b.toList))) := rfl
  rw [e, ← eqS_iff]
  rfl
theorem pr_quo {t : TypeId} {x y : Operand} {k : IntKind} {a b : Int} (h : b ≠ 0) :
    pr P (do eqGuard .quo t x y (.int k a) (.int k b); binOp .quo t (.int k a) (.int k b)) = some (.int k (k.wrap (a.tdiv b))) := by
  have e : binOp .quo t (.int k a) (.int k b) = pure (.int k (k.wrap (a.tdiv b))) := by
    simp [binOp, Op.intDiv, h]
  rw [e]
  rfl
theorem pr_rem {t : TypeId} {x y : Operand} {k : IntKind} {a b : Int} (h : b ≠ 0) :
    pr P (do eqGuard .rem t x y (.int k a) (.int k b); binOp .rem t (.int k a) (.int k b)) = some (.int k (a.tmod b)) := by
  have e : binOp .rem t (.int k a) (.int k b) = pure (.int k (a.tmod b)) := by
    simp [binOp, Op.intDiv, h]
  rw [e]
  rfl

/-- The operands that a part of a string names, evaluated. -/
theorem pr_bound {y : Nat} {k : IntKind} {i : Int} {code : BoundsCode} (h0 : 0 ≤ i) (h1 : i ≤ y) : pr P (Instr.sliceBound (.int k i) y code) = some i.toNat := by
  unfold Instr.sliceBound
  rw [pr_bind (asIntOf (.int k i)) _ (a := (k, i)) rfl]
  dsimp only
  rw [if_pos ⟨h0, h1⟩]
  rfl

theorem pr_bounds {n : Nat} {lo hi : Option Value} {a b : Int} (hlo : (lo = none ∧ a = 0) ∨ ∃ k, lo = some (.int k a)) (hhi : (hi = none ∧ b = (n : Int)) ∨ ∃ k, hi = some (.int k b)) (h0 : 0 ≤ a) (h1 : a ≤ b) (h2 : b ≤ (n : Int)) :
    pr P (Instr.sliceBounds false n n lo hi none) = some (a.toNat, b.toNat, n) := by
  have hb : 0 ≤ b := by omega
  have h3 : a ≤ (b.toNat : Int) := by omega
  unfold Instr.sliceBounds
  dsimp only
  rw [pr_bind (pure n : Sem Nat) _ (a := n) rfl]
  rcases hhi with ⟨rfl, rfl⟩ | ⟨k2, rfl⟩
  · dsimp only
    rw [pr_bind (pure n : Sem Nat) _ (a := n) rfl]
    rcases hlo with ⟨rfl, rfl⟩ | ⟨k1, rfl⟩
    · rfl
    · dsimp only
      rw [pr_bind _ _ (pr_bound (P := P) h0 h1)]
      rfl
  · dsimp only
    rw [pr_bind _ _ (pr_bound (P := P) hb h2)]
    rcases hlo with ⟨rfl, rfl⟩ | ⟨k1, rfl⟩
    · rfl
    · dsimp only
      rw [pr_bind _ _ (pr_bound (P := P) h0 h3)]
      rfl

theorem pr_cut {t : TypeId} {s : ByteArray} {lo hi : Option Value} {a b : Int} (hu : P.underlying t = some .string) (hlo : (lo = none ∧ a = 0) ∨ ∃ k, lo = some (.int k a)) (hhi : (hi = none ∧ b = (s.data.toList.length : Int)) ∨ ∃ k, hi = some (.int k b)) (h0 : 0 ≤ a) (h1 : a ≤ b) (h2 : b ≤ (s.data.toList.length : Int)) :
    pr P (Instr.sliceAt t (.string s) lo hi none) = some (.string (cutS s a.toNat b.toNat)) := by
  unfold Instr.sliceAt
  rw [pr_bind (underlying t) _ (pr_underlying hu)]
  dsimp only
  unfold Instr.slice
  rw [pr_bind (underlying t) _ (pr_underlying hu)]
  dsimp only
  rw [← size_bytes] at hhi h2
  have e := pr_bounds (P := P) hlo hhi h0 h1 h2
  simp only [Option.isSome_none, Bool.false_eq_true, if_false]
  rw [pr_bind _ _ e]
  dsimp only
  rw [cut_bytes _ _ _ (by rw [← size_bytes]; omega)]
  rfl

theorem pr_assert {x : TypeId} {t d : TypeId} {v z : Value} {want : Array (String × TypeId)} {i : TypeInfo} (hu : P.underlying t = some (.interface want)) (hi : P.info? d = some i) :
    (lacking want i.methods = [] → pr P (Instr.typeAssert (.iface d v) x t true) = some (.tuple #[.iface d v, .bool true])) ∧
    (lacking want i.methods ≠ [] → ∀ j, P.info? t = some j → j.zero = some z → pr P (Instr.typeAssert (.iface d v) x t true) = some (.tuple #[z, .bool false])) := by
  have ti : ∀ {t : TypeId} {j : TypeInfo}, P.info? t = some j → pr P (typeInfo t) = some j := by
    intro t j h
    unfold typeInfo
    rw [pr_bind (P := P) program _ (a := P) rfl, h]
    rfl
  constructor
  · intro hl
    unfold Instr.typeAssert
    dsimp only
    rw [pr_bind (underlying t) _ (pr_underlying hu)]
    dsimp only
    rw [pr_bind (typeInfo d) _ (ti hi), missingMethod_none hl]
    rfl
  · intro hl j hj hz
    obtain ⟨m, hm⟩ := missingMethod_some hl
    unfold Instr.typeAssert
    dsimp only
    rw [pr_bind (underlying t) _ (pr_underlying hu)]
    dsimp only
    rw [pr_bind (typeInfo d) _ (ti hi), hm]
    dsimp only
    have hzv : pr P (zeroValue t) = some z := by
      unfold zeroValue
      rw [pr_bind (typeInfo t) _ (ti hj), hz]
      rfl
    simp only [if_true]
    rw [pr_bind (zeroValue t) _ hzv]
    rfl

theorem evSpec_sound (hH : HintOK P C H) {cl : Nat} {st : St} {o : Oper} {r : Res} (hc : calleeOf P st o = none) (h : evSpec P H st o = some (true, r)) : evOp P C call cl st o = some r := by
  unfold evSpec at h
  split at h
  · -- indexAddr
    rename_i t x y hop
    split at h
    · rename_i e l k i hu hx hy
      split at h
      · rename_i xs he
        split at h
        · rename_i b cs hr
          simp only [Option.some.injEq, Prod.mk.injEq, Bool.and_eq_true, decide_eq_true_eq] at h
          obtain ⟨⟨h0, rfl⟩, rfl⟩ := h
          obtain ⟨h1, h2⟩ := hH.rd _ _ _ _ hr
          unfold evOp
          rw [hc]
          dsimp only
          have : evMem P st o.dst o.op = some (.ref cs, st.L, st.S) := by
            rw [hop]
            simp [evMem, hu, hx, hy, he, h2, h0, h1]
          rw [this]
        · cases h
      · cases h
    · cases h
  · -- index
    rename_i t x y hop
    split at h
    · rename_i s k i hu hx hy
      simp only [Option.some.injEq, Prod.mk.injEq, Bool.and_eq_true, decide_eq_true_eq] at h
      obtain ⟨⟨h0, h1⟩, h2⟩ := h
      refine evOp_plain hc (by rw [hop]; rfl) (by rw [hop]; rfl) (v := .int .u8 (byteAt s i.toNat)) ?_ h2
      rw [plain_two (by rw [hop]; intro _ _ e; cases e) (by rw [hop]; rfl) hx hy]
      unfold execOp
      rw [hop]
      dsimp only
      rw [hx, hy]
      exact pr_value (pr_index hu h0 h1)
    · cases h
  · -- slice
    rename_i t x lo hi hop
    split at h
    · rename_i s hu hx
      split at h
      · rename_i a b ha hb
        simp only [Option.some.injEq, Prod.mk.injEq, Bool.and_eq_true, decide_eq_true_eq] at h
        obtain ⟨⟨h0, h1, h2⟩, h3⟩ := h
        have hm : evMem P st o.dst o.op = none := by rw [hop]; simp [evMem, hu]
        refine evOp_plain hc hm (by rw [hop]; rfl) (v := .string (cutS s a.toNat b.toNat)) ?_ h3
        have hp : st.plain P o = pr P (execOp (fun x => ((st.eval x).bind AV.toVal).getD undef) o) := by
          unfold St.plain
          split
          · rfl
          · rename_i h
            exfalso
            split at h
            · rename_i cs bl h'; rw [hop] at h'; cases h'
            · rw [hop] at h
              rcases bnd_some ha with ⟨rfl, rfl⟩ | ⟨lo, k1, rfl, e1⟩ <;> rcases bnd_some hb with ⟨rfl, rfl⟩ | ⟨hi, k2, rfl, e2⟩ <;> simp [Op.operands, evals, toVals, AV.toVal, *] at h
        rw [hp]
        unfold execOp
        rw [hop]
        dsimp only
        rw [hx]
        refine pr_value (pr_cut hu ?_ ?_ h0 h1 h2)
        · rcases bnd_some ha with ⟨rfl, rfl⟩ | ⟨lo, k1, rfl, e1⟩
          · exact .inl ⟨rfl, rfl⟩
          · exact .inr ⟨k1, by simp [e1, AV.toVal]⟩
        · rcases bnd_some hb with ⟨rfl, rfl⟩ | ⟨hi, k1, rfl, e1⟩
          · exact .inl ⟨rfl, rfl⟩
          · exact .inr ⟨k1, by simp [e1, AV.toVal]⟩
      · cases h
    · rename_i e l hu hx
      split at h
      · rename_i xs sz he hz
        split at h
        · rename_i a b ha hb
          simp only [Option.some.injEq, Prod.mk.injEq, Bool.and_eq_true, decide_eq_true_eq] at h
          obtain ⟨⟨h0, h1, h2⟩, h3⟩ := h
          unfold evOp
          rw [hc]
          dsimp only
          have : evMem P st o.dst o.op = some r := by
            rw [hop, ← h3]
            rcases bnd_some ha with ⟨rfl, rfl⟩ | ⟨lo, k1, rfl, e1⟩ <;> rcases bnd_some hb with ⟨rfl, rfl⟩ | ⟨hi, k2, rfl, e2⟩
            · simp [evMem, hu, hx, he, hz]
            · simp [evMem, hu, hx, he, hz, e2, h1, h2]
            · simp [evMem, hu, hx, he, hz, e1, h0, h1]
            · simp [evMem, hu, hx, he, hz, e1, e2, h0, h1, h2]
          rw [this]
        · cases h
      · cases h
    · cases h
  · -- binOp
    rename_i op t x y w hop
    have plain : ∀ {a b v : Value}, st.eval x = some (.v a) → st.eval y = some (.v b) → pr P (do eqGuard op t x y a b; binOp op t a b) = some v → (ofVal v, st.L, st.S) = r → evOp P C call cl st o = some r := by
      intro a b v hx hy hp hr
      refine evOp_plain hc (by rw [hop]; rfl) (by rw [hop]; rfl) (v := v) ?_ hr
      rw [plain_two (by rw [hop]; intro _ _ e; cases e) (by rw [hop]; rfl) hx hy]
      unfold execOp
      rw [hop]
      dsimp only
      rw [hx, hy]
      exact pr_value hp
    split at h
    · rename_i a b hx hy
      split at h
      · simp only [Option.some.injEq, Prod.mk.injEq, decide_eq_true_eq] at h
        exact plain hx hy (pr_strAdd h.1) h.2
      · simp only [Option.some.injEq, Prod.mk.injEq, true_and] at h
        exact plain hx hy pr_strEq h
      · simp only [Option.some.injEq, Prod.mk.injEq, true_and] at h
        exact plain hx hy pr_strNe h
      · cases h
    · rename_i k a k' b hx hy
      split at h
      · simp only [Option.some.injEq, Prod.mk.injEq, Bool.and_eq_true, decide_eq_true_eq] at h
        obtain ⟨⟨rfl, h1⟩, h2⟩ := h
        exact plain hx hy (pr_quo h1) h2
      · simp only [Option.some.injEq, Prod.mk.injEq, Bool.and_eq_true, decide_eq_true_eq] at h
        obtain ⟨⟨rfl, h1⟩, h2⟩ := h
        exact plain hx hy (pr_rem h1) h2
      · cases h
    · cases h
  · -- typeAssert
    rename_i x xT t hop
    split at h
    · rename_i want d v hu hx
      have plain : ∀ {u : Value}, pr P (Instr.typeAssert (.iface d v) xT t true) = some u → (ofVal u, st.L, st.S) = r → evOp P C call cl st o = some r := by
        intro u hp hr
        refine evOp_plain hc (by rw [hop]; rfl) (by rw [hop]; rfl) (v := u) ?_ hr
        have hp' : st.plain P o = pr P (execOp (fun x => ((st.eval x).bind AV.toVal).getD undef) o) := by
          unfold St.plain
          split
          · rfl
          · rename_i h
            exfalso
            split at h
            · rename_i cs bl h'; rw [hop] at h'; cases h'
            · rw [hop] at h; simp [Op.operands, evals, toVals, AV.toVal, hx] at h
        rw [hp']
        unfold execOp
        rw [hop]
        dsimp only
        rw [hx]
        exact pr_value hp
      split at h
      · rename_i i j hi hj
        split at h
        · rename_i hl
          simp only [Option.some.injEq, Prod.mk.injEq, true_and] at h
          exact plain ((pr_assert (z := undef) hu hi).1 (List.isEmpty_iff.1 hl)) h
        · rename_i hl
          split at h
          · rename_i z hz
            simp only [Option.some.injEq, Prod.mk.injEq, true_and] at h
            exact plain ((pr_assert hu hi).2 (fun e => hl (by rw [e]; rfl)) j hj hz) h
          · cases h
      · cases h
    · cases h
  · -- append
    rename_i c hop
    split at h
    · rename_i x y hcal hargs
      split at h
      · rename_i t t' e k s n m hat hau hx hy
        split at h
        · rename_i htt
          split at h
          · rename_i sz by' z y0 ys e2 sz2 xs h1 h2 h3 h4 h5
            split at h
            · rename_i hcond
              split at h
              · rename_i L S hs
                simp only [Option.some.injEq, Prod.mk.injEq, Bool.and_eq_true, decide_eq_true_eq] at h
                obtain ⟨⟨hn, hb⟩, h6⟩ := h
                obtain ⟨c1, c2, c3, c4, rfl, rfl⟩ := hcond
                unfold evOp
                rw [hc]
                dsimp only
                have : evMem P st o.dst o.op = some r := by
                  rw [hop, ← h6]
                  simp only [evMem, hcal, hargs, hat, hau, hx, hy, htt, if_true, h1, h2, h3, h4, h5]
                  rw [if_pos ⟨c1, c2, c3, c4⟩]
                  rw [if_pos ⟨trivial, trivial, hn⟩, if_pos hb, hs]
                rw [this]
              · cases h
            · cases h
          · cases h
        · cases h
      · cases h
    · cases h
  · cases h
end
end Go.Proofs.YtffjdcbegohmiaaDoor.Ev
