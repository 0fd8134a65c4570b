/-
  The nice machine's word is the abstract machine's: every instruction.
-/
import Derived.Test.YtbnllihefecemaaGreatDoorN2
set_option linter.unusedSimpArgs false
set_option linter.unusedVariables false
namespace Go.AM
open Go

def RecLe (r r' : Rec) : Prop := ∀ f args m x, r f args m = some x → r' f args m = some x

section
variable {P : Program} {rec : Rec} {tm : T Value} {m m' : Mem} {o : Oper} {v : Value} {i : Ins} {r : Value × Mem}

theorem opVal_mono {rec' : Rec} (h : RecLe rec rec') (hv : opVal P rec o tm m = some r) : opVal P rec' o tm m = some r := by
  unfold opVal at hv ⊢
  cases hk : kindOf P o <;> simp only [hk] at hv ⊢ <;> try exact hv
  cases hc : callOp P (evalAt tm) o with
  | none => simp [hc] at hv
  | some x =>
    simp only [hc, Option.bind_some] at hv ⊢
    exact h _ _ _ _ hv

theorem opVal_pure (hk : kindOf P o = .pure) (h : pureOp P (evalAt tm) o = some v) : opVal P rec o tm m = some (v, m) := by
  unfold opVal; simp [hk, h]
theorem opVal_read (hk : kindOf P o = .read) (h : readOp P (evalAt tm) m o = some v) : opVal P rec o tm m = some (v, m) := by
  unfold opVal; simp [hk, h]
theorem opVal_new {x : Blk} {f : Nat → Value} (hk : kindOf P o = .new) (h : newOp P (evalAt tm) o = some (x, f)) (hr : pushV m x f = some r) : opVal P rec o tm m = some r := by
  unfold opVal; simp [hk, h, hr]
theorem opVal_write (hk : kindOf P o = .write) (h : writeOp P (evalAt tm) m o = some r) : opVal P rec o tm m = some r := by
  unfold opVal; simp [hk, h]
theorem opVal_call {f : FuncId} {args : Array Value} (hk : kindOf P o = .call) (h : callOp P (evalAt tm) o = some (f, args)) (hr : rec f args m = some r) : opVal P rec o tm m = some r := by
  unfold opVal; simp [hk, h, hr]

/-! ### Pure instructions -/
theorem pure_of {x : Option Value} (hr : ret x m = some r) (hk : kindOf P o = .pure) (h : ∀ v, x = some v → pureOp P (evalAt tm) o = some v) : opVal P rec o tm m = some r := by
  obtain ⟨h1, h2⟩ := ret_some hr
  obtain ⟨v, m2⟩ := r
  subst h2
  exact opVal_pure hk (h _ h1)

theorem read_of {x : Option Value} (hr : ret x m = some r) (hk : kindOf P o = .read) (h : ∀ v, x = some v → readOp P (evalAt tm) m o = some v) : opVal P rec o tm m = some r := by
  obtain ⟨h1, h2⟩ := ret_some hr
  obtain ⟨v, m2⟩ := r
  subst h2
  exact opVal_read hk (h _ h1)

theorem bin_ok {op : BinOp} {t t' : TypeId} {x y : Operand} (ho : o.op = .binOp op t x y t') {v : Value} (h : bin2 op (evalAt tm x) (evalAt tm y) = some v) : pureOp P (evalAt tm) o = some v := by
  obtain ⟨k, a, b, h1, h2, h3⟩ := bin2_some h
  obtain ⟨h4, h5⟩ := binI_eq P op t a b k h3
  refine pureOp_bin ho (by rw [h1]; rfl) (by rw [h2]; rfl) h5 ?_
  rw [h1, h2, pureRun_bind, eqGuard_int]
  exact h4

theorem eqb_ok {neg : Bool} {t t' : TypeId} {x y : Operand} (hu : P.underlying t = some .bool) (ho : o.op = .binOp (bif neg then .neq else .eql) t x y t') {v : Value} (h : eqb2 neg (evalAt tm x) (evalAt tm y) = some v) :
    pureOp P (evalAt tm) o = some v := by
  unfold eqb2 at h
  split at h
  · rename_i a h1
    split at h
    · rename_i b h2
      simp only [Option.some.injEq] at h
      subst h
      refine pureOp_bin ho (by rw [h1]; rfl) (by rw [h2]; rfl) rfl ?_
      rw [h1, h2, pureRun_bind, eqGuard_bool]
      have he : pureRun P (Op.equal t (.bool a) (.bool b)) = some (a == b) := by
        unfold Op.equal Op.maxDepth Op.equalIn
        simp [hu]
      cases neg with
      | false =>
        simp only [cond_false, Option.bind_some, binOp]
        rw [pureRun_bind, he]
        cases a <;> cases b <;> rfl
      | true =>
        simp only [cond_true, Option.bind_some, binOp]
        rw [pureRun_bind, he]
        cases a <;> cases b <;> rfl
    · cases h
  · cases h

theorem nilPair_pure {d : TypeDesc} {x y : Value} {b : Bool} {t : TypeId} (hu : P.underlying t = some d) (h : nilPair d x y = some b) :
    pureRun P (Op.equal t x y) = some b ∧ (∀ op s s', pureRun P (eqGuard op t s s' x y) = some ()) ∧
      binOp .eql t x y = (do pure (.bool (← Op.equal t x y))) ∧ binOp .neq t x y = (do pure (.bool (!(← Op.equal t x y)))) := by
  have hd : pureRun P (Op.equal t x y) = pureRun P (Op.equal t x y) := rfl
  refine ⟨?_, ?_, ?_⟩
  · unfold Op.equal Op.maxDepth Op.equalIn
    rw [pureRun_bind, pureRun_underlying, hu]
    simp only [Option.bind_some]
    unfold nilPair at h
    split at h <;> first | cases h | (simp only [Option.some.injEq] at h; subst h)
    all_goals rfl
  · intro op s s'
    unfold nilPair at h
    split at h <;> first | cases h | skip
    all_goals (cases op <;> rfl)
  · unfold nilPair at h
    split at h <;> first | cases h | skip
    all_goals exact ⟨rfl, rfl⟩

theorem nilt_ok {op : BinOp} {d : TypeDesc} {t t' : TypeId} {x y : Operand} (hu : P.underlying t = some d) (ho : o.op = .binOp op t x y t') {v : Value} (h : nilTest d op (evalAt tm x) (evalAt tm y) = some v) : pureOp P (evalAt tm) o = some v := by
  cases hf : (flat (evalAt tm x) && flat (evalAt tm y)) with
  | false =>
    unfold pureOp
    simp only [ho, hf, cond_false, hu, Option.bind_some, h]
  | true =>
    rw [Bool.and_eq_true] at hf
    have hb : ∃ b, nilPair d (evalAt tm x) (evalAt tm y) = some b ∧ flat v = true ∧ ((op = .eql ∧ v = .bool b) ∨ (op = .neq ∧ v = .bool !b)) := by
      unfold nilTest at h
      split at h
      all_goals try (cases h; done)
      all_goals
        cases hp : nilPair d (evalAt tm x) (evalAt tm y) with
        | none => simp [hp] at h
        | some b =>
          simp only [hp, Option.bind_some, Option.some.injEq] at h
          subst h
          exact ⟨b, rfl, rfl, by simp⟩
    obtain ⟨b, hp, hv, hop⟩ := hb
    obtain ⟨he, hg, h1, h2⟩ := nilPair_pure (P := P) hu hp
    refine pureOp_bin ho hf.1 hf.2 hv ?_
    rw [pureRun_bind, hg]
    simp only [Option.bind_some]
    rcases hop with ⟨rfl, rfl⟩ | ⟨rfl, rfl⟩
    · rw [h1]; simp [he]
    · rw [h2]; simp [he]

/-! ### Addresses and parts -/
theorem structAt_some {t : TypeId} {fs : Array Field} (h : structAt P t = some fs) : P.underlying t = some (.struct fs) := by
  unfold structAt at h
  split at h
  · simp only [Option.some.injEq] at h; subst h; assumption
  · cases h

theorem sliceElem_some {t e : TypeId} (h : sliceElem P t = some e) : P.underlying t = some (.slice e) := by
  unfold sliceElem at h
  split at h
  · simp only [Option.some.injEq] at h; subst h; assumption
  · cases h

theorem mapTypes_some {t : TypeId} {q : TypeId × TypeId} (h : mapTypes P t = some q) : P.underlying t = some (.map q.1 q.2) := by
  unfold mapTypes at h
  split at h
  · simp only [Option.some.injEq] at h; subst h; assumption
  · cases h

theorem partKind_some {t : TypeId} {n : Option Nat} (h : partKind P t = some n) : (n = none ∧ aggAt P t = some false) ∨ (∃ k, n = some k ∧ aggAt P t = some true ∧ sizeAt P t = some k) := by
  unfold partKind at h
  cases ha : aggAt P t with
  | none => simp [ha] at h
  | some b =>
    cases b with
    | false => simp only [ha, Option.bind_some, cond_false, Option.some.injEq] at h; subst h; exact .inl ⟨rfl, rfl⟩
    | true =>
      cases hs : sizeAt P t with
      | none => simp [ha, hs] at h
      | some k => simp only [ha, hs, Option.bind_some, cond_true, Option.some.injEq] at h; subst h; exact .inr ⟨k, rfl, rfl, rfl⟩

theorem fieldAddr1_some {off : Nat} {x v : Value} (h : fieldAddr1 off x = some v) : ∃ b n, x = .pointer (some ⟨b, n, none⟩) ∧ v = .pointer (some ⟨b, n + off, none⟩) := by
  unfold fieldAddr1 at h
  split at h
  · simp only [Option.some.injEq] at h; subst h; exact ⟨_, _, rfl, rfl⟩
  · cases h

theorem fieldAddr_ok {t : TypeId} {x : Operand} {f n : Nat} {fs : Array Field} {fd : Field} (ho : o.op = .fieldAddr t x f) (hu : structAt P t = some fs) (hf : fs[f]? = some fd) (hn : sizeAt P fd.type = some n) (h0 : n ≠ 0)
    {v : Value} (h : fieldAddr1 fd.offset (evalAt tm x) = some v) : pureOp P (evalAt tm) o = some v := by
  obtain ⟨b, k, e, rfl⟩ := fieldAddr1_some h
  unfold pureOp
  simp only [ho]
  unfold Instr.fieldAt
  simp [structAt_some hu, hf, e, Instr.sureAddr, fieldPlace, hn, h0, add_none]

theorem aggOf_some {l : Option (List Value)} {v : Value} (h : aggOf l = some v) : ∃ r, l = some r ∧ v = .agg r.toArray := by
  cases l with
  | none => cases h
  | some r =>
    have : some (Value.agg r.toArray) = some v := h
    simp only [Option.some.injEq] at this
    exact ⟨r, rfl, this.symm⟩

theorem cut_extract {l : List Value} {k n : Nat} {r : List Value} (h : cut k n l = some r) : l.toArray.extract k (k + n) = r.toArray := by
  obtain ⟨h1, h2, h3⟩ := cut_spec h
  apply Array.ext_getElem?
  intro i
  rw [Array.getElem?_extract]
  simp only [List.getElem?_toArray, List.size_toArray]
  by_cases hi : i < n
  · rw [if_pos (by omega), h3 i hi]
  · rw [if_neg (by omega)]
    simp; omega

theorem part_pure {t : TypeId} {n : Option Nat} {off : Nat} {cs : Array Value} {v : Value} (hk : partKind P t = some n) (h : part1 n off (.agg cs) = some v) : pureRun P (part t cs off) = some v := by
  unfold part
  unfold part1 at h
  rcases partKind_some hk with ⟨rfl, ha⟩ | ⟨k, rfl, ha, hs⟩
  · have h' : nth cs.toList off = some v := h
    rw [nth_eq, Array.getElem?_toList] at h'
    simp [ha, h']
  · have h' : aggOf (cut off k cs.toList) = some v := h
    obtain ⟨r, h1, rfl⟩ := aggOf_some h'
    simp [ha, hs]
    exact cut_extract h1

theorem field_ok {t : TypeId} {x : Operand} {f : Nat} {n : Option Nat} {fs : Array Field} {fd : Field} (ho : o.op = .field t x f) (hu : structAt P t = some fs) (hf : fs[f]? = some fd) (hn : partKind P fd.type = some n)
    {v : Value} (h : part1 n fd.offset (evalAt tm x) = some v) : pureOp P (evalAt tm) o = some v := by
  unfold pureOp
  simp only [ho]
  unfold Instr.field
  have h' := h
  unfold part1 at h'
  split at h'
  · rename_i cs e
    rw [e] at h ⊢
    simp [structAt_some hu, hf, asAgg, part_pure hn h]
  · cases h'

theorem indexAddr2_some {size : Nat} {x i v : Value} (h : indexAddr2 size x i = some v) : ∃ b k len c q n, x = .slice (some ⟨b, k, none⟩) len c ∧ i = .int q (.ofNat n) ∧ n < len ∧ v = .pointer (some ⟨b, k + n * size, none⟩) := by
  unfold indexAddr2 at h
  split at h
  · rename_i b k len c
    split at h
    · rename_i q n
      cases hb : Nat.blt n len with
      | false => rw [hb] at h; cases h
      | true =>
        rw [hb] at h
        have h' : some (Value.pointer (some ⟨b, k + n * size, none⟩)) = some v := h
        simp only [Option.some.injEq] at h'
        exact ⟨b, k, len, c, q, n, rfl, rfl, by simpa [Nat.blt_eq] using hb, h'.symm⟩
    · cases h
  · cases h

theorem indexArr2_some {len size : Nat} {x i v : Value} (h : indexArr2 len size x i = some v) : ∃ b k q n, x = .pointer (some ⟨b, k, none⟩) ∧ i = .int q (.ofNat n) ∧ n < len ∧ v = .pointer (some ⟨b, k + n * size, none⟩) := by
  unfold indexArr2 at h
  split at h
  · rename_i b k
    split at h
    · rename_i q n
      cases hb : Nat.blt n len with
      | false => rw [hb] at h; cases h
      | true =>
        rw [hb] at h
        have h' : some (Value.pointer (some ⟨b, k + n * size, none⟩)) = some v := h
        simp only [Option.some.injEq] at h'
        exact ⟨b, k, q, n, rfl, rfl, by simpa [Nat.blt_eq] using hb, h'.symm⟩
    · cases h
  · cases h

theorem indexAddr_ok {t e : TypeId} {x i : Operand} {n : Nat} (ho : o.op = .indexAddr t x i) (hu : P.underlying t = some (.slice e)) (hn : sizeAt P e = some n)
    {v : Value} (h : indexAddr2 n (evalAt tm x) (evalAt tm i) = some v) : pureOp P (evalAt tm) o = some v := by
  obtain ⟨b, k, len, c, q, j, h1, h2, h3, rfl⟩ := indexAddr2_some h
  unfold pureOp
  simp only [ho]
  unfold Instr.indexAt
  have hlt : (0 : Int) ≤ (j : Int) ∧ (j : Int) < (len : Int) := by omega
  simp [h1, h2, hu, asIntOf, hn, add_none, hlt]
  omega

theorem indexArr_ok {t e : TypeId} {x i : Operand} {len n : Nat} (ho : o.op = .indexAddr t x i) (hu : P.underlying t = some (.array len e)) (hn : sizeAt P e = some n)
    {v : Value} (h : indexArr2 len n (evalAt tm x) (evalAt tm i) = some v) : pureOp P (evalAt tm) o = some v := by
  obtain ⟨b, k, q, j, h1, h2, h3, rfl⟩ := indexArr2_some h
  unfold pureOp
  simp only [ho]
  unfold Instr.indexAt
  simp [h1, h2, hu, asIntOf, hn, add_none, h3, Instr.sureAddr]

theorem byteV_some {x : Option UInt8} {v : Value} (h : byteV x = some v) : ∃ b, x = some b ∧ v = .int .u8 (.ofNat b.toNat) := by
  cases x with
  | none => cases h
  | some b =>
    have : some (Value.int .u8 (.ofNat b.toNat)) = some v := h
    simp only [Option.some.injEq] at this
    exact ⟨b, rfl, this.symm⟩

theorem bytes_get (s : ByteArray) (n : Nat) : s[n]? = s.data.toList[n]? := by
  rw [Array.getElem?_toList]
  by_cases h : n < s.size
  · rw [getElem?_pos s n h, Array.getElem?_eq_getElem h]; rfl
  · rw [getElem?_neg s n h, Array.getElem?_eq_none (by
      have : s.data.size = s.size := rfl
      omega)]

theorem indexStr_ok {t : TypeId} {x i : Operand} (ho : o.op = .index t x i) (hu : P.underlying t = some .string)
    {v : Value} (h : indexStr2 (evalAt tm x) (evalAt tm i) = some v) : pureOp P (evalAt tm) o = some v := by
  unfold indexStr2 at h
  split at h
  · rename_i s e1
    split at h
    · rename_i q n e2
      obtain ⟨b, hb, rfl⟩ := byteV_some h
      rw [nth_eq, ← bytes_get] at hb
      unfold pureOp
      simp only [ho]
      unfold Instr.index
      simp [e1, e2, hu, asIntOf, hb]
    · cases h
  · cases h

theorem extract_ok {x : Operand} {n : Nat} (ho : o.op = .extract x n) {v : Value} (h : extract1 (evalAt tm x) n = some v) : pureOp P (evalAt tm) o = some v := by
  unfold extract1 at h
  split at h
  · rename_i vs e
    rw [nth_eq, Array.getElem?_toList] at h
    unfold pureOp
    simp only [ho]
    unfold Instr.extract
    simp [e, h]
  · cases h

theorem not_ok {t : TypeId} {x : Operand} (ho : o.op = .unOp .not t x) {v : Value} (h : not1 (evalAt tm x) = some v) : pureOp P (evalAt tm) o = some v := by
  unfold not1 at h
  split at h
  · rename_i a e
    simp only [Option.some.injEq] at h
    subst h
    unfold pureOp
    simp only [ho, e]
    unfold execOp
    simp [ho, e, Op.unary, notB_eq, valueOf, flat, flat0]
  · cases h

theorem convI_eq (k : IntKind) (n : Int) : convI k n = k.wrap n := by
  cases n with
  | ofNat n => show wrapN k n = _; rw [wrapN_eq]; rfl
  | negSucc n => rfl

theorem conv_ok {src dst : TypeId} {k k0 : IntKind} {x : Operand} (ho : o.op = .convert src dst x) (hs : P.underlying src = some (.int k0)) (hd : P.underlying dst = some (.int k)) {v : Value} (h : conv1 k (evalAt tm x) = some v) : pureOp P (evalAt tm) o = some v := by
  unfold conv1 at h
  split at h
  · rename_i q n e
    simp only [Option.some.injEq] at h
    subst h
    unfold pureOp
    simp only [ho, e]
    unfold execOp
    simp [ho, e, convert, hs, hd, Conv.intToInt, convI_eq, valueOf, flat, flat0]
  · cases h

end
end Go.AM
