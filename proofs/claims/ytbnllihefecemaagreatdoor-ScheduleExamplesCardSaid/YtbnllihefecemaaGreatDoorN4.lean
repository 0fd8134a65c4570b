/-
  The nice machine's word is the abstract machine's: structs, slices, memory.
-/
import Derived.Test.YtbnllihefecemaaGreatDoorN3
import Derived.Test.YtbnllihefecemaaGreatDoorAm9
set_option linter.unusedSimpArgs false
set_option linter.unusedVariables false
namespace Go.AM
open Go

section
variable {P : Program} {rec : Rec} {tm : T Value} {m m' : Mem} {o : Oper} {v : Value} {i : Ins} {r : Value × Mem}

theorem foldl_set_get (off : Nat) : ∀ (l : List Value) (n : Nat) (a : Array Value) (i : Nat), ((l.zipIdx n).foldl (fun cs x => cs.setIfInBounds (off + x.2) x.1) a)[i]? = if off + n ≤ i ∧ i < off + n + l.length ∧ i < a.size then l[i - (off + n)]? else a[i]?
  | [], n, a, i => by
    simp only [List.zipIdx_nil, List.foldl_nil, List.length_nil]
    rw [if_neg (by omega)]
  | v :: l, n, a, i => by
    simp only [List.zipIdx_cons, List.foldl_cons]
    rw [foldl_set_get off l (n + 1)]
    simp only [Array.size_setIfInBounds, Array.getElem?_setIfInBounds, List.length_cons]
    by_cases h : off + (n + 1) ≤ i ∧ i < off + (n + 1) + l.length ∧ i < a.size
    · rw [if_pos h, if_pos (by omega)]
      have : i - (off + n) = (i - (off + (n + 1))) + 1 := by omega
      rw [this, List.getElem?_cons_succ]
    · rw [if_neg h]
      by_cases e : off + n = i
      · subst e
        simp only [if_true]
        by_cases hs : off + n < a.size
        · rw [if_pos hs, if_pos (by omega)]
          simp
        · rw [if_neg hs, if_neg (by omega)]
          rw [Array.getElem?_eq_none (by omega)]
      · rw [if_neg e, if_neg (by omega)]

theorem paste_fold {off : Nat} {vs : Array Value} {z z' : List Value} (h : paste off vs.toList z = some z') :
    off + vs.size ≤ z.toArray.size ∧ vs.zipIdx.foldl (fun cs x => cs.setIfInBounds (off + x.2) x.1) z.toArray = z'.toArray := by
  obtain ⟨h1, h2, h3⟩ := paste_spec h
  simp only [Array.length_toList] at h2 h3
  refine ⟨by simpa using h2, ?_⟩
  rw [← Array.foldl_toList, Array.toList_zipIdx]
  apply Array.ext_getElem?
  intro i
  rw [foldl_set_get]
  simp only [List.size_toArray, List.getElem?_toArray, Array.length_toList, Nat.add_zero]
  by_cases hi : i < z'.length
  · rw [h3 i]
    by_cases hc : off ≤ i ∧ i < off + vs.size
    · rw [if_pos (by omega), if_pos hc]
    · rw [if_neg (by omega), if_neg hc]
  · rw [if_neg (by omega), List.getElem?_eq_none (by omega), List.getElem?_eq_none (by omega)]

theorem lay_nil (tm : T Value) (z : List Value) : lay tm [] z = some z := rfl
theorem lay_cons (tm : T Value) (p : Nat × Nat × Operand) (ps : List (Nat × Nat × Operand)) (z : List Value) :
    lay tm (p :: ps) z = bif Nat.beq (ev tm p.2.2).cells.toList.length p.2.1 then (paste p.1 (ev tm p.2.2).cells.toList z).bind (lay tm ps) else none := rfl

theorem lay_fill {place : Nat → Option (Nat × Nat)} : ∀ {l : List (Nat × Operand)} {ps : List (Nat × Nat × Operand)} {z cs : List Value}, partsOf place l = some ps → (∀ x ∈ l, opdSmall x.2 = true) → lay tm ps z = some cs →
    Instr.fill place z.toArray (l.map fun x => (x.1, evalAt tm x.2)) = some cs.toArray
  | [], ps, z, cs, hp, hs, h => by
    simp only [partsOf, Option.some.injEq] at hp
    subst hp
    rw [lay_nil] at h
    simp only [Option.some.injEq] at h
    subst h
    rfl
  | p :: l, ps, z, cs, hp, hs, h => by
    simp only [partsOf] at hp
    cases hq : place p.1 with
    | none => simp [hq] at hp
    | some q =>
      cases hr : partsOf place l with
      | none => simp [hq, hr] at hp
      | some qs =>
        simp only [hq, hr, Option.bind_some, Option.some.injEq] at hp
        subst hp
        rw [lay_cons] at h
        simp only at h
        rw [ev_eq (hs p (.head _))] at h
        cases hb : Nat.beq (evalAt tm p.2).cells.toList.length q.2 with
        | false => rw [hb] at h; cases h
        | true =>
          rw [hb] at h
          simp only [cond_true] at h
          have hlen := Nat.eq_of_beq_eq_true hb
          cases hpa : paste q.1 (evalAt tm p.2).cells.toList z with
          | none => rw [hpa] at h; cases h
          | some z' =>
            rw [hpa] at h
            simp only [Option.bind_some] at h
            obtain ⟨h1, h2⟩ := paste_fold hpa
            have ih := lay_fill hr (fun x hx => hs x (.tail _ hx)) h
            simp only [Array.length_toList] at hlen
            have e1 : (decide ((evalAt tm p.2).cells.size ≠ q.2) || decide (q.1 + (evalAt tm p.2).cells.size > z.toArray.size)) = false := by
              simp only [List.size_toArray] at h1 ⊢
              rw [Bool.or_eq_false_iff]
              exact ⟨decide_eq_false (by omega), decide_eq_false (by omega)⟩
            simp only [List.map_cons, Instr.fill, hq]
            simp only [e1, Bool.false_eq_true, if_false]
            rw [h2]
            exact ih

theorem places_some {fs : List Field} : ∀ {pl : List (Nat × Nat)}, places P fs = some pl → pureRun P (fs.mapM fun f => do pure (f.offset, ← sizeOf f.type)) = some pl := by
  induction fs with
  | nil => intro pl h; simp only [places, Option.some.injEq] at h; subst h; rfl
  | cons f r ih =>
    intro pl h
    simp only [places] at h
    cases hn : sizeAt P f.type with
    | none => simp [hn] at h
    | some n =>
      cases hr : places P r with
      | none => simp [hn, hr] at h
      | some l =>
        simp only [hn, hr, Option.bind_some, Option.some.injEq] at h
        subst h
        rw [List.mapM_cons, pureRun_bind, pureRun_bind, pureRun_sizeOf, hn]
        simp only [Option.bind_some, pureRun_pure]
        rw [pureRun_bind, ih hr]
        rfl

theorem places_arr {fs : Array Field} {pl : List (Nat × Nat)} (h : places P fs.toList = some pl) : pureRun P (fs.mapM fun f => do pure (f.offset, ← sizeOf f.type)) = some pl.toArray := by
  have := places_some h
  rw [Array.mapM_eq_mapM_toList, pureRun_map, this]
  rfl

theorem zeroList_some {t : TypeId} {z : List Value} (h : zeroList P t = some z) : ∃ v, zeroAt P t = some v ∧ z = v.cells.toList := by
  unfold zeroList at h
  cases hz : zeroAt P t with
  | none => simp [hz] at h
  | some v => simp only [hz, Option.map_some, Option.some.injEq] at h; exact ⟨v, rfl, h.symm⟩

theorem build_ok {t : TypeId} {parts : Array (Nat × Operand)} {i : Ins} (ho : o.op = .build t parts) (hs : ∀ x ∈ parts.toList, opdSmall x.2 = true) (hi : buildIns P o t parts = some i) (h : exec i P rec tm m = some r) :
    opVal P rec o tm m = some r := by
  have hk : kindOf P o = .pure := by unfold kindOf; simp [ho]
  unfold buildIns at hi
  cases hz : zeroList P t with
  | none => simp [hz] at hi
  | some z =>
    obtain ⟨z0, hz0, rfl⟩ := zeroList_some hz
    simp only [hz, Option.bind_some] at hi
    split at hi
    · rename_i fs hu
      cases hpl : places P fs.toList with
      | none => simp [hpl] at hi
      | some pl =>
        cases hps : partsOf (fun i => nth pl i) parts.toList with
        | none => simp [hpl, hps] at hi
        | some ps =>
          simp only [hpl, hps, Option.bind_some, Option.some.injEq] at hi
          subst hi
          refine pure_of h hk fun v hv => ?_
          obtain ⟨cs, hc, rfl⟩ := aggOf_some hv
          have hf := lay_fill hps hs hc
          have e : (fun i => nth pl i) = fun i : Nat => pl.toArray[i]? := by funext i; rw [nth_eq]; simp
          rw [e] at hf
          unfold pureOp
          simp only [ho, hz0, Option.bind_some]
          unfold Instr.build
          simp only [pureRun_bind, pureRun_zeroValue hz0, Option.bind_some, pureRun_underlying, hu, places_arr hpl]
          have e2 : (parts.map fun x => (x.1, evalAt tm x.2)).toList = parts.toList.map fun x => (x.1, evalAt tm x.2) := by simp
          have hf' : Instr.fill (fun x => pl.toArray[x]?) z0.cells (parts.map fun x => (x.1, evalAt tm x.2)).toList = some cs.toArray := by
            rw [e2]; simpa using hf
          simp only [hf']
          rfl
    · rename_i n e hu
      cases hn : sizeAt P e with
      | none => simp [hn] at hi
      | some n =>
        cases hps : partsOf (fun i => some (i * n, n)) parts.toList with
        | none => simp [hn, hps] at hi
        | some ps =>
          simp only [hn, hps, Option.bind_some, Option.some.injEq] at hi
          subst hi
          refine pure_of h hk fun v hv => ?_
          obtain ⟨cs, hc, rfl⟩ := aggOf_some hv
          have hf := lay_fill hps hs hc
          unfold pureOp
          simp only [ho, hz0, Option.bind_some]
          unfold Instr.build
          simp only [pureRun_bind, pureRun_zeroValue hz0, Option.bind_some, pureRun_underlying, hu, pureRun_sizeOf, hn]
          have e2 : (parts.map fun x => (x.1, evalAt tm x.2)).toList = parts.toList.map fun x => (x.1, evalAt tm x.2) := by simp
          have hf' : Instr.fill (fun i => some (i * n, n)) z0.cells (parts.map fun x => (x.1, evalAt tm x.2)).toList = some cs.toArray := by
            rw [e2]; simpa using hf
          simp only [hf']
          rfl
    · cases hi

/-! ### Slicing and lengths -/
theorem bound1_eq {x : Option Operand} {d : Nat} (h : ∀ y, x = some y → opdSmall y = true) : bound1 tm x d = boundOf (x.map (evalAt tm)) d := by
  cases x with
  | none => rfl
  | some y =>
    simp only [bound1, ev_eq (h y rfl), boundOf, Option.map_some]
    cases evalAt tm y with
    | int k n => cases n <;> rfl
    | _ => rfl

theorem slice_ok {t e : TypeId} {x : Operand} {lo hi : Option Operand} {n : Nat} (ho : o.op = .slice t x lo hi none) (hu : P.underlying t = some (.slice e)) (hn : sizeAt P e = some n) {v : Value}
    (h : slice3 n (evalAt tm x) (boundOf (lo.map (evalAt tm)) 0) (boundOf (hi.map (evalAt tm))) = some v) : pureOp P (evalAt tm) o = some v := by
  unfold pureOp
  simp only [ho]
  unfold sliceOp
  unfold slice3 at h
  split at h
  · rename_i b k len sz e1
    simp only [hu, hn, e1, Option.bind_some]
    exact h
  · rename_i e1
    simp only [hu, hn, e1, Option.bind_some]
    exact h
  · cases h

theorem lenS_ok {t e : TypeId} {ty : TypeId} {x : Operand} {argTypes : Array TypeId} (ht : (argTypes[0]?).bind P.underlying = some (.slice e)) {v : Value} (h : len1 (evalAt tm x) = some v) :
    pureRun P (Builtin.len_ argTypes ty #[evalAt tm x]) = some v := by
  unfold len1 at h
  split at h
  · rename_i a n c e1
    simp only [Option.some.injEq] at h
    subst h
    unfold Builtin.len_
    cases h0 : argTypes[0]? with
    | none => simp [h0] at ht
    | some s =>
      simp only [h0, Option.bind_some] at ht
      simp [ht, e1, goInt]
  · cases h

theorem lenStr_ok {t : TypeId} {ty : TypeId} {x : Operand} {argTypes : Array TypeId} (ht : (argTypes[0]?).bind P.underlying = some .string) {v : Value} (h : lenStr1 (evalAt tm x) = some v) :
    pureRun P (Builtin.len_ argTypes ty #[evalAt tm x]) = some v := by
  unfold lenStr1 at h
  split at h
  · rename_i s e1
    simp only [Option.some.injEq] at h
    subst h
    unfold Builtin.len_
    cases h0 : argTypes[0]? with
    | none => simp [h0] at ht
    | some s' =>
      simp only [h0, Option.bind_some] at ht
      simp [ht, e1, goInt]
  · cases h

/-! ### Reading -/
theorem cellsAt_some {b : Nat} {cs : List Value} (h : cellsAt m b = some cs) : ∃ e wr, m.get b = some (.cells e cs wr) := by
  unfold cellsAt at h
  split at h
  · rename_i e cs' wr hg
    simp only [Option.some.injEq] at h
    subst h
    exact ⟨e, wr, hg⟩
  · cases h

theorem cut_one {α : Type} {l : List α} {k : Nat} {v : α} (h : nth l k = some v) : cut k 1 l = some [v] := by
  induction l generalizing k with
  | nil => cases k <;> cases h
  | cons a r ih =>
    cases k with
    | zero => have h' : some a = some v := h
              simp only [Option.some.injEq] at h'
              subst h'
              simp [cut_cons, cut_zero]
    | succ k => rw [cut_succ]; exact ih h

theorem loadV1_ok {t : TypeId} {x v : Value} (ha : aggAt P t = some false) (h : loadV1 m x = some v) : loadAt P m t x = some v := by
  unfold loadV1 at h
  split at h
  · rename_i b k
    cases hc : cellsAt m b with
    | none => simp [hc] at h
    | some cs =>
      simp only [hc, Option.bind_some] at h
      obtain ⟨e, wr, hg⟩ := cellsAt_some hc
      simp [loadAt, hg, ha, cut_one h]
  · cases h

theorem loadVN_ok {t : TypeId} {n : Nat} {x v : Value} (ha : aggAt P t = some true) (hn : sizeAt P t = some n) (h : loadVN m n x = some v) : loadAt P m t x = some v := by
  unfold loadVN at h
  split at h
  · rename_i b k
    cases hc : cellsAt m b with
    | none => simp [hc] at h
    | some cs =>
      simp only [hc, Option.bind_some] at h
      obtain ⟨r, h1, rfl⟩ := aggOf_some h
      obtain ⟨e, wr, hg⟩ := cellsAt_some hc
      simp [loadAt, hg, ha, hn, h1]
  · cases h

theorem keyOk_ok {t : TypeId} {d : TypeDesc} {k : Value} (hu : P.underlying t = some d) (h : keyOk d k = true) : keyKind P t k = some d := by
  unfold keyOk at h
  split at h
  · split at h
    · rename_i q n q' 
      rw [kind_beq] at h
      have e := of_decide_eq_true h
      subst e
      simp [keyKind, hu]
    · cases h
  · split at h
    · simp [keyKind, hu]
    · cases h
  · split at h
    · simp [keyKind, hu]
    · cases h
  · cases h

theorem lookup_ok {t : TypeId} {q : TypeId × TypeId} {d : TypeDesc} {zero : Value} {ok : Bool} {x k v : Value} (hu : P.underlying t = some (.map q.1 q.2)) (hd : P.underlying q.1 = some d) (hz : zeroAt P q.2 = some zero)
    (h : lookup2 d zero ok m x k = some v) : lookupAt P m t x k ok = some v := by
  unfold lookup2 at h
  cases hk : keyOk d k with
  | false => simp [hk] at h
  | true =>
    simp only [hk, cond_true] at h
    unfold lookupAt
    simp only [hu, keyOk_ok hd hk, Option.bind_some]
    cases he : entriesOf m x with
    | none => simp [he] at h
    | some es =>
      simp only [he, Option.bind_some] at h ⊢
      cases hf : findKey d k es with
      | none => simp [hf] at h
      | some r =>
        simp only [hf, Option.bind_some] at h ⊢
        cases r with
        | none => simp only [hz, Option.bind_some]; exact h
        | some u => exact h

theorem b2s_ok {src dst e : TypeId} {x : Operand} (ho : o.op = .convert src dst x) (hs : P.underlying src = some (.slice e)) (hd : P.underlying dst = some .string) (he : P.underlying e = some (.int .u8)) {v : Value}
    (h : b2s1 m (evalAt tm x) = some v) : readOp P (evalAt tm) m o = some v := by
  unfold b2s1 at h
  split at h
  · rename_i b k len sz e1
    cases hz : Nat.beq sz 1 with
    | false => simp [hz] at h
    | true =>
      simp only [hz, cond_true] at h
      cases hc : cellsAt m b with
      | none => simp [hc] at h
      | some cs =>
        simp only [hc, Option.bind_some] at h
        obtain ⟨e', wr, hg⟩ := cellsAt_some hc
        unfold readOp
        simp only [ho, hs, hd, e1, he, hg, hz, cond_true]
        exact h
  · cases h

/-! ### Making and writing -/
theorem zeros_eq {z : Value} {size : Nat} (hz : z.cells.size = size) : ∀ (n : Nat), (zeros z.cells.toList n).toArray = (Array.range (n * size)).map (z.cells[· % z.cells.size]!) := by
  intro n
  apply Array.ext_getElem?
  intro i
  have hl : ∀ n, (zeros z.cells.toList n).length = n * size := by
    intro n
    induction n with
    | zero => show (0 : Nat) = _; omega
    | succ n ih =>
      have e : zeros z.cells.toList (n + 1) = z.cells.toList ++ zeros z.cells.toList n := rfl
      rw [e, List.length_append, ih, Array.length_toList, hz, Nat.succ_mul]; omega
  have hg : ∀ n i, i < n * size → (zeros z.cells.toList n)[i]? = z.cells[i % size]? := by
    intro n
    induction n with
    | zero => intro i hi; omega
    | succ n ih =>
      intro i hi
      have e : zeros z.cells.toList (n + 1) = z.cells.toList ++ zeros z.cells.toList n := rfl
      rw [e]
      by_cases h : i < size
      · rw [List.getElem?_append_left (by rw [Array.length_toList, hz]; exact h), Nat.mod_eq_of_lt h]; simp
      · rw [Nat.succ_mul] at hi
        rw [List.getElem?_append_right (by rw [Array.length_toList, hz]; omega), Array.length_toList, hz, ih _ (by omega)]
        have : i % size = (i - size) % size := by
          rw [Nat.mod_eq_sub_mod (by omega)]
        rw [this]
  simp only [List.getElem?_toArray, Array.getElem?_map, Array.getElem?_range]
  by_cases hi : i < n * size
  · rw [hg n i hi, if_pos hi]
    have hpos : 0 < size := by
      rcases Nat.eq_zero_or_pos size with h0 | h0
      · rw [h0] at hi; omega
      · exact h0
    have hm : i % size < z.cells.size := by rw [hz]; exact Nat.mod_lt _ hpos
    simp only [Option.map_some, hz]
    rw [Array.getElem?_eq_getElem hm, getElem!_pos z.cells _ hm]
  · rw [if_neg hi, List.getElem?_eq_none (by rw [hl]; omega)]; rfl

theorem zeroCells_eq {e : TypeId} {z : Value} {i : TypeInfo} (hi : P.info? e = some i) (hz : zeroAt P e = some z) (hs : z.cells.size = i.size) (n : Nat) : zeroCells P e n = some (zeros z.cells.toList n) := by
  unfold zeroCells
  have : sizeAt P e = some i.size := by unfold sizeAt; simp [hi]
  simp only [this, Option.bind_some, hz]
  have h := zeros_eq hs n
  by_cases h0 : n * i.size = 0
  · have e0 : Nat.beq (n * i.size) 0 = true := by rw [h0]; rfl
    simp only [e0, cond_true]
    have hh : (zeros z.cells.toList n).toArray = #[] := by rw [h, h0]; simp
    have : zeros z.cells.toList n = [] := by simpa using hh
    rw [this]
  · have e0 : Nat.beq (n * i.size) 0 = false := by rw [natBeq]; simp [h0]
    simp only [e0, cond_false]
    rw [← h]

theorem openAt_some {b : Nat} {x : TypeId × List Value} (h : openAt m b = some x) : m.get b = some (.cells x.1 x.2 true) := by
  unfold openAt at h
  split at h
  · rename_i hg
    simp only [Option.some.injEq] at h
    subst h
    exact hg
  · cases h

theorem pushV_some {x : Blk} {f : Nat → Value} (h : pushV m x f = some r) : ∃ m', m.push x = some m' ∧ r = (f m.next, m') := by
  unfold pushV at h
  cases hp : m.push x with
  | none => simp [hp] at h
  | some m' => simp only [hp, Option.bind_some, Option.some.injEq] at h; exact ⟨m', rfl, h.symm⟩

theorem bslice_ok {t : TypeId} {len : Nat} {parts : Array (Nat × Operand)} {i : Ins} (ho : o.op = .buildSlice t len parts) (hs : ∀ x ∈ parts.toList, opdSmall x.2 = true) (hi : bsliceIns P t len parts = some i) (h : exec i P rec tm m = some r) :
    opVal P rec o tm m = some r := by
  have hk : kindOf P o = .new := by unfold kindOf; simp [ho]
  unfold bsliceIns at hi
  split at hi
  · rename_i e hu
    cases hn : sizeAt P e with
    | none => simp [hn] at hi
    | some n =>
      cases hz : zeroCells P e len with
      | none => simp [hn, hz] at hi
      | some z =>
        simp only [hn, hz, Option.bind_some] at hi
        cases hb : Nat.ble (len * n) 1000000 with
        | false => simp [hb] at hi
        | true =>
          cases hps : partsOf (fun i => some (i * n, n)) parts.toList with
          | none => simp [hb, hps] at hi
          | some ps =>
            simp only [hb, hps, cond_true, Option.bind_some, Option.some.injEq] at hi
            subst hi
            have h' : (lay tm ps z).bind (fun cs => pushV m (.cells e cs true) fun b => .slice (some ⟨b, 0, none⟩) len n) = some r := h
            cases hl : lay tm ps z with
            | none => simp [hl] at h'
            | some cs =>
              simp only [hl, Option.bind_some] at h'
              refine opVal_new hk ?_ h'
              have hf := lay_fill hps hs hl
              unfold newOp
              have e2 : (parts.map fun x => (x.1, evalAt tm x.2)).toList = parts.toList.map fun x => (x.1, evalAt tm x.2) := by simp
              have hf' : Instr.fill (fun i => some (i * n, n)) z.toArray (parts.map fun x => (x.1, evalAt tm x.2)).toList = some cs.toArray := by
                rw [e2]; exact hf
              simp only [ho, hu, hn, hz, Option.bind_some, hb, cond_true, hf']
  · cases hi

theorem mkslice_ok {t e : TypeId} {i : TypeInfo} {z : Value} {l c : Operand} (ho : o.op = .makeSlice t l c) (hu : P.underlying t = some (.slice e)) (hi : P.info? e = some i) (hz : zeroAt P e = some z) (hb : Nat.ble i.bytes 100000 = true)
    (hs : z.cells.size = i.size) (h : mkslice2 e i.size z.cells.toList m (evalAt tm l) (evalAt tm c) = some r) : opVal P rec o tm m = some r := by
  have hk : kindOf P o = .new := by unfold kindOf; simp [ho]
  unfold mkslice2 at h
  split at h
  · rename_i k1 l' e1
    split at h
    · rename_i k2 c' e2
      cases hc : Nat.ble l' c' && Nat.ble c' 1000000 with
      | false => simp [hc] at h
      | true =>
        simp only [hc, cond_true] at h
        refine opVal_new hk ?_ h
        unfold newOp
        simp only [ho, hu, e1, e2, hi, Option.bind_some, hc, hb, Bool.and_self, cond_true, hz, zeroCells_eq hi hz hs]
    · cases h
  · cases h

theorem storeN_ok {t : TypeId} {x v : Operand} {n : Nat} (ho : o.op = .store t x v) (hn : sizeAt P t = some n) (h : store2 n m (evalAt tm x) (evalAt tm v) = some r) : writeOp P (evalAt tm) m o = some r := by
  unfold store2 at h
  split at h
  · rename_i b k e1
    simp only [Array.length_toList] at h
    cases hb : Nat.beq (evalAt tm v).cells.size n && ones (evalAt tm v).cells.toList with
    | false => simp [hb] at h
    | true =>
      simp only [hb, cond_true] at h
      cases hop : openAt m b with
      | none => simp [hop] at h
      | some x' =>
        simp only [hop, Option.bind_some] at h
        cases hpa : paste k (evalAt tm v).cells.toList x'.2 with
        | none => simp [hpa] at h
        | some cs =>
          simp only [hpa, Option.bind_some, Option.some.injEq] at h
          subst h
          unfold writeOp
          simp only [ho, e1, storeAt, openAt_some hop, hn, Option.bind_some, hb, cond_true, hpa]
  · cases h

theorem mapset_ok {t : TypeId} {q : TypeId × TypeId} {d : TypeDesc} {x k v : Operand} (ho : o.op = .mapUpdate t x k v) (hu : P.underlying t = some (.map q.1 q.2)) (hd : P.underlying q.1 = some d)
    (h : mapset3 d m (evalAt tm x) (evalAt tm k) (evalAt tm v) = some r) : writeOp P (evalAt tm) m o = some r := by
  unfold mapset3 at h
  split at h
  · rename_i b e1
    split at h
    · rename_i es hg
      cases hk : keyOk d (evalAt tm k) with
      | false => simp [hk] at h
      | true =>
        simp only [hk, cond_true] at h
        unfold writeOp
        simp only [ho, hu, e1, hg, keyOk_ok hd hk, Option.bind_some]
        exact h
    · cases h
  · cases h

theorem delete_ok {t ty : TypeId} {argTypes : Array TypeId} {q1 q2 : TypeId} {d : TypeDesc} {args : Array Operand} {x k : Operand} (ho : o.op = .call { callee := .builtin .delete, args := args, argTypes := argTypes }) (ha : args.toList = [x, k])
    (hu : (argTypes[0]?).bind P.underlying = some (.map q1 q2)) (hd : P.underlying q1 = some d)
    (h : delete2 d m (evalAt tm x) (evalAt tm k) = some r) : writeOp P (evalAt tm) m o = some r := by
  unfold delete2 at h
  split at h
  · rename_i b e1
    split at h
    · rename_i es hg
      cases hk : keyOk d (evalAt tm k) with
      | false => simp [hk] at h
      | true =>
        simp only [hk, cond_true] at h
        unfold writeOp
        simp only [ho, ha, hu, e1, hg, keyOk_ok hd hk, Option.bind_some]
        exact h
    · cases h
  · cases h

theorem appendAt_eq {argTypes : Array TypeId} {elem : TypeId} {d : TypeDesc} {s x : Value} (hu0 : ∀ k, d = .int k → False) (hu1 : (argTypes[0]?).bind P.underlying = some (.slice elem)) (hu2 : (argTypes[1]?).bind P.underlying = some d) :
    appendAt P m argTypes s x = (lenOf x).bind fun n => (P.info? elem).bind fun i => (sourceCells m i.size n x).bind fun new => (zeroAt P elem).bind fun z =>
    bif Nat.ble n 1000000 && Nat.ble i.bytes 100000 && ones new && Nat.beq z.cells.size i.size then
      match s with
      | .slice none 0 0 =>
        bif Nat.beq n 0 then some (s, m) else
        (m.push (.cells elem new true)).bind fun m' => some (.slice (some ⟨m.next, 0, none⟩) n i.size, m')
      | .slice (some ⟨b, o, none⟩) len sz =>
        bif Nat.beq n 0 then some (s, m) else
        match m.get b with
        | some (.cells _ cs true) =>
          bif Nat.beq sz i.size && Nat.ble len 1000000 then
            (cut o (len * i.size) cs).bind fun old => ((m.put b .dead).push (.cells elem (old ++ new) true)).bind fun m' =>
            some (.slice (some ⟨m.next, 0, none⟩) (len + n) i.size, m')
          else none
        | _ => none
      | _ => none
    else none := by
  unfold appendAt
  rw [hu1, hu2]
  cases d <;> first | rfl | exact (hu0 _ rfl).elim

theorem append_ok {argTypes : Array TypeId} {args : Array Operand} {s x : Operand} {i : Ins} (ho : o.op = .call { callee := .builtin .append, args := args, argTypes := argTypes }) (ha : args.toList = [s, x]) (hs : opdSmall s = true) (hx : opdSmall x = true)
    (hi : appendIns P argTypes s x = some i) (h : exec i P rec tm m = some r) : opVal P rec o tm m = some r := by
  have hk : kindOf P o = .write := by unfold kindOf; simp [ho]
  refine opVal_write hk ?_
  unfold appendIns at hi
  split at hi
  · cases hi
  · rename_i elem d hu0 hu1 hne
    cases hin : P.info? elem with
    | none => simp [hin] at hi
    | some inf =>
      cases hz : zeroAt P elem with
      | none => simp [hin, hz] at hi
      | some z =>
        simp only [hin, hz, Option.bind_some] at hi
        cases hb : Nat.ble inf.bytes 100000 && Nat.beq z.cells.size inf.size with
        | false => simp [hb] at hi
        | true =>
          simp only [hb, cond_true, Option.some.injEq] at hi
          subst hi
          have h' : append2 elem inf.size m (ev tm s) (ev tm x) = some r := h
          rw [ev_eq hs, ev_eq hx] at h'
          unfold append2 at h'
          cases hl : lenOf (evalAt tm x) with
          | none => simp [hl] at h'
          | some n =>
            cases hsrc : sourceCells m inf.size n (evalAt tm x) with
            | none => simp [hl, hsrc] at h'
            | some new =>
              simp only [hl, hsrc, Option.bind_some] at h'
              cases hc : Nat.ble n 1000000 && ones new with
              | false => simp [hc] at h'
              | true =>
                simp only [hc, cond_true] at h'
                rw [Bool.and_eq_true] at hb hc
                unfold writeOp
                simp only [ho, ha]
                rw [appendAt_eq hu0 hu1 hne]
                simp only [hl, hin, hsrc, hz, Option.bind_some, hc.1, hc.2, hb.1, hb.2, Bool.and_self, cond_true]
                unfold appendTo at h'
                split at h'
                · rename_i e1
                  simp only [e1]
                  cases hn : Nat.beq n 0 with
                  | true => simp only [hn, cond_true] at h' ⊢; rw [← e1]; exact h'
                  | false =>
                    simp only [hn, cond_false] at h' ⊢
                    obtain ⟨m', h1, rfl⟩ := pushV_some h'
                    simp [h1]
                · rename_i b k len sz e1
                  simp only [e1]
                  cases hn : Nat.beq n 0 with
                  | true => simp only [hn, cond_true] at h' ⊢; rw [← e1]; exact h'
                  | false =>
                    simp only [hn, cond_false] at h' ⊢
                    cases hop : openAt m b with
                    | none => simp [hop] at h'
                    | some y =>
                      simp only [hop, Option.bind_some] at h'
                      simp only [openAt_some hop]
                      cases hq : Nat.beq sz inf.size && Nat.ble len 1000000 with
                      | false => simp [hq] at h'
                      | true =>
                        simp only [hq, cond_true] at h' ⊢
                        cases hcut : cut k (len * inf.size) y.2 with
                        | none => simp [hcut] at h'
                        | some old =>
                          simp only [hcut, Option.bind_some] at h' ⊢
                          obtain ⟨m', h1, rfl⟩ := pushV_some h'
                          simp [h1]
                          rfl
                · cases h'
  · cases hi

theorem copyN_ok {argTypes : Array TypeId} {args : Array Operand} {d x : Operand} {e : TypeId} {n : Nat} (ho : o.op = .call { callee := .builtin .copy, args := args, argTypes := argTypes }) (ha : args.toList = [d, x])
    (hu : (argTypes[0]?).bind P.underlying = some (.slice e)) (hn : sizeAt P e = some n) (h : copy2 n m (evalAt tm d) (evalAt tm x) = some r) : writeOp P (evalAt tm) m o = some r := by
  unfold copy2 at h
  cases h1 : lenOf (evalAt tm d) with
  | none => simp [h1] at h
  | some dn =>
    cases h2 : lenOf (evalAt tm x) with
    | none => simp [h1, h2] at h
    | some xn =>
      cases h3 : sourceCells m n (Nat.min xn dn) (evalAt tm x) with
      | none => simp [h1, h2, h3] at h
      | some new =>
        simp only [h1, h2, h3, Option.bind_some] at h
        unfold writeOp
        simp only [ho, ha]
        unfold copyAt
        simp only [hu, h1, h2, hn, h3, Option.bind_some]
        unfold copyTo at h
        split at h
        · rename_i e1
          simp only [e1]
          exact h
        · rename_i b k len sz e1
          simp only [e1]
          cases hop : openAt m b with
          | none => simp [hop] at h
          | some y =>
            simp only [hop, Option.bind_some] at h
            simp only [openAt_some hop]
            exact h
        · cases h

end
end Go.AM
