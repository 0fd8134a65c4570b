/-
  What the nice machine ends with, the abstract machine ends with.
-/
import Derived.Test.YtbnllihefecemaaGreatDoorN4
set_option linter.unusedSimpArgs false
set_option linter.unusedVariables false
namespace Go.AM
open Go

section
variable {P : Program} {rec : Rec} {tm : T Value} {m m' : Mem} {o : Oper} {v : Value} {i : Ins} {r : Value × Mem}

theorem exec_gen (o : Oper) : exec (.gen o) P rec tm m = opVal P rec o tm m := rfl

theorem callv_ok {f : Operand} {args : Array Operand} {argTypes : Array TypeId} (ho : o.op = .call { callee := .value f, args := args, argTypes := argTypes }) (hf : opdSmall f = true) (ha : ∀ x ∈ args.toList, opdSmall x = true)
    (h : callv1 P rec m (ev tm f) (evs tm args.toList) = some r) : opVal P rec o tm m = some r := by
  have hk : kindOf P o = .call := by unfold kindOf; simp [ho]
  rw [ev_eq hf, evs_at ha] at h
  unfold callv1 at h
  split at h
  · rename_i g first captured e
    cases hc : callable P g with
    | false => simp [hc] at h
    | true =>
      simp only [hc, cond_true] at h
      refine opVal_call hk ?_ h
      unfold callOp
      unfold callable at hc
      simp only [ho, e]
      split at hc
      · rename_i fn hfn
        rw [hfn]
        simp only [hc, cond_true, Option.some.injEq, Prod.mk.injEq, true_and]
        apply Array.ext'
        simp [List.append_assoc]
      · cases hc
  · cases h

theorem call_ok {g : FuncId} {args : Array Operand} {argTypes : Array TypeId} (ho : o.op = .call { callee := .value (.func g), args := args, argTypes := argTypes }) (ha : ∀ x ∈ args.toList, opdSmall x = true)
    (hc : callable P g = true) (h : rec g (evs tm args.toList).toArray m = some r) : opVal P rec o tm m = some r := by
  refine callv_ok (f := .func g) ho rfl ha ?_
  have e : ev tm (.func g) = .func (.func g) #[] #[] := rfl
  rw [e]
  unfold callv1
  simp only [hc, cond_true]
  simpa using h

theorem binIns_ok {op : BinOp} {t t' : TypeId} {x y : Operand} (ho : o.op = .binOp op t x y t') (hx : opdSmall x = true) (hy : opdSmall y = true) (h : exec (binIns P o op t x y) P rec tm m = some r) : opVal P rec o tm m = some r := by
  have hk : kindOf P o = .pure := by unfold kindOf; simp [ho]
  have hgen : exec (.gen o) P rec tm m = some r → opVal P rec o tm m = some r := fun h => h
  have hnil : ∀ d, P.underlying t = some d → exec (.nilt d op x y) P rec tm m = some r → opVal P rec o tm m = some r := fun d hu h => by
    refine pure_of (x := nilTest d op (ev tm x) (ev tm y)) h hk fun v hv => ?_
    rw [ev_eq hx, ev_eq hy] at hv
    exact nilt_ok hu ho hv
  have hnils : ∀ d, P.underlying t = some d → exec (binIns.nilIns o d op x y) P rec tm m = some r → opVal P rec o tm m = some r := fun d hu h => by
    unfold binIns.nilIns at h
    split at h
    all_goals first | exact hnil d hu h | exact hgen h
  unfold binIns at h
  split at h
  · rename_i k hu
    split at h
    · exact hgen h
    · exact hgen h
    · refine pure_of (x := bin2 op (ev tm x) (ev tm y)) h hk fun v hv => ?_
      rw [ev_eq hx, ev_eq hy] at hv
      exact bin_ok ho hv
  · rename_i hu
    split at h
    · refine pure_of (x := eqb2 false (ev tm x) (ev tm y)) h hk fun v hv => ?_
      rw [ev_eq hx, ev_eq hy] at hv
      exact eqb_ok hu ho hv
    · refine pure_of (x := eqb2 true (ev tm x) (ev tm y)) h hk fun v hv => ?_
      rw [ev_eq hx, ev_eq hy] at hv
      exact eqb_ok hu ho hv
    · exact hgen h
  · rename_i hu; exact hnils _ hu h
  · rename_i hu; exact hnils _ hu h
  · rename_i hu; exact hnils _ hu h
  · rename_i hu; exact hnils _ hu h
  · exact hgen h

theorem lenMap_ok {args : Array Operand} {argTypes : Array TypeId} {x : Operand} {k e : TypeId} (ho : o.op = .call { callee := .builtin .len, args := args, argTypes := argTypes }) (ha : args.toList = [x]) (hu : (argTypes[0]?).bind P.underlying = some (.map k e))
    {v : Value} (h : lenMap1 m (evalAt tm x) = some v) : readOp P (evalAt tm) m o = some v := by
  unfold readOp
  simp only [ho, ha, hu]
  exact h

theorem exec_ok (hs : ∀ x ∈ o.op.operands.toList, opdSmall x = true) (hi : insOf P o = some i) (h : exec i P rec tm m = some r) : opVal P rec o tm m = some r := by
  unfold insOf at hi
  split at hi
  case h_1 x ho =>
    cases hi
    have hx : opdSmall x = true := hs x (by simp [ho, Op.operands])
    have h' : some (ev tm x, m) = some r := h
    cases h'
    rw [ev_eq hx]
    exact opVal_pure (by unfold kindOf; simp [ho]) (by unfold pureOp; simp [ho])
  case h_2 x ho =>
    cases hi
    have hx : opdSmall x = true := hs x (by simp [ho, Op.operands])
    have h' : some (ev tm x, m) = some r := h
    cases h'
    rw [ev_eq hx]
    exact opVal_pure (by unfold kindOf; simp [ho]) (by unfold pureOp; simp [ho])
  case h_3 c a b ho =>
    cases hi
    have hc : opdSmall c = true := hs c (by simp [ho, Op.operands])
    have ha : opdSmall a = true := hs a (by simp [ho, Op.operands])
    have hb : opdSmall b = true := hs b (by simp [ho, Op.operands])
    refine pure_of (x := pick3 (ev tm c) (ev tm a) (ev tm b)) h (by unfold kindOf; simp [ho]) fun v hv => ?_
    rw [ev_eq hc, ev_eq ha, ev_eq hb] at hv
    unfold pick3 at hv
    split at hv
    · rename_i t e
      simp only [Option.some.injEq] at hv
      subst hv
      unfold pureOp
      simp only [ho, e]
      cases t <;> rfl
    · cases hv
  case h_4 x ho =>
    cases hi
    have hx : opdSmall x = true := hs x (by simp [ho, Op.operands])
    refine pure_of (x := nilCheck1 (ev tm x)) h (by unfold kindOf; simp [ho]) fun v hv => ?_
    rw [ev_eq hx] at hv
    unfold nilCheck1 at hv
    split at hv
    · rename_i a e
      simp only [Option.some.injEq] at hv
      subst hv
      unfold pureOp
      simp only [ho, e]
    · cases hv
  case h_5 op t x y t' ho =>
    cases hi
    exact binIns_ok ho (hs x (by simp [ho, Op.operands])) (hs y (by simp [ho, Op.operands])) h
  case h_6 t x ho =>
    cases hi
    have hx : opdSmall x = true := hs x (by simp [ho, Op.operands])
    refine pure_of (x := not1 (ev tm x)) h (by unfold kindOf; simp [ho]) fun v hv => ?_
    rw [ev_eq hx] at hv
    exact not_ok ho hv
  case h_7 src dst x ho =>
    have hx : opdSmall x = true := hs x (by simp [ho, Op.operands])
    split at hi
    · rename_i k0 k hu hd
      cases hi
      refine pure_of (x := conv1 k (ev tm x)) h (by unfold kindOf; simp [ho, hu, hd]) fun v hv => ?_
      rw [ev_eq hx] at hv
      exact conv_ok ho hu hd hv
    · rename_i e hu hd
      split at hi
      · rename_i he
        cases hi
        refine read_of (x := b2s1 m (ev tm x)) h (by unfold kindOf; simp [ho, hu, hd]) fun v hv => ?_
        rw [ev_eq hx] at hv
        exact b2s_ok ho hu hd he hv
      · cases hi
    · cases hi
  case h_8 t x f ho =>
    have hx : opdSmall x = true := hs x (by simp [ho, Op.operands])
    cases hfs : structAt P t with
    | none => simp [hfs] at hi
    | some fs =>
      cases hf : fs[f]? with
      | none => simp [hfs, hf] at hi
      | some fd =>
        cases hn : sizeAt P fd.type with
        | none => simp [hfs, hf, hn] at hi
        | some n =>
          simp only [hfs, hf, hn, Option.bind_some] at hi
          cases h0 : Nat.beq n 0 with
          | true => simp [h0] at hi
          | false =>
            simp only [h0, cond_false, Option.some.injEq] at hi
            subst hi
            refine pure_of (x := fieldAddr1 fd.offset (ev tm x)) h (by unfold kindOf; simp [ho]) fun v hv => ?_
            rw [ev_eq hx] at hv
            exact fieldAddr_ok ho hfs hf hn (Nat.ne_of_beq_eq_false h0) hv
  case h_9 t x f ho =>
    have hx : opdSmall x = true := hs x (by simp [ho, Op.operands])
    cases hfs : structAt P t with
    | none => simp [hfs] at hi
    | some fs =>
      cases hf : fs[f]? with
      | none => simp [hfs, hf] at hi
      | some fd =>
        cases hn : partKind P fd.type with
        | none => simp [hfs, hf, hn] at hi
        | some n =>
          simp only [hfs, hf, hn, Option.bind_some, Option.some.injEq] at hi
          subst hi
          refine pure_of (x := part1 n fd.offset (ev tm x)) h (by unfold kindOf; simp [ho]) fun v hv => ?_
          rw [ev_eq hx] at hv
          exact field_ok ho hfs hf hn hv
  case h_10 t x ix ho =>
    have hx : opdSmall x = true := hs x (by simp [ho, Op.operands])
    have hix : opdSmall ix = true := hs ix (by simp [ho, Op.operands])
    split at hi
    · rename_i e hu
      cases hn : sizeAt P e with
      | none => simp [hn] at hi
      | some n =>
        simp only [hn, Option.bind_some, Option.some.injEq] at hi
        subst hi
        refine pure_of (x := indexAddr2 n (ev tm x) (ev tm ix)) h (by unfold kindOf; simp [ho]) fun v hv => ?_
        rw [ev_eq hx, ev_eq hix] at hv
        exact indexAddr_ok ho hu hn hv
    · rename_i len e hu
      cases hn : sizeAt P e with
      | none => simp [hn] at hi
      | some n =>
        simp only [hn, Option.bind_some, Option.some.injEq] at hi
        subst hi
        refine pure_of (x := indexArr2 len n (ev tm x) (ev tm ix)) h (by unfold kindOf; simp [ho]) fun v hv => ?_
        rw [ev_eq hx, ev_eq hix] at hv
        exact indexArr_ok ho hu hn hv
    · cases hi
  case h_11 t x ix ho =>
    have hx : opdSmall x = true := hs x (by simp [ho, Op.operands])
    have hix : opdSmall ix = true := hs ix (by simp [ho, Op.operands])
    split at hi
    · rename_i hu
      cases hi
      refine pure_of (x := indexStr2 (ev tm x) (ev tm ix)) h (by unfold kindOf; simp [ho]) fun v hv => ?_
      rw [ev_eq hx, ev_eq hix] at hv
      exact indexStr_ok ho hu hv
    · cases hi
  case h_12 x n ho =>
    cases hi
    have hx : opdSmall x = true := hs x (by simp [ho, Op.operands])
    refine pure_of (x := extract1 (ev tm x) n) h (by unfold kindOf; simp [ho]) fun v hv => ?_
    rw [ev_eq hx] at hv
    exact extract_ok ho hv
  case h_13 f first captured ho =>
    cases hi
    have h1 : ∀ x ∈ first.toList, opdSmall x = true := fun x hx => hs x (by simp [ho, Op.operands]; exact .inl (by simpa using hx))
    have h2 : ∀ x ∈ captured.toList, opdSmall x = true := fun x hx => hs x (by simp [ho, Op.operands]; exact .inr (by simpa using hx))
    have h' : some (Value.func (.func f) (evs tm first.toList).toArray (evs tm captured.toList).toArray, m) = some r := h
    cases h'
    rw [evs_at h1, evs_at h2]
    refine opVal_pure (by unfold kindOf; simp [ho]) ?_
    unfold pureOp
    simp only [ho]
    have e : ∀ a : Array Operand, a.map (evalAt tm) = (a.toList.map (evalAt tm)).toArray := fun a => by apply Array.ext'; simp
    rw [e, e]
  case h_14 t parts ho =>
    exact build_ok ho (fun x hx => hs x.2 (by simp [ho, Op.operands]; exact ⟨x.1, by simpa using hx⟩)) hi h
  case h_15 t x lo hi' ho =>
    have hx : opdSmall x = true := hs x (by simp [ho, Op.operands])
    have h1 : ∀ y, lo = some y → opdSmall y = true := fun y e => hs y (by simp [ho, Op.operands, e])
    have h2 : ∀ y, hi' = some y → opdSmall y = true := fun y e => hs y (by simp [ho, Op.operands, e])
    cases he : sliceElem P t with
    | none => simp [he] at hi
    | some e =>
      cases hn : sizeAt P e with
      | none => simp [he, hn] at hi
      | some n =>
        simp only [he, hn, Option.bind_some, Option.some.injEq] at hi
        subst hi
        refine pure_of (x := slice3 n (ev tm x) (bound1 tm lo 0) (bound1 tm hi')) h (by unfold kindOf; simp [ho, sliceElem_some he]) fun v hv => ?_
        have e2 : bound1 tm hi' = boundOf (hi'.map (evalAt tm)) := by funext d; exact bound1_eq h2
        rw [ev_eq hx, bound1_eq h1, e2] at hv
        exact slice_ok ho (sliceElem_some he) hn hv
  case h_16 t x ho =>
    have hx : opdSmall x = true := hs x (by simp [ho, Op.operands])
    cases hn : partKind P t with
    | none => simp [hn] at hi
    | some n =>
      simp only [hn, Option.bind_some, Option.some.injEq] at hi
      subst hi
      rcases partKind_some hn with ⟨rfl, ha⟩ | ⟨k, rfl, ha, hsz⟩
      · refine read_of (x := loadV1 m (ev tm x)) h (by unfold kindOf; simp [ho]) fun v hv => ?_
        rw [ev_eq hx] at hv
        unfold readOp
        simp only [ho]
        exact loadV1_ok ha hv
      · refine read_of (x := loadVN m k (ev tm x)) h (by unfold kindOf; simp [ho]) fun v hv => ?_
        rw [ev_eq hx] at hv
        unfold readOp
        simp only [ho]
        exact loadVN_ok ha hsz hv
  case h_17 t x k ok ho =>
    have hx : opdSmall x = true := hs x (by simp [ho, Op.operands])
    have hk : opdSmall k = true := hs k (by simp [ho, Op.operands])
    cases hq : mapTypes P t with
    | none => simp [hq] at hi
    | some q =>
      cases hd : P.underlying q.1 with
      | none => simp [hq, hd] at hi
      | some d =>
        cases hz : zeroAt P q.2 with
        | none => simp [hq, hd, hz] at hi
        | some z =>
          simp only [hq, hd, hz, Option.bind_some, Option.some.injEq] at hi
          subst hi
          refine read_of (x := lookup2 d z ok m (ev tm x) (ev tm k)) h (by unfold kindOf; simp [ho]) fun v hv => ?_
          rw [ev_eq hx, ev_eq hk] at hv
          unfold readOp
          simp only [ho]
          exact lookup_ok (mapTypes_some hq) hd hz hv
  case h_18 elem ho =>
    cases hz : zeroList P elem with
    | none => simp [hz] at hi
    | some z =>
      simp only [hz, Option.bind_some, Option.some.injEq] at hi
      subst hi
      obtain ⟨z0, hz0, rfl⟩ := zeroList_some hz
      exact opVal_new (by unfold kindOf; simp [ho]) (by unfold newOp; simp only [ho, hz0, Option.bind_some]; rfl) h
  case h_19 elem x ho =>
    cases hi
    have hx : opdSmall x = true := hs x (by simp [ho, Op.operands])
    have h' : pushV m (.cells elem (ev tm x).cells.toList true) ptrTo = some r := h
    rw [ev_eq hx] at h'
    exact opVal_new (by unfold kindOf; simp [ho]) (by unfold newOp; simp only [ho]; rfl) h'
  case h_20 t len parts ho =>
    exact bslice_ok ho (fun x hx => hs x.2 (by simp [ho, Op.operands]; exact ⟨x.1, by simpa using hx⟩)) hi h
  case h_21 t l c ho =>
    have hl : opdSmall l = true := hs l (by simp [ho, Op.operands])
    have hc : opdSmall c = true := hs c (by simp [ho, Op.operands])
    cases he : sliceElem P t with
    | none => simp [he] at hi
    | some e =>
      cases hin : P.info? e with
      | none => simp [he, hin] at hi
      | some inf =>
        cases hz : zeroList P e with
        | none => simp [he, hin, hz] at hi
        | some z =>
          simp only [he, hin, hz, Option.bind_some] at hi
          obtain ⟨z0, hz0, rfl⟩ := zeroList_some hz
          cases hb : Nat.ble inf.bytes 100000 && Nat.beq z0.cells.toList.length inf.size with
          | false => simp only [hb, cond_false] at hi; cases hi
          | true =>
            simp only [hb, cond_true, Option.some.injEq] at hi
            subst hi
            rw [Bool.and_eq_true] at hb
            have h' : mkslice2 e inf.size z0.cells.toList m (ev tm l) (ev tm c) = some r := h
            rw [ev_eq hl, ev_eq hc] at h'
            exact mkslice_ok ho (sliceElem_some he) hin hz0 hb.1 (by simpa using Nat.eq_of_beq_eq_true hb.2) h'
  case h_22 t ho =>
    cases hq : mapTypes P t with
    | none => simp [hq] at hi
    | some q =>
      simp only [hq, Option.bind_some, Option.some.injEq] at hi
      subst hi
      have h' : pushV m (.map []) (fun b => .map (some b)) = some r := h
      exact opVal_new (by unfold kindOf; simp [ho]) (by unfold newOp; simp only [ho, mapTypes_some hq]) h'
  case h_23 t x v ho =>
    have hx : opdSmall x = true := hs x (by simp [ho, Op.operands])
    have hv : opdSmall v = true := hs v (by simp [ho, Op.operands])
    cases hn : sizeAt P t with
    | none => simp [hn] at hi
    | some n =>
      simp only [hn, Option.bind_some, Option.some.injEq] at hi
      subst hi
      have h' : store2 n m (ev tm x) (ev tm v) = some r := h
      rw [ev_eq hx, ev_eq hv] at h'
      exact opVal_write (by unfold kindOf; simp [ho]) (storeN_ok ho hn h')
  case h_24 t x k v ho =>
    have hx : opdSmall x = true := hs x (by simp [ho, Op.operands])
    have hk : opdSmall k = true := hs k (by simp [ho, Op.operands])
    have hv : opdSmall v = true := hs v (by simp [ho, Op.operands])
    cases hq : mapTypes P t with
    | none => simp [hq] at hi
    | some q =>
      cases hd : P.underlying q.1 with
      | none => simp [hq, hd] at hi
      | some d =>
        simp only [hq, hd, Option.bind_some, Option.some.injEq] at hi
        subst hi
        have h' : mapset3 d m (ev tm x) (ev tm k) (ev tm v) = some r := h
        rw [ev_eq hx, ev_eq hk, ev_eq hv] at h'
        exact opVal_write (by unfold kindOf; simp [ho]) (mapset_ok ho (mapTypes_some hq) hd h')
  case h_25 args argTypes ho =>
    split at hi
    · rename_i x e ha hu
      cases hi
      have hx : opdSmall x = true := hs x (by simp [ho, Op.operands, Call.operands, ← Array.mem_toList_iff, ha])
      refine pure_of (x := len1 (ev tm x)) h (by unfold kindOf; simp [ho, hu]) fun v hv => ?_
      rw [ev_eq hx] at hv
      unfold pureOp
      simp only [ho, ha]
      exact lenS_ok (t := 0) hu hv
    · rename_i x ha hu
      cases hi
      have hx : opdSmall x = true := hs x (by simp [ho, Op.operands, Call.operands, ← Array.mem_toList_iff, ha])
      refine pure_of (x := lenStr1 (ev tm x)) h (by unfold kindOf; simp [ho, hu]) fun v hv => ?_
      rw [ev_eq hx] at hv
      unfold pureOp
      simp only [ho, ha]
      exact lenStr_ok (t := 0) hu hv
    · rename_i x k e ha hu
      cases hi
      have hx : opdSmall x = true := hs x (by simp [ho, Op.operands, Call.operands, ← Array.mem_toList_iff, ha])
      refine read_of (x := lenMap1 m (ev tm x)) h (by unfold kindOf; simp [ho, hu]) fun v hv => ?_
      rw [ev_eq hx] at hv
      exact lenMap_ok ho ha hu hv
    · cases hi
  case h_26 args argTypes ho =>
    split at hi
    · rename_i s x ha
      have hsm : opdSmall s = true := hs s (by simp [ho, Op.operands, Call.operands, ← Array.mem_toList_iff, ha])
      have hx : opdSmall x = true := hs x (by simp [ho, Op.operands, Call.operands, ← Array.mem_toList_iff, ha])
      exact append_ok ho ha hsm hx hi h
    · cases hi
  case h_27 args argTypes ho =>
    split at hi
    · rename_i d x e ha hu
      have hd : opdSmall d = true := hs d (by simp [ho, Op.operands, Call.operands, ← Array.mem_toList_iff, ha])
      have hx : opdSmall x = true := hs x (by simp [ho, Op.operands, Call.operands, ← Array.mem_toList_iff, ha])
      cases hn : sizeAt P e with
      | none => simp [hn] at hi
      | some n =>
        simp only [hn, Option.bind_some, Option.some.injEq] at hi
        subst hi
        have h' : copy2 n m (ev tm d) (ev tm x) = some r := h
        rw [ev_eq hd, ev_eq hx] at h'
        exact opVal_write (by unfold kindOf; simp [ho]) (copyN_ok ho ha hu hn h')
    · cases hi
  case h_28 args argTypes ho =>
    split at hi
    · rename_i x k q q2 ha hu
      have hx : opdSmall x = true := hs x (by simp [ho, Op.operands, Call.operands, ← Array.mem_toList_iff, ha])
      have hk : opdSmall k = true := hs k (by simp [ho, Op.operands, Call.operands, ← Array.mem_toList_iff, ha])
      cases hd : P.underlying q with
      | none => simp [hd] at hi
      | some d =>
        simp only [hd, Option.bind_some, Option.some.injEq] at hi
        subst hi
        have h' : delete2 d m (ev tm x) (ev tm k) = some r := h
        rw [ev_eq hx, ev_eq hk] at h'
        exact opVal_write (by unfold kindOf; simp [ho]) (delete_ok (ty := 0) (t := 0) ho ha hu hd h')
    · cases hi
  case h_29 g args argTypes ho =>
    have ha : ∀ x ∈ args.toList, opdSmall x = true := fun x hx => hs x (by simp [ho, Op.operands, Call.operands]; exact .inr (by simpa using hx))
    cases hc : callable P g with
    | false => simp [hc] at hi
    | true =>
      simp only [hc, cond_true, Option.some.injEq] at hi
      subst hi
      exact call_ok ho ha hc h
  case h_30 f args argTypes hne ho =>
    cases hi
    have hf : opdSmall f = true := hs f (by simp [ho, Op.operands, Call.operands])
    have ha : ∀ x ∈ args.toList, opdSmall x = true := fun x hx => hs x (by simp [ho, Op.operands, Call.operands]; exact .inr (by simpa using hx))
    exact callv_ok ho hf ha h
  case h_31 => cases hi

theorem orGen_ok (hs : ∀ x ∈ o.op.operands.toList, opdSmall x = true) (h : exec (orGen o (insOf P o)) P rec tm m = some r) : opVal P rec o tm m = some r := by
  cases hi : insOf P o with
  | none => rw [hi] at h; exact h
  | some i => rw [hi] at h; exact exec_ok hs hi h

end

/-! ### Runs -/
/-- The abstract machine's calls, as values. -/
def recOf (rec : Task → Option Res) : Rec := fun f args m =>
  match rec (.call f args m) with
  | some (.call v m') => some (v, m')
  | _ => none

theorem opStep_eq (P : Program) (rec : Task → Option Res) (ops : Array Oper) (o : Oper) (s : St) :
    opStep P rec ops o s = bif wantedAt ops o s.tm then (opVal P (recOf rec) o s.tm s.mem).bind fun x => some ⟨putAt s.tm o.dst x.1, x.2⟩ else some ⟨putAt s.tm o.dst undef, s.mem⟩ := by
  unfold opStep opVal
  cases wantedAt ops o s.tm with
  | false => rfl
  | true =>
    simp only [cond_true]
    cases kindOf P o with
    | pure => cases pureOp P (evalAt s.tm) o <;> rfl
    | read => cases readOp P (evalAt s.tm) s.mem o <;> rfl
    | new =>
      cases newOp P (evalAt s.tm) o with
      | none => rfl
      | some x =>
        simp only [Option.bind_some, pushV]
        cases s.mem.push x.1 <;> rfl
    | write => cases writeOp P (evalAt s.tm) s.mem o <;> rfl
    | call =>
      cases callOp P (evalAt s.tm) o with
      | none => rfl
      | some x =>
        simp only [Option.bind_some, recOf]
        cases rec (.call x.1 x.2 s.mem) with
        | none => rfl
        | some r => cases r <;> rfl
    | bad => rfl

def TaskLe (r r' : Task → Option Res) : Prop := ∀ t x, r t = some x → r' t = some x

theorem recOf_le {r r' : Task → Option Res} (h : TaskLe r r') : RecLe (recOf r) (recOf r') := by
  intro f args m x hx
  unfold recOf at hx ⊢
  cases hr : r (.call f args m) with
  | none => simp [hr] at hx
  | some q => rw [h _ _ hr]; rw [hr] at hx; exact hx

theorem opStep_mono {P : Program} {r r' : Task → Option Res} (h : TaskLe r r') {ops : Array Oper} {o : Oper} {s s' : St} (hs : opStep P r ops o s = some s') : opStep P r' ops o s = some s' := by
  rw [opStep_eq] at hs ⊢
  cases hw : wantedAt ops o s.tm with
  | false => rw [hw] at hs; exact hs
  | true =>
    simp only [hw, cond_true] at hs ⊢
    cases hv : opVal P (recOf r) o s.tm s.mem with
    | none => simp [hv] at hs
    | some x => rw [opVal_mono (recOf_le h) hv]; rw [hv] at hs; exact hs

/-! ### Lists of instructions -/
theorem wantedN_eq {ops : Array Oper} {o : Oper} {g : Gd} (tm : T Value) (h : gdOf ops o = some g) : wantedN g tm = wantedAt ops o tm := by
  unfold gdOf at h
  unfold wantedAt
  cases hg : o.guard with
  | none =>
    simp only [hg, Option.some.injEq] at h
    subst h
    rfl
  | some jw =>
    obtain ⟨j, want⟩ := jw
    simp only [hg] at h
    cases hd : (ops[j]?).bind (·.dst) with
    | none =>
      simp only [hd, Option.some.injEq] at h
      subst h
      simp only [hd]
      rfl
    | some t =>
      simp only [hd] at h
      cases hs : small t with
      | false => simp [hs] at h
      | true =>
        simp only [hs, cond_true, Option.some.injEq] at h
        subst h
        show isB ((way depth t).get tm) want = _
        rw [show way depth t = way 40 t from rfl, get_way _ _ _ (small_lt hs)]
        simp only [hd, Option.bind_some]
        rfl

theorem nOp_ok {P : Program} {rec : Rec} {ops : Array Oper} {o : Oper} {n : NOp} {s s' : St} {r : Task → Option Res} (hr : RecLe rec (recOf r)) (hn : nopOf P ops o = some n) (h : nOp P rec n s = some s') : opStep P r ops o s = some s' := by
  unfold nopOf at hn
  cases hg : gdOf ops o with
  | none => simp [hg] at hn
  | some g =>
    cases hs : slotsOk o with
    | false => simp [hg, hs] at hn
    | true =>
      simp only [hg, hs, Option.bind_some, cond_true, Option.some.injEq] at hn
      subst hn
      unfold slotsOk at hs
      rw [Bool.and_eq_true, List.all_eq_true] at hs
      rw [opStep_eq, ← wantedN_eq s.tm hg]
      obtain ⟨tm, m⟩ := s
      show (bif wantedN g tm then (opVal P (recOf r) o tm m).bind fun x => some (⟨putAt tm o.dst x.1, x.2⟩ : St) else some ⟨putAt tm o.dst undef, m⟩) = some s'
      have h' : @Bool.rec (fun _ => Option Tmp → Ins → Program → Rec → T Value → Mem → Option St)
        (fun dst _ _ _ tm m => some ⟨putN tm dst undef, m⟩) (fun dst ins P rec tm m => stOf dst tm (exec ins P rec tm m)) (wantedN g tm) o.dst (orGen o (insOf P o)) P rec tm m = some s' := h
      cases hw : wantedN g tm with
      | false =>
        rw [hw] at h'
        have h2 : some (⟨putN tm o.dst undef, m⟩ : St) = some s' := h'
        rw [putN_eq] at h2
        exact h2
      | true =>
        rw [hw] at h'
        have h2 : stOf o.dst tm (exec (orGen o (insOf P o)) P rec tm m) = some s' := h'
        cases hx : exec (orGen o (insOf P o)) P rec tm m with
        | none => rw [hx] at h2; cases h2
        | some x =>
          rw [hx] at h2
          have h3 : some (⟨putN tm o.dst x.1, x.2⟩ : St) = some s' := h2
          rw [putN_eq] at h3
          simp only [cond_true]
          rw [opVal_mono hr (orGen_ok hs.1 hx)]
          exact h3

theorem nOps_ok {P : Program} {rec : Rec} {ops : Array Oper} {r : Task → Option Res} (hr : RecLe rec (recOf r)) : ∀ {l : List Oper} {ns : List NOp} {s s' : St}, nopsOf P ops l = some ns → nOps P rec ns s = some s' → opsRun P r ops l s = some s'
  | [], ns, s, s', hn, h => by
    simp only [nopsOf, Option.some.injEq] at hn
    subst hn
    exact h
  | o :: l, ns, s, s', hn, h => by
    simp only [nopsOf] at hn
    cases h1 : nopOf P ops o with
    | none => simp [h1] at hn
    | some n =>
      cases h2 : nopsOf P ops l with
      | none => simp [h1, h2] at hn
      | some ns' =>
        simp only [h1, h2, Option.bind_some, Option.some.injEq] at hn
        subst hn
        have h' : @Option.rec St (fun _ => (St → Option St) → Option St) (fun _ => none) (fun s' k => k s') (nOp P rec n s) (nOps P rec ns') = some s' := h
        cases h3 : nOp P rec n s with
        | none => rw [h3] at h'; cases h'
        | some s1 =>
          rw [h3] at h'
          have h4 : nOps P rec ns' s1 = some s' := h'
          simp only [opsRun, nOp_ok hr h1 h3, Option.bind_some]
          exact nOps_ok hr h2 h4

theorem nTrace_nil (P : Program) (rec : Rec) (s : St) : nTrace P rec [] s = some [s] := rfl
theorem nTrace_cons (P : Program) (rec : Rec) (o : NOp) (l : List NOp) (s : St) : nTrace P rec (o :: l) s = (nOp P rec o s).bind fun s' => (nTrace P rec l s').bind fun r => some (s :: r) := by
  show @Option.rec St (fun _ => (St → Option (List St)) → St → Option (List St)) (fun _ _ => none)
      (fun s' k s => @Option.rec (List St) (fun _ => St → Option (List St)) (fun _ => none) (fun l s => some (s :: l)) (k s') s) (nOp P rec o s) (nTrace P rec l) s = _
  cases nOp P rec o s with
  | none => rfl
  | some s' =>
    simp only [Option.bind_some]
    cases nTrace P rec l s' <;> rfl

theorem nTrace_ok {P : Program} {rec : Rec} {ops : Array Oper} {r : Task → Option Res} (hr : RecLe rec (recOf r)) : ∀ {l : List Oper} {ns : List NOp} {s : St} {sts : List St}, nopsOf P ops l = some ns → nTrace P rec ns s = some sts →
    ∃ t last, opsTrace P r ops l s = some (t, last) ∧ sts = t ++ [last] ∧ lastOf sts = some last
  | [], ns, s, sts, hn, h => by
    simp only [nopsOf, Option.some.injEq] at hn
    subst hn
    rw [nTrace_nil] at h
    simp only [Option.some.injEq] at h
    subst h
    exact ⟨[], s, rfl, rfl, rfl⟩
  | o :: l, ns, s, sts, hn, h => by
    simp only [nopsOf] at hn
    cases h1 : nopOf P ops o with
    | none => simp [h1] at hn
    | some n =>
      cases h2 : nopsOf P ops l with
      | none => simp [h1, h2] at hn
      | some ns' =>
        simp only [h1, h2, Option.bind_some, Option.some.injEq] at hn
        subst hn
        rw [nTrace_cons] at h
        cases h3 : nOp P rec n s with
        | none => simp [h3] at h
        | some s1 =>
          cases h4 : nTrace P rec ns' s1 with
          | none => simp [h3, h4] at h
          | some sts' =>
            simp only [h3, h4, Option.bind_some, Option.some.injEq] at h
            subst h
            obtain ⟨t, last, e1, e2, e3⟩ := nTrace_ok hr h2 h4
            refine ⟨s :: t, last, ?_, by simp [e2], ?_⟩
            · simp only [opsTrace, nOp_ok hr h1 h3, Option.bind_some, e1]
            · cases sts' with
              | nil => cases e3
              | cons a q => exact e3

theorem nopsOf_get {P : Program} {ops : Array Oper} : ∀ {l : List Oper} {ns : List NOp}, nopsOf P ops l = some ns → ∀ (i : Nat) n, ns[i]? = some n → ∃ o, l[i]? = some o ∧ nopOf P ops o = some n
  | [], ns, hn, i, n, h => by
    simp only [nopsOf, Option.some.injEq] at hn
    subst hn
    simp at h
  | o :: l, ns, hn, i, n, h => by
    simp only [nopsOf] at hn
    cases h1 : nopOf P ops o with
    | none => simp [h1] at hn
    | some n' =>
      cases h2 : nopsOf P ops l with
      | none => simp [h1, h2] at hn
      | some ns' =>
        simp only [h1, h2, Option.bind_some, Option.some.injEq] at hn
        subst hn
        cases i with
        | zero => simp only [List.getElem?_cons_zero, Option.some.injEq] at h; subst h; exact ⟨o, by simp, h1⟩
        | succ i =>
          obtain ⟨o', e1, e2⟩ := nopsOf_get h2 i n (by simpa using h)
          exact ⟨o', by simpa using e1, e2⟩

theorem nopOf_some {P : Program} {ops : Array Oper} {o : Oper} {n : NOp} (hn : nopOf P ops o = some n) : gdOf ops o = some n.gd ∧ n.ins = orGen o (insOf P o) ∧ ∀ x ∈ o.op.operands.toList, opdSmall x = true := by
  unfold nopOf at hn
  cases hg : gdOf ops o with
  | none => simp [hg] at hn
  | some g =>
    cases hs : slotsOk o with
    | false => simp [hg, hs] at hn
    | true =>
      simp only [hg, hs, Option.bind_some, cond_true, Option.some.injEq] at hn
      subst hn
      unfold slotsOk at hs
      rw [Bool.and_eq_true, List.all_eq_true] at hs
      exact ⟨rfl, rfl, hs.1⟩

theorem read_val {P : Program} {rec : Rec} {o : Oper} {tm : T Value} {m : Mem} {r : Value × Mem} (hs : ∀ x ∈ o.op.operands.toList, opdSmall x = true) (hk : isRead P o = true) (h : exec (orGen o (insOf P o)) P rec tm m = some r) : readOp P (evalAt tm) m o = some r.1 := by
  have hv := orGen_ok hs h
  unfold isRead at hk
  unfold opVal at hv
  split at hk
  · rename_i hk'
    simp only [hk'] at hv
    cases hr : readOp P (evalAt tm) m o with
    | none => simp [hr] at hv
    | some v => simp only [hr, Option.bind_some, Option.some.injEq] at hv; subst hv; rfl
  · cases hk

theorem sameReads_some {n : Nat} {a b : Option (Value × Mem)} (h : sameReads n a b = true) : ∃ x y, a = some x ∧ b = some y ∧ (same x.1 y.1 && inside n x.1) = true := by
  unfold sameReads at h
  split at h
  · split at h
    · exact ⟨_, _, rfl, rfl, h⟩
    · cases h
  · cases h

theorem pairN_ok {P : Program} {rec : Rec} {ops : Array Oper} {ns : List NOp} {t : List St} {last : St} {x : Nat × Nat} (hn : nopsOf P ops ops.toList = some ns) (hf : readFirst P ops x = true) (h : pairN P rec ns (t ++ [last]) x = true)
    (hlen : t.length = ops.size) : pairOk P ops t last x = true := by
  unfold pairN at h
  simp only [nth_eq] at h
  split at h
  · rename_i o w sj sw sw' h1 h2 h3 h4 h5
    obtain ⟨oj, e1, e2⟩ := nopsOf_get hn _ _ h1
    obtain ⟨ow, e3, e4⟩ := nopsOf_get hn _ _ h2
    obtain ⟨g1, i1, s1⟩ := nopOf_some e2
    obtain ⟨g2, i2, s2⟩ := nopOf_some e4
    rw [Array.getElem?_toList] at e1 e3
    have l1 : x.1 < t.length := by
      rw [hlen]; exact (Array.getElem?_eq_some_iff.1 e1).1
    have l2 : x.2 < t.length := by
      rw [hlen]; exact (Array.getElem?_eq_some_iff.1 e3).1
    rw [List.getElem?_append_left l1] at h3
    rw [List.getElem?_append_left l2] at h4
    unfold pairOk
    simp only [e1, e3, h3, h4, h5]
    rw [wantedN_eq _ g1, wantedN_eq _ g2, notB_eq, notB_eq] at h
    unfold readFirst at hf
    simp only [e1] at hf
    cases hw1 : wantedAt ops oj sj.tm with
    | false => rfl
    | true =>
      cases hw2 : wantedAt ops ow sw.tm with
      | false => rfl
      | true =>
        simp only [hw1, hw2, Bool.not_true, Bool.false_or] at h ⊢
        obtain ⟨a, b, ha, hb, hab⟩ := sameReads_some h
        rw [i1] at ha hb
        rw [read_val s1 hf ha, read_val s1 hf hb]
        exact hab
  · cases h

theorem opsTrace_length {P : Program} {r : Task → Option Res} {ops : Array Oper} : ∀ {l : List Oper} {s : St} {x : List St × St}, opsTrace P r ops l s = some x → x.1.length = l.length
  | [], s, x, h => by simp only [opsTrace, Option.some.injEq] at h; subst h; rfl
  | o :: l, s, x, h => by
    simp only [opsTrace] at h
    cases h1 : opStep P r ops o s with
    | none => simp [h1] at h
    | some s1 =>
      cases h2 : opsTrace P r ops l s1 with
      | none => simp [h1, h2] at h
      | some y =>
        simp only [h1, h2, Option.bind_some, Option.some.injEq] at h
        subst h
        simp [opsTrace_length h2]

theorem nDrawn_ok {P : Program} {rec : Rec} {ops : Array Oper} {r : Task → Option Res} (hr : RecLe rec (recOf r)) {ns : List NOp} {ps : List (Nat × Nat)} {s s' : St} (hn : nopsOf P ops ops.toList = some ns) (hp : openPairs P ops = ps) (hf : ps.all (readFirst P ops) = true)
    (h : nDrawn P rec ns ps s = some s') : (opsTrace P r ops ops.toList s).bind (fun x => bif ps.all (pairOk P ops x.1 x.2) then some x.2 else none) = some s' := by
  unfold nDrawn at h
  cases ht : nTrace P rec ns s with
  | none => simp [ht] at h
  | some sts =>
    simp only [ht, Option.bind_some] at h
    obtain ⟨t, last, e1, e2, e3⟩ := nTrace_ok hr hn ht
    cases hall : ps.all (pairN P rec ns sts) with
    | false => simp [hall] at h
    | true =>
      simp only [hall, cond_true, e3, Option.some.injEq] at h
      subst h
      rw [List.all_eq_true] at hall hf
      have hlen : t.length = ops.size := by have := opsTrace_length e1; simpa using this
      have : ps.all (pairOk P ops t last) = true := by
        rw [List.all_eq_true]
        intro x hx
        have := hall x hx
        rw [e2] at this
        exact pairN_ok hn (hf x hx) this hlen
      simp only [e1, Option.bind_some, this, cond_true]

theorem compile_region (P : Program) (id : Nat) (ops : Array Oper) (draw : Bool) : compile P (.region id ops draw) = regionOf P ops draw := rfl

/-! ### Results -/
theorem slotV_eq {tm : T Value} {t : Tmp} (h : small t = true) : slotV tm t = (tm.get t).getD undef := by
  unfold slotV
  rw [orUndef_eq, show way depth t = way 40 t from rfl, get_way _ _ _ (small_lt h)]

theorem resN_nil (tm : T Value) (m : Mem) : resN tm m [] = some [] := rfl
theorem resN_cons (tm : T Value) (m : Mem) (r : NRes) (l : List NRes) : resN tm m (r :: l) = (res1 tm m r).bind fun v => (resN tm m l).bind fun vs => some (v :: vs) := rfl

theorem resN_ok {P : Program} {tm : T Value} {m : Mem} : ∀ {l : List ResultVar} {ns : List NRes} {vs : List Value}, resOf P l = some ns → resN tm m ns = some vs → resultsAt P tm m l = some vs
  | [], ns, vs, hn, h => by
    simp only [resOf, Option.some.injEq] at hn
    subst hn
    exact h
  | .tmp t :: l, ns, vs, hn, h => by
    simp only [resOf] at hn
    cases hs : small t with
    | false => simp [hs] at hn
    | true =>
      cases h1 : resOf P l with
      | none => simp [hs, h1] at hn
      | some ns' =>
        simp only [hs, h1, cond_true, Option.bind_some, Option.some.injEq] at hn
        subst hn
        rw [resN_cons] at h
        simp only [res1, Option.bind_some, slotV_eq hs] at h
        cases h2 : resN tm m ns' with
        | none => simp [h2] at h
        | some vs' =>
          simp only [h2, Option.bind_some] at h
          simp only [resultsAt, resN_ok h1 h2, Option.bind_some]
          exact h
  | .cell a t :: l, ns, vs, hn, h => by
    simp only [resOf] at hn
    cases hs : small a with
    | false => simp [hs] at hn
    | true =>
      cases hk : partKind P t with
      | none => simp [hs, hk] at hn
      | some k =>
        cases h1 : resOf P l with
        | none => simp [hs, hk, h1] at hn
        | some ns' =>
          simp only [hs, hk, h1, cond_true, Option.bind_some, Option.some.injEq] at hn
          subst hn
          rw [resN_cons] at h
          have hload : ∀ v, res1 tm m (cellRes a k) = some v → loadAt P m t ((tm.get a).getD undef) = some v := by
            intro v hv
            rcases partKind_some hk with ⟨rfl, ha⟩ | ⟨n, rfl, ha, hsz⟩
            · simp only [cellRes, res1, slotV_eq hs] at hv
              exact loadV1_ok ha hv
            · simp only [cellRes, res1, slotV_eq hs] at hv
              exact loadVN_ok ha hsz hv
          cases h3 : res1 tm m (cellRes a k) with
          | none => rw [h3] at h; cases h
          | some v =>
            rw [h3] at h
            simp only [Option.bind_some] at h
            cases h2 : resN tm m ns' with
            | none => simp [h2] at h
            | some vs' =>
              simp only [h2, Option.bind_some] at h
              simp only [resultsAt, hload v h3, resN_ok h1 h2, Option.bind_some]
              exact h

theorem leaveN_ok {P : Program} {fn : Func} {ns : List NRes} {s : St} {r : Res} (hn : resOf P fn.results.toList = some ns) (h : leaveN ns s = some r) : leave P fn s = some r := by
  unfold leaveN at h
  unfold leave
  cases h1 : resN s.tm s.mem ns with
  | none => simp [h1] at h
  | some vs =>
    simp only [h1, Option.bind_some] at h
    simp only [resN_ok hn h1, Option.bind_some]
    unfold tupleOf at h
    split at h
    · exact h
    · rename_i hne
      split
      · rename_i v
        exact (hne v rfl).elim
      · exact h

theorem entN_eq : ∀ (args : List Value) (k : Nat) (tm : T Value), entN args k tm = enterAt args k tm
  | [], _, _ => rfl
  | v :: r, k, tm => by
    show entN r (k + 1) ((way depth k).set v tm) = _
    rw [entN_eq r, set_way]
    rfl

/-! ### The runs -/
def Matches (P : Program) (rec : NTask → Option Res) (r : Task → Option Res) : Prop :=
  (∀ c s x, rec (.code (compile P c) s) = some x → r (.code c s) = some x) ∧ (∀ f args m x, rec (.call f args m) = some x → r (.call f args m) = some x)

theorem callIn_le {P : Program} {rec : NTask → Option Res} {r : Task → Option Res} (h : Matches P rec r) : RecLe (callIn rec) (recOf r) := by
  intro f args m x hx
  unfold callIn at hx
  unfold recOf
  cases hr : rec (.call f args m) with
  | none => simp [hr] at hx
  | some q => rw [h.2 _ _ _ _ hr]; rw [hr] at hx; exact hx

theorem normalTo_some {s : Option St} {x : Res} (h : normalTo s = some x) : ∃ s', s = some s' ∧ x = .code .normal s' := by
  cases s with
  | none => cases h
  | some s' => cases h; exact ⟨s', rfl, rfl⟩

theorem thenN_ok {P : Program} {rec : NTask → Option Res} {r : Task → Option Res} (h : Matches P rec r) {b : Code} {y : Option Res} {x : Res} :
    thenN rec (compile P b) y = some x → (match y with | some (.code .normal s') => r (.code b s') | r => r) = some x := by
  intro hx
  unfold thenN at hx
  split at hx
  · exact h.1 _ _ _ hx
  · rename_i hne
    split
    · rename_i s' 
      exact (hne s' rfl).elim
    · exact hx

theorem codeN_ok {P : Program} {rec : NTask → Option Res} {r : Task → Option Res} (h : Matches P rec r) (c : Code) (s : St) (x : Res) (hx : codeN P (compile P c) rec s = some x) : step P r (.code c s) = some x := by
  cases c with
  | skip => exact hx
  | label l => exact hx
  | region id ops draw =>
    rw [compile_region] at hx
    unfold regionOf at hx
    simp only [step]
    split at hx
    · rename_i l hl
      have hops : ∀ x, codeN P (.ops l) rec s = some x → (opsRun P r ops ops.toList s).bind (fun s' => some (Res.code .normal s')) = some x := by
        intro x hx
        obtain ⟨s', h1, rfl⟩ := normalTo_some (s := nOps P (callIn rec) l s) hx
        rw [nOps_ok (callIn_le h) hl h1]
        rfl
      cases draw with
      | false => simp only [cond_false] at hx ⊢; exact hops x hx
      | true =>
        simp only [cond_true] at hx ⊢
        split at hx
        · rename_i hop
          unfold drawnRun
          simp only [hop]
          exact hops x hx
        · rename_i hne
          cases hf : (openPairs P ops).all (readFirst P ops) with
          | false => rw [hf] at hx; cases hx
          | true =>
            rw [hf] at hx
            obtain ⟨s', h1, rfl⟩ := normalTo_some (s := nDrawn P (callIn rec) l (openPairs P ops) s) hx
            have := nDrawn_ok (callIn_le h) hl rfl hf h1
            unfold drawnRun
            split
            · rename_i e
              exact (hne e).elim
            · rw [this]
              rfl
    · cases hx
  | seq a b =>
    have hx' : thenN rec (compile P b) (rec (.code (compile P a) s)) = some x := hx
    simp only [step]
    cases ha : rec (.code (compile P a) s) with
    | none => rw [ha] at hx'; cases hx'
    | some y =>
      rw [ha] at hx'
      rw [h.1 _ _ _ ha]
      exact thenN_ok h hx'
  | cond c a b =>
    have hc : compile P (.cond c a b) = bif opdSmall c then .cond c (compile P a) (compile P b) else .bad := rfl
    rw [hc] at hx
    cases hs : opdSmall c with
    | false => rw [hs] at hx; cases hx
    | true =>
      rw [hs] at hx
      have hx' : condN (ev s.tm c) rec (compile P a) (compile P b) s = some x := hx
      rw [ev_eq hs] at hx'
      simp only [step]
      unfold condN at hx'
      split at hx'
      · rename_i t e
        rw [e]
        cases t with
        | true => exact h.1 _ _ _ hx'
        | false => exact h.1 _ _ _ hx'
      · cases hx'
  | block id c =>
    have hx' : blockN id (rec (.code (compile P c) s)) = some x := hx
    simp only [step]
    cases ha : rec (.code (compile P c) s) with
    | none => rw [ha] at hx'; cases hx'
    | some y =>
      rw [ha] at hx'
      rw [h.1 _ _ _ ha]
      exact hx'
  | loop c =>
    have hx' : thenN rec (compile P (.loop c)) (rec (.code (compile P c) s)) = some x := hx
    simp only [step]
    cases ha : rec (.code (compile P c) s) with
    | none => rw [ha] at hx'; cases hx'
    | some y =>
      rw [ha] at hx'
      rw [h.1 _ _ _ ha]
      exact thenN_ok h hx'
  | exit id => exact hx
  | ret => exact hx
  | rangeFunc a b c d => cases hx
  | scope c => cases hx
  | goto l => cases hx
  | refuse w => cases hx

theorem funcOf_some {P : Program} {f : FuncId} {nf : NFunc} (h : funcOf P f = some nf) : ∃ fn c, P.funcs[f]? = some fn ∧ fn.body = some c ∧ nf.code = compile P c ∧ resOf P fn.results.toList = some nf.res := by
  unfold funcOf at h
  cases h1 : P.funcs[f]? with
  | none => simp [h1] at h
  | some fn =>
    cases h2 : fn.body with
    | none => simp [h1, h2] at h
    | some c =>
      cases h3 : resOf P fn.results.toList with
      | none => simp [h1, h2, h3] at h
      | some r =>
        simp only [h1, h2, h3, Option.bind_some, Option.some.injEq] at h
        subst h
        exact ⟨fn, c, rfl, h2, rfl, h3⟩

theorem leaves_ok {P : Program} {fn : Func} {res : List NRes} (hn : resOf P fn.results.toList = some res) {y : Option Res} {x : Res} :
    leaves res y = some x → (match y with | some (.code .normal s) => leave P fn s | some (.code .ret s) => leave P fn s | _ => none) = some x := by
  intro h
  unfold leaves at h
  split at h
  · exact leaveN_ok hn h
  · exact leaveN_ok hn h
  · cases h

theorem callN_ok {P : Program} {rec : NTask → Option Res} {r : Task → Option Res} (h : Matches P rec r) (f : FuncId) (args : Array Value) (m : Mem) (x : Res) (hx : callN P rec f args m = some x) : step P r (.call f args m) = some x := by
  unfold callN at hx
  cases hf : funcOf P f with
  | none => simp [hf] at hx
  | some nf =>
    obtain ⟨fn, c, h1, h2, h3, h4⟩ := funcOf_some hf
    simp only [hf, Option.bind_some] at hx
    cases hb : Nat.ble args.toList.length 1000000 with
    | false => simp only [hb, cond_false] at hx; cases hx
    | true =>
      simp only [hb, cond_true] at hx
      simp only [step, h1, h2]
      rw [Array.length_toList] at hb
      simp only [hb, cond_true]
      rw [entN_eq, h3] at hx
      cases ha : rec (.code (compile P c) ⟨enterAt args.toList 0 .leaf, m⟩) with
      | none => rw [ha] at hx; cases hx
      | some y =>
        rw [ha] at hx
        rw [h.1 _ _ _ ha]
        have := leaves_ok h4 hx
        exact this

theorem nrun_succ (P : Program) (n : Nat) (t : NTask) : nrun P (n + 1) t = nstep P (nrun P n) t := rfl

/-- The nice machine's end is the abstract machine's. -/
theorem nrun_ok (P : Program) : ∀ n, Matches P (nrun P n) (run P n) := by
  intro n
  induction n with
  | zero => exact ⟨fun c s x h => (by cases h), fun f args m x h => (by cases h)⟩
  | succ n ih =>
    constructor
    · intro c s x h
      exact codeN_ok ih c s x h
    · intro f args m x h
      exact callN_ok ih f args m x h

end Go.AM
