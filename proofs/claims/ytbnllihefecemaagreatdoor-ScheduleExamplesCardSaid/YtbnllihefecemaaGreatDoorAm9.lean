/-
  The abstract machine and the machine: append and copy; all writes in one word.
-/
import Derived.Test.YtbnllihefecemaaGreatDoorAm8
set_option linter.unusedSimpArgs false
set_option linter.unusedVariables false
namespace Go.AM
open Go

variable {P : Program} {ρ : Map} {ev cv : Operand → Value} {o : Oper} {v : Value} {w : World} {m m' : Mem}

/-- append in place. -/
theorem append_fits {argTypes : Array TypeId} {t st xt elem : TypeId} {d : TypeDesc} {a : Option Addr} {len cap n size : Nat} {cx : Value} {new : Array Value} {w' : World}
    (h0 : argTypes[0]? = some st) (h1 : argTypes[1]? = some xt) (hu : P.underlying st = some (.slice elem)) (hu1 : P.underlying xt = some d) (hd : ∀ k, d ≠ .int k) (hs : sizeAt P elem = some size)
    (hl : (Builtin.lenOf cx).run P w = .ok n w) (hn : (Builtin.firstCells size n cx).run P w = .ok new w) (hfit : len + n ≤ cap)
    (hst : ∀ ad, a = some ad → (storeCells (ad.add (len * size)) new.toList).run P w = .ok () w') (hst' : a = none → w' = w) :
    (Builtin.append_ argTypes t #[.slice a len cap, cx]).run P w = .ok (.slice a (len + n) cap) w' := by
  have hd' : (match d with | .int k => true | _ => false) = false := by
    cases d <;> first | rfl | (rename_i k; exact absurd rfl (hd k))
  unfold Builtin.append_
  simp only [h0, h1, List.getElem?_toArray, List.getElem?_cons_zero, List.getElem?_cons_succ, Sem.run_bind, run_underlying' hu, run_underlying' hu1, Result.andThen_ok, run_sizeOf' hs, Sem.run_pure, hd', hl]
  simp only [Bool.false_eq_true, if_false, Sem.run_bind, hl, Result.andThen_ok, hfit, if_true, Bool.not_false, hn]
  cases a with
  | none => rw [hst' rfl]; rfl
  | some ad => simp only [Sem.run_bind, hst ad rfl, Result.andThen_ok, Sem.run_pure]

/-- append that makes a new row. -/
theorem append_grows {argTypes : Array TypeId} {t st xt elem : TypeId} {d : TypeDesc} {i : TypeInfo} {a : Option Addr} {len cap n : Nat} {cx z : Value} {old new : Array Value}
    (h0 : argTypes[0]? = some st) (h1 : argTypes[1]? = some xt) (hu : P.underlying st = some (.slice elem)) (hu1 : P.underlying xt = some d) (hd : ∀ k, d ≠ .int k) (hi : P.info? elem = some i) (hz : zeroAt P elem = some z)
    (hl : (Builtin.lenOf cx).run P w = .ok n w) (hn : ∀ w' : World, w'.heap = w.heap → (Builtin.firstCells i.size n cx).run P w' = .ok new w') (hfit : ¬ (len + n ≤ cap))
    (ho : ∀ w' : World, w'.heap = w.heap → (Builtin.firstCells i.size len (.slice a len cap)).run P w' = .ok old w') (hln : len + n ≤ 3000000) (hb : i.bytes ≤ 100000) (hzs : z.cells.size = i.size) (hnew : old.size + new.size = (len + n) * i.size) :
    ∃ cc c, len + n ≤ cc ∧ c.size = cc * i.size ∧ (∀ j, j < (len + n) * i.size → c[j]? = (old ++ new)[j]?) ∧
      (Builtin.append_ argTypes t #[.slice a len cap, cx]).run P w = .ok (.slice (some ⟨w.heap.size, 0, none⟩) (len + n) cc) (w.drew.alloc (.cells c elem)) := by
  have hd' : (match d with | .int k => true | _ => false) = false := by
    cases d <;> first | rfl | (rename_i k; exact absurd rfl (hd k))
  have hs : sizeAt P elem = some i.size := by simp [sizeAt, hi]
  have hcap := nextslicecap_le (newLen := len + n) (old := cap) (by omega)
  have hmul : Builtin.nextslicecap (len + n) cap * i.bytes ≤ 6000768 * 100000 := Nat.mul_le_mul (by omega) hb
  have hbig : ¬ (Builtin.nextslicecap (len + n) cap * i.bytes > 2 ^ 48) := by omega
  have hmax : ¬ (((len + n : Nat) : Int) > IntKind.i64.max ∧ (False ∨ i.bytes = 0)) := by
    have e : IntKind.i64.max = 9223372036854775807 := by decide
    rw [e]; omega
  obtain ⟨cc, hcc⟩ : ∃ cc, cc = (Question.appendCap (len + n) cap elem).cut (w.tape w.drawn (.appendCap (len + n) cap elem)) := ⟨_, rfl⟩
  have hle : len + n ≤ cc := by rw [hcc]; exact Nat.le_add_right _ _
  have hzc : (Builtin.zeroCells z.cells (cc - (len + n))).size = (cc - (len + n)) * i.size := by
    simp [Builtin.zeroCells, hzs]
  refine ⟨cc, old ++ new ++ Builtin.zeroCells z.cells (cc - (len + n)), hle, ?_, ?_, ?_⟩
  · rw [Array.size_append, hzc, Array.size_append, hnew, ← Nat.add_mul]
    congr 1; omega
  · intro j hj
    rw [Array.getElem?_append, if_pos]
    rw [Array.size_append, hnew]
    exact hj
  · unfold Builtin.append_
    simp only [h0, h1, List.getElem?_toArray, List.getElem?_cons_zero, List.getElem?_cons_succ, Sem.run_bind, run_underlying' hu, run_underlying' hu1, Result.andThen_ok, run_sizeOf' hs, Sem.run_pure, hd', hl]
    simp only [Bool.false_eq_true, if_false, Sem.run_bind, hl, Result.andThen_ok, hfit, if_true, Bool.not_false, run_typeInfo' hi, hmax, hbig]
    rw [run_choose, if_neg (by simp [Question.forced])]
    simp only [Result.andThen_ok, ← hcc, run_typeInfo' hi, run_askRoom]
    rw [World.drew_eq, ho w.drew rfl]
    simp only [Result.andThen_ok]
    rw [hn w.drew rfl]
    simp only [Result.andThen_ok, run_zeroValue' hz]
    simp [newRow]
    rfl

theorem append_sim {argTypes : Array TypeId} {t : TypeId} {s x cs cx : Value} (hi : Inv ρ m w) (hs : VRel ρ s cs) (hx : VRel ρ x cx) (h : appendAt P m argTypes s x = some (v, m')) :
    ∃ c w' ρ', (Builtin.append_ argTypes t #[cs, cx]).run P w = .ok c w' ∧ VRel ρ' v c ∧ Inv ρ' m' w' ∧ Frm ρ m w ρ' m' w' := by
  unfold appendAt at h
  split at h
  · cases h
  · rename_i elem d hni hu hu1
    obtain ⟨st, h0, hu⟩ : ∃ st, argTypes[0]? = some st ∧ P.underlying st = some (.slice elem) := by
      cases hq : argTypes[0]? with
      | none => rw [hq] at hu; simp at hu
      | some st => exact ⟨st, rfl, by rw [hq] at hu; simpa using hu⟩
    obtain ⟨xt, h1, hu1'⟩ : ∃ xt, argTypes[1]? = some xt ∧ P.underlying xt = some d := by
      cases hq : argTypes[1]? with
      | none => rw [hq] at hu1; simp at hu1
      | some st => exact ⟨st, rfl, by rw [hq] at hu1; simpa using hu1⟩
    have hd : ∀ k, d ≠ .int k := by
      intro k e
      subst e
      exact hni k rfl
    cases hl : lenOf x with
    | none => simp [hl] at h
    | some n =>
      cases hinf : P.info? elem with
      | none => simp [hl, hinf] at h
      | some i =>
        cases hsc : sourceCells m i.size n x with
        | none => simp [hl, hinf, hsc] at h
        | some new =>
          cases hz : zeroAt P elem with
          | none => simp [hl, hinf, hsc, hz] at h
          | some z =>
            cases hc : (Nat.ble n 1000000 && Nat.ble i.bytes 100000 && ones new && Nat.beq z.cells.size i.size) with
            | false => simp [hl, hinf, hsc, hz, hc] at h
            | true =>
              simp only [hl, hinf, hsc, hz, hc, Option.bind_some, cond_true] at h
              simp only [Bool.and_eq_true, Nat.ble_eq, Nat.beq_eq] at hc
              obtain ⟨⟨⟨hc1, hc2⟩, hc3⟩, hc4⟩ := hc
              have hs' : sizeAt P elem = some i.size := by simp [sizeAt, hinf]
              have hlen := fun w' => lenOf_sim (P := P) (w := w') hx hl
              have hnx : ∀ a len sz, x = .slice a len sz → n ≤ len := by
                intro a len sz e
                subst e
                simp [lenOf] at hl
                omega
              obtain ⟨na, hna, hnb⟩ := firstCells_sim (P := P) hi hx hsc hnx
              have hnl : new.length = n * i.size := sourceCells_length hsc ⟨n, hl, Nat.le_refl _⟩
              have hnal : na.size = n * i.size := by
                have := hnb.length
                simp at this
                omega
              have hl0 : (Builtin.lenOf cx).run P w = .ok n w := hlen w
              have hn0 := hna w rfl
              split at h
              · -- a nil slice
                cases hs
                cases hq : Nat.beq n 0 with
                | true =>
                  simp only [hq, cond_true, Option.some.injEq, Prod.mk.injEq] at h
                  obtain ⟨rfl, rfl⟩ := h
                  rw [Nat.beq_eq] at hq
                  subst hq
                  exact ⟨_, w, ρ, append_fits h0 h1 hu hu1' hd hs' hl0 hn0 (Nat.le_refl _) (fun ad e => by cases e) (fun _ => rfl), .sliceNil, hi, Frm.refl hi.dom⟩
                | false =>
                  have hq' : n ≠ 0 := by intro e; subst e; simp at hq
                  simp only [hq, cond_false] at h
                  cases hm : m.push (.cells elem new true) with
                  | none => simp [hm] at h
                  | some m2 =>
                    simp only [hm, Option.bind_some, Option.some.injEq, Prod.mk.injEq] at h
                    obtain ⟨rfl, rfl⟩ := h
                    obtain ⟨cc, c, g1, g2, g3, g4⟩ := append_grows (P := P) (w := w) (t := t) (a := none) (len := 0) (cap := 0) (old := #[]) h0 h1 hu hu1' hd hinf hz hl0 hna (by omega) (fun _ _ => rfl) (by omega) hc2 hc4 (by simp [hnal])
                    have hcc : c.size = cc * i.size := g2
                    have hmul : n * i.size ≤ cc * i.size := Nat.mul_le_mul_right _ (by omega)
                    obtain ⟨p1, p2⟩ := push_inv (w' := w.drew.alloc (.cells c elem)) (p := ⟨w.heap.size, 0, c.size⟩) hi hm ⟨rfl, rfl, rfl, by simp, fun k hk => by
                        show (w.heap.push _)[k]? = _
                        rw [Array.getElem?_push, if_neg (by omega)]⟩ (Nat.le_refl _) (by simp)
                      ⟨c, elem, 0, 0, heap_alloc_self w.drew _, rfl, ⟨by simp; omega, fun j y hy => by
                        have hj : j < n * i.size := by
                          rcases Nat.lt_or_ge j new.length with h' | h'
                          · omega
                          · rw [List.getElem?_eq_none h'] at hy; cases hy
                        have hj' : j < na.toList.length := by simp; omega
                        refine ⟨na.toList[j], ?_, (hnb.get j y _ hy (List.getElem?_eq_getElem hj')).mono (Map.le_with hi.free)⟩
                        have := g3 j (by rw [Nat.zero_add]; omega)
                        simp only [Nat.zero_add]
                        rw [this]
                        simp⟩, fun _ j _ hh => by omega⟩
                    refine ⟨_, _, _, g4, ?_, p1, p2⟩
                    rw [Nat.zero_add]
                    exact .slice (Map.with_self _ _ _) (.inl rfl) (by omega) (by simp [hcc])
              · rename_i b k len sz
                cases hq : Nat.beq n 0 with
                | true =>
                  simp only [hq, cond_true, Option.some.injEq, Prod.mk.injEq] at h
                  obtain ⟨rfl, rfl⟩ := h
                  rw [Nat.beq_eq] at hq
                  subst hq
                  have hna0 : na = #[] := Array.eq_empty_of_size_eq_zero (by simpa using hnal)
                  subst hna0
                  cases hs with
                  | slice hp hoff hlen' hcap =>
                    exact ⟨_, w, ρ, append_fits h0 h1 hu hu1' hd hs' hl0 hn0 (by omega) (fun ad _ => by simp [storeCells]) (fun _ => rfl), .slice hp hoff hlen' hcap, hi, Frm.refl hi.dom⟩
                | false =>
                  have hq' : n ≠ 0 := by intro e; subst e; simp at hq
                  simp only [hq, cond_false] at h
                  split at h
                  · rename_i e cs' hb
                    cases hz2 : (Nat.beq sz i.size && Nat.ble len 1000000) with
                    | false => simp [hz2] at h
                    | true =>
                      simp only [hz2, cond_true] at h
                      simp only [Bool.and_eq_true, Nat.beq_eq, Nat.ble_eq] at hz2
                      obtain ⟨rfl, hlen1⟩ := hz2
                      cases hcut : cut k (len * i.size) cs' with
                      | none => simp [hcut] at h
                      | some old =>
                        cases hm : (m.put b .dead).push (.cells elem (old ++ new) true) with
                        | none => simp [hcut, hm] at h
                        | some m2 =>
                          simp only [hcut, hm, Option.bind_some, Option.some.injEq, Prod.mk.injEq] at h
                          obtain ⟨rfl, rfl⟩ := h
                          cases hs with
                          | slice hp hoff hlen' hcap =>
                          rename_i off ccap p
                          obtain ⟨q1, q2, q3⟩ := cut_spec hcut
                          have hbr := hi.rel.blk b p _ hp hb
                          by_cases hfit : len + n ≤ ccap
                          · -- in place
                            have hoff' : off = p.co + k := by
                              rcases hoff with e | ⟨e1, e2⟩
                              · exact e
                              · omega
                            subst hoff'
                            obtain ⟨c, e', lo, hi', g1, g2, g3, g4⟩ := hbr
                            have hmul : (len + n) * i.size ≤ ccap * i.size := Nat.mul_le_mul_right _ hfit
                            rw [Nat.add_mul] at hmul
                            have hul : na.toList.length = n * i.size := by simpa using hnal
                            have hones := ones_mem hc3 hnb
                            obtain ⟨c', w', r1, r2, r3, r4, r5⟩ := storeCells_run (P := P) (off := p.co + k + len * i.size) na.toList 0 w c g1 hones (by omega) (g4 rfl)
                            have hfr := hi.free
                            obtain ⟨p1, p2⟩ := move_inv (p' := ⟨p.cb, p.co + k, p.size⟩) hi hp hb rfl hm r2 rfl
                              ⟨c', e', lo, hi', r3, by rw [r4]; exact g2, ⟨by simp only [List.length_append, q1, hnl, r4]; omega, fun j y hy => by
                                dsimp only
                                rw [r5]
                                by_cases hj : j < len * i.size
                                · rw [List.getElem?_append_left (by omega), q3 j hj] at hy
                                  obtain ⟨u, hu2, hr2⟩ := g3.2 _ y hy
                                  rw [if_neg (by omega), Nat.add_assoc]
                                  exact ⟨u, hu2, hr2.mono (Map.le_with hfr)⟩
                                · rw [List.getElem?_append_right (by omega), q1] at hy
                                  have hj2 : j - len * i.size < n * i.size := by
                                    rcases Nat.lt_or_ge (j - len * i.size) new.length with h' | h'
                                    · omega
                                    · rw [List.getElem?_eq_none h'] at hy; cases hy
                                  have hj' : j - len * i.size < na.toList.length := by omega
                                  rw [if_pos (by omega)]
                                  refine ⟨na.toList[j - len * i.size], ?_, (hnb.get _ y _ hy (List.getElem?_eq_getElem hj')).mono (Map.le_with hfr)⟩
                                  rw [show p.co + k + j - (p.co + k + len * i.size + 0) = j - len * i.size by omega]
                                  exact List.getElem?_eq_getElem hj'⟩, fun _ => by rw [r4]; exact g4 rfl⟩
                            refine ⟨_, w', _, append_fits h0 h1 hu hu1' hd hs' hl0 hn0 hfit (fun ad e => ?_) (fun e => by cases e), ?_, p1, p2⟩
                            · simp only [Option.some.injEq] at e
                              subst e
                              rw [add_none]
                              exact r1
                            · exact @VRel.slice _ m.next 0 (len + n) i.size (p.co + k) ccap ⟨p.cb, p.co + k, p.size⟩ (Map.with_self _ _ _) (.inl rfl) hfit hcap
                          · -- a new row
                            obtain ⟨oa, hoa, hob⟩ : ∃ a : Array Value, (∀ w' : World, w'.heap = w.heap → (Builtin.firstCells i.size len (.slice (some ⟨p.cb, off, none⟩) len ccap)).run P w' = .ok a w') ∧ Both (VRel ρ) old a.toList := by
                              refine firstCells_sim (P := P) (x := .slice (some ⟨b, k, none⟩) len i.size) hi (.slice hp hoff hlen' hcap) ?_ (fun a len2 sz e => by cases e; exact Nat.le_refl _)
                              simp only [sourceCells, hb, Nat.beq_refl, cond_true, hcut]
                            have hoal : oa.size = len * i.size := by
                              have := hob.length
                              simp at this
                              omega
                            have hfin : oa.size + na.size = (len + n) * i.size := by rw [Nat.add_mul]; omega
                            obtain ⟨cc, c, g1, g2, g3, g4⟩ := append_grows (P := P) (w := w) (t := t) h0 h1 hu hu1' hd hinf hz hl0 hna hfit hoa (by omega) hc2 hc4 hfin
                            have hmul : (len + n) * i.size ≤ cc * i.size := Nat.mul_le_mul_right _ g1
                            obtain ⟨a1, a2⟩ := put_inv (x' := .dead) hi hp hb rfl ⟨rfl, rfl, rfl, rfl, fun _ _ => rfl⟩ trivial
                            have hnx2 : (m.put b .dead).next = m.next := rfl
                            obtain ⟨p1, p2⟩ := push_inv (w' := w.drew.alloc (.cells c elem)) (p := ⟨w.heap.size, 0, c.size⟩) a1 hm ⟨rfl, rfl, rfl, by simp, fun k hk => by
                                show (w.heap.push _)[k]? = _
                                rw [Array.getElem?_push, if_neg (by omega)]⟩ (Nat.le_refl _) (by simp)
                              ⟨c, elem, 0, 0, heap_alloc_self w.drew _, rfl, ⟨by simp only [List.length_append, q1, hnl]; rw [Nat.add_mul] at hmul; omega, fun j y hy => by
                                have hj : j < (len + n) * i.size := by
                                  rcases Nat.lt_or_ge j (old ++ new).length with h' | h'
                                  · rw [List.length_append, q1, hnl] at h'; rw [Nat.add_mul]; omega
                                  · rw [List.getElem?_eq_none h'] at hy; cases hy
                                have hbb := hob.append hnb
                                have hj' : j < (oa.toList ++ na.toList).length := by
                                  rw [List.length_append]; simp; omega
                                refine ⟨(oa.toList ++ na.toList)[j], ?_, (hbb.get j y _ hy (List.getElem?_eq_getElem hj')).mono (Map.le_with a1.free)⟩
                                simp only [Nat.zero_add]
                                rw [g3 j hj, ← Array.getElem?_toList, Array.toList_append]
                                exact List.getElem?_eq_getElem hj'⟩, fun _ j _ hh => by omega⟩
                            refine ⟨_, _, _, g4, ?_, p1, a2.trans hi.dom p2⟩
                            exact .slice (Map.with_self _ _ _) (.inl rfl) g1 (by simp [g2])
                  · cases h
              · cases h
  · cases h

theorem copy_sim {argTypes : Array TypeId} {t : TypeId} {d x cd cx : Value} (hi : Inv ρ m w) (hd : VRel ρ d cd) (hx : VRel ρ x cx) (h : copyAt P m argTypes d x = some (v, m')) :
    ∃ c w', (Builtin.copy_ argTypes t #[cd, cx]).run P w = .ok c w' ∧ VRel ρ v c ∧ Inv ρ m' w' ∧ Frm ρ m w ρ m' w' := by
  unfold copyAt at h
  split at h
  · rename_i elem hu
    obtain ⟨st, h0, hu⟩ : ∃ st, argTypes[0]? = some st ∧ P.underlying st = some (.slice elem) := by
      cases hq : argTypes[0]? with
      | none => rw [hq] at hu; simp at hu
      | some st => exact ⟨st, rfl, by rw [hq] at hu; simpa using hu⟩
    cases hdn : lenOf d with
    | none => simp [hdn] at h
    | some dn =>
      cases hxn : lenOf x with
      | none => simp [hdn, hxn] at h
      | some xn =>
        cases hs : sizeAt P elem with
        | none => simp [hdn, hxn, hs] at h
        | some size =>
          cases hsc : sourceCells m size (Nat.min xn dn) x with
          | none => simp [hdn, hxn, hs, hsc] at h
          | some new =>
            simp only [hdn, hxn, hs, hsc, Option.bind_some] at h
            have hnx : ∀ a len sz, x = .slice a len sz → Nat.min xn dn ≤ len := by
              intro a len sz e
              subst e
              simp only [lenOf, Option.some.injEq] at hxn
              subst hxn
              exact Nat.min_le_left _ _
            obtain ⟨na, hna, hnb⟩ := firstCells_sim (P := P) hi hx hsc hnx
            have hln := lenOf_sim (P := P) (w := w) hx hxn
            have hnl : new.length = Nat.min xn dn * size := sourceCells_length hsc ⟨xn, hxn, Nat.min_le_left _ _⟩
            split at h
            · simp only [Option.some.injEq, Prod.mk.injEq] at h
              obtain ⟨rfl, rfl⟩ := h
              cases hd
              simp only [lenOf, Option.some.injEq] at hdn
              subst hdn
              refine ⟨_, w, ?_, .int _ _, hi, Frm.refl hi.dom⟩
              rw [show Nat.min xn 0 = 0 from Nat.min_zero xn] at hna ⊢
              unfold Builtin.copy_
              simp [h0, run_underlying' hu, hln, run_sizeOf' hs, hna w rfl, goInt]
            · rename_i b k len sz
              simp only [lenOf, Option.some.injEq] at hdn
              subst hdn
              split at h
              · rename_i e cs hb
                cases hz2 : (Nat.beq sz size && ones new) with
                | false => simp [hz2] at h
                | true =>
                  simp only [hz2, cond_true] at h
                  simp only [Bool.and_eq_true, Nat.beq_eq] at hz2
                  obtain ⟨rfl, hon⟩ := hz2
                  cases hpa : paste k new cs with
                  | none => simp [hpa] at h
                  | some cs' =>
                    simp only [hpa, Option.bind_some, Option.some.injEq, Prod.mk.injEq] at h
                    obtain ⟨rfl, rfl⟩ := h
                    cases hd with
                    | slice hp hoff hlen hcap =>
                      rename_i off ccap p
                      rcases hoff with rfl | ⟨rfl, rfl⟩
                      · obtain ⟨w', r1, r2, r3⟩ := paste_sim (P := P) hi hp hb hpa hnb hon
                        refine ⟨_, w', ?_, .int _ _, r2, r3⟩
                        unfold Builtin.copy_
                        simp [h0, run_underlying' hu, hln, run_sizeOf' hs, hna w rfl, goInt, r1]
                      · have hn0 : new = [] := List.eq_nil_of_length_eq_zero (by rw [hnl, show Nat.min xn 0 = 0 from Nat.min_zero xn]; simp)
                        subst hn0
                        have hna0 : na = #[] := by
                          have := hnb.length
                          simp at this
                          exact Array.eq_empty_of_size_eq_zero this.symm
                        subst hna0
                        obtain ⟨w', r1, r2, r3⟩ := paste_sim (P := P) hi hp hb hpa (us := []) .nil rfl
                        have hw : w' = w := by simpa [storeCells] using r1.symm
                        subst hw
                        refine ⟨_, w', ?_, .int _ _, r2, r3⟩
                        rw [show Nat.min xn 0 = 0 from Nat.min_zero xn] at hna ⊢
                        unfold Builtin.copy_
                        simp [h0, run_underlying' hu, hln, run_sizeOf' hs, hna w' rfl, goInt, storeCells]
              · cases h
            · cases h
  · cases h

/-- A value where the operation is a call of a builtin. -/
theorem builtin_run {b : Builtin} {argTypes : Array TypeId} {t : TypeId} {consts : Array Bool} {args : Array Value} {s : Sem Value} {c : Value} {w' : World}
    (hb : Go.builtin b argTypes t consts args = (do pure (.value (← s)))) (hs : s.run P w = .ok c w') : (Go.builtin b argTypes t consts args).run P w = .ok (.value c) w' := by
  rw [hb, Sem.run_bind, hs]
  rfl

theorem write_sim (hi : Inv ρ m w) (hop : OpRel ρ ev cv o) (h : writeOp P ev m o = some (v, m')) : WriteEnd P ρ cv o m w v m' := by
  unfold writeOp at h
  unfold OpRel at hop
  unfold WriteEnd execOp
  cases ho : o.op with
  | store t a x =>
    simp [ho, Op.operands] at hop
    simp only [ho] at h
    cases hs : storeAt P m t (ev a) (ev x) with
    | none => simp [hs] at h
    | some m2 =>
      simp only [hs, Option.bind_some, Option.some.injEq, Prod.mk.injEq] at h
      obtain ⟨rfl, rfl⟩ := h
      obtain ⟨w', h1, h2, h3⟩ := storeAt_sim hi (hop.1) (hop.2) hs
      exact ⟨undef, .skip, w', ρ, by simp [h1], .inr ⟨rfl, rfl⟩, .undef ρ, h2, h3⟩
  | mapUpdate t x k y =>
    simp [ho, Op.operands] at hop
    simp only [ho] at h
    split at h
    · rename_i key elem r hu hr
      split at h
      · rename_i es hb
        cases hk : keyKind P key (ev k) with
        | none => simp [hk] at h
        | some kind =>
          cases hs : storeKey kind (ev k) (ev y) es with
          | none => simp [hk, hs] at h
          | some es2 =>
            simp only [hk, hs, Option.bind_some, Option.some.injEq, Prod.mk.injEq] at h
            obtain ⟨rfl, rfl⟩ := h
            have hx := hop.1
            rw [hr] at hx
            cases hc : cv x with
            | map q =>
              rw [hc] at hx
              cases hx with
              | map hp =>
                obtain ⟨w', h1, h2, h3⟩ := mapUpdate_sim hi hp hb hu hk (hop.2.2) hs
                have hkk := flat0_eq (keyKind_some hk).2.1 (hop.2.1)
                exact ⟨undef, .skip, w', ρ, by simp [hc, hkk, h1], .inr ⟨rfl, rfl⟩, .undef ρ, h2, h3⟩
            | _ => rw [hc] at hx; cases hx
      · cases h
    · cases h
  | insert t x k y =>
    simp [ho, Op.operands] at hop
    simp only [ho] at h
    split at h
    · rename_i key elem r hu hr
      split at h
      · rename_i es hb
        cases hk : keyKind P key (ev k) with
        | none => simp [hk] at h
        | some kind =>
          cases hs : storeKey kind (ev k) (ev y) es with
          | none => simp [hk, hs] at h
          | some es2 =>
            simp only [hk, hs, Option.bind_some, Option.some.injEq, Prod.mk.injEq] at h
            obtain ⟨rfl, rfl⟩ := h
            have hx := hop.1
            rw [hr] at hx
            cases hc : cv x with
            | map q =>
              rw [hc] at hx
              cases hx with
              | map hp =>
                obtain ⟨w', h1, h2, h3⟩ := mapUpdate_sim hi hp hb hu hk (hop.2.2) hs
                have hkk := flat0_eq (keyKind_some hk).2.1 (hop.2.1)
                exact ⟨undef, .skip, w', ρ, by simp [hc, hkk, h1], .inr ⟨rfl, rfl⟩, .undef ρ, h2, h3⟩
            | _ => rw [hc] at hx; cases hx
      · cases h
    · cases h
  | call c =>
    obtain ⟨callee, args, argTypes⟩ := c
    simp only [ho] at h
    cases callee with
    | builtin b =>
      have ends : ∀ (xs : Array Value) (s : Sem Value) (consts : Array Bool) (c : Value) (w' : World) (ρ' : Map), Go.builtin b argTypes o.type consts xs = (do pure (.value (← s))) → s.run P w = .ok c w' → VRel ρ' v c → Inv ρ' m' w' → Frm ρ m w ρ' m' w' →
          ∃ c r w' ρ', (Go.builtin b argTypes o.type consts xs).run P w = .ok r w' ∧ (r = .value c ∨ (r = .skip ∧ c = undef)) ∧ VRel ρ' v c ∧ Inv ρ' m' w' ∧ Frm ρ m w ρ' m' w' :=
        fun xs s consts c w' ρ' hb hs hv h1 h2 => ⟨c, _, w', ρ', builtin_run hb hs, .inl rfl, hv, h1, h2⟩
      cases b <;> simp only at h <;> first | cases h | skip
      · -- append
        split at h
        · rename_i s x hx
          have hargs : args = #[s, x] := by apply Array.ext'; simpa using hx
          subst hargs
          simp [ho, Op.operands, Call.operands] at hop
          obtain ⟨c, w', ρ', h1, h2, h3, h4⟩ := append_sim (t := o.type) hi (hop.1) (hop.2) h
          simp only [resolve, Sem.run_bind, Sem.run_pure, Result.andThen_ok, invoke, List.map_toArray, List.map_cons, List.map_nil]
          exact ends _ _ _ c w' ρ' rfl h1 h2 h3 h4
        · cases h
      · -- copy
        split at h
        · rename_i s x hx
          have hargs : args = #[s, x] := by apply Array.ext'; simpa using hx
          subst hargs
          simp [ho, Op.operands, Call.operands] at hop
          obtain ⟨c, w', h1, h2, h3, h4⟩ := copy_sim (t := o.type) hi (hop.1) (hop.2) h
          simp only [resolve, Sem.run_bind, Sem.run_pure, Result.andThen_ok, invoke, List.map_toArray, List.map_cons, List.map_nil]
          exact ends _ _ _ c w' ρ rfl h1 h2 h3 h4
        · cases h
      · -- delete
        split at h
        · rename_i x k key elem hx hm
          have hargs : args = #[x, k] := by apply Array.ext'; simpa using hx
          subst hargs
          simp [ho, Op.operands, Call.operands] at hop
          cases ht : argTypes[0]? with
          | none => simp [ht] at hm
          | some mt =>
            simp only [ht, Option.bind_some] at hm
            split at h
            · rename_i r hr
              split at h
              · rename_i es hb
                cases hk : keyKind P key (ev k) with
                | none => simp [hk] at h
                | some kind =>
                  cases hs : dropKey kind (ev k) es with
                  | none => simp [hk, hs] at h
                  | some es2 =>
                    simp only [hk, hs, Option.bind_some, Option.some.injEq, Prod.mk.injEq] at h
                    obtain ⟨rfl, rfl⟩ := h
                    have hxr := hop.1
                    rw [hr] at hxr
                    have hkk := flat0_eq (keyKind_some hk).2.1 (hop.2)
                    cases hc : cv x with
                    | map q =>
                      rw [hc] at hxr
                      cases hxr with
                      | map hp =>
                        obtain ⟨w', h1, h2, h3⟩ := delete_sim (t := o.type) hi hp hb ht hm hk hs
                        simp only [resolve, Sem.run_bind, Sem.run_pure, Result.andThen_ok, invoke, List.map_toArray, List.map_cons, List.map_nil, hc, hkk]
                        exact ends _ _ _ _ w' ρ rfl h1 (.undef ρ) h2 h3
                    | _ => rw [hc] at hxr; cases hxr
              · cases h
            · cases h
        · cases h
    | _ => simp at h
  | _ => simp [ho] at h

end Go.AM
