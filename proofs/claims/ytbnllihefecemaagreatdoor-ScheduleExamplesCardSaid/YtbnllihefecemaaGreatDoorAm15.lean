/-
  The abstract machine and the machine: regions that draw their order. Part four: the region as a whole.
-/
import Derived.Test.YtbnllihefecemaaGreatDoorAm14
set_option linter.unusedSimpArgs false
set_option linter.unusedVariables false
namespace Go.AM
open Go

variable {P : Program} {rec : Task → Option Res} {ops : Array Oper} {S : Nat → St} {nt : Nat} {ρ0 ρ : Map} {w0 w : World} {l : Array Bool} {j k : Nat} {a : Act}

theorem least_of {p : Nat → Prop} : (∃ n, p n) → ∃ n, p n ∧ ∀ m, m < n → ¬ p m := by
  rintro ⟨n, hn⟩
  induction n using Nat.strongRecOn with
  | _ n ih =>
    by_cases h : ∃ m, m < n ∧ p m
    · obtain ⟨m, hm, hp⟩ := h
      exact ih m hm hp
    · exact ⟨n, hn, fun m hm hp => h ⟨m, hm, hp⟩⟩

theorem DI.at_w (h : DI P ops S nt ρ0 w0 l j ρ a w) (hd : drawOk P ops = true) (hk : k ∈ Region.ready .any ops l) (hw : W P ops S k) : j ≤ k ∧ ∀ q, j ≤ q → q < k → ¬ W P ops S q := by
  obtain ⟨hks, hkd, _⟩ := ready_spec h.size hk
  refine ⟨?_, ?_⟩
  · rcases Nat.lt_or_ge k j with h' | h'
    · exact absurd (h.done k h' hw) hkd
    · exact h'
  · intro q h1 h2 h3
    obtain ⟨oq, g1, g2, g3⟩ := h3
    obtain ⟨o', e1, e2, e3⟩ := hw
    exact h.undone q h1 ⟨oq, g1, g2, g3⟩ (ready_bef h.size h.closed hk (drawOk_w hd h2 g1 e1 g2 e2))

theorem pairOk_read {sts : List St} {last : St} {q : Nat} {o oq : Oper} {v : Value} (hp : pairOk P ops sts last (k, q) = true) (ho : ops[k]? = some o) (hoq : ops[q]? = some oq)
    (h1 : sts[k]? = some (S k)) (h2 : sts[q]? = some (S q)) (h3 : (sts ++ [last])[q + 1]? = some (S (q + 1))) (hw1 : wantedAt ops o (S k).tm = true) (hw2 : wantedAt ops oq (S q).tm = true)
    (hv : readOp P (evalAt (S k).tm) (S k).mem o = some v) :
    readOp P (evalAt (S k).tm) (bif Nat.blt q k then (S q).mem else (S (q + 1)).mem) o = some v ∧ inside (S k).mem.next v = true := by
  unfold pairOk at hp
  simp only [ho, hoq, h1, h2, h3, hw1, hw2, Bool.not_true, Bool.false_or, hv] at hp
  split at hp
  · rename_i x y e1 e2
    simp only [Option.some.injEq] at e1
    subst e1
    rw [Bool.and_eq_true] at hp
    have := same_eq hp.1
    subst this
    exact ⟨e2, hp.2⟩
  · cases hp

theorem DI.step {Q : Exit → Act → World → Prop} {K : Act → World → Prop} {sts : List St} {last : St} (h : DI P ops S nt ρ0 w0 l j ρ a w) (ht : Trace P rec ops S) (hc : CallsLater rec) (hcs : CallsOk P rec) (hd : drawOk P ops = true) (hn : nt ≤ 1000000)
    (hops : ∀ (i : Nat) (o : Oper), ops[i]? = some o → operOk P.globals.size nt ops o = true) (hg : Glob P.globals.size ρ0) (hg0 : ∀ b p, ρ0 b = some p → b < (S 0).mem.next)
    (hsts : ∀ i, i < ops.size → sts[i]? = some (S i) ∧ (sts ++ [last])[i + 1]? = some (S (i + 1))) (hpairs : ∀ x ∈ openPairs P ops, pairOk P ops sts last x = true)
    (hk : k ∈ Region.ready .any ops l) (hK : ∀ j' ρ' a' w', DI P ops S nt ρ0 w0 (l.setIfInBounds k true) j' ρ' a' w' → K a' w') : wpOp P ops Q k K a w := by
  obtain ⟨hks, hkd, o, ho, _⟩ := ready_spec h.size hk
  have hdst : ∀ (i : Nat) (o : Oper), ops[i]? = some o → ∀ d, o.dst = some d → d < nt := fun i o ho => operOk_dst (hops i o ho)
  have hst := ht.step k o ho
  have hrel := h.reads hd hk ho
  have n0k : (S 0).mem.next ≤ (S k).mem.next := ht.next_le hc (by omega) (by omega)
  have hgk : Glob P.globals.size (ρ.below (S k).mem.next) := fun g hlt => by
    obtain ⟨sz, e⟩ := hg g hlt
    have := hg0 g _ e
    exact ⟨sz, Map.below_some.2 ⟨by omega, by rw [h.old g this]; exact e⟩⟩
  have hor := opRel_of hgk (hops k o ho) hrel
  unfold wpOp
  simp only [ho]
  rw [wanted_eq (hops k o ho) h.tsize hrel]
  unfold opStep at hst
  cases hw : wantedAt ops o (S k).tm with
  | false =>
    simp only [hw, cond_false, Option.some.injEq] at hst
    simp only [Bool.false_eq_true, if_false]
    refine hK j ρ _ w (h.quiet ht hc hd hn hdst hk ho ?_ (v := undef) (c := undef) (by rw [← hst]) (.undef _))
    rintro ⟨o', e1, _, e3⟩
    rw [ho] at e1
    obtain rfl := Option.some.inj e1
    rw [hw] at e3
    cases e3
  | true =>
    simp only [hw, cond_true] at hst
    simp only [if_true]
    refine .inl ?_
    have notW : isW P o = false → ¬ W P ops S k := by
      rintro e0 ⟨o', e1, e2, _⟩
      rw [ho] at e1
      obtain rfl := Option.some.inj e1
      rw [e0] at e2
      cases e2
    cases hkd' : kindOf P o with
    | pure =>
      simp only [hkd'] at hst
      cases hv : pureOp P (evalAt (S k).tm) o with
      | none => simp [hv] at hst
      | some v =>
        simp only [hv, Option.bind_some, Option.some.injEq] at hst
        obtain ⟨c, h1, h2⟩ := pure_sim (w := w) hor hv
        exact wp_value h1 (hK j ρ _ w (h.quiet ht hc hd hn hdst hk ho (notW (by simp [isW, hkd'])) (v := v) (c := c) (by rw [← hst]) (by rw [← hst]; exact h2)))
    | read =>
      simp only [hkd'] at hst
      cases hv : readOp P (evalAt (S k).tm) (S k).mem o with
      | none => simp [hv] at hst
      | some v =>
        simp only [hv, Option.bind_some, Option.some.injEq] at hst
        have hnw : ¬ W P ops S k := notW (by simp [isW, hkd'])
        have fin : (∃ c, (execOp a.eval o).run P w = .ok (.value c) w ∧ VRel (ρ.below (S k).mem.next) v c) → o.wp P a w K Q := by
          rintro ⟨c, h1, h2⟩
          exact wp_value h1 (hK j ρ _ w (h.quiet ht hc hd hn hdst hk ho hnw (v := v) (c := c) (by rw [← hst]) (by rw [← hst]; exact h2)))
        refine fin ?_
        rcases Nat.lt_or_ge k j with hjk | hjk
        · -- a write behind it in the text has been carried out
          rcases h.least with e | hwj
          · omega
          · have hjk' : j - 1 ≠ k := fun e => hnw (by rw [← e]; exact hwj)
            obtain ⟨oq, q1, q2, q3⟩ := id hwj
            have hdone := h.done (j - 1) (by omega) hwj
            have hopen : bef ops (min k (j - 1)) (max k (j - 1)) = false := by
              cases hb : bef ops (min k (j - 1)) (max k (j - 1)) with
              | false => rfl
              | true =>
                rw [Nat.min_eq_left (by omega), Nat.max_eq_right (by omega)] at hb
                exact absurd (h.closed.bef hdone hb) hkd
            have hjs : j - 1 < ops.size := lt_of_get q1
            have hpk := pairOk_read (hpairs _ (openPairs_mem ho q1 hkd' q2 hopen)) ho q1 (hsts k hks).1 (hsts (j - 1) hjs).1 (hsts (j - 1) hjs).2 hw q3 hv
            have hblt : Nat.blt (j - 1) k = false := by
              cases hb : Nat.blt (j - 1) k with
              | false => rfl
              | true => rw [Nat.blt_eq] at hb; omega
            rw [hblt] at hpk
            simp only [cond_false, show j - 1 + 1 = j by omega] at hpk
            have hr := h.rel_at ht hc (Nat.le_refl j) h.le (fun q h1 h2 => by omega) (Nat.le_refl _)
            have hnk : (S k).mem.next ≤ (S j).mem.next := ht.next_le hc (by omega) h.le
            obtain ⟨c, h1, h2⟩ := read_sim hr (fun x hx => (hor x hx).mono (Map.below_mono (Map.Le.refl _) hnk)) hpk.1
            refine ⟨c, h1, (inside_rel h2 hpk.2).mono fun b p hb => ?_⟩
            obtain ⟨g1, g2⟩ := Map.below_some.1 hb
            exact Map.below_some.2 ⟨g1, (Map.below_some.1 g2).2⟩
        · by_cases hex : ∃ q, j ≤ q ∧ q < k ∧ W P ops S q
          · -- a write ahead of it in the text has not been carried out
            obtain ⟨q, ⟨q1, q2, q3⟩, q4⟩ := least_of hex
            obtain ⟨oq, r1, r2, r3⟩ := id q3
            have hopen : bef ops (min k q) (max k q) = false := by
              cases hb : bef ops (min k q) (max k q) with
              | false => rfl
              | true =>
                rw [Nat.min_eq_right (by omega), Nat.max_eq_left (by omega)] at hb
                exact absurd (ready_bef h.size h.closed hk hb) (h.undone q q1 q3)
            have hqs : q < ops.size := by omega
            have hpk := pairOk_read (hpairs _ (openPairs_mem ho r1 hkd' r2 hopen)) ho r1 (hsts k hks).1 (hsts q hqs).1 (hsts q hqs).2 hw r3 hv
            have hblt : Nat.blt q k = true := by rw [Nat.blt_eq]; exact q2
            rw [hblt] at hpk
            simp only [cond_true] at hpk
            have hr := h.rel_at ht hc (N := (S k).mem.next) q1 (by omega) (fun q' h1 h2 h3 => q4 q' h2 ⟨h1, by omega, h3⟩) (ht.next_le hc (by omega) (by omega))
            exact read_sim hr hor hpk.1
          · have hr := h.rel_at ht hc (N := (S k).mem.next) hjk (by omega) (fun q h1 h2 h3 => hex ⟨q, h1, h2, h3⟩) (Nat.le_refl _)
            exact read_sim hr hor hv
    | new =>
      simp only [hkd'] at hst
      cases hv : newOp P (evalAt (S k).tm) o with
      | none => simp [hv] at hst
      | some xf =>
        obtain ⟨x, f⟩ := xf
        simp only [hv, Option.bind_some] at hst
        cases hm : (S k).mem.push x with
        | none => simp [hm] at hst
        | some m2 =>
          simp only [hm, Option.bind_some, Option.some.injEq] at hst
          have hm' : (S k).mem.push x = some (S (k + 1)).mem := by rw [hm, ← hst]
          obtain ⟨p1, p2, p3⟩ := Mem.push_some hm'
          obtain ⟨c, ob, size, h1, h2⟩ := new_sim (w := w) hor hv
          obtain ⟨h3, h4⟩ := h2 ((ρ.with (S k).mem.next ⟨w.heap.size, 0, size⟩).below (S (k + 1)).mem.next) (S k).mem.next (fun b p hb => by
            obtain ⟨g1, g2⟩ := Map.below_some.1 hb
            exact Map.below_some.2 ⟨by omega, by rw [Map.with_other _ _ (by omega)]; exact g2⟩) (Map.below_some.2 ⟨by omega, Map.with_self _ _ _⟩)
          exact wp_value h1 (hK _ _ _ _ (h.made ht hc hd hn hdst hk ho (notW (by simp [isW, hkd'])) (v := f (S k).mem.next) (c := c) (x := x) (by rw [← hst]) hm' h3 h4))
    | write =>
      simp only [hkd'] at hst
      cases hv : writeOp P (evalAt (S k).tm) (S k).mem o with
      | none => simp [hv] at hst
      | some vm =>
        obtain ⟨v, m2⟩ := vm
        simp only [hv, Option.bind_some, Option.some.injEq] at hst
        have hW : W P ops S k := ⟨o, ho, by simp [isW, hkd'], hw⟩
        obtain ⟨hjk, hnw⟩ := h.at_w hd hk hW
        have hinv : Inv (ρ.below (S k).mem.next) (S k).mem w := ⟨h.rel_at ht hc hjk (by omega) hnw (Nat.le_refl _), fun b p hb => (Map.below_some.1 hb).1, (ht.mem k (by omega)).small⟩
        have hmem : m2 = (S (k + 1)).mem := by rw [← hst]
        have htm : (S (k + 1)).tm = putAt (S k).tm o.dst v := by rw [← hst]
        obtain ⟨c, r, w', ρ1, h1, h2, h3, h4, h5⟩ := write_sim hinv hor hv
        rw [hmem] at h4 h5
        have hfin := hK _ _ _ _ (h.turned ht hc hd hn hdst hk ho hW htm h4 h5 h3)
        rcases h2 with rfl | ⟨rfl, rfl⟩
        · exact wp_value h1 hfin
        · exact wp_skip' h1 hfin
    | call =>
      simp only [hkd'] at hst
      cases hv : callOp P (evalAt (S k).tm) o with
      | none => simp [hv] at hst
      | some fa =>
        obtain ⟨f, args⟩ := fa
        simp only [hv, Option.bind_some] at hst
        split at hst
        · rename_i v m2 hr
          simp only [Option.some.injEq] at hst
          have hW : W P ops S k := ⟨o, ho, by simp [isW, hkd'], hw⟩
          obtain ⟨hjk, hnw⟩ := h.at_w hd hk hW
          have hinv : Inv (ρ.below (S k).mem.next) (S k).mem w := ⟨h.rel_at ht hc hjk (by omega) hnw (Nat.le_refl _), fun b p hb => (Map.below_some.1 hb).1, (ht.mem k (by omega)).small⟩
          have hmem : m2 = (S (k + 1)).mem := by rw [← hst]
          have htm : (S (k + 1)).tm = putAt (S k).tm o.dst v := by rw [← hst]
          obtain ⟨cargs, h1, h2⟩ := call_sim (w := w) hor hv
          refine wp_enter h1 (hcs f args (S k).mem v m2 hr (ht.mem k (by omega)) _ w cargs hgk h2 hinv) fun e w'' he => ?_
          obtain ⟨c, ρ1, rfl, g1, g2, g3⟩ := he
          rw [hmem] at g2 g3
          exact ⟨c, rfl, hK _ _ _ _ (h.turned ht hc hd hn hdst hk ho hW htm g2 g3 g1)⟩
        · cases hst
    | bad => simp [hkd'] at hst

/-! ### From the first to the last -/
theorem count_set : ∀ (L : List Bool) (k : Nat), L[k]? = some false → (L.set k true).count false + 1 = L.count false
  | [], k, h => by simp at h
  | b :: L, 0, h => by
    simp only [List.getElem?_cons_zero, Option.some.injEq] at h
    subst h
    simp
  | b :: L, k + 1, h => by
    simp only [List.getElem?_cons_succ] at h
    have := count_set L k h
    simp only [List.set_cons_succ, List.count_cons]
    omega

theorem DI.first {Q : Exit → Act → World → Prop} {sts : List St} {last : St} (ht : Trace P rec ops S) (hc : CallsLater rec) (hcs : CallsOk P rec) (hd : drawOk P ops = true) (hn : nt ≤ 1000000)
    (hops : ∀ (i : Nat) (o : Oper), ops[i]? = some o → operOk P.globals.size nt ops o = true) (hg : Glob P.globals.size ρ0) (hg0 : ∀ b p, ρ0 b = some p → b < (S 0).mem.next)
    (hsts : ∀ i, i < ops.size → sts[i]? = some (S i) ∧ (sts ++ [last])[i + 1]? = some (S (i + 1))) (hpairs : ∀ x ∈ openPairs P ops, pairOk P ops sts last x = true)
    (hQ : ∀ l j ρ a w, DI P ops S nt ρ0 w0 l j ρ a w → (∀ i, i < ops.size → Done l i) → Q .normal a w) :
    ∀ (fuel : Nat) (l : Array Bool) (j : Nat) (ρ : Map) (a : Act) (w : World), DI P ops S nt ρ0 w0 l j ρ a w → l.toList.count false = fuel → wpAny P .any ops Q fuel l a w := by
  intro fuel
  induction fuel with
  | zero =>
    intro l j ρ a w h hcnt
    have hall : ∀ i, i < ops.size → Done l i := by
      intro i hi
      have hl : l[i]? = some (l[i]'(by have := h.size; omega)) := Array.getElem?_eq_getElem _
      unfold Done
      rw [hl]
      cases hb : l[i]'(by have := h.size; omega) with
      | true => rfl
      | false =>
        rw [hb] at hl
        have : false ∈ l.toList := by rw [List.mem_iff_getElem?]; exact ⟨i, by simpa using hl⟩
        rw [List.count_eq_zero] at hcnt
        exact absurd this hcnt
    unfold wpAny
    refine ⟨?_, hQ l j ρ a w h hall⟩
    cases hr : Region.ready .any ops l with
    | nil => rfl
    | cons x xs =>
      obtain ⟨h1, h2, _⟩ := ready_spec h.size (show x ∈ Region.ready .any ops l by rw [hr]; simp)
      exact absurd (hall x h1) h2
  | succ fuel ih =>
    intro l j ρ a w h hcnt
    unfold wpAny
    refine ⟨fun hnil => ?_, fun k hk => ?_⟩
    · -- there is one that is ready
      have hex : ∃ i, i < ops.size ∧ ¬ Done l i := by
        have hpos : 0 < l.toList.count false := by omega
        rw [List.count_pos_iff, List.mem_iff_getElem?] at hpos
        obtain ⟨i, hi⟩ := hpos
        have hi' : l[i]? = some false := by simpa using hi
        refine ⟨i, ?_, fun hd' => by unfold Done at hd'; rw [hi'] at hd'; simp at hd'⟩
        rcases Nat.lt_or_ge i l.size with h' | h'
        · have := h.size; omega
        · rw [Array.getElem?_eq_none h'] at hi'; cases hi'
      obtain ⟨i, ⟨h1, h2⟩, h3⟩ := least_of hex
      have hready : i ∈ Region.ready .any ops l := by
        unfold Region.ready
        rw [List.mem_filter, List.mem_range]
        refine ⟨h1, ?_⟩
        have hl : l[i]? = some (l[i]'(by have := h.size; omega)) := Array.getElem?_eq_getElem _
        have hb : l[i]'(by have := h.size; omega) = false := by
          cases hb : l[i]'(by have := h.size; omega) with
          | false => rfl
          | true => exact absurd (show Done l i by unfold Done; rw [hl, hb]) h2
        have ho : ops[i]? = some ops[i] := Array.getElem?_eq_getElem h1
        rw [Array.getD_eq_getD_getElem?, hl, hb, ho]
        simp only [Option.getD_some, Bool.not_false, Bool.true_and, Option.map_some]
        rw [← Array.all_toList, List.all_eq_true]
        intro e he
        cases hbi : Region.binds .any e with
        | false => rfl
        | true =>
          have hlt := drawOk_edge hd ho he hbi
          have hdn : Done l e.on := by
            by_cases hq : Done l e.on
            · exact hq
            · exact absurd ⟨by omega, hq⟩ (h3 e.on hlt)
          unfold Done at hdn
          rw [Array.getD_eq_getD_getElem?, hdn]
          rfl
      rw [hnil] at hready
      simp at hready
    · obtain ⟨hks, hkd, _⟩ := ready_spec h.size hk
      have hl : l[k]? = some false := by
        have hl : l[k]? = some (l[k]'(by have := h.size; omega)) := Array.getElem?_eq_getElem _
        cases hb : l[k]'(by have := h.size; omega) with
        | false => rw [hl, hb]
        | true => exact absurd (show Done l k by unfold Done; rw [hl, hb]) hkd
      refine h.step ht hc hcs hd hn hops hg hg0 hsts hpairs hk fun j' ρ' a' w' h' => ih _ j' ρ' a' w' h' ?_
      have := count_set l.toList k (by simpa using hl)
      simp only [Array.toList_setIfInBounds]
      omega

theorem DI.last (h : DI P ops S nt ρ0 w0 l j ρ a w) (ht : Trace P rec ops S) (hc : CallsLater rec) (hall : ∀ i, i < ops.size → Done l i) :
    StR ρ (S ops.size).tm a nt ∧ Inv ρ (S ops.size).mem w ∧ Frm ρ0 (S 0).mem w0 ρ (S ops.size).mem w := by
  have hnw : ∀ q, j ≤ q → q < ops.size → ¬ W P ops S q := fun q h1 h2 h3 => h.undone q h1 h3 (hall q h2)
  have hbelow : ρ.below (S ops.size).mem.next = ρ := by
    funext b
    unfold Map.below
    split
    · rfl
    · rename_i hb
      cases hq : ρ b with
      | none => rfl
      | some p => exact absurd (h.dom b p hq) hb
  have hr := h.rel_at ht hc (N := (S ops.size).mem.next) h.le (Nat.le_refl _) hnw (Nat.le_refl _)
  rw [hbelow] at hr
  have n0j : (S 0).mem.next ≤ (S j).mem.next := ht.next_le hc (by omega) h.le
  have keep : ∀ b, b < (S 0).mem.next → (S ops.size).mem.get b = (S j).mem.get b := fun b hb => ht.keep hc h.le (Nat.le_refl _) hnw (by omega)
  refine ⟨⟨fun t => ?_, h.tsize, h.defers⟩, ⟨hr, h.dom, (ht.mem _ (Nat.le_refl _)).small⟩, ?_⟩
  · have := h.slots t ops.size (Nat.le_refl _) (fun q o hq _ _ => hall q hq) (fun q o hq ho _ => by have := lt_of_get ho; omega)
    rw [hbelow] at this
    exact this
  · exact {
      os := h.os
      tape := h.tape
      output := h.output
      size := h.wsize
      next := ht.next_le hc (by omega) (Nat.le_refl _)
      old := h.old
      hid := fun b hb hn => (keep b hb).trans (h.fhid b hb hn)
      still := fun b hb hx => (keep b hb).trans (h.fstill b hb hx)
      keep := fun i hi hx => h.fkeep i hi (fun ⟨b, p, x, h1, h2, h3, h4⟩ => hx b p x h1 h2 h3 h4)
      new := fun b p x hb hp hx hl => by
        have h1 := (ht.at_later hc h.le (Nat.le_refl _) hnw (h.dom b p hp)).2.2
        rcases h.fnew b p x hb hp (by rw [← h1]; exact hx) hl with h2 | ⟨b0, p0, x0, g1, g2, g3, g4⟩
        · exact .inl h2
        · exact .inr ⟨b0, p0, x0, g1, g2, g3, g4⟩ }

/-- A region that draws its order. -/
theorem drawn_sim {s s' : St} {a : Act} {Q : Exit → Act → World → Prop} (hc : CallsLater rec) (hcs : CallsOk P rec) (hd : drawOk P ops = true) (hn : nt ≤ 1000000)
    (hops : ∀ (i : Nat) (o : Oper), ops[i]? = some o → operOk P.globals.size nt ops o = true) (hg : Glob P.globals.size ρ) (hm : MemOk s.mem) (hr : drawnRun P rec ops s = some s') (hs : StR ρ s.tm a nt) (hi : Inv ρ s.mem w)
    (hQ : ∀ ρ' a' w', StR ρ' s'.tm a' nt → Inv ρ' s'.mem w' → Frm ρ s.mem w ρ' s'.mem w' → Q .normal a' w') :
    wpAny P .any ops Q ops.size (Array.replicate ops.size false) a w := by
  obtain ⟨sts, h1, h2⟩ := drawnRun_trace hr
  obtain ⟨S, ht, e0, e1, h3⟩ := trace_of hc hm h1
  subst e0
  subst e1
  have hcnt : (Array.replicate ops.size false).toList.count false = ops.size := by simp
  have hnd : ∀ i, ¬ Done (Array.replicate ops.size false) i := by
    intro i hdn
    unfold Done at hdn
    rw [Array.getElem?_replicate] at hdn
    split at hdn <;> simp at hdn
  have hb0 : ∀ n, (S 0).mem.next ≤ n → ρ.below n = ρ := by
    intro n hn
    funext b
    unfold Map.below
    split
    · rfl
    · cases hq : ρ b with
      | none => rfl
      | some p => have := hi.dom b p hq; omega
  have at0 : ∀ b p, ρ b = some p → at_ ops S 0 b = 0 := fun b p hp => ht.at_lt hc (by omega) (hi.dom b p hp)
  refine DI.first (ρ0 := ρ) (w0 := w) ht hc hcs hd hn hops hg hi.dom h3 h2 (fun l j ρ' a' w' hdi hall => ?_) ops.size _ 0 ρ a w ?_ hcnt
  · obtain ⟨g1, g2, g3⟩ := hdi.last ht hc hall
    exact hQ ρ' a' w' g1 g2 g3
  · exact {
      size := by simp
      closed := fun j o hj => absurd hj (hnd j)
      le := by omega
      least := .inl rfl
      done := fun i h => by omega
      undone := fun i _ _ => hnd i
      slots := fun t i hi' h4 h5 => by
        have hdst : ∀ (i : Nat) (o : Oper), ops[i]? = some o → ∀ d, o.dst = some d → d < nt := fun i o ho => operOk_dst (hops i o ho)
        rw [ht.slot hn hdst (show 0 ≤ i by omega) hi' (fun q o _ hq ho he => hnd q (h4 q o hq ho he)), hb0 _ (ht.next_le hc (by omega) hi')]
        exact hs.rel t
      tsize := hs.size
      defers := hs.defers
      blk := fun b p x hp hx => by
        rw [at0 b p hp] at hx ⊢
        rw [hb0 _ (Nat.le_refl _)]
        exact hi.rel.blk b p x hp hx
      apart := fun b b' p p' x x' hp hp' hx hx' => by
        rw [at0 b p hp] at hx
        rw [at0 b' p' hp'] at hx'
        exact hi.rel.apart b b' p p' x x' hp hp' hx hx'
      lt := hi.rel.lt
      dom := fun b p hp => Nat.lt_of_lt_of_le (hi.dom b p hp) (ht.next_le hc (by omega) (Nat.le_refl _))
      hid := fun i h4 _ b h5 h6 => by
        refine ⟨?_, by rw [ht.at_born hc (by omega) h4 h5 h6]⟩
        cases hq : ρ b with
        | none => rfl
        | some p =>
          have := hi.dom b p hq
          have := ht.next_le hc (show 0 ≤ i by omega) (by omega)
          omega
      old := fun _ _ => rfl
      os := rfl
      tape := rfl
      output := rfl
      wsize := Nat.le_refl _
      fhid := fun _ _ _ => rfl
      fstill := fun _ _ _ => rfl
      fkeep := fun _ _ _ => rfl
      fnew := fun b p x hb hp _ _ => by have := hi.dom b p hp; omega }


end Go.AM
