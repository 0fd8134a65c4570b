/-
  The abstract machine and the machine: what the abstract machine's run says, the machine's call does, on every tape.
-/
import Derived.Test.YtbnllihefecemaaGreatDoorAm15
set_option linter.unusedSimpArgs false
set_option linter.unusedVariables false
namespace Go.AM
open Go

variable {P : Program} {rec : Task → Option Res} {ops : Array Oper} {nt : Nat} {ρ : Map} {w : World} {a : Act}

/-- What is asked of a function's text. -/
def codeOk (P : Program) (nt : Nat) : Code → Bool
  | .skip | .label _ | .exit _ | .ret => true
  | .region _ ops draw => ops.toList.all (operOk P.globals.size nt ops) && (!draw || drawOk P ops)
  | .seq x y => codeOk P nt x && codeOk P nt y
  | .cond c x y => opdOk P.globals.size c && codeOk P nt x && codeOk P nt y
  | .block _ c => codeOk P nt c
  | .loop c => codeOk P nt c
  | _ => true

def fnOk (P : Program) (fn : Func) : Bool :=
  match fn.body with
  | none => true
  | some c => Nat.ble fn.ntmps 1000000 && codeOk P fn.ntmps c

def exOf : Ex → Exit
  | .normal => .normal
  | .exit id => .exit id
  | .ret => .ret

/-- The end of a piece of code. -/
def EndsAt (ρ : Map) (m : Mem) (w : World) (nt : Nat) (e : Ex) (s' : St) : Exit → Act → World → Prop :=
  fun ex a' w' => ex = exOf e ∧ ∃ ρ', StR ρ' s'.tm a' nt ∧ Inv ρ' s'.mem w' ∧ Frm ρ m w ρ' s'.mem w'

theorem EndsAt.after {ρ ρ1 : Map} {m m1 : Mem} {w w1 : World} {e : Ex} {s' : St} (hd : ∀ b p, ρ b = some p → b < m.next) (hf : Frm ρ m w ρ1 m1 w1) : ∀ {ex : Exit} {a' : Act} {w' : World}, EndsAt ρ1 m1 w1 nt e s' ex a' w' → EndsAt ρ m w nt e s' ex a' w' :=
  fun ⟨h1, ρ', h2, h3, h4⟩ => ⟨h1, ρ', h2, h3, hf.trans hd h4⟩

theorem Frm.le {ρ ρ' : Map} {m m' : Mem} {w w' : World} (hi : ∀ b p, ρ b = some p → b < m.next) (hf : Frm ρ m w ρ' m' w') : ρ.Le ρ' := fun b p hb => by rw [hf.old b (hi b p hb)]; exact hb

/-- Operations in the order of the text. -/
theorem opsRun_sim {Q : Exit → Act → World → Prop} {s' : St} (hc : CallsLater rec) (hcs : CallsOk P rec) (hn : nt ≤ 1000000) (hops : ∀ (i : Nat) (o : Oper), ops[i]? = some o → operOk P.globals.size nt ops o = true) :
    ∀ (l : List Oper) (k : Nat) (s : St) (ρ : Map) (a : Act) (w : World), (∀ i o, l[i]? = some o → ops[k + i]? = some o) → opsRun P rec ops l s = some s' → MemOk s.mem → Glob P.globals.size ρ → StR ρ s.tm a nt → Inv ρ s.mem w →
    (∀ ρ' a' w', StR ρ' s'.tm a' nt → Inv ρ' s'.mem w' → Frm ρ s.mem w ρ' s'.mem w' → Q .normal a' w') → wpOps P ops Q (List.range' k l.length) a w
  | [], k, s, ρ, a, w, hl, hr, hm, hg, hs, hi, hQ => by
    simp only [opsRun, Option.some.injEq] at hr
    subst hr
    exact hQ ρ a w hs hi (Frm.refl hi.dom)
  | o :: l, k, s, ρ, a, w, hl, hr, hm, hg, hs, hi, hQ => by
    simp only [opsRun] at hr
    cases h1 : opStep P rec ops o s with
    | none => simp [h1] at hr
    | some s1 =>
      simp only [h1, Option.bind_some] at hr
      have hok : ops[k]? = some o := by simpa using hl 0 o rfl
      have hl1 := (opStep_later hc hm h1).1
      simp only [List.length_cons, List.range'_succ]
      rw [wpOps_cons]
      refine opStep_sim hcs hm hg hn (hops k o hok) h1 hs hi (fun ρ1 a1 w1 g1 g2 g3 => ?_) k hok
      refine opsRun_sim hc hcs hn hops l (k + 1) s1 ρ1 a1 w1 (fun i o' ho' => ?_) hr hl1.ok (hg.mono (g3.le hi.dom)) g1 g2 fun ρ' a' w' f1 f2 f3 => hQ ρ' a' w' f1 f2 (g3.trans hi.dom f3)
      have := hl (i + 1) o' (by simpa using ho')
      rw [show k + 1 + i = k + (i + 1) by omega]
      exact this

/-- From a loop's head on. -/
def LoopWp (P : Program) (c : Code) (Q : Exit → Act → World → Prop) (a : Act) (w : World) : Prop :=
  ∀ (b : Frame) (k : List Item) (cs : List Frame), ∃ e a' w', Q e a' w' ∧ Arrives P (lone (b.at a (.code c :: .inLoop c :: k)) cs w) b k cs e a' w'

theorem LoopWp.wp {c : Code} {Q : Exit → Act → World → Prop} (h : LoopWp P c Q a w) : (Code.loop c).wp P Q a w :=
  fun b k cs => let ⟨e, a', w', q, r⟩ := h b k cs; ⟨e, a', w', q, .of_steps (.one step_loop) r⟩

theorem LoopWp.unroll {c : Code} {Q : Exit → Act → World → Prop} (h : c.wp P (Exit.then (fun a w => LoopWp P c Q a w) Q) a w) : LoopWp P c Q a w := by
  intro b k cs
  obtain ⟨e, a₁, w₁, hq, harr⟩ := h b (.inLoop c :: k) cs
  cases e with
  | normal =>
    obtain ⟨e₂, a₂, w₂, hq₂, harr₂⟩ := hq b k cs
    exact ⟨e₂, a₂, w₂, hq₂, .of_steps (Steps.trans harr (.one step_inLoop)) harr₂⟩
  | exit id => exact ⟨_, a₁, w₁, hq, .pass (x := .inLoop c) rfl (fun _ _ => .inl (by simp)) harr⟩
  | goto l => exact ⟨_, a₁, w₁, hq, .pass (x := .inLoop c) rfl (fun _ _ => .inl (by simp)) harr⟩
  | ret => exact ⟨_, a₁, w₁, hq, .pass (x := .inLoop c) rfl (fun _ _ => .inl (by simp)) harr⟩
  | panic ch => exact ⟨_, a₁, w₁, hq, .pass (x := .inLoop c) rfl (fun _ _ => .inl (by simp)) harr⟩
  | outgrown => exact ⟨_, a₁, w₁, hq, .pass (x := .inLoop c) rfl (fun _ _ => .inl (by simp)) harr⟩

def CWp (P : Program) (c : Code) (Q : Exit → Act → World → Prop) (a : Act) (w : World) : Prop :=
  match c with
  | .loop b => LoopWp P b Q a w
  | c => c.wp P Q a w

theorem CWp.wp {c : Code} {Q : Exit → Act → World → Prop} (h : CWp P c Q a w) : c.wp P Q a w := by
  cases c <;> first | exact h | exact LoopWp.wp h

theorem enterAt_get : ∀ (args : List Value) (k : Nat) (tm : T Value) (t : Nat), k + args.length ≤ 1000001 → (enterAt args k tm).get t = if k ≤ t ∧ t < k + args.length then args[t - k]? else tm.get t
  | [], k, tm, t, _ => by
    rw [if_neg (by simp)]
    rfl
  | v :: r, k, tm, t, h => by
    simp only [List.length_cons] at h
    unfold enterAt
    rw [enterAt_get r (k + 1) _ t (by omega), T.get_set v depth k tm t (by show k + 1 < 2 ^ 40; omega)]
    by_cases e : k + 1 ≤ t ∧ t < k + 1 + r.length
    · rw [if_pos e, if_pos (by simp; omega), show t - k = t - (k + 1) + 1 by omega, List.getElem?_cons_succ]
    · rw [if_neg e]
      by_cases e2 : t = k
      · subst e2
        simp
      · rw [if_neg e2, if_neg (by simp; omega)]

theorem results_sim {fn : Func} {s : St} {v : Value} {m' : Mem} (hs : StR ρ s.tm a nt) (hi : Inv ρ s.mem w) (h : leave P fn s = some (.call v m')) : ∃ c, (results fn a.tmps).run P w = .ok c w ∧ VRel ρ v c := by
  have key : ∀ (f : ResultVar → Sem Value) (hf1 : ∀ t, f (.tmp t) = pure (a.tmps.getD t undef)) (hf2 : ∀ x t, f (.cell x t) = (do loadVar t (← asAddr (a.tmps.getD x undef)))) (l : List ResultVar) (vs : List Value), resultsAt P s.tm s.mem l = some vs →
      ∃ cs, ((l.mapM f : Sem (List Value)).run P w = .ok cs w) ∧ Both (VRel ρ) vs cs := by
    intro f hf1 hf2
    intro l
    induction l with
    | nil =>
      intro vs hv
      simp only [resultsAt, Option.some.injEq] at hv
      subst hv
      exact ⟨[], rfl, .nil⟩
    | cons r l ih =>
      intro vs hv
      cases r with
      | tmp t =>
        simp only [resultsAt] at hv
        cases hr : resultsAt P s.tm s.mem l with
        | none => simp [hr] at hv
        | some q =>
          simp only [hr, Option.bind_some, Option.some.injEq] at hv
          subst hv
          obtain ⟨cs, h1, h2⟩ := ih q hr
          refine ⟨a.tmps.getD t undef :: cs, ?_, .cons (hs.rel t) h2⟩
          simp only [List.mapM_cons, hf1, Sem.run_bind, Sem.run_pure, Result.andThen_ok]
          rw [h1]
          rfl
      | cell x t =>
        simp only [resultsAt] at hv
        cases hl : loadAt P s.mem t ((s.tm.get x).getD undef) with
        | none => simp [hl] at hv
        | some u =>
          cases hr : resultsAt P s.tm s.mem l with
          | none => simp [hl, hr] at hv
          | some q =>
            simp only [hl, hr, Option.bind_some, Option.some.injEq] at hv
            subst hv
            obtain ⟨cs, h1, h2⟩ := ih q hr
            obtain ⟨ad, g1, c, g2, g3⟩ := loadVar_sim hi.rel (hs.rel x) hl
            refine ⟨c :: cs, ?_, .cons g3 h2⟩
            have e0 : (f (.cell x t)).run P w = .ok c w := by
              rw [hf2, g1, Sem.run_bind, show (asAddr (.pointer (some ad))).run P w = .ok ad w from rfl]
              exact g2
            simp only [List.mapM_cons, Sem.run_bind, e0, Sem.run_pure, Result.andThen_ok]
            rw [h1]
            rfl
  have gen : ∀ (f : ResultVar → Sem Value) (hf1 : ∀ t, f (.tmp t) = pure (a.tmps.getD t undef)) (hf2 : ∀ x t, f (.cell x t) = (do loadVar t (← asAddr (a.tmps.getD x undef)))),
      ∃ c, ((do let vs ← fn.results.mapM f; pure (if h : vs.size = 1 then vs[0] else .tuple vs) : Sem Value)).run P w = .ok c w ∧ VRel ρ v c := by
    intro f hf1 hf2
    unfold leave at h
    cases hr : resultsAt P s.tm s.mem fn.results.toList with
    | none => simp [hr] at h
    | some vs =>
      simp only [hr, Option.bind_some] at h
      obtain ⟨cs, h1, h2⟩ := key f hf1 hf2 _ vs hr
      have hlen := h2.length
      rw [Array.mapM_eq_mapM_toList]
      simp only [Sem.run_bind, Sem.run_map, h1, Result.andThen_ok, Sem.run_pure]
      split at h
      · simp only [Option.some.injEq, Res.call.injEq] at h
        obtain ⟨rfl, _⟩ := h
        cases h2 with
        | cons hv ht =>
          cases ht
          exact ⟨_, rfl, by simpa using hv⟩
      · rename_i hne
        simp only [Option.some.injEq, Res.call.injEq] at h
        obtain ⟨rfl, _⟩ := h
        have hn1 : ¬ (cs.toArray.size = 1) := by
          intro e
          simp only [List.size_toArray] at e
          rw [e] at hlen
          obtain ⟨x, hx⟩ := List.length_eq_one_iff.1 hlen
          exact hne x hx
        refine ⟨_, rfl, ?_⟩
        rw [dif_neg hn1]
        exact .tuple (AllRel.of_lists h2).1 (AllRel.of_lists h2).2
  exact gen _ (fun _ => rfl) (fun _ _ => rfl)

theorem Frm.drew {ρ ρ' : Map} {m m' : Mem} {w w' : World} (h : Frm ρ m { w with drawn := w.drawn + 1 } ρ' m' w') : Frm ρ m w ρ' m' w' :=
  ⟨h.os, h.tape, h.output, h.size, h.next, h.old, h.hid, h.still, h.keep, h.new⟩

/-- What the abstract machine's run says, the machine does. -/
theorem sim (hmix : P.follows .mixedOrders = true) (hP : ∀ (f : Nat) (fn : Func), P.funcs[f]? = some fn → fnOk P fn = true) : ∀ n,
    (∀ c s e s' nt, run P n (.code c s) = some (.code e s') → codeOk P nt c = true → nt ≤ 1000000 → MemOk s.mem → ∀ (ρ : Map) w a, Glob P.globals.size ρ → StR ρ s.tm a nt → Inv ρ s.mem w → CWp P c (EndsAt ρ s.mem w nt e s') a w) ∧
    CallsOk P (run P n) := by
  intro n
  induction n with
  | zero => exact ⟨fun c s e s' nt h => by simp [run] at h, fun f args m v m' h => by simp [run] at h⟩
  | succ n ih =>
    obtain ⟨ih1, ih2⟩ := ih
    have later := run_later (P := P) n
    constructor
    · intro c s e s' nt h hok hn hm ρ w a hg hs hi
      have here : ∀ ex : Ex, e = ex → s' = s → EndsAt ρ s.mem w nt e s' (exOf ex) a w := fun ex e1 e2 => by
        subst e1; subst e2
        exact ⟨rfl, ρ, hs, hi, Frm.refl hi.dom⟩
      simp only [run, step] at h
      cases c with
      | skip =>
        simp only [Option.some.injEq, Res.code.injEq] at h
        exact wp_skip (here .normal h.1.symm h.2.symm)
      | label l =>
        simp only [Option.some.injEq, Res.code.injEq] at h
        exact wp_label (here .normal h.1.symm h.2.symm)
      | exit id =>
        simp only [Option.some.injEq, Res.code.injEq] at h
        exact wp_exit (here (.exit id) h.1.symm h.2.symm)
      | ret =>
        simp only [Option.some.injEq, Res.code.injEq] at h
        exact wp_ret (here .ret h.1.symm h.2.symm)
      | region id ops draw =>
        simp only [codeOk, Bool.and_eq_true] at hok
        have hops : ∀ (i : Nat) (o : Oper), ops[i]? = some o → operOk P.globals.size nt ops o = true := fun i o ho =>
          List.all_eq_true.1 hok.1 o (by rw [Array.mem_toList_iff]; exact Array.mem_of_getElem? ho)
        simp only at h
        cases hr : (bif draw then drawnRun P (run P n) ops s else opsRun P (run P n) ops ops.toList s) with
        | none => rw [hr] at h; simp at h
        | some s1 =>
          rw [hr] at h
          simp only [Option.bind_some, Option.some.injEq, Res.code.injEq] at h
          obtain ⟨rfl, rfl⟩ := h
          cases draw with
          | true =>
            simp only [Bool.not_true, Bool.false_or] at hok
            exact wp_region_any hmix (drawn_sim later.2 ih2 hok.2 hn hops hg hm hr hs (same_inv hi rfl) fun ρ' a' w' g1 g2 g3 => ⟨rfl, ρ', g1, g2, g3.drew⟩)
          | false =>
            refine wp_region ?_
            have := opsRun_sim (Q := EndsAt ρ s.mem w nt .normal s1) later.2 ih2 hn hops ops.toList 0 s ρ a w (fun i o ho => by simpa using ho) hr hm hg hs hi fun ρ' a' w' g1 g2 g3 => ⟨rfl, ρ', g1, g2, g3⟩
            rw [List.range_eq_range']
            simpa using this
      | seq x y =>
        simp only [codeOk, Bool.and_eq_true] at hok
        simp only at h
        split at h
        · rename_i s1 h1
          refine wp_seq (wp_mono (ih1 _ _ _ _ nt h1 hok.1 hn hm ρ w a hg hs hi).wp ?_)
          rintro ex a1 w1 ⟨rfl, ρ1, g1, g2, g3⟩
          exact wp_mono (ih1 _ _ _ _ nt h hok.2 hn ((later.1 _ _ _ _ h1 hm).ok) ρ1 w1 a1 (hg.mono (g3.le hi.dom)) g1 g2).wp fun ex a' w' he => he.after hi.dom g3
        · rename_i hne
          refine wp_seq (wp_mono (ih1 _ _ _ _ nt h hok.1 hn hm ρ w a hg hs hi).wp ?_)
          rintro ex a1 w1 ⟨rfl, hrest⟩
          cases e with
          | normal => exact absurd h (hne _)
          | exit id => exact ⟨rfl, hrest⟩
          | ret => exact ⟨rfl, hrest⟩
      | cond x y z =>
        simp only [codeOk, Bool.and_eq_true] at hok
        have hx := evalAt_rel (tm := s.tm) (a := a) hg hok.1.1 (fun t _ => hs.rel t)
        simp only at h
        split at h
        · rename_i he
          rw [he] at hx
          exact wp_cond_true hx.bool_inv (ih1 _ _ _ _ nt h hok.1.2 hn hm ρ w a hg hs hi).wp
        · rename_i he
          rw [he] at hx
          exact wp_cond_false hx.bool_inv (ih1 _ _ _ _ nt h hok.2 hn hm ρ w a hg hs hi).wp
        · cases h
      | block id x =>
        simp only [codeOk] at hok
        simp only at h
        split at h
        · rename_i q s1 h1
          refine wp_block (wp_mono (ih1 _ _ _ _ nt h1 hok hn hm ρ w a hg hs hi).wp ?_)
          rintro ex a1 w1 ⟨rfl, hrest⟩
          simp only [exOf, Exit.inBlock]
          cases hb : Nat.beq q id with
          | true =>
            simp only [hb, cond_true, Option.some.injEq, Res.code.injEq] at h
            obtain ⟨rfl, rfl⟩ := h
            rw [Nat.beq_eq] at hb
            rw [if_pos hb]
            exact ⟨rfl, hrest⟩
          | false =>
            simp only [hb, cond_false, Option.some.injEq, Res.code.injEq] at h
            obtain ⟨rfl, rfl⟩ := h
            have hne : ¬ (q = id) := fun e => by subst e; simp at hb
            rw [if_neg hne]
            exact ⟨rfl, hrest⟩
        · rename_i hne
          refine wp_block (wp_mono (ih1 _ _ _ _ nt h hok hn hm ρ w a hg hs hi).wp ?_)
          rintro ex a1 w1 ⟨rfl, hrest⟩
          cases e with
          | normal => exact ⟨rfl, hrest⟩
          | exit id' => exact absurd h (hne _ _)
          | ret => exact ⟨rfl, hrest⟩
      | loop x =>
        have hok' := hok
        simp only [codeOk] at hok
        simp only at h
        show LoopWp P x _ a w
        split at h
        · rename_i s1 h1
          refine LoopWp.unroll (wp_mono (ih1 _ _ _ _ nt h1 hok hn hm ρ w a hg hs hi).wp ?_)
          rintro ex a1 w1 ⟨rfl, ρ1, g1, g2, g3⟩
          have h2 : LoopWp P x (EndsAt ρ1 s1.mem w1 nt e s') a1 w1 := ih1 _ _ _ _ nt h hok' hn ((later.1 _ _ _ _ h1 hm).ok) ρ1 w1 a1 (hg.mono (g3.le hi.dom)) g1 g2
          intro b k cs
          obtain ⟨e', a', w', q1, q2⟩ := h2 b k cs
          exact ⟨e', a', w', q1.after hi.dom g3, q2⟩
        · rename_i hne
          refine LoopWp.unroll (wp_mono (ih1 _ _ _ _ nt h hok hn hm ρ w a hg hs hi).wp ?_)
          rintro ex a1 w1 ⟨rfl, hrest⟩
          cases e with
          | normal => exact absurd h (hne _)
          | exit id => exact ⟨rfl, hrest⟩
          | ret => exact ⟨rfl, hrest⟩
      | _ => simp at h
    · intro f args m v m' h hm ρ w cargs hg har hi
      simp only [run, step] at h
      cases hf : P.funcs[f]? with
      | none => simp [hf] at h
      | some fn =>
        simp only [hf] at h
        cases hb : fn.body with
        | none => simp [hb] at h
        | some c =>
          simp only [hb] at h
          cases hble : Nat.ble args.size 1000000 with
          | false => simp [hble] at h
          | true =>
            simp only [hble, cond_true] at h
            have hsz := Nat.le_of_ble_eq_true hble
            have hok := hP f fn hf
            simp only [fnOk, hb, Bool.and_eq_true, Nat.ble_eq] at hok
            have hst : StR ρ (enterAt args.toList 0 .leaf) { tmps := cargs ++ Array.replicate (fn.ntmps - cargs.size) undef, defers := [] } fn.ntmps := by
              refine ⟨fun t => ?_, by simp; omega, rfl⟩
              rw [enterAt_get _ _ _ _ (by simp; omega)]
              have hcs := har.1
              by_cases ht : t < args.size
              · rw [if_pos (by simp; exact ht)]
                have hx : args[t]? = some args[t] := Array.getElem?_eq_getElem ht
                obtain ⟨y, hy, hr⟩ := har.get hx
                have e1 : args.toList[t - 0]? = some args[t] := by simp [ht]
                rw [e1]
                have e2 : (cargs ++ Array.replicate (fn.ntmps - cargs.size) undef).getD t undef = y := by
                  rw [Array.getD_eq_getD_getElem?, Array.getElem?_append, if_pos (by omega), hy]
                  rfl
                simp only [e2, Option.getD_some]
                exact hr
              · rw [if_neg (by simp; omega)]
                have e2 : (cargs ++ Array.replicate (fn.ntmps - cargs.size) undef).getD t undef = undef := by
                  rw [Array.getD_eq_getD_getElem?, Array.getElem?_append, if_neg (by omega), Array.getElem?_replicate]
                  split <;> rfl
                simp only [e2]
                exact .undef ρ
            have fin : ∀ (e : Ex) (s1 : St), (e = .normal ∨ e = .ret) → run P n (.code c ⟨enterAt args.toList 0 .leaf, m⟩) = some (.code e s1) → leave P fn s1 = some (.call v m') → Calls P f cargs w (CallEnd ρ m w v m') := by
              intro e s1 he h1 h2
              refine calls_of_wp hf hb (wp_mono (ih1 _ _ _ _ fn.ntmps h1 hok.2 hok.1 hm ρ w _ hg hst hi).wp ?_)
              rintro ex a1 w1 ⟨rfl, ρ1, g1, g2, g3⟩
              obtain ⟨c1, r1, r2⟩ := results_sim g1 g2 h2
              have hmm := leave_mem h2
              subst hmm
              have : a1.defers = [] ∧ ∃ v_1, (results fn a1.tmps).run P w1 = .ok v_1 w1 ∧ CallEnd ρ m w v s1.mem (.returned v_1) w1 := ⟨g1.defers, c1, r1, c1, ρ1, rfl, r2, g2, g3⟩
              rcases he with rfl | rfl <;> exact this
            split at h
            · rename_i s1 h1
              exact fin _ s1 (.inl rfl) h1 h
            · rename_i s1 h1
              exact fin _ s1 (.inr rfl) h1 h
            · cases h

end Go.AM
