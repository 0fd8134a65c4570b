/-
  The abstract machine: its memory grows, and holds nothing above its next number.
-/
import Derived.Test.YtbnllihefecemaaGreatDoorAm10
set_option linter.unusedSimpArgs false
set_option linter.unusedVariables false
namespace Go.AM
open Go

/-- From one memory to a later one. -/
structure Later (m m' : Mem) : Prop where
  ok : MemOk m'
  next : m.next ≤ m'.next

theorem Later.refl {m : Mem} (h : MemOk m) : Later m m := ⟨h, Nat.le_refl _⟩
theorem Later.trans {m m' m'' : Mem} (h : Later m m') (k : Later m' m'') : Later m m'' := ⟨k.ok, Nat.le_trans h.next k.next⟩

theorem MemOk.lt {m : Mem} (h : MemOk m) {b : Nat} {x : Blk} (hb : m.get b = some x) : b < m.next := by
  rcases Nat.lt_or_ge b m.next with h' | h'
  · exact h'
  · rw [h.top b h'] at hb; cases hb

theorem put_later {m : Mem} (h : MemOk m) {b : Nat} {x y : Blk} (hb : m.get b = some x) : Later m (m.put b y) := by
  have hlt := h.lt hb
  have hs := h.small
  have hsm : b + 1 < 2 ^ 40 := by omega
  refine ⟨⟨h.small, fun c hc => ?_⟩, Nat.le_refl _⟩
  have hc' : m.next ≤ c := hc
  rw [m.get_put b y c hsm, if_neg (by omega)]
  exact h.top c hc'

theorem push_later {m m' : Mem} (h : MemOk m) {x : Blk} (hm : m.push x = some m') : Later m m' := by
  obtain ⟨h1, h2, h3⟩ := Mem.push_some hm
  refine ⟨⟨by omega, fun c hc => ?_⟩, by omega⟩
  rw [h3, if_neg (by omega)]
  exact h.top c (by omega)

variable {P : Program} {ev : Operand → Value} {o : Oper} {v : Value} {m m' : Mem}

theorem storeAt_later (h : MemOk m) {t : TypeId} {a x : Value} (hs : storeAt P m t a x = some m') : Later m m' := by
  unfold storeAt at hs
  split at hs
  · split at hs
    · rename_i e cs hb
      cases h1 : sizeAt P t with
      | none => simp [h1] at hs
      | some n =>
        cases h2 : (Nat.beq x.cells.size n && ones x.cells.toList) with
        | false => simp [h1, h2] at hs
        | true =>
          simp only [h1, h2, Option.bind_some, cond_true] at hs
          cases h3 : paste _ x.cells.toList cs with
          | none => rw [h3] at hs; simp at hs
          | some cs' =>
            rw [h3] at hs
            simp only [Option.bind_some, Option.some.injEq] at hs
            subst hs
            exact put_later h hb
    · cases hs
  · cases hs

theorem appendAt_later (h : MemOk m) {ts : Array TypeId} {s x : Value} (hs : appendAt P m ts s x = some (v, m')) : Later m m' := by
  unfold appendAt at hs
  split at hs
  · cases hs
  · cases h1 : lenOf x with
    | none => simp [h1] at hs
    | some n =>
      rename_i elem _ _ _ _
      cases h2 : P.info? elem with
      | none => simp [h1, h2] at hs
      | some i =>
        cases h3 : sourceCells m i.size n x with
        | none => simp [h1, h2, h3] at hs
        | some new =>
          cases h4 : zeroAt P elem with
          | none => simp [h1, h2, h3, h4] at hs
          | some z =>
            cases h5 : (Nat.ble n 1000000 && Nat.ble i.bytes 100000 && ones new && Nat.beq z.cells.size i.size) with
            | false => simp [h1, h2, h3, h4, h5] at hs
            | true =>
              simp only [h1, h2, h3, h4, h5, Option.bind_some, cond_true] at hs
              split at hs
              · cases h6 : Nat.beq n 0 with
                | true =>
                  simp only [h6, cond_true, Option.some.injEq, Prod.mk.injEq] at hs
                  rw [← hs.2]; exact .refl h
                | false =>
                  simp only [h6, cond_false] at hs
                  cases h7 : m.push (.cells elem new true) with
                  | none => simp [h7] at hs
                  | some m2 =>
                    simp only [h7, Option.bind_some, Option.some.injEq, Prod.mk.injEq] at hs
                    rw [← hs.2]; exact push_later h h7
              · cases h6 : Nat.beq n 0 with
                | true =>
                  simp only [h6, cond_true, Option.some.injEq, Prod.mk.injEq] at hs
                  rw [← hs.2]; exact .refl h
                | false =>
                  simp only [h6, cond_false] at hs
                  split at hs
                  · rename_i b k len sz _ e cs hb
                    cases h7 : (Nat.beq sz i.size && Nat.ble len 1000000) with
                    | false => simp [h7] at hs
                    | true =>
                      simp only [h7, cond_true] at hs
                      cases h8 : cut k (len * i.size) cs with
                      | none => simp [h8] at hs
                      | some old =>
                        cases h9 : (m.put b .dead).push (.cells elem (old ++ new) true) with
                        | none => simp [h8, h9] at hs
                        | some m2 =>
                          simp only [h8, h9, Option.bind_some, Option.some.injEq, Prod.mk.injEq] at hs
                          rw [← hs.2]
                          have hp := put_later h (y := .dead) hb
                          exact hp.trans (push_later hp.ok h9)
                  · cases hs
              · cases hs
  · cases hs

theorem copyAt_later (h : MemOk m) {ts : Array TypeId} {s x : Value} (hs : copyAt P m ts s x = some (v, m')) : Later m m' := by
  unfold copyAt at hs
  split at hs
  · rename_i elem _
    cases h1 : lenOf s with
    | none => simp [h1] at hs
    | some dn =>
      cases h2 : lenOf x with
      | none => simp [h1, h2] at hs
      | some xn =>
        cases h3 : sizeAt P elem with
        | none => simp [h1, h2, h3] at hs
        | some size =>
          cases h4 : sourceCells m size (Nat.min xn dn) x with
          | none => simp [h1, h2, h3, h4] at hs
          | some new =>
            simp only [h1, h2, h3, h4, Option.bind_some] at hs
            split at hs
            · simp only [Option.some.injEq, Prod.mk.injEq] at hs
              rw [← hs.2]; exact .refl h
            · split at hs
              · rename_i b k len sz _ e cs hb
                cases h5 : (Nat.beq sz size && ones new) with
                | false => simp [h5] at hs
                | true =>
                  simp only [h5, cond_true] at hs
                  cases h6 : paste k new cs with
                  | none => simp [h6] at hs
                  | some cs' =>
                    simp only [h6, Option.bind_some, Option.some.injEq, Prod.mk.injEq] at hs
                    rw [← hs.2]; exact put_later h hb
              · cases hs
            · cases hs
  · cases hs

theorem writeOp_later (h : MemOk m) (hs : writeOp P ev m o = some (v, m')) : Later m m' := by
  unfold writeOp at hs
  split at hs
  · cases h1 : storeAt P m _ _ _ with
    | none => rw [h1] at hs; simp at hs
    | some m2 =>
      rw [h1] at hs
      simp only [Option.bind_some, Option.some.injEq, Prod.mk.injEq] at hs
      rw [← hs.2]; exact storeAt_later h h1
  all_goals first
    | (split at hs
       · split at hs
         · rename_i hb
           cases h1 : keyKind P _ _ with
           | none => rw [h1] at hs; simp at hs
           | some kind =>
             rw [h1] at hs
             simp only [Option.bind_some] at hs
             cases h2 : storeKey kind _ _ _ with
             | none => rw [h2] at hs; simp at hs
             | some es =>
               rw [h2] at hs
               simp only [Option.bind_some, Option.some.injEq, Prod.mk.injEq] at hs
               rw [← hs.2]; exact put_later h hb
         · cases hs
       · cases hs)
    | (split at hs
       · exact appendAt_later h hs
       · cases hs)
    | (split at hs
       · exact copyAt_later h hs
       · cases hs)
    | (split at hs
       · split at hs
         · split at hs
           · rename_i hb
             cases h1 : keyKind P _ _ with
             | none => rw [h1] at hs; simp at hs
             | some kind =>
               rw [h1] at hs
               simp only [Option.bind_some] at hs
               cases h2 : dropKey kind _ _ with
               | none => rw [h2] at hs; simp at hs
               | some es =>
                 rw [h2] at hs
                 simp only [Option.bind_some, Option.some.injEq, Prod.mk.injEq] at hs
                 rw [← hs.2]; exact put_later h hb
           · cases hs
         · cases hs
       · cases hs)
    | cases hs

/-- What the calls do to memory. -/
def CallsLater (rec : Task → Option Res) : Prop := ∀ f args m v m', rec (.call f args m) = some (.call v m') → MemOk m → Later m m'

/-- An operation that may turn memory. -/
def isW (P : Program) (o : Oper) : Bool :=
  match kindOf P o with
  | .write | .call => true
  | _ => false

variable {rec : Task → Option Res} {ops : Array Oper}

theorem opStep_later {s s' : St} (hc : CallsLater rec) (h : MemOk s.mem) (hs : opStep P rec ops o s = some s') :
    Later s.mem s'.mem ∧ (isW P o = false ∨ wantedAt ops o s.tm = false → ∀ b, b < s.mem.next → s'.mem.get b = s.mem.get b) := by
  unfold opStep at hs
  cases hw : wantedAt ops o s.tm with
  | false =>
    simp only [hw, cond_false, Option.some.injEq] at hs
    subst hs
    exact ⟨.refl h, fun _ _ _ => rfl⟩
  | true =>
    simp only [hw, cond_true] at hs
    unfold isW
    cases hk : kindOf P o with
    | pure =>
      simp only [hk] at hs
      cases hv : pureOp P (evalAt s.tm) o with
      | none => simp [hv] at hs
      | some v =>
        simp only [hv, Option.bind_some, Option.some.injEq] at hs
        subst hs
        exact ⟨.refl h, fun _ _ _ => rfl⟩
    | read =>
      simp only [hk] at hs
      cases hv : readOp P (evalAt s.tm) s.mem o with
      | none => simp [hv] at hs
      | some v =>
        simp only [hv, Option.bind_some, Option.some.injEq] at hs
        subst hs
        exact ⟨.refl h, fun _ _ _ => rfl⟩
    | new =>
      simp only [hk] at hs
      cases hv : newOp P (evalAt s.tm) o with
      | none => simp [hv] at hs
      | some xf =>
        obtain ⟨x, f⟩ := xf
        simp only [hv, Option.bind_some] at hs
        cases hm : s.mem.push x with
        | none => simp [hm] at hs
        | some m2 =>
          simp only [hm, Option.bind_some, Option.some.injEq] at hs
          subst hs
          refine ⟨push_later h hm, fun _ b hb => ?_⟩
          rw [(Mem.push_some hm).2.2, if_neg (by omega)]
    | write =>
      simp only [hk] at hs
      cases hv : writeOp P (evalAt s.tm) s.mem o with
      | none => simp [hv] at hs
      | some vm =>
        obtain ⟨v, m2⟩ := vm
        simp only [hv, Option.bind_some, Option.some.injEq] at hs
        subst hs
        exact ⟨writeOp_later h hv, fun hx => by simp at hx⟩
    | call =>
      simp only [hk] at hs
      cases hv : callOp P (evalAt s.tm) o with
      | none => simp [hv] at hs
      | some fa =>
        obtain ⟨f, args⟩ := fa
        simp only [hv, Option.bind_some] at hs
        split at hs
        · rename_i v m2 hr
          simp only [Option.some.injEq] at hs
          subst hs
          exact ⟨hc f args s.mem v m2 hr h, fun hx => by simp at hx⟩
        · cases hs
    | bad => simp [hk] at hs

theorem opsRun_later (hc : CallsLater rec) : ∀ (l : List Oper) {s s' : St}, MemOk s.mem → opsRun P rec ops l s = some s' → Later s.mem s'.mem
  | [], s, s', h, hs => by simp only [opsRun, Option.some.injEq] at hs; subst hs; exact .refl h
  | o :: l, s, s', h, hs => by
    simp only [opsRun] at hs
    cases h1 : opStep P rec ops o s with
    | none => simp [h1] at hs
    | some s1 =>
      simp only [h1, Option.bind_some] at hs
      have h2 := (opStep_later hc h h1).1
      exact h2.trans (opsRun_later hc l h2.ok hs)

theorem opsTrace_run : ∀ (l : List Oper) {s s' : St} {sts : List St}, opsTrace P rec ops l s = some (sts, s') → opsRun P rec ops l s = some s'
  | [], s, s', sts, hs => by simp only [opsTrace, Option.some.injEq, Prod.mk.injEq] at hs; simp [opsRun, hs.2]
  | o :: l, s, s', sts, hs => by
    simp only [opsTrace] at hs
    cases h1 : opStep P rec ops o s with
    | none => simp [h1] at hs
    | some s1 =>
      simp only [h1, Option.bind_some] at hs
      cases h2 : opsTrace P rec ops l s1 with
      | none => simp [h2] at hs
      | some x =>
        simp only [h2, Option.bind_some, Option.some.injEq, Prod.mk.injEq] at hs
        simp only [opsRun, h1, Option.bind_some]
        exact opsTrace_run l (by rw [h2, ← hs.2])

theorem opsRun_trace : ∀ (l : List Oper) {s s' : St}, opsRun P rec ops l s = some s' → ∃ sts, opsTrace P rec ops l s = some (sts, s')
  | [], s, s', hs => by simp only [opsRun, Option.some.injEq] at hs; exact ⟨[], by simp [opsTrace, hs]⟩
  | o :: l, s, s', hs => by
    simp only [opsRun] at hs
    cases h1 : opStep P rec ops o s with
    | none => simp [h1] at hs
    | some s1 =>
      simp only [h1, Option.bind_some] at hs
      obtain ⟨sts, h2⟩ := opsRun_trace l hs
      exact ⟨s :: sts, by simp [opsTrace, h1, h2]⟩

/-- A region whose order is drawn: a trace whose open pairs are in order. -/
theorem drawnRun_trace {s s' : St} (h : drawnRun P rec ops s = some s') : ∃ sts, opsTrace P rec ops ops.toList s = some (sts, s') ∧ ∀ x ∈ openPairs P ops, pairOk P ops sts s' x = true := by
  unfold drawnRun at h
  split at h
  · rename_i hp
    obtain ⟨sts, h1⟩ := opsRun_trace _ h
    exact ⟨sts, h1, fun x hx => by rw [hp] at hx; simp at hx⟩
  · cases h1 : opsTrace P rec ops ops.toList s with
    | none => simp [h1] at h
    | some x =>
      simp only [h1, Option.bind_some] at h
      cases h2 : (openPairs P ops).all (pairOk P ops x.1 x.2) with
      | false => simp [h2] at h
      | true =>
        simp only [h2, cond_true, Option.some.injEq] at h
        subst h
        exact ⟨x.1, rfl, fun y hy => List.all_eq_true.1 h2 y hy⟩

theorem leave_mem {fn : Func} {s : St} (h : leave P fn s = some (.call v m')) : m' = s.mem := by
  unfold leave at h
  cases h1 : resultsAt P s.tm s.mem fn.results.toList with
  | none => simp [h1] at h
  | some vs =>
    simp only [h1, Option.bind_some] at h
    split at h <;> simp only [Option.some.injEq, Res.call.injEq] at h <;> exact h.2.symm

theorem run_later : ∀ n, (∀ c s e s', run P n (.code c s) = some (.code e s') → MemOk s.mem → Later s.mem s'.mem) ∧ CallsLater (run P n) := by
  intro n
  induction n with
  | zero => exact ⟨fun c s e s' h => by simp [run] at h, fun f args m v m' h => by simp [run] at h⟩
  | succ n ih =>
    obtain ⟨ih1, ih2⟩ := ih
    constructor
    · intro c s e s' h hm
      simp only [run, step] at h
      cases c with
      | skip => simp only [Option.some.injEq, Res.code.injEq] at h; rw [← h.2]; exact .refl hm
      | label l => simp only [Option.some.injEq, Res.code.injEq] at h; rw [← h.2]; exact .refl hm
      | exit id => simp only [Option.some.injEq, Res.code.injEq] at h; rw [← h.2]; exact .refl hm
      | ret => simp only [Option.some.injEq, Res.code.injEq] at h; rw [← h.2]; exact .refl hm
      | region id ops draw =>
        simp only at h
        cases hr : (bif draw then drawnRun P (run P n) ops s else opsRun P (run P n) ops ops.toList s) with
        | none => rw [hr] at h; simp at h
        | some s1 =>
          rw [hr] at h
          simp only [Option.bind_some, Option.some.injEq, Res.code.injEq] at h
          rw [← h.2]
          cases draw with
          | true =>
            obtain ⟨sts, h1, _⟩ := drawnRun_trace hr
            exact opsRun_later ih2 _ hm (opsTrace_run _ h1)
          | false => exact opsRun_later ih2 _ hm hr
      | seq a b =>
        simp only at h
        split at h
        · rename_i s1 h1
          have l1 := ih1 _ _ _ _ h1 hm
          exact l1.trans (ih1 _ _ _ _ h l1.ok)
        · exact ih1 _ _ _ _ h hm
      | cond x a b =>
        simp only at h
        split at h
        · exact ih1 _ _ _ _ h hm
        · exact ih1 _ _ _ _ h hm
        · cases h
      | block id c =>
        simp only at h
        split at h
        · rename_i k s1 h1
          have l1 := ih1 _ _ _ _ h1 hm
          cases hb : Nat.beq k id with
          | true => simp only [hb, cond_true, Option.some.injEq, Res.code.injEq] at h; rw [← h.2]; exact l1
          | false => simp only [hb, cond_false, Option.some.injEq, Res.code.injEq] at h; rw [← h.2]; exact l1
        · exact ih1 _ _ _ _ h hm
      | loop c =>
        simp only at h
        split at h
        · rename_i s1 h1
          have l1 := ih1 _ _ _ _ h1 hm
          exact l1.trans (ih1 _ _ _ _ h l1.ok)
        · exact ih1 _ _ _ _ h hm
      | _ => simp at h
    · intro f args m v m' h hm
      simp only [run, step] at h
      split at h
      · split at h
        · cases hb : Nat.ble args.size 1000000 with
          | false => simp [hb] at h
          | true =>
            simp only [hb, cond_true] at h
            split at h
            · rename_i s1 h1
              have l1 := ih1 _ _ _ _ h1 hm
              rw [leave_mem h]; exact l1
            · rename_i s1 h1
              have l1 := ih1 _ _ _ _ h1 hm
              rw [leave_mem h]; exact l1
            · cases h
        · cases h
      · cases h

end Go.AM
