/-
  The abstract machine and the machine: regions that draw their order. Part one: the order's bits; the trace; which memory stands when.
-/
import Derived.Test.YtbnllihefecemaaGreatDoorAm11
set_option linter.unusedSimpArgs false
set_option linter.unusedVariables false
namespace Go.AM
open Go

/-! ### What comes before what -/
def bef (ops : Array Oper) (i j : Nat) : Bool := ((Region.before ops).getD j 0).testBit i

def beforeAt (acc : Array Nat) (o : Oper) : Nat := o.after.foldl (fun s e => if Region.binds .any e then s ||| 2 ^ e.on ||| acc.getD e.on 0 else s) 0

theorem beforeAt_bit (acc : Array Nat) (i : Nat) : ∀ (l : List Edge) (s : Nat), (l.foldl (fun s e => if Region.binds .any e then s ||| 2 ^ e.on ||| acc.getD e.on 0 else s) s).testBit i = true →
    s.testBit i = true ∨ ∃ e ∈ l, Region.binds .any e = true ∧ (e.on = i ∨ (acc.getD e.on 0).testBit i = true)
  | [], s, h => .inl h
  | e :: l, s, h => by
    simp only [List.foldl_cons] at h
    rcases beforeAt_bit acc i l _ h with h1 | ⟨e', he', h1⟩
    · by_cases hb : Region.binds .any e = true
      · rw [if_pos hb, Nat.testBit_or, Nat.testBit_or, Bool.or_eq_true, Bool.or_eq_true] at h1
        rcases h1 with (h1 | h1) | h1
        · exact .inl h1
        · rw [Nat.testBit_two_pow] at h1
          exact .inr ⟨e, by simp, hb, .inl (by simpa using h1)⟩
        · exact .inr ⟨e, by simp, hb, .inr h1⟩
      · rw [if_neg hb] at h1
        exact .inl h1
    · exact .inr ⟨e', List.mem_cons_of_mem _ he', h1⟩

theorem foldl_push (g : Array Nat → Oper → Nat) : ∀ (l : List Oper) (init : Array Nat) (k : Nat) (o : Oper), l[k]? = some o →
    ∃ acc : Array Nat, (l.foldl (fun acc o => acc.push (g acc o)) init)[init.size + k]? = some (g acc o) ∧ acc.size = init.size + k ∧ ∀ q, q < acc.size → (l.foldl (fun acc o => acc.push (g acc o)) init)[q]? = acc[q]?
  | [], init, k, o, h => by simp at h
  | x :: l, init, k, o, h => by
    have keep : ∀ (l : List Oper) (init : Array Nat) (q : Nat), q < init.size → (l.foldl (fun acc o => acc.push (g acc o)) init)[q]? = init[q]? := by
      intro l
      induction l with
      | nil => intro init q _; rfl
      | cons y l ih =>
        intro init q hq
        simp only [List.foldl_cons]
        rw [ih _ _ (by simp; omega), Array.getElem?_push, if_neg (by omega)]
    simp only [List.foldl_cons]
    rcases k with _ | k
    · simp only [List.getElem?_cons_zero, Option.some.injEq] at h
      subst h
      refine ⟨init, ?_, rfl, fun q hq => ?_⟩
      · rw [keep _ _ _ (by simp), Array.getElem?_push, if_pos (by simp)]
      · rw [keep _ _ _ (by simp; omega), Array.getElem?_push, if_neg (by omega)]
    · simp only [List.getElem?_cons_succ] at h
      obtain ⟨acc, h1, h2, h3⟩ := foldl_push g l (init.push (g init x)) k o h
      refine ⟨acc, ?_, by simp at h2; omega, h3⟩
      rw [← h1]
      congr 1
      simp; omega

theorem bef_step {ops : Array Oper} {i j : Nat} (h : bef ops i j = true) : ∃ o e, ops[j]? = some o ∧ e ∈ o.after.toList ∧ Region.binds .any e = true ∧ (e.on = i ∨ (e.on < j ∧ bef ops i e.on = true)) := by
  unfold bef at h
  cases ho : ops[j]? with
  | none =>
    have hs : (Region.before ops).size = ops.size := by
      unfold Region.before
      rw [← Array.foldl_toList]
      have : ∀ (l : List Oper) (init : Array Nat), (l.foldl (fun acc o => acc.push (o.after.foldl (fun s e => if Region.binds .any e then s ||| 2 ^ e.on ||| acc.getD e.on 0 else s) 0)) init).size = init.size + l.length := by
        intro l
        induction l with
        | nil => intro init; rfl
        | cons x l ih => intro init; simp only [List.foldl_cons]; rw [ih]; simp; omega
      rw [this]
      simp
    rw [Array.getElem?_eq_none_iff] at ho
    rw [Array.getD_eq_getD_getElem?, Array.getElem?_eq_none (by omega)] at h
    simp at h
  | some o =>
    have hl : ops.toList[j]? = some o := by simpa using ho
    obtain ⟨acc, h1, h2, h3⟩ := foldl_push beforeAt ops.toList #[] j o hl
    have hR : Region.before ops = ops.toList.foldl (fun acc o => acc.push (beforeAt acc o)) #[] := by
      unfold Region.before beforeAt
      rw [← Array.foldl_toList]
    rw [← hR] at h1 h3
    have hsz : (#[] : Array Nat).size + j = j := by simp
    rw [hsz] at h1 h2
    rw [Array.getD_eq_getD_getElem?, h1] at h
    simp only [Option.getD_some] at h
    unfold beforeAt at h
    rw [← Array.foldl_toList] at h
    rcases beforeAt_bit acc i _ 0 h with h4 | ⟨e, he, hb, h4⟩
    · simp at h4
    · refine ⟨o, e, rfl, he, hb, ?_⟩
      rcases h4 with h4 | h4
      · exact .inl h4
      · rcases Nat.lt_or_ge e.on j with hlt | hge
        · refine .inr ⟨hlt, ?_⟩
          unfold bef
          rw [Array.getD_eq_getD_getElem?, h3 e.on (by omega), ← Array.getD_eq_getD_getElem?]
          exact h4
        · rw [Array.getD_eq_getD_getElem?, Array.getElem?_eq_none (by omega)] at h4
          simp at h4

/-- Which operations have been carried out. -/
def Done (l : Array Bool) (i : Nat) : Prop := l[i]? = some true

/-- What a done operation waits for is done. -/
def Closed (ops : Array Oper) (l : Array Bool) : Prop := ∀ j o, Done l j → ops[j]? = some o → ∀ e ∈ o.after.toList, Region.binds .any e = true → Done l e.on

theorem Closed.bef {ops : Array Oper} {l : Array Bool} (hc : Closed ops l) : ∀ {j : Nat}, Done l j → ∀ {i : Nat}, bef ops i j = true → Done l i := by
  intro j
  induction j using Nat.strongRecOn with
  | _ j ih =>
    intro hj i h
    obtain ⟨o, e, ho, he, hb, h1⟩ := bef_step h
    have hd := hc j o hj ho e he hb
    rcases h1 with rfl | ⟨hlt, h2⟩
    · exact hd
    · exact ih _ hlt hd h2

theorem ready_spec {ops : Array Oper} {l : Array Bool} {k : Nat} (hs : l.size = ops.size) (h : k ∈ Region.ready .any ops l) :
    k < ops.size ∧ ¬ Done l k ∧ ∃ o, ops[k]? = some o ∧ ∀ e ∈ o.after.toList, Region.binds .any e = true → Done l e.on := by
  unfold Region.ready at h
  rw [List.mem_filter, List.mem_range] at h
  obtain ⟨h1, h2⟩ := h
  rw [Bool.and_eq_true] at h2
  obtain ⟨h2, h3⟩ := h2
  have hl : l[k]? = some (l[k]'(by omega)) := Array.getElem?_eq_getElem _
  refine ⟨h1, ?_, ?_⟩
  · intro hd
    unfold Done at hd
    rw [Array.getD_eq_getD_getElem?, hd] at h2
    simp at h2
  · have ho : ops[k]? = some ops[k] := Array.getElem?_eq_getElem h1
    rw [ho] at h3
    simp only [Option.map_some, Option.getD_some] at h3
    refine ⟨_, ho, fun e he hb => ?_⟩
    rw [← Array.all_toList, List.all_eq_true] at h3
    have := h3 e he
    rw [hb] at this
    simp only [Bool.not_true, Bool.false_or] at this
    unfold Done
    rw [Array.getD_eq_getD_getElem?] at this
    cases hq : l[e.on]? with
    | none => rw [hq] at this; simp at this
    | some b => rw [hq] at this; simp at this; rw [this]

theorem ready_bef {ops : Array Oper} {l : Array Bool} {k : Nat} (hs : l.size = ops.size) (hc : Closed ops l) (h : k ∈ Region.ready .any ops l) {i : Nat} (hb : bef ops i k = true) : Done l i := by
  obtain ⟨_, _, o, ho, h1⟩ := ready_spec hs h
  obtain ⟨o', e, ho', he, hbi, h2⟩ := bef_step hb
  rw [ho] at ho'
  obtain rfl := Option.some.inj ho'
  have hd := h1 e he hbi
  rcases h2 with rfl | ⟨_, h3⟩
  · exact hd
  · exact hc.bef hd h3

theorem done_set {l : Array Bool} {k i : Nat} (hk : k < l.size) : Done (l.setIfInBounds k true) i ↔ i = k ∨ Done l i := by
  unfold Done
  rw [Array.getElem?_setIfInBounds]
  by_cases e : k = i
  · subst e; simp [hk]
  · simp [e, Ne.symm e]

theorem closed_set {ops : Array Oper} {l : Array Bool} {k : Nat} (hs : l.size = ops.size) (hc : Closed ops l) (h : k ∈ Region.ready .any ops l) : Closed ops (l.setIfInBounds k true) := by
  obtain ⟨h0, _, o, ho, h1⟩ := ready_spec hs h
  intro j o' hj ho' e he hb
  rw [done_set (by omega)] at hj ⊢
  rcases hj with rfl | hj
  · rw [ho] at ho'
    obtain rfl := Option.some.inj ho'
    exact .inr (h1 e he hb)
  · exact .inr (hc j o' hj ho' e he hb)

/-! ### What is asked of such a region, by its text -/
/-- Two operations name one slot, and one of them writes it. -/
def clash (ops : Array Oper) (a b : Oper) : Bool :=
  (match a.dst with
   | some d => (b.dst == some d) || (reads ops b).contains d
   | none => false) ||
  (match b.dst with
   | some d => (reads ops a).contains d
   | none => false)

def drawOk (P : Program) (ops : Array Oper) : Bool :=
  (List.range ops.size).all fun j =>
    (match ops[j]? with
     | some o => o.after.toList.all fun e => !Region.binds .any e || Nat.blt e.on j
     | none => true) &&
    (List.range j).all fun i =>
      match ops[i]?, ops[j]? with
      | some oi, some oj => (!(clash ops oi oj) && !(isW P oi && isW P oj)) || bef ops i j
      | _, _ => true

theorem lt_of_get {ops : Array Oper} {j : Nat} {o : Oper} (hj : ops[j]? = some o) : j < ops.size := by
  rcases Nat.lt_or_ge j ops.size with h' | h'
  · exact h'
  · rw [Array.getElem?_eq_none h'] at hj; cases hj

theorem drawOk_edge {P : Program} {ops : Array Oper} (h : drawOk P ops = true) {j : Nat} {o : Oper} (hj : ops[j]? = some o) {e : Edge} (he : e ∈ o.after.toList) (hb : Region.binds .any e = true) : e.on < j := by
  have := List.all_eq_true.1 h j (List.mem_range.2 (lt_of_get hj))
  rw [Bool.and_eq_true, hj] at this
  have := List.all_eq_true.1 this.1 e he
  rw [hb] at this
  simpa [Nat.blt_eq] using this

theorem drawOk_clash {P : Program} {ops : Array Oper} (h : drawOk P ops = true) {i j : Nat} {oi oj : Oper} (hij : i < j) (hi : ops[i]? = some oi) (hj : ops[j]? = some oj) (hc : clash ops oi oj = true) : bef ops i j = true := by
  have := List.all_eq_true.1 h j (List.mem_range.2 (lt_of_get hj))
  rw [Bool.and_eq_true] at this
  have := List.all_eq_true.1 this.2 i (List.mem_range.2 hij)
  rw [hi, hj] at this
  simpa [hc] using this

theorem drawOk_w {P : Program} {ops : Array Oper} (h : drawOk P ops = true) {i j : Nat} {oi oj : Oper} (hij : i < j) (hi : ops[i]? = some oi) (hj : ops[j]? = some oj) (h1 : isW P oi = true) (h2 : isW P oj = true) : bef ops i j = true := by
  have := List.all_eq_true.1 h j (List.mem_range.2 (lt_of_get hj))
  rw [Bool.and_eq_true] at this
  have := List.all_eq_true.1 this.2 i (List.mem_range.2 hij)
  rw [hi, hj] at this
  simpa [h1, h2] using this

theorem clash_dst {ops : Array Oper} {a b : Oper} {d : Tmp} (ha : a.dst = some d) (hb : b.dst = some d) : clash ops a b = true := by simp [clash, ha, hb]
theorem clash_reads {ops : Array Oper} {a b : Oper} {d : Tmp} (ha : a.dst = some d) (hb : d ∈ reads ops b) : clash ops a b = true := by simp [clash, ha, hb]
theorem clash_reads' {ops : Array Oper} {a b : Oper} {d : Tmp} (ha : d ∈ reads ops a) (hb : b.dst = some d) : clash ops a b = true := by simp [clash, ha, hb]

/-! ### The trace -/
/-- An operation writes its own slot. -/
theorem opStep_tm {P : Program} {rec : Task → Option Res} {ops : Array Oper} {o : Oper} {s s' : St} (hs : opStep P rec ops o s = some s') : ∃ v, s'.tm = putAt s.tm o.dst v := by
  unfold opStep at hs
  cases hw : wantedAt ops o s.tm with
  | false =>
    simp only [hw, cond_false, Option.some.injEq] at hs
    subst hs
    exact ⟨_, rfl⟩
  | true =>
    simp only [hw, cond_true] at hs
    cases hk : kindOf P o <;> simp only [hk] at hs
    · cases hv : pureOp P (evalAt s.tm) o with
      | none => simp [hv] at hs
      | some v => simp only [hv, Option.bind_some, Option.some.injEq] at hs; subst hs; exact ⟨_, rfl⟩
    · cases hv : readOp P (evalAt s.tm) s.mem o with
      | none => simp [hv] at hs
      | some v => simp only [hv, Option.bind_some, Option.some.injEq] at hs; subst hs; exact ⟨_, rfl⟩
    · cases hv : newOp P (evalAt s.tm) o with
      | none => simp [hv] at hs
      | some xf =>
        simp only [hv, Option.bind_some] at hs
        cases hm : s.mem.push xf.1 with
        | none => simp [hm] at hs
        | some m2 => simp only [hm, Option.bind_some, Option.some.injEq] at hs; subst hs; exact ⟨_, rfl⟩
    · cases hv : writeOp P (evalAt s.tm) s.mem o with
      | none => simp [hv] at hs
      | some vm => simp only [hv, Option.bind_some, Option.some.injEq] at hs; subst hs; exact ⟨_, rfl⟩
    · cases hv : callOp P (evalAt s.tm) o with
      | none => simp [hv] at hs
      | some fa =>
        simp only [hv, Option.bind_some] at hs
        split at hs
        · simp only [Option.some.injEq] at hs; subst hs; exact ⟨_, rfl⟩
        · cases hs
    · cases hs

/-- The state ahead of each operation, in the order of the text; behind the last, the end. -/
structure Trace (P : Program) (rec : Task → Option Res) (ops : Array Oper) (S : Nat → St) : Prop where
  step : ∀ i o, ops[i]? = some o → opStep P rec ops o (S i) = some (S (i + 1))
  mem : ∀ i, i ≤ ops.size → MemOk (S i).mem

theorem opsTrace_spec {P : Program} {rec : Task → Option Res} {ops : Array Oper} : ∀ (l : List Oper) {s s' : St} {sts : List St}, opsTrace P rec ops l s = some (sts, s') →
    sts.length = l.length ∧ (sts ++ [s'])[0]? = some s ∧ ∀ i o, l[i]? = some o → ∃ a b, (sts ++ [s'])[i]? = some a ∧ (sts ++ [s'])[i + 1]? = some b ∧ opStep P rec ops o a = some b
  | [], s, s', sts, h => by
    simp only [opsTrace, Option.some.injEq, Prod.mk.injEq] at h
    obtain ⟨rfl, rfl⟩ := h
    exact ⟨rfl, rfl, fun i o hi => by simp at hi⟩
  | o :: l, s, s', sts, h => by
    simp only [opsTrace] at h
    cases h1 : opStep P rec ops o s with
    | none => simp [h1] at h
    | some s1 =>
      simp only [h1, Option.bind_some] at h
      cases h2 : opsTrace P rec ops l s1 with
      | none => simp [h2] at h
      | some x =>
        simp only [h2, Option.bind_some, Option.some.injEq, Prod.mk.injEq] at h
        obtain ⟨rfl, rfl⟩ := h
        obtain ⟨g1, g2, g3⟩ := opsTrace_spec l (show opsTrace P rec ops l s1 = some (x.1, x.2) from h2)
        refine ⟨by simp [g1], rfl, fun i o' hi => ?_⟩
        rcases i with _ | i
        · simp only [List.getElem?_cons_zero, Option.some.injEq] at hi
          subst hi
          exact ⟨s, s1, rfl, by simpa using g2, h1⟩
        · simp only [List.getElem?_cons_succ] at hi
          obtain ⟨a, b, h3, h4, h5⟩ := g3 i o' hi
          exact ⟨a, b, by simpa using h3, by simpa using h4, h5⟩

theorem trace_of {P : Program} {rec : Task → Option Res} {ops : Array Oper} (hc : CallsLater rec) {s s' : St} {sts : List St} (hm : MemOk s.mem) (h : opsTrace P rec ops ops.toList s = some (sts, s')) :
    ∃ S : Nat → St, Trace P rec ops S ∧ S 0 = s ∧ S ops.size = s' ∧ ∀ i, i < ops.size → sts[i]? = some (S i) ∧ (sts ++ [s'])[i + 1]? = some (S (i + 1)) := by
  obtain ⟨h1, h2, h3⟩ := opsTrace_spec _ h
  have hlen : sts.length = ops.size := by simpa using h1
  let S : Nat → St := fun i => ((sts ++ [s'])[i]?).getD s'
  have hS : ∀ i a, (sts ++ [s'])[i]? = some a → S i = a := fun i a ha => by show ((sts ++ [s'])[i]?).getD s' = a; rw [ha]; rfl
  have hstep : ∀ i o, ops[i]? = some o → opStep P rec ops o (S i) = some (S (i + 1)) := by
    intro i o ho
    obtain ⟨a, b, ha, hb, hab⟩ := h3 i o (by simpa using ho)
    rw [hS i a ha, hS (i + 1) b hb]
    exact hab
  have h0 : S 0 = s := hS 0 s h2
  refine ⟨S, ⟨hstep, ?_⟩, h0, ?_, ?_⟩
  · intro i
    induction i with
    | zero => intro _; rw [h0]; exact hm
    | succ i ih =>
      intro hi
      have ho : ops[i]? = some (ops[i]'(by omega)) := Array.getElem?_eq_getElem _
      exact (opStep_later hc (ih (by omega)) (hstep i _ ho)).1.ok
  · refine hS _ _ ?_
    rw [List.getElem?_append_right (by omega)]
    simp [hlen]
  · intro i hi
    have hex : ∀ j, j ≤ ops.size → ∃ a, (sts ++ [s'])[j]? = some a := fun j hj => ⟨_, List.getElem?_eq_getElem (by simp; omega)⟩
    obtain ⟨a, ha⟩ := hex i (by omega)
    obtain ⟨b, hb⟩ := hex (i + 1) (by omega)
    rw [hS i a ha, hS (i + 1) b hb]
    refine ⟨?_, hb⟩
    rw [List.getElem?_append_left (by omega)] at ha
    exact ha

section
variable {P : Program} {rec : Task → Option Res} {ops : Array Oper} {S : Nat → St}

/-- The operation at i may turn memory, and is carried out. -/
def W (P : Program) (ops : Array Oper) (S : Nat → St) (i : Nat) : Prop := ∃ o, ops[i]? = some o ∧ isW P o = true ∧ wantedAt ops o (S i).tm = true

theorem Trace.next_le (ht : Trace P rec ops S) (hc : CallsLater rec) {i j : Nat} (hij : i ≤ j) (hj : j ≤ ops.size) : (S i).mem.next ≤ (S j).mem.next := by
  induction j with
  | zero => have : i = 0 := by omega
            subst this; exact Nat.le_refl _
  | succ j ih =>
    rcases Nat.lt_or_ge i (j + 1) with h | h
    · have ho : ops[j]? = some (ops[j]'(by omega)) := Array.getElem?_eq_getElem _
      exact Nat.le_trans (ih (by omega) (by omega)) (opStep_later hc (ht.mem j (by omega)) (ht.step j _ ho)).1.next
    · have : i = j + 1 := by omega
      subst this; exact Nat.le_refl _

/-- Where nothing turns memory, what there is stays. -/
theorem Trace.keep (ht : Trace P rec ops S) (hc : CallsLater rec) {i j : Nat} (hij : i ≤ j) (hj : j ≤ ops.size) (hw : ∀ k, i ≤ k → k < j → ¬ W P ops S k) {b : Nat} (hb : b < (S i).mem.next) :
    (S j).mem.get b = (S i).mem.get b := by
  induction j with
  | zero => have : i = 0 := by omega
            subst this; rfl
  | succ j ih =>
    rcases Nat.lt_or_ge i (j + 1) with h | h
    · have ho : ops[j]? = some (ops[j]'(by omega)) := Array.getElem?_eq_getElem _
      have h1 := ih (by omega) (by omega) (fun k h1 h2 => hw k h1 (by omega))
      have h2 := (opStep_later hc (ht.mem j (by omega)) (ht.step j _ ho)).2
      have hnw : isW P (ops[j]'(by omega)) = false ∨ wantedAt ops (ops[j]'(by omega)) (S j).tm = false := by
        have := hw j (by omega) (by omega)
        cases h3 : isW P (ops[j]'(by omega)) with
        | false => exact .inl rfl
        | true =>
          cases h4 : wantedAt ops (ops[j]'(by omega)) (S j).tm with
          | false => exact .inr rfl
          | true => exact absurd ⟨_, ho, h3, h4⟩ this
      rw [h2 hnw b (Nat.lt_of_lt_of_le hb (ht.next_le hc (by omega) (by omega))), h1]
    · have : i = j + 1 := by omega
      subst this; rfl

/-- A slot that no operation writes keeps what it holds. -/
theorem Trace.slot (ht : Trace P rec ops S) {nt : Nat} (hn : nt ≤ 1000000) (hd : ∀ (i : Nat) (o : Oper), ops[i]? = some o → ∀ d, o.dst = some d → d < nt) {i j : Nat} (hij : i ≤ j) (hj : j ≤ ops.size) {t : Nat} (hw : ∀ (k : Nat) (o : Oper), i ≤ k → k < j → ops[k]? = some o → o.dst ≠ some t) :
    (S j).tm.get t = (S i).tm.get t := by
  induction j with
  | zero => have : i = 0 := by omega
            subst this; rfl
  | succ j ih =>
    rcases Nat.lt_or_ge i (j + 1) with h | h
    · have ho : ops[j]? = some (ops[j]'(by omega)) := Array.getElem?_eq_getElem _
      rw [← ih (by omega) (by omega) (fun k o h1 h2 h3 => hw k o h1 (by omega) h3)]
      have hne := hw j _ (by omega) (by omega) ho
      obtain ⟨v, hv⟩ := opStep_tm (ht.step j _ ho)
      rw [hv]
      cases hdst : (ops[j]'(by omega)).dst with
      | none => rfl
      | some d =>
        rw [hdst] at hne
        have hdn := hd j _ ho d hdst
        show (T.set v depth d (S j).tm).get t = _
        rw [T.get_set v depth d _ t (Nat.lt_of_le_of_lt (Nat.le_trans (Nat.succ_le_of_lt hdn) hn) (by decide)), if_neg]
        intro e; subst e; exact hne rfl
    · have : i = j + 1 := by omega
      subst this; rfl
end

end Go.AM
