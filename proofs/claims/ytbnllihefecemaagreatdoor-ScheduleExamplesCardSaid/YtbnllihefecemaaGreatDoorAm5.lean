/-
  The abstract machine and the machine: how their memories stand to each other, and what keeps that.
-/
import Derived.Test.YtbnllihefecemaaGreatDoorAm4
set_option linter.unusedSimpArgs false
set_option linter.unusedVariables false
namespace Go.AM
open Go

def Blk.wrs : Blk → Bool
  | .cells _ _ wr => wr
  | .dead => false
  | .map _ => true
def Blk.lives : Blk → Bool
  | .dead => false
  | _ => true

theorem Blk.lives_of_wrs {x : Blk} (h : x.wrs = true) : x.lives = true := by cases x <;> simp_all [Blk.wrs, Blk.lives]

def CellsRel (ρ : Map) (cs : List Value) (c : Array Value) (co : Nat) : Prop :=
  co + cs.length ≤ c.size ∧ ∀ (i : Nat) v, cs[i]? = some v → ∃ u, c[co + i]? = some u ∧ VRel ρ v u

def BRel (ρ : Map) (p : Pl) (x : Blk) (w : World) : Prop :=
  match x with
  | .dead => True
  | .cells _ cs wr => ∃ c e lo hi, w.heap[p.cb]? = some (.cells c e (lo, hi)) ∧ c.size = p.size ∧ CellsRel ρ cs c p.co ∧ (wr = true → ∀ i, i < c.size → ¬ (lo ≤ i ∧ i < hi))
  | .map es => ∃ es' clock, w.heap[p.cb]? = some (.map es' clock) ∧ Both (fun (e : Value × Value) (e' : MapEntry) => e.1 = e'.key ∧ VRel ρ e.2 e'.val) es es'.toList

structure Rel (ρ : Map) (g : Nat → Option Blk) (w : World) : Prop where
  blk : ∀ b p x, ρ b = some p → g b = some x → BRel ρ p x w
  apart : ∀ b b' p p' x x', ρ b = some p → ρ b' = some p' → g b = some x → g b' = some x' → x.wrs = true → x'.lives = true → b ≠ b' → p.cb ≠ p'.cb
  lt : ∀ b p, ρ b = some p → p.cb < w.heap.size

structure Inv (ρ : Map) (m : Mem) (w : World) : Prop where
  rel : Rel ρ m.get w
  dom : ∀ b p, ρ b = some p → b < m.next
  small : m.next ≤ 1000000001

/-- What a run may have turned. -/
structure Frm (ρ : Map) (m : Mem) (w : World) (ρ' : Map) (m' : Mem) (w' : World) : Prop where
  os : w'.os = w.os
  tape : w'.tape = w.tape
  output : w'.output = w.output
  size : w.heap.size ≤ w'.heap.size
  next : m.next ≤ m'.next
  old : ∀ b, b < m.next → ρ' b = ρ b
  hid : ∀ b, b < m.next → ρ b = none → m'.get b = m.get b
  still : ∀ b, b < m.next → (∀ x, m.get b = some x → x.wrs = false) → m'.get b = m.get b
  keep : ∀ i, i < w.heap.size → (∀ b p x, ρ b = some p → m.get b = some x → x.wrs = true → p.cb ≠ i) → w'.heap[i]? = w.heap[i]?
  new : ∀ b p x, m.next ≤ b → ρ' b = some p → m'.get b = some x → x.lives = true →
    w.heap.size ≤ p.cb ∨ ∃ b0 p0 x0, ρ b0 = some p0 ∧ m.get b0 = some x0 ∧ x0.wrs = true ∧ p0.cb = p.cb

theorem Frm.refl {ρ : Map} {m : Mem} {w : World} (hd : ∀ b p, ρ b = some p → b < m.next) : Frm ρ m w ρ m w where
  os := rfl
  tape := rfl
  output := rfl
  size := Nat.le_refl _
  next := Nat.le_refl _
  old := fun _ _ => rfl
  hid := fun _ _ _ => rfl
  still := fun _ _ _ => rfl
  keep := fun _ _ _ => rfl
  new := fun b p x hb hp _ _ => absurd (hd b p hp) (by omega)

theorem Frm.trans {ρ ρ1 ρ2 : Map} {m m1 m2 : Mem} {w w1 w2 : World} (hd : ∀ b p, ρ b = some p → b < m.next) (h : Frm ρ m w ρ1 m1 w1) (k : Frm ρ1 m1 w1 ρ2 m2 w2) : Frm ρ m w ρ2 m2 w2 where
  os := k.os.trans h.os
  tape := k.tape.trans h.tape
  output := k.output.trans h.output
  size := Nat.le_trans h.size k.size
  next := Nat.le_trans h.next k.next
  old := fun b hb => (k.old b (Nat.lt_of_lt_of_le hb h.next)).trans (h.old b hb)
  hid := fun b hb hn => (k.hid b (Nat.lt_of_lt_of_le hb h.next) ((h.old b hb).trans hn)).trans (h.hid b hb hn)
  still := fun b hb hx => by
    have e := h.still b hb hx
    refine (k.still b (Nat.lt_of_lt_of_le hb h.next) ?_).trans e
    rw [e]; exact hx
  keep := fun i hi hx => by
    refine (k.keep i (Nat.lt_of_lt_of_le hi h.size) ?_).trans (h.keep i hi hx)
    intro b p x hp hg hw e
    rcases Nat.lt_or_ge b m.next with hb | hb
    · have hp0 : ρ b = some p := (h.old b hb).symm.trans hp
      by_cases hex : ∃ y, m.get b = some y ∧ y.wrs = true
      · obtain ⟨y, hy, hyw⟩ := hex
        exact hx b p y hp0 hy hyw e
      · have := h.still b hb (fun y hy => by
          cases hyw : y.wrs with
          | false => rfl
          | true => exact absurd ⟨y, hy, hyw⟩ hex)
        rw [this] at hg
        exact hex ⟨x, hg, hw⟩
    · rcases h.new b p x hb hp hg (Blk.lives_of_wrs hw) with h' | ⟨b0, p0, x0, h1, h2, h3, h4⟩
      · omega
      · exact hx b0 p0 x0 h1 h2 h3 (h4.trans e)
  new := fun b p x hb hp hg hw => by
    have owned : ∀ b1 p1 x1, ρ1 b1 = some p1 → m1.get b1 = some x1 → x1.wrs = true →
        w.heap.size ≤ p1.cb ∨ ∃ b0 p0 x0, ρ b0 = some p0 ∧ m.get b0 = some x0 ∧ x0.wrs = true ∧ p0.cb = p1.cb := by
      intro b1 p1 x1 h1 h2 h3
      rcases Nat.lt_or_ge b1 m.next with hb1 | hb1
      · have hp0 : ρ b1 = some p1 := (h.old b1 hb1).symm.trans h1
        by_cases hex : ∃ y, m.get b1 = some y ∧ y.wrs = true
        · obtain ⟨y, hy, hyw⟩ := hex
          exact .inr ⟨b1, p1, y, hp0, hy, hyw, rfl⟩
        · have := h.still b1 hb1 (fun y hy => by
            cases hyw : y.wrs with
            | false => rfl
            | true => exact absurd ⟨y, hy, hyw⟩ hex)
          rw [this] at h2
          exact absurd ⟨x1, h2, h3⟩ hex
      · exact h.new b1 p1 x1 hb1 h1 h2 (Blk.lives_of_wrs h3)
    rcases Nat.lt_or_ge b m1.next with hb1 | hb1
    · have hp1 : ρ1 b = some p := (k.old b hb1).symm.trans hp
      by_cases hex : ∃ y, m1.get b = some y ∧ y.wrs = true
      · obtain ⟨y, hy, hyw⟩ := hex
        exact owned b p y hp1 hy hyw
      · have := k.still b hb1 (fun y hy => by
          cases hyw : y.wrs with
          | false => rfl
          | true => exact absurd ⟨y, hy, hyw⟩ hex)
        rw [this] at hg
        exact h.new b p x hb hp1 hg hw
    · rcases k.new b p x hb1 hp hg hw with h' | ⟨b0, p0, x0, h1, h2, h3, h4⟩
      · exact .inl (Nat.le_trans h.size h')
      · rw [← h4]
        exact owned b0 p0 x0 h1 h2 h3

/-- One block of the machine's has turned. -/
structure Turned (w w' : World) (i : Nat) : Prop where
  os : w'.os = w.os
  tape : w'.tape = w.tape
  output : w'.output = w.output
  size : w'.heap.size = w.heap.size
  other : ∀ k, k ≠ i → w'.heap[k]? = w.heap[k]?

theorem CellsRel.mono {ρ ρ' : Map} (h : ρ.Le ρ') {cs : List Value} {c : Array Value} {co : Nat} (hc : CellsRel ρ cs c co) : CellsRel ρ' cs c co :=
  ⟨hc.1, fun i v hv => let ⟨u, hu, hr⟩ := hc.2 i v hv; ⟨u, hu, hr.mono h⟩⟩

theorem Both.imp {α β : Type} {R S : α → β → Prop} (h : ∀ x y, R x y → S x y) {l : List α} {r : List β} (hb : Both R l r) : Both S l r := by
  induction hb with
  | nil => exact .nil
  | cons hx _ ih => exact .cons (h _ _ hx) ih

theorem BRel.mono {ρ ρ' : Map} (h : ρ.Le ρ') {p : Pl} {x : Blk} {w w' : World} (hw : w'.heap[p.cb]? = w.heap[p.cb]?) (hb : BRel ρ p x w) : BRel ρ' p x w' := by
  cases x with
  | dead => trivial
  | cells e cs wr =>
    obtain ⟨c, e', lo, hi, h1, h2, h3, h4⟩ := hb
    exact ⟨c, e', lo, hi, hw.trans h1, h2, h3.mono h, h4⟩
  | map es =>
    obtain ⟨es', clock, h1, h2⟩ := hb
    exact ⟨es', clock, hw.trans h1, h2.imp fun _ _ h' => ⟨h'.1, h'.2.mono h⟩⟩

theorem Map.Le.refl (ρ : Map) : ρ.Le ρ := fun _ _ h => h

/-- A block of the abstract memory's is written, and what stands for it. -/
theorem put_inv {ρ : Map} {m : Mem} {w w' : World} {b : Nat} {p : Pl} {x x' : Blk} (hi : Inv ρ m w) (hp : ρ b = some p) (hx : m.get b = some x) (hw : x.wrs = true)
    (ht : Turned w w' p.cb) (hr : BRel ρ p x' w') : Inv ρ (m.put b x') w' ∧ Frm ρ m w ρ (m.put b x') w' := by
  have hsm : b + 1 < 2 ^ 40 := by have := hi.dom b p hp; have := hi.small; omega
  have hg := fun c => m.get_put b x' c hsm
  constructor
  · refine ⟨⟨?_, ?_, ?_⟩, hi.dom, hi.small⟩
    · intro c q y hq hy
      rw [hg] at hy
      by_cases hc : c = b
      · subst hc
        simp only [if_true, Option.some.injEq] at hy
        subst hy
        rw [hp] at hq
        obtain rfl := Option.some.inj hq
        exact hr
      · rw [if_neg hc] at hy
        cases hl : y.lives with
        | false => cases y <;> simp [Blk.lives] at hl; trivial
        | true =>
          have := hi.rel.apart b c p q x y hp hq hx hy hw hl (Ne.symm hc)
          exact (hi.rel.blk c q y hq hy).mono (Map.Le.refl _) (ht.other _ (Ne.symm this))
    · intro c c' q q' y y' hq hq' hy hy' hyw hyl hne
      rw [hg] at hy hy'
      by_cases hc : c = b
      · subst hc
        rw [if_neg (Ne.symm hne)] at hy'
        rw [hp] at hq
        obtain rfl := Option.some.inj hq
        exact hi.rel.apart c c' p q' x y' hp hq' hx hy' hw hyl hne
      · rw [if_neg hc] at hy
        by_cases hc' : c' = b
        · subst hc'
          rw [hp] at hq'
          obtain rfl := Option.some.inj hq'
          exact hi.rel.apart c c' q p y x hq hp hy hx hyw (Blk.lives_of_wrs hw) hne
        · rw [if_neg hc'] at hy'
          exact hi.rel.apart c c' q q' y y' hq hq' hy hy' hyw hyl hne
    · intro c q hq
      rw [ht.size]
      exact hi.rel.lt c q hq
  · exact {
      os := ht.os
      tape := ht.tape
      output := ht.output
      size := Nat.le_of_eq ht.size.symm
      next := Nat.le_refl _
      old := fun _ _ => rfl
      hid := fun c _ hn => by
        rw [hg, if_neg]
        intro e; subst e; rw [hp] at hn; cases hn
      still := fun c _ hc => by
        rw [hg, if_neg]
        intro e; subst e; rw [hc x hx] at hw; cases hw
      keep := fun i _ hk => ht.other i (Ne.symm (hk b p x hp hx hw))
      new := fun c q _ hc hq _ _ => absurd (hi.dom c q hq) (by
        have : (m.put b x').next = m.next := rfl
        omega) }

def Map.with (ρ : Map) (b : Nat) (p : Pl) : Map := fun c => if c = b then some p else ρ c

theorem Map.with_self (ρ : Map) (b : Nat) (p : Pl) : ρ.with b p b = some p := by simp [Map.with]
theorem Map.with_other (ρ : Map) {b c : Nat} (p : Pl) (h : c ≠ b) : ρ.with b p c = ρ c := by simp [Map.with, h]
theorem Map.le_with {ρ : Map} {b : Nat} {p : Pl} (h : ρ b = none) : ρ.Le (ρ.with b p) := fun c q hq => by
  rw [Map.with_other]
  · exact hq
  · intro e; subst e; rw [h] at hq; cases hq

theorem Inv.free {ρ : Map} {m : Mem} {w : World} (hi : Inv ρ m w) : ρ m.next = none := by
  cases h : ρ m.next with
  | none => rfl
  | some p => exact absurd (hi.dom _ _ h) (Nat.lt_irrefl _)

/-- A world that has grown by blocks: the old ones stand. -/
structure Grew (w w' : World) : Prop where
  os : w'.os = w.os
  tape : w'.tape = w.tape
  output : w'.output = w.output
  size : w.heap.size ≤ w'.heap.size
  old : ∀ k, k < w.heap.size → w'.heap[k]? = w.heap[k]?

/-- A new block on both sides. -/
theorem push_inv {ρ : Map} {m m' : Mem} {w w' : World} {p : Pl} {x : Blk} (hi : Inv ρ m w) (hm : m.push x = some m') (hg : Grew w w') (hp : w.heap.size ≤ p.cb) (hp' : p.cb < w'.heap.size)
    (hr : BRel (ρ.with m.next p) p x w') : Inv (ρ.with m.next p) m' w' ∧ Frm ρ m w (ρ.with m.next p) m' w' := by
  obtain ⟨hs, hn, hget⟩ := Mem.push_some hm
  have hfree := hi.free
  have hle : ρ.Le (ρ.with m.next p) := Map.le_with hfree
  constructor
  · refine ⟨⟨?_, ?_, ?_⟩, ?_, by omega⟩
    · intro c q y hq hy
      rw [hget] at hy
      by_cases hc : c = m.next
      · subst hc
        rw [Map.with_self] at hq
        obtain rfl := Option.some.inj hq
        simp only [if_true, Option.some.injEq] at hy
        subst hy
        exact hr
      · rw [if_neg hc] at hy
        rw [Map.with_other _ _ hc] at hq
        exact (hi.rel.blk c q y hq hy).mono hle (hg.old _ (hi.rel.lt c q hq))
    · intro c c' q q' y y' hq hq' hy hy' hyw hyl hne
      rw [hget] at hy hy'
      by_cases hc : c = m.next
      · subst hc
        rw [Map.with_self] at hq
        obtain rfl := Option.some.inj hq
        rw [Map.with_other _ _ (Ne.symm hne)] at hq'
        have := hi.rel.lt c' q' hq'
        omega
      · rw [if_neg hc] at hy
        rw [Map.with_other _ _ hc] at hq
        by_cases hc' : c' = m.next
        · subst hc'
          rw [Map.with_self] at hq'
          obtain rfl := Option.some.inj hq'
          have := hi.rel.lt c q hq
          omega
        · rw [if_neg hc'] at hy'
          rw [Map.with_other _ _ hc'] at hq'
          exact hi.rel.apart c c' q q' y y' hq hq' hy hy' hyw hyl hne
    · intro c q hq
      by_cases hc : c = m.next
      · subst hc
        rw [Map.with_self] at hq
        obtain rfl := Option.some.inj hq
        exact hp'
      · rw [Map.with_other _ _ hc] at hq
        have := hi.rel.lt c q hq
        have := hg.size
        omega
    · intro c q hq
      by_cases hc : c = m.next
      · omega
      · rw [Map.with_other _ _ hc] at hq
        have := hi.dom c q hq
        omega
  · exact {
      os := hg.os
      tape := hg.tape
      output := hg.output
      size := hg.size
      next := by omega
      old := fun c hc => Map.with_other _ _ (by omega)
      hid := fun c hc _ => by rw [hget, if_neg (by omega)]
      still := fun c hc _ => by rw [hget, if_neg (by omega)]
      keep := fun i hi' _ => hg.old i hi'
      new := fun c q y hc hq hy _ => by
        by_cases hc' : c = m.next
        · subst hc'
          rw [Map.with_self] at hq
          obtain rfl := Option.some.inj hq
          exact .inl hp
        · rw [Map.with_other _ _ hc'] at hq
          exact absurd (hi.dom c q hq) (by omega) }

/-- An append in place: the old block is dead, the new one stands where it stood. -/
theorem move_inv {ρ : Map} {m m' : Mem} {w w' : World} {b : Nat} {p p' : Pl} {x x' : Blk} (hi : Inv ρ m w) (hp : ρ b = some p) (hx : m.get b = some x) (hw : x.wrs = true)
    (hm : (m.put b .dead).push x' = some m') (ht : Turned w w' p.cb) (hpp : p'.cb = p.cb) (hr : BRel (ρ.with m.next p') p' x' w') :
    Inv (ρ.with m.next p') m' w' ∧ Frm ρ m w (ρ.with m.next p') m' w' := by
  have hb : b < m.next := hi.dom b p hp
  have hsm : b + 1 < 2 ^ 40 := by have := hi.small; omega
  obtain ⟨hs, hn, hget0⟩ := Mem.push_some hm
  have hnx : (m.put b .dead).next = m.next := rfl
  rw [hnx] at hs hn hget0
  have hget : ∀ c, m'.get c = if c = m.next then some x' else if c = b then some .dead else m.get c := fun c => by
    rw [hget0, m.get_put b _ c hsm]
  have hfree := hi.free
  have hle : ρ.Le (ρ.with m.next p') := Map.le_with hfree
  have hlt := hi.rel.lt b p hp
  constructor
  · refine ⟨⟨?_, ?_, ?_⟩, ?_, by omega⟩
    · intro c q y hq hy
      rw [hget] at hy
      by_cases hc : c = m.next
      · subst hc
        rw [Map.with_self] at hq
        obtain rfl := Option.some.inj hq
        simp only [if_true, Option.some.injEq] at hy
        subst hy
        exact hr
      · rw [if_neg hc] at hy
        rw [Map.with_other _ _ hc] at hq
        by_cases hcb : c = b
        · rw [if_pos hcb] at hy
          obtain rfl := Option.some.inj hy
          trivial
        · rw [if_neg hcb] at hy
          cases hl : y.lives with
          | false => cases y <;> simp [Blk.lives] at hl; trivial
          | true =>
            have := hi.rel.apart b c p q x y hp hq hx hy hw hl (Ne.symm hcb)
            exact (hi.rel.blk c q y hq hy).mono hle (ht.other _ (Ne.symm this))
    · intro c c' q q' y y' hq hq' hy hy' hyw hyl hne
      rw [hget] at hy hy'
      by_cases hc : c = m.next
      · subst hc
        rw [Map.with_self] at hq
        obtain rfl := Option.some.inj hq
        rw [if_neg (Ne.symm hne)] at hy'
        rw [Map.with_other _ _ (Ne.symm hne)] at hq'
        by_cases hcb : c' = b
        · rw [if_pos hcb] at hy'
          obtain rfl := Option.some.inj hy'
          simp [Blk.lives] at hyl
        · rw [if_neg hcb] at hy'
          rw [hpp]
          exact hi.rel.apart b c' p q' x y' hp hq' hx hy' hw hyl (Ne.symm hcb)
      · rw [if_neg hc] at hy
        rw [Map.with_other _ _ hc] at hq
        by_cases hcb : c = b
        · rw [if_pos hcb] at hy
          obtain rfl := Option.some.inj hy
          simp [Blk.wrs] at hyw
        · rw [if_neg hcb] at hy
          by_cases hc' : c' = m.next
          · subst hc'
            rw [Map.with_self] at hq'
            obtain rfl := Option.some.inj hq'
            rw [hpp]
            exact hi.rel.apart c b q p y x hq hp hy hx hyw (Blk.lives_of_wrs hw) hcb
          · rw [if_neg hc'] at hy'
            rw [Map.with_other _ _ hc'] at hq'
            by_cases hcb' : c' = b
            · rw [if_pos hcb'] at hy'
              obtain rfl := Option.some.inj hy'
              simp [Blk.lives] at hyl
            · rw [if_neg hcb'] at hy'
              exact hi.rel.apart c c' q q' y y' hq hq' hy hy' hyw hyl hne
    · intro c q hq
      rw [ht.size]
      by_cases hc : c = m.next
      · subst hc
        rw [Map.with_self] at hq
        obtain rfl := Option.some.inj hq
        omega
      · rw [Map.with_other _ _ hc] at hq
        exact hi.rel.lt c q hq
    · intro c q hq
      by_cases hc : c = m.next
      · omega
      · rw [Map.with_other _ _ hc] at hq
        have := hi.dom c q hq
        omega
  · exact {
      os := ht.os
      tape := ht.tape
      output := ht.output
      size := Nat.le_of_eq ht.size.symm
      next := by omega
      old := fun c hc => Map.with_other _ _ (by omega)
      hid := fun c hc hnone => by
        rw [hget, if_neg (by omega), if_neg]
        intro e; subst e; rw [hp] at hnone; cases hnone
      still := fun c hc hcx => by
        rw [hget, if_neg (by omega), if_neg]
        intro e; subst e; rw [hcx x hx] at hw; cases hw
      keep := fun i _ hk => ht.other i (Ne.symm (hk b p x hp hx hw))
      new := fun c q y hc hq hy _ => by
        by_cases hc' : c = m.next
        · subst hc'
          rw [Map.with_self] at hq
          obtain rfl := Option.some.inj hq
          exact .inr ⟨b, p, x, hp, hx, hw, hpp.symm⟩
        · rw [Map.with_other _ _ hc'] at hq
          exact absurd (hi.dom c q hq) (by omega) }

/-- The same heap. -/
theorem same_inv {ρ : Map} {m : Mem} {w w' : World} (hi : Inv ρ m w) (hh : w'.heap = w.heap) : Inv ρ m w' := by
  refine ⟨⟨?_, hi.rel.apart, ?_⟩, hi.dom, hi.small⟩
  · intro c q y hq hy
    exact (hi.rel.blk c q y hq hy).mono (Map.Le.refl _) (by rw [hh])
  · intro c q hq
    rw [hh]
    exact hi.rel.lt c q hq

end Go.AM
