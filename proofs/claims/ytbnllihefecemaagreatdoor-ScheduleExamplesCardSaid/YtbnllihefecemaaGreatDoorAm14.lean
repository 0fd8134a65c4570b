/-
  The abstract machine and the machine: regions that draw their order. Part three: an operation that turns memory; the region.
-/
import Derived.Test.YtbnllihefecemaaGreatDoorAm13
set_option linter.unusedSimpArgs false
set_option linter.unusedVariables false
namespace Go.AM
open Go

variable {P : Program} {rec : Task → Option Res} {ops : Array Oper} {S : Nat → St} {nt : Nat} {ρ0 ρ : Map} {w0 w : World} {l : Array Bool} {j k : Nat} {a : Act}

theorem Trace.at_skip (ht : Trace P rec ops S) (hc : CallsLater rec) {j j' : Nat} (hjj : j ≤ j') (hj : j' ≤ ops.size) {b : Nat} (h1 : (S j').mem.next ≤ b) (h2 : b < (S ops.size).mem.next) : at_ ops S j b = at_ ops S j' b := by
  obtain ⟨f1, f2, f3, f4⟩ := ht.at_spec hc (j := j) (by omega) b
  obtain ⟨g1, g2, g3, g4⟩ := ht.at_spec hc hj b
  have hb := f4 h2
  have hb' := g4 h2
  have hge : j' ≤ at_ ops S j b := by
    rcases Nat.lt_or_ge (at_ ops S j b) j' with h | h
    · have := ht.next_le hc (show at_ ops S j b ≤ j' by omega) hj
      omega
    · exact h
  rcases Nat.lt_trichotomy (at_ ops S j b) (at_ ops S j' b) with h | h | h
  · have := g3 _ hge h
    omega
  · exact h
  · have := f3 _ (by omega) h
    omega

/-- An operation that turns memory. -/
theorem DI.turned (h : DI P ops S nt ρ0 w0 l j ρ a w) (ht : Trace P rec ops S) (hc : CallsLater rec) (hd : drawOk P ops = true) (hn : nt ≤ 1000000) (hdst : ∀ (i : Nat) (o : Oper), ops[i]? = some o → ∀ d, o.dst = some d → d < nt)
    {o : Oper} (hk : k ∈ Region.ready .any ops l) (ho : ops[k]? = some o) (hw : W P ops S k) {v c : Value} (htm : (S (k + 1)).tm = putAt (S k).tm o.dst v) {ρ1 : Map} {w' : World}
    (hi : Inv ρ1 (S (k + 1)).mem w') (hf : Frm (ρ.below (S k).mem.next) (S k).mem w ρ1 (S (k + 1)).mem w') (hv : VRel ρ1 v c) :
    DI P ops S nt ρ0 w0 (l.setIfInBounds k true) (k + 1) (fun b => if b < (S (k + 1)).mem.next then ρ1 b else ρ b) (a.put o.dst c) w' := by
  obtain ⟨hks, hkd, _⟩ := ready_spec h.size hk
  have hkl : k < l.size := by have := h.size; omega
  have hjk : j ≤ k := by
    rcases Nat.lt_or_ge k j with h' | h'
    · exact absurd (h.done k h' hw) hkd
    · exact h'
  have hnw : ∀ q, j ≤ q → q < k → ¬ W P ops S q := by
    intro q h1 h2 h3
    obtain ⟨oq, g1, g2, g3⟩ := h3
    obtain ⟨o', e1, e2, e3⟩ := hw
    exact h.undone q h1 ⟨oq, g1, g2, g3⟩ (ready_bef h.size h.closed hk (drawOk_w hd h2 g1 e1 g2 e2))
  have n0k : (S 0).mem.next ≤ (S k).mem.next := ht.next_le hc (by omega) (by omega)
  have nkk : (S k).mem.next ≤ (S (k + 1)).mem.next := ht.next_le hc (by omega) (by omega)
  have nkn : (S (k + 1)).mem.next ≤ (S ops.size).mem.next := ht.next_le hc (by omega) (Nat.le_refl _)
  have hbelow : ∀ b, b < (S k).mem.next → ρ.below (S k).mem.next b = ρ b := fun b hb => by simp [Map.below, hb]
  have hnone : ∀ b, (S k).mem.next ≤ b → b < (S (k + 1)).mem.next → ρ b = none := fun b h1 h2 => (h.hid k hks hkd b h1 h2).1
  have hold : ∀ b, b < (S k).mem.next → ρ1 b = ρ b := fun b hb => (hf.old b hb).trans (hbelow b hb)
  have hle : ρ.Le (fun b => if b < (S (k + 1)).mem.next then ρ1 b else ρ b) := by
    intro b p hp
    by_cases e : b < (S (k + 1)).mem.next
    · simp only [e, if_true]
      rcases Nat.lt_or_ge b (S k).mem.next with h' | h'
      · rw [hold b h']; exact hp
      · rw [hnone b h' e] at hp; cases hp
    · simp only [e, if_false]; exact hp
  have hle1 : ρ1.Le (Map.below (fun b => if b < (S (k + 1)).mem.next then ρ1 b else ρ b) (S (k + 1)).mem.next) := by
    intro b p hp
    have hb := hi.dom b p hp
    exact Map.below_some.2 ⟨hb, by simp only [hb, if_true]; exact hp⟩
  have early : ∀ b, (S (k + 1)).mem.next ≤ b → b < (S ops.size).mem.next → at_ ops S (k + 1) b = at_ ops S j b := fun b h1 h2 => (ht.at_skip hc (by omega) (by omega) h1 h2).symm
  have atk : ∀ b, b < (S (k + 1)).mem.next → at_ ops S (k + 1) b = k + 1 := fun b hb => ht.at_lt hc (by omega) hb
  have cont : ∀ b, b < (S k).mem.next → (S (at_ ops S j b)).mem.get b = (S k).mem.get b := fun b hb => (ht.at_later hc hjk (by omega) hnw hb).2.2.symm
  have sj0 : ∀ b, b < (S 0).mem.next → (S k).mem.get b = (S j).mem.get b := fun b hb =>
    ht.keep hc hjk (by omega) hnw (Nat.lt_of_lt_of_le hb (ht.next_le hc (by omega) (by have := h.le; omega)))
  -- what can be written ahead of the operation was so at the start, or is new
  have owned : ∀ b0 p0 x0, ρ b0 = some p0 → b0 < (S k).mem.next → (S k).mem.get b0 = some x0 → x0.wrs = true → w0.heap.size ≤ p0.cb ∨ Owned0 S ρ0 p0.cb := by
    intro b0 p0 x0 h1 h2 h3 h4
    rcases Nat.lt_or_ge b0 (S 0).mem.next with h5 | h5
    · by_cases hex : ∃ y, (S 0).mem.get b0 = some y ∧ y.wrs = true
      · obtain ⟨y, hy, hyw⟩ := hex
        exact .inr ⟨b0, p0, y, by rw [← h.old b0 h5]; exact h1, hy, hyw, rfl⟩
      · have := h.fstill b0 h5 (fun y hy => by
          cases hyw : y.wrs with
          | false => rfl
          | true => exact absurd ⟨y, hy, hyw⟩ hex)
        rw [sj0 b0 h5, this] at h3
        exact absurd ⟨x0, h3, h4⟩ hex
    · exact h.fnew b0 p0 x0 h5 h1 (by rw [cont b0 h2]; exact h3) (Blk.lives_of_wrs h4)
  -- what can be written behind it could be written ahead of it
  have was : ∀ b x, b < (S k).mem.next → (S (k + 1)).mem.get b = some x → x.wrs = true → ∃ y, (S k).mem.get b = some y ∧ y.wrs = true := by
    intro b x h1 h2 h3
    by_cases hex : ∃ y, (S k).mem.get b = some y ∧ y.wrs = true
    · exact hex
    · have := hf.still b h1 (fun y hy => by
        cases hyw : y.wrs with
        | false => rfl
        | true => exact absurd ⟨y, hy, hyw⟩ hex)
      rw [this] at h2
      exact ⟨x, h2, h3⟩
  have lived : ∀ b x, b < (S k).mem.next → (S (k + 1)).mem.get b = some x → x.lives = true → ∃ y, (S k).mem.get b = some y ∧ y.lives = true := by
    intro b x h1 h2 h3
    by_cases hex : ∃ y, (S k).mem.get b = some y ∧ y.wrs = true
    · obtain ⟨y, hy, hyw⟩ := hex
      exact ⟨y, hy, Blk.lives_of_wrs hyw⟩
    · have := hf.still b h1 (fun y hy => by
        cases hyw : y.wrs with
        | false => rfl
        | true => exact absurd ⟨y, hy, hyw⟩ hex)
      rw [this] at h2
      exact ⟨x, h2, h3⟩
  have keepAt : ∀ b p x, ρ b = some p → (S (k + 1)).mem.next ≤ b → (S (at_ ops S j b)).mem.get b = some x → x.lives = true → w'.heap[p.cb]? = w.heap[p.cb]? := by
    intro b p x h1 h2 h3 h4
    refine hf.keep p.cb (h.lt b p h1) fun b0 p0 x0 g1 g2 g3 => ?_
    obtain ⟨g4, g5⟩ := Map.below_some.1 g1
    exact h.apart b0 b p0 p x0 x g5 h1 (by rw [cont b0 g4]; exact g2) h3 g3 h4 (by omega)
  have wsz := h.wsize
  have fsz := hf.size
  exact {
    size := by simp [h.size]
    closed := closed_set h.size h.closed hk
    le := by omega
    least := .inr hw
    done := fun i h1 h2 => by
      rw [done_set hkl]
      by_cases e : i = k
      · exact .inl e
      · refine .inr ?_
        rcases Nat.lt_or_ge i j with h3 | h3
        · exact h.done i h3 h2
        · exact absurd h2 (hnw i h3 (by omega))
    undone := fun i h1 h2 hdone => by
      rcases (done_set hkl).1 hdone with rfl | hdone
      · omega
      · exact h.undone i (by omega) h2 hdone
    slots := h.slots_step ht hc hd hn hdst hk ho hle htm (hv.mono hle1)
    tsize := by
      cases hds : o.dst with
      | none => exact h.tsize
      | some d => simp [Act.put]; exact h.tsize
    defers := by cases hds : o.dst <;> simp [Act.put, h.defers]
    blk := fun b p x hp hx => by
      by_cases e : b < (S (k + 1)).mem.next
      · simp only [e, if_true] at hp
        rw [atk b e] at hx ⊢
        exact (hi.rel.blk b p x hp hx).mono hle1 rfl
      · simp only [e, if_false] at hp
        have hb := h.dom b p hp
        rw [early b (by omega) hb] at hx ⊢
        cases hl : x.lives with
        | false => cases x <;> simp [Blk.lives] at hl; trivial
        | true => exact (h.blk b p x hp hx).mono (Map.below_mono hle (Nat.le_refl _)) (keepAt b p x hp (by omega) hx hl)
    apart := fun b b' p p' x x' hp hp' hx hx' hxw hxl hne => by
      by_cases e : b < (S (k + 1)).mem.next <;> by_cases e' : b' < (S (k + 1)).mem.next
      · simp only [e, if_true] at hp
        simp only [e', if_true] at hp'
        rw [atk b e] at hx
        rw [atk b' e'] at hx'
        exact hi.rel.apart b b' p p' x x' hp hp' hx hx' hxw hxl hne
      · simp only [e, if_true] at hp
        simp only [e', if_false] at hp'
        rw [atk b e] at hx
        rw [early b' (by omega) (h.dom b' p' hp')] at hx'
        rcases Nat.lt_or_ge b (S k).mem.next with h1 | h1
        · obtain ⟨y, hy, hyw⟩ := was b x h1 hx hxw
          rw [hold b h1] at hp
          exact h.apart b b' p p' y x' hp hp' (by rw [cont b h1]; exact hy) hx' hyw hxl hne
        · rcases hf.new b p x h1 hp hx (Blk.lives_of_wrs hxw) with h2 | ⟨b0, p0, x0, g1, g2, g3, g4⟩
          · have := h.lt b' p' hp'
            omega
          · obtain ⟨g5, g6⟩ := Map.below_some.1 g1
            rw [← g4]
            exact h.apart b0 b' p0 p' x0 x' g6 hp' (by rw [cont b0 g5]; exact g2) hx' g3 hxl (by omega)
      · simp only [e, if_false] at hp
        simp only [e', if_true] at hp'
        rw [early b (by omega) (h.dom b p hp)] at hx
        rw [atk b' e'] at hx'
        rcases Nat.lt_or_ge b' (S k).mem.next with h1 | h1
        · obtain ⟨y, hy, hyl⟩ := lived b' x' h1 hx' hxl
          rw [hold b' h1] at hp'
          exact h.apart b b' p p' x y hp hp' hx (by rw [cont b' h1]; exact hy) hxw hyl hne
        · rcases hf.new b' p' x' h1 hp' hx' hxl with h2 | ⟨b0, p0, x0, g1, g2, g3, g4⟩
          · have := h.lt b p hp
            omega
          · obtain ⟨g5, g6⟩ := Map.below_some.1 g1
            rw [← g4]
            exact h.apart b b0 p p0 x x0 hp g6 hx (by rw [cont b0 g5]; exact g2) hxw (Blk.lives_of_wrs g3) (by omega)
      · simp only [e, if_false] at hp
        simp only [e', if_false] at hp'
        rw [early b (by omega) (h.dom b p hp)] at hx
        rw [early b' (by omega) (h.dom b' p' hp')] at hx'
        exact h.apart b b' p p' x x' hp hp' hx hx' hxw hxl hne
    lt := fun b p hp => by
      by_cases e : b < (S (k + 1)).mem.next
      · simp only [e, if_true] at hp
        exact hi.rel.lt b p hp
      · simp only [e, if_false] at hp
        have := h.lt b p hp
        omega
    dom := fun b p hp => by
      by_cases e : b < (S (k + 1)).mem.next
      · omega
      · simp only [e, if_false] at hp
        exact h.dom b p hp
    hid := fun i h1 h2 b h3 h4 => by
      have hik : i ≠ k := fun e => h2 ((done_set hkl).2 (.inl e))
      have hh := h.hid i h1 (fun hdone => h2 ((done_set hkl).2 (.inr hdone))) b h3 h4
      rcases Nat.lt_or_ge i k with hlt | hge
      · have n1 := ht.next_le hc (show i + 1 ≤ k by omega) (by omega)
        have hbk : b < (S k).mem.next := by omega
        have hbk1 : b < (S (k + 1)).mem.next := by omega
        refine ⟨by simp only [hbk1, if_true]; rw [hold b hbk]; exact hh.1, ?_⟩
        rw [atk b hbk1, hf.hid b hbk (by rw [hbelow b hbk]; exact hh.1), ← cont b hbk]
        exact hh.2
      · have n1 := ht.next_le hc (show k + 1 ≤ i by omega) (by omega)
        have hbk1 : ¬ b < (S (k + 1)).mem.next := by omega
        refine ⟨by simp only [hbk1, if_false]; exact hh.1, ?_⟩
        rw [ht.at_born hc (show k + 1 ≤ i + 1 by omega) h1 h3 h4]
    old := fun b hb => by
      have : b < (S (k + 1)).mem.next := by omega
      simp only [this, if_true]
      rw [hold b (by omega)]
      exact h.old b hb
    os := hf.os.trans h.os
    tape := hf.tape.trans h.tape
    output := hf.output.trans h.output
    wsize := by omega
    fhid := fun b hb hn => by
      have hbk : b < (S k).mem.next := by omega
      rw [hf.hid b hbk (by rw [hbelow b hbk, h.old b hb]; exact hn), sj0 b hb]
      exact h.fhid b hb hn
    fstill := fun b hb hx => by
      have hbk : b < (S k).mem.next := by omega
      have e := (sj0 b hb).trans (h.fstill b hb hx)
      rw [hf.still b hbk (by rw [e]; exact hx)]
      exact e
    fkeep := fun i h1 h2 => by
      refine (hf.keep i (by omega) fun b0 p0 x0 g1 g2 g3 e => ?_).trans (h.fkeep i h1 h2)
      obtain ⟨g4, g5⟩ := Map.below_some.1 g1
      rcases owned b0 p0 x0 g5 g4 g2 g3 with h3 | h3
      · omega
      · rw [e] at h3; exact h2 h3
    fnew := fun b p x h1 hp hx hxw => by
      by_cases e : b < (S (k + 1)).mem.next
      · simp only [e, if_true] at hp
        rw [atk b e] at hx
        rcases Nat.lt_or_ge b (S k).mem.next with h2 | h2
        · obtain ⟨y, hy, hyw⟩ := lived b x h2 hx hxw
          rw [hold b h2] at hp
          exact h.fnew b p y h1 hp (by rw [cont b h2]; exact hy) hyw
        · rcases hf.new b p x h2 hp hx hxw with h3 | ⟨b0, p0, x0, g1, g2, g3, g4⟩
          · exact .inl (by omega)
          · obtain ⟨g5, g6⟩ := Map.below_some.1 g1
            rw [← g4]
            exact owned b0 p0 x0 g6 g5 g2 g3
      · simp only [e, if_false] at hp
        rw [early b (by omega) (h.dom b p hp)] at hx
        exact h.fnew b p x h1 hp hx hxw }

end Go.AM
