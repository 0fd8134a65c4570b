/-
  A long run in stages: a state may be exchanged for a smaller one that reads the same.
-/
import Derived.Test.YtbnllihefecemaaGreatDoorAm17
import Derived.Test.YtbnllihefecemaaGreatDoorN5
set_option linter.unusedSimpArgs false
set_option linter.unusedVariables false
namespace Go.AM
open Go

/-- The world as it stands in the middle of a call that began in W. -/
structure At (P : Program) (W : World) (nt : Nat) (s : St) (a : Act) (w : World) : Prop where
  ex : ∃ ρ, Glob P.globals.size ρ ∧ StR ρ s.tm a nt ∧ Inv ρ s.mem w ∧ ∀ b p x, ρ b = some p → s.mem.get b = some x → x.wrs = true → W.heap.size ≤ p.cb
  ok : MemOk s.mem
  os : w.os = W.os
  tape : w.tape = W.tape
  output : w.output = W.output
  size : W.heap.size ≤ w.heap.size
  heap : ∀ i, i < W.heap.size → w.heap[i]? = W.heap[i]?

theorem stage {P : Program} (hmix : P.follows .mixedOrders = true) (hP : ∀ (f : Nat) (fn : Func), P.funcs[f]? = some fn → fnOk P fn = true) {n nt : Nat} {c : Code} {e : Ex} {s s' : St}
    (h : run P n (.code c s) = some (.code e s')) (hok : codeOk P nt c = true) (hn : nt ≤ 1000000) {W : World} {a : Act} {w : World} (hat : At P W nt s a w) :
    c.wp P (fun ex a' w' => ex = exOf e ∧ At P W nt s' a' w') a w := by
  obtain ⟨ρ, hg, hs, hi, hov⟩ := hat.ex
  refine wp_mono ((sim hmix hP n).1 c s e s' nt h hok hn hat.ok ρ w a hg hs hi).wp ?_
  rintro ex a' w' ⟨rfl, ρ', g1, g2, g3⟩
  have hcover : ∀ b p x, ρ' b = some p → s'.mem.get b = some x → x.wrs = true → W.heap.size ≤ p.cb := by
    intro b p x hp hx hw
    by_cases hb : b < s.mem.next
    · rw [g3.old b hb] at hp
      by_cases hst : ∀ y, s.mem.get b = some y → y.wrs = false
      · rw [g3.still b hb hst] at hx
        rw [hst x hx] at hw
        cases hw
      · have : ∃ y, s.mem.get b = some y ∧ y.wrs = true := by
          apply Classical.byContradiction
          intro hne
          refine hst fun y hy => ?_
          cases hyw : y.wrs with
          | false => rfl
          | true => exact (hne ⟨y, hy, hyw⟩).elim
        obtain ⟨y, hy, hyw⟩ := this
        exact hov b p y hp hy hyw
    · rcases g3.new b p x (by omega) hp hx (Blk.lives_of_wrs hw) with h1 | ⟨b0, p0, x0, h1, h2, h3, h4⟩
      · exact Nat.le_trans hat.size h1
      · rw [← h4]; exact hov b0 p0 x0 h1 h2 h3
  refine ⟨rfl, ⟨ρ', hg.mono (g3.le hi.dom), g1, g2, hcover⟩, ((run_later n).1 _ _ _ _ h hat.ok).ok, g3.os.trans hat.os, g3.tape.trans hat.tape, g3.output.trans hat.output, Nat.le_trans hat.size g3.size, fun i hlt => ?_⟩
  rw [g3.keep i (Nat.lt_of_lt_of_le hlt hat.size) fun b p x hp hx hw e => ?_]
  · exact hat.heap i hlt
  · have := hov b p x hp hx hw
    omega

theorem at_seq {P : Program} {x y : Code} {Q : Exit → Act → World → Prop} {W : World} {nt : Nat} {s1 : St} {a : Act} {w : World} (h1 : x.wp P (fun ex a' w' => ex = exOf .normal ∧ At P W nt s1 a' w') a w)
    (h2 : ∀ a1 w1, At P W nt s1 a1 w1 → y.wp P Q a1 w1) : (Code.seq x y).wp P Q a w := by
  refine wp_seq (wp_mono h1 ?_)
  rintro ex a1 w1 ⟨rfl, hat⟩
  exact h2 a1 w1 hat

/-! ### A state written down -/
structure Snap where
  slots : List (Nat × Value)
  next : Nat
  blks : List (Nat × Blk)

noncomputable section
def tableOf {α : Type} (l : List (Nat × α)) : T α := l.foldr (fun x t => T.set x.2 depth x.1 t) .leaf
def Snap.st (l : Snap) : St := ⟨tableOf l.slots, ⟨l.next, tableOf l.blks⟩⟩

def sameAll2 : List Value → List Value → Bool
  | [], [] => true
  | v :: r, u :: s => same v u && sameAll2 r s
  | _, _ => false

/-- Equal for sure; a tuple may hold structs. -/
def same2 : Value → Value → Bool
  | .tuple a, .tuple b => sameAll2 a.toList b.toList
  | a, b => same a b

def sameO : Option Value → Option Value → Bool
  | none, none => true
  | some a, some b => same2 a b
  | _, _ => false

def sameT : T Value → T Value → Bool
  | .leaf, .leaf => true
  | .node l v r, .node l' v' r' => sameT l l' && (sameO v v' && sameT r r')
  | _, _ => false

def sameEs : List (Value × Value) → List (Value × Value) → Bool
  | [], [] => true
  | e :: r, e' :: r' => same e.1 e'.1 && (same e.2 e'.2 && sameEs r r')
  | _, _ => false

def sameB : Blk → Blk → Bool
  | .cells e cs wr, .cells e' cs' wr' => Nat.beq e e' && (sameAll cs cs' && (wr == wr'))
  | .map es, .map es' => sameEs es es'
  | .dead, .dead => true
  | _, _ => false

def hasBlk (m : Mem) (x : Nat × Blk) : Bool :=
  match m.get x.1 with
  | some y => sameB y x.2 && small x.1
  | none => false

/-- 1: the run came to its end, in a state that reads as written down. -/
def chk (l : Snap) (r : Option Res) : Nat :=
  match r with
  | some (.code .normal s) => bif sameT s.tm (tableOf l.slots) && (Nat.beq s.mem.next l.next && l.blks.all (hasBlk s.mem)) then 1 else 0
  | _ => 0

/-- The state at a run's end. -/
def endOf (r : Option Res) : St :=
  match r with
  | some (.code _ s) => s
  | _ => ⟨.leaf, ⟨0, .leaf⟩⟩

/-- 1: the run came to its normal end. -/
def normalNo (r : Option Res) : Nat :=
  match r with
  | some (.code .normal _) => 1
  | _ => 0
end

theorem normalNo_ok {r : Option Res} (h : Nat.beq (normalNo r) 1 = true) : r = some (.code .normal (endOf r)) := by
  have h' := Nat.eq_of_beq_eq_true h
  unfold normalNo at h'
  split at h'
  · rfl
  · cases h'

theorem sameAll2_eq : ∀ {a b : List Value}, sameAll2 a b = true → a = b
  | [], [], _ => rfl
  | v :: r, u :: s, h => by
    simp only [sameAll2, Bool.and_eq_true] at h
    rw [same_eq h.1, sameAll2_eq h.2]
  | [], _ :: _, h => by cases h
  | _ :: _, [], h => by cases h

theorem same2_eq {a b : Value} (h : same2 a b = true) : a = b := by
  unfold same2 at h
  split at h
  · rw [Array.ext' (sameAll2_eq h)]
  · exact same_eq h

theorem sameO_eq {a b : Option Value} (h : sameO a b = true) : a = b := by
  unfold sameO at h
  split at h
  · rfl
  · rw [same2_eq h]
  · cases h

theorem sameT_eq : ∀ {a b : T Value}, sameT a b = true → a = b
  | .leaf, .leaf, _ => rfl
  | .node l v r, .node l' v' r', h => by
    simp only [sameT, Bool.and_eq_true] at h
    rw [sameT_eq h.1, sameO_eq h.2.1, sameT_eq h.2.2]
  | .leaf, .node _ _ _, h => by cases h
  | .node _ _ _, .leaf, h => by cases h

theorem sameEs_eq : ∀ {a b : List (Value × Value)}, sameEs a b = true → a = b
  | [], [], _ => rfl
  | e :: r, e' :: r', h => by
    simp only [sameEs, Bool.and_eq_true] at h
    have h1 := same_eq h.1
    have h2 := same_eq h.2.1
    rw [sameEs_eq h.2.2]
    obtain ⟨x, y⟩ := e
    obtain ⟨x', y'⟩ := e'
    simp only at h1 h2
    rw [h1, h2]
  | [], _ :: _, h => by cases h
  | _ :: _, [], h => by cases h

theorem sameB_eq {a b : Blk} (h : sameB a b = true) : a = b := by
  unfold sameB at h
  split at h
  · simp only [Bool.and_eq_true, beq_iff_eq] at h
    rw [Nat.eq_of_beq_eq_true h.1, sameAll_eq h.2.1, h.2.2]
  · rw [sameEs_eq h]
  · rfl
  · cases h

theorem tableOf_get {α : Type} : ∀ (l : List (Nat × α)), (∀ x ∈ l, small x.1 = true) → ∀ b x, (tableOf l).get b = some x → (b, x) ∈ l
  | [], _, b, x, h => by cases h
  | y :: l, hs, b, x, h => by
    have e : tableOf (y :: l) = T.set y.2 depth y.1 (tableOf l) := rfl
    rw [e, show depth = 40 from rfl, T.get_set _ _ _ _ _ (small_lt (hs y (.head _)))] at h
    split at h
    · rename_i hb
      simp only [Option.some.injEq] at h
      subst h; subst hb
      exact .head _
    · exact .tail _ (tableOf_get l (fun x hx => hs x (.tail _ hx)) b x h)

theorem chk_ok {l : Snap} {r : Option Res} (h : Nat.beq (chk l r) 1 = true) :
    ∃ s, r = some (.code .normal s) ∧ s.tm = l.st.tm ∧ s.mem.next = l.st.mem.next ∧ ∀ b x, l.st.mem.get b = some x → s.mem.get b = some x := by
  have h' := Nat.eq_of_beq_eq_true h
  unfold chk at h'
  split at h'
  · rename_i s
    cases hc : sameT s.tm (tableOf l.slots) && (Nat.beq s.mem.next l.next && l.blks.all (hasBlk s.mem)) with
    | false => rw [hc] at h'; cases h'
    | true =>
      simp only [Bool.and_eq_true, List.all_eq_true] at hc
      have hb : ∀ x ∈ l.blks, s.mem.get x.1 = some x.2 ∧ small x.1 = true := by
        intro x hx
        have := hc.2.2 x hx
        unfold hasBlk at this
        split at this
        · rename_i y hy
          simp only [Bool.and_eq_true] at this
          rw [hy, sameB_eq this.1]
          exact ⟨rfl, this.2⟩
        · cases this
      refine ⟨s, rfl, sameT_eq hc.1, Nat.eq_of_beq_eq_true hc.2.1, fun b x hx => ?_⟩
      have := tableOf_get l.blks (fun x hx => (hb x hx).2) b x hx
      exact (hb _ this).1
  · cases h'

/-- The state may be exchanged for what was written down of it. -/
theorem At.less {P : Program} {W : World} {nt : Nat} {s s2 : St} {a : Act} {w : World} (h : At P W nt s a w) (h1 : s.tm = s2.tm) (h2 : s.mem.next = s2.mem.next) (h3 : ∀ b x, s2.mem.get b = some x → s.mem.get b = some x) : At P W nt s2 a w := by
  obtain ⟨ρ, hg, hs, hi, hov⟩ := h.ex
  refine ⟨⟨ρ, hg, h1 ▸ hs, ⟨⟨fun b p x hp hx => hi.rel.blk b p x hp (h3 b x hx), fun b b' p p' x x' hp hp' hx hx' => hi.rel.apart b b' p p' x x' hp hp' (h3 b x hx) (h3 b' x' hx'), hi.rel.lt⟩, fun b p hp => h2 ▸ hi.dom b p hp, h2 ▸ hi.small⟩,
    fun b p x hp hx hw => hov b p x hp (h3 b x hx) hw⟩, ⟨h2 ▸ h.ok.1, fun b hb => ?_⟩, h.os, h.tape, h.output, h.size, h.heap⟩
  cases hx : s2.mem.get b with
  | none => rfl
  | some x =>
    have := h3 b x hx
    rw [h.ok.2 b (by omega)] at this
    cases this

end Go.AM
