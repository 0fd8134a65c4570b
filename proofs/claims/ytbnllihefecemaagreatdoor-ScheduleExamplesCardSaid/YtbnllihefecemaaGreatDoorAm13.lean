/-
  The abstract machine and the machine: regions that draw their order. Part two: what holds when some of the operations have been carried out, in whatever order.
-/
import Derived.Test.YtbnllihefecemaaGreatDoorAm12
set_option linter.unusedSimpArgs false
set_option linter.unusedVariables false
namespace Go.AM
open Go

/-! ### Which memory stands for a block -/
/-- The first place from j on (at most f steps further) whose memory knows block b. -/
def idx (S : Nat → St) : Nat → Nat → Nat → Nat
  | 0, j, _ => j
  | f + 1, j, b => if b < (S j).mem.next then j else idx S f (j + 1) b

theorem idx_spec (S : Nat → St) : ∀ (f j b : Nat), j ≤ idx S f j b ∧ idx S f j b ≤ j + f ∧ (∀ q, j ≤ q → q < idx S f j b → (S q).mem.next ≤ b) ∧ (idx S f j b < j + f → b < (S (idx S f j b)).mem.next)
  | 0, j, b => ⟨Nat.le_refl _, Nat.le_refl _, fun q h1 h2 => by simp [idx] at h2; omega, fun h => by simp [idx] at h⟩
  | f + 1, j, b => by
    unfold idx
    by_cases h : b < (S j).mem.next
    · rw [if_pos h]
      exact ⟨Nat.le_refl _, by omega, fun q h1 h2 => by omega, fun _ => h⟩
    · rw [if_neg h]
      obtain ⟨h1, h2, h3, h4⟩ := idx_spec S f (j + 1) b
      refine ⟨by omega, by omega, fun q g1 g2 => ?_, fun g => h4 (by omega)⟩
      by_cases e : q = j
      · subst e; omega
      · exact h3 q (by omega) g2

def Map.below (ρ : Map) (n : Nat) : Map := fun b => if b < n then ρ b else none

theorem Map.below_some {ρ : Map} {n b : Nat} {p : Pl} : ρ.below n b = some p ↔ b < n ∧ ρ b = some p := by
  unfold Map.below
  by_cases h : b < n
  · simp [h]
  · simp [h]

theorem Map.below_le (ρ : Map) (n : Nat) : (ρ.below n).Le ρ := fun b p h => (Map.below_some.1 h).2
theorem Map.below_mono {ρ ρ' : Map} (h : ρ.Le ρ') {n n' : Nat} (hn : n ≤ n') : (ρ.below n).Le (ρ'.below n') := fun b p hb => by
  obtain ⟨h1, h2⟩ := Map.below_some.1 hb
  exact Map.below_some.2 ⟨by omega, h _ _ h2⟩
theorem Map.Le.trans {ρ ρ' ρ'' : Map} (h : ρ.Le ρ') (k : ρ'.Le ρ'') : ρ.Le ρ'' := fun b p hb => k _ _ (h _ _ hb)

theorem inside0_rel {ρ : Map} {n : Nat} {v c : Value} (hv : VRel ρ v c) (h : inside0 n v = true) : VRel (ρ.below n) v c := by
  cases hv with
  | ptr hb => exact .ptr (Map.below_some.2 ⟨by simpa [inside0, Nat.blt_eq] using h, hb⟩)
  | slice hb h1 h2 h3 => exact .slice (Map.below_some.2 ⟨by simpa [inside0, Nat.blt_eq] using h, hb⟩) h1 h2 h3
  | map hb => exact .map (Map.below_some.2 ⟨by simpa [inside0, Nat.blt_eq] using h, hb⟩)
  | bool b => exact .bool b
  | int k n => exact .int k n
  | string s => exact .string s
  | ptrNil => exact .ptrNil
  | sliceNil => exact .sliceNil
  | mapNil => exact .mapNil
  | nilFunc => exact .nilFunc
  | nilIface => exact .nilIface
  | _ => simp [inside0, flat0] at h

theorem insideAll_mem {n : Nat} : ∀ {l : List Value}, insideAll n l = true → ∀ {v : Value}, v ∈ l → inside0 n v = true
  | [], _, _, hv => by simp at hv
  | x :: r, h, v, hv => by
    simp only [insideAll, Bool.and_eq_true] at h
    rcases List.mem_cons.1 hv with rfl | hv
    · exact h.1
    · exact insideAll_mem h.2 hv

theorem inside_rel {ρ : Map} {n : Nat} {v c : Value} (hv : VRel ρ v c) (h : inside n v = true) : VRel (ρ.below n) v c := by
  cases hv with
  | agg hs hh => exact .agg hs fun i x y hx hy => inside0_rel (hh i x y hx hy) (insideAll_mem h (by rw [Array.mem_toList_iff]; exact Array.mem_of_getElem? hx))
  | tuple hs hh => exact .tuple hs fun i x y hx hy => inside0_rel (hh i x y hx hy) (insideAll_mem h (by rw [Array.mem_toList_iff]; exact Array.mem_of_getElem? hx))
  | ptr hb => exact inside0_rel (.ptr hb) h
  | slice hb h1 h2 h3 => exact inside0_rel (.slice hb h1 h2 h3) h
  | map hb => exact inside0_rel (.map hb) h
  | bool b => exact .bool b
  | int k n => exact .int k n
  | string s => exact .string s
  | ptrNil => exact .ptrNil
  | sliceNil => exact .sliceNil
  | mapNil => exact .mapNil
  | nilFunc => exact .nilFunc
  | nilIface => exact .nilIface
  | func => simp [inside, inside0, flat0] at h

theorem sameAddr_eq {a b : Addr} (h : sameAddr a b = true) : a = b := by
  unfold sameAddr at h
  split at h
  · simp only [Bool.and_eq_true, Nat.beq_eq] at h
    obtain ⟨rfl, rfl⟩ := h
    rfl
  · cases h

theorem sameInt_eq {a b : Int} (h : sameInt a b = true) : a = b := by
  unfold sameInt at h
  split at h
  · rw [Nat.beq_eq] at h; rw [h]
  · rw [Nat.beq_eq] at h; rw [h]
  · cases h

theorem sameBytes_eq : ∀ {a b : List UInt8}, sameBytes a b = true → a = b
  | [], [], _ => rfl
  | x :: a, y :: b, h => by
    simp only [sameBytes, Bool.and_eq_true, Nat.beq_eq] at h
    rw [UInt8.toNat_inj.1 h.1, sameBytes_eq h.2]
  | [], _ :: _, h => by simp [sameBytes] at h
  | _ :: _, [], h => by simp [sameBytes] at h

theorem same0_eq {a b : Value} (h : same0 a b = true) : a = b := by
  unfold same0 at h
  split at h
  · simp at h; rw [h]
  · simp only [Bool.and_eq_true] at h
    rw [eq_of_beq h.1, sameInt_eq h.2]
  · rename_i x y
    have := sameBytes_eq h
    cases x; cases y
    simp at this
    rw [this]
  · rfl
  · rw [sameAddr_eq h]
  · simp only [Bool.and_eq_true, Nat.beq_eq] at h
    rw [h.1, h.2]
  · simp only [Bool.and_eq_true, Nat.beq_eq] at h
    rw [sameAddr_eq h.1.1, h.1.2, h.2]
  · rfl
  · rw [Nat.beq_eq] at h; rw [h]
  · rfl
  · rfl
  · cases h

theorem sameAll_eq : ∀ {a b : List Value}, sameAll a b = true → a = b
  | [], [], _ => rfl
  | x :: a, y :: b, h => by
    simp only [sameAll, Bool.and_eq_true] at h
    rw [same0_eq h.1, sameAll_eq h.2]
  | [], _ :: _, h => by simp [sameAll] at h
  | _ :: _, [], h => by simp [sameAll] at h

theorem same_eq {a b : Value} (h : same a b = true) : a = b := by
  unfold same at h
  split at h
  · rename_i x y
    have := sameAll_eq h
    rw [Array.toList_inj.1 this]
  · rename_i x y
    have := sameAll_eq h
    rw [Array.toList_inj.1 this]
  · exact same0_eq h

theorem openPairs_mem {P : Program} {ops : Array Oper} {j w : Nat} {oj ow : Oper} (hj : ops[j]? = some oj) (hw : ops[w]? = some ow) (h1 : kindOf P oj = .read) (h2 : isW P ow = true) (hb : bef ops (min j w) (max j w) = false) : (j, w) ∈ openPairs P ops := by
  have hks : ∀ i o, ops[i]? = some o → (kindOf P o, i) ∈ (ops.toList.map (kindOf P)).zipIdx := by
    intro i o ho
    rw [List.mem_iff_getElem?]
    refine ⟨i, ?_⟩
    rw [List.getElem?_zipIdx]
    simp [ho]
  unfold openPairs
  simp only [List.mem_flatMap, List.mem_map, List.mem_filter]
  refine ⟨j, ⟨(.read, j), ⟨by rw [← h1]; exact hks j oj hj, by simp⟩, rfl⟩, w, ⟨⟨(kindOf P ow, w), ⟨hks w ow hw, ?_⟩, rfl⟩, ?_⟩, rfl⟩
  · unfold isW at h2
    split at h2 <;> rename_i hk <;> first | (simp [hk]; done) | cases h2
  · unfold bef at hb
    rw [hb]
    rfl

section
variable (P : Program) (rec : Task → Option Res) (ops : Array Oper) (S : Nat → St) (nt : Nat) (ρ0 : Map) (w0 : World)

/-- The place whose memory stands for block b, seen from j. -/
abbrev at_ (j b : Nat) : Nat := idx S (ops.size - j) j b

/-- The blocks that the machine may write, at the start. -/
def Owned0 (i : Nat) : Prop := ∃ b p x, ρ0 b = some p ∧ (S 0).mem.get b = some x ∧ x.wrs = true ∧ p.cb = i

structure DI (l : Array Bool) (j : Nat) (ρ : Map) (a : Act) (w : World) : Prop where
  size : l.size = ops.size
  closed : Closed ops l
  le : j ≤ ops.size
  least : j = 0 ∨ W P ops S (j - 1)
  done : ∀ i, i < j → W P ops S i → Done l i
  undone : ∀ i, j ≤ i → W P ops S i → ¬ Done l i
  slots : ∀ t i, i ≤ ops.size → (∀ (q : Nat) (o : Oper), q < i → ops[q]? = some o → o.dst = some t → Done l q) → (∀ (q : Nat) (o : Oper), i ≤ q → ops[q]? = some o → o.dst = some t → ¬ Done l q) →
    VRel (ρ.below (S i).mem.next) (((S i).tm.get t).getD undef) (a.tmps.getD t undef)
  tsize : nt ≤ a.tmps.size
  defers : a.defers = []
  blk : ∀ b p x, ρ b = some p → (S (at_ ops S j b)).mem.get b = some x → BRel (ρ.below (S (at_ ops S j b)).mem.next) p x w
  apart : ∀ b b' p p' x x', ρ b = some p → ρ b' = some p' → (S (at_ ops S j b)).mem.get b = some x → (S (at_ ops S j b')).mem.get b' = some x' → x.wrs = true → x'.lives = true → b ≠ b' → p.cb ≠ p'.cb
  lt : ∀ b p, ρ b = some p → p.cb < w.heap.size
  dom : ∀ b p, ρ b = some p → b < (S ops.size).mem.next
  hid : ∀ i, i < ops.size → ¬ Done l i → ∀ b, (S i).mem.next ≤ b → b < (S (i + 1)).mem.next → ρ b = none ∧ (S (at_ ops S j b)).mem.get b = (S (i + 1)).mem.get b
  old : ∀ b, b < (S 0).mem.next → ρ b = ρ0 b
  os : w.os = w0.os
  tape : w.tape = w0.tape
  output : w.output = w0.output
  wsize : w0.heap.size ≤ w.heap.size
  fhid : ∀ b, b < (S 0).mem.next → ρ0 b = none → (S j).mem.get b = (S 0).mem.get b
  fstill : ∀ b, b < (S 0).mem.next → (∀ x, (S 0).mem.get b = some x → x.wrs = false) → (S j).mem.get b = (S 0).mem.get b
  fkeep : ∀ i, i < w0.heap.size → ¬ Owned0 S ρ0 i → w.heap[i]? = w0.heap[i]?
  fnew : ∀ b p x, (S 0).mem.next ≤ b → ρ b = some p → (S (at_ ops S j b)).mem.get b = some x → x.lives = true → w0.heap.size ≤ p.cb ∨ Owned0 S ρ0 p.cb
end

section
variable {P : Program} {rec : Task → Option Res} {ops : Array Oper} {S : Nat → St} {nt : Nat} {ρ0 ρ : Map} {w0 w : World} {l : Array Bool} {j k : Nat} {a : Act}

theorem Trace.at_spec (ht : Trace P rec ops S) (hc : CallsLater rec) {j : Nat} (hj : j ≤ ops.size) (b : Nat) :
    j ≤ at_ ops S j b ∧ at_ ops S j b ≤ ops.size ∧ (∀ q, j ≤ q → q < at_ ops S j b → (S q).mem.next ≤ b) ∧ (b < (S ops.size).mem.next → b < (S (at_ ops S j b)).mem.next) := by
  unfold at_
  obtain ⟨h1, h2, h3, h4⟩ := idx_spec S (ops.size - j) j b
  have e : j + (ops.size - j) = ops.size := by omega
  rw [e] at h2 h4
  refine ⟨h1, h2, h3, fun hb => ?_⟩
  rcases Nat.lt_or_ge (idx S (ops.size - j) j b) ops.size with h | h
  · exact h4 h
  · have : idx S (ops.size - j) j b = ops.size := by omega
    rw [this]; exact hb

/-- A block that comes with the operation at i, seen from at most i + 1. -/
theorem Trace.at_born (ht : Trace P rec ops S) (hc : CallsLater rec) {j i : Nat} (hj : j ≤ i + 1) (hi : i < ops.size) {b : Nat} (h1 : (S i).mem.next ≤ b) (h2 : b < (S (i + 1)).mem.next) : at_ ops S j b = i + 1 := by
  obtain ⟨g1, g2, g3, g4⟩ := ht.at_spec hc (j := j) (by omega) b
  have hb := g4 (Nat.lt_of_lt_of_le h2 (ht.next_le hc (by omega) (Nat.le_refl _)))
  rcases Nat.lt_trichotomy (at_ ops S j b) (i + 1) with h | h | h
  · have := ht.next_le hc (show at_ ops S j b ≤ i by omega) (by omega)
    omega
  · exact h
  · have := g3 (i + 1) (by omega) h
    omega

theorem Trace.at_lt (ht : Trace P rec ops S) (hc : CallsLater rec) {j : Nat} (hj : j ≤ ops.size) {b : Nat} (h : b < (S j).mem.next) : at_ ops S j b = j := by
  obtain ⟨g1, g2, g3, g4⟩ := ht.at_spec hc hj b
  rcases Nat.lt_or_ge j (at_ ops S j b) with h' | h'
  · have := g3 j (Nat.le_refl _) h'
    omega
  · omega

/-- Where nothing turns memory between two places, they tell the same of a block that the later one knows. -/
theorem Trace.at_later (ht : Trace P rec ops S) (hc : CallsLater rec) {j j' : Nat} (hjj : j ≤ j') (hj : j' ≤ ops.size) (hw : ∀ q, j ≤ q → q < j' → ¬ W P ops S q) {b : Nat} (hb : b < (S j').mem.next) :
    at_ ops S j b ≤ j' ∧ b < (S (at_ ops S j b)).mem.next ∧ (S j').mem.get b = (S (at_ ops S j b)).mem.get b := by
  obtain ⟨g1, g2, g3, g4⟩ := ht.at_spec hc (j := j) (by omega) b
  have hle : at_ ops S j b ≤ j' := by
    rcases Nat.lt_or_ge j' (at_ ops S j b) with h | h
    · have := g3 j' hjj h
      omega
    · exact h
  have hlt := g4 (Nat.lt_of_lt_of_le hb (ht.next_le hc hj (Nat.le_refl _)))
  exact ⟨hle, hlt, ht.keep hc hle hj (fun q h1 h2 => hw q (by omega) h2) hlt⟩

/-- The memory at another place of the same phase. -/
theorem DI.rel_at (h : DI P ops S nt ρ0 w0 l j ρ a w) (ht : Trace P rec ops S) (hc : CallsLater rec) {j' N : Nat} (hjj : j ≤ j') (hj : j' ≤ ops.size) (hw : ∀ q, j ≤ q → q < j' → ¬ W P ops S q)
    (hN : (S j').mem.next ≤ N) : Rel (ρ.below N) (S j').mem.get w where
  blk := fun b p x hp hx => by
    obtain ⟨_, hp'⟩ := Map.below_some.1 hp
    have hb := (ht.mem j' hj).lt hx
    obtain ⟨g1, g2, g3⟩ := ht.at_later hc hjj hj hw hb
    rw [g3] at hx
    exact (h.blk b p x hp' hx).mono (Map.below_mono (Map.Le.refl _) (Nat.le_trans (ht.next_le hc g1 hj) hN)) rfl
  apart := fun b b' p p' x x' hp hp' hx hx' => by
    obtain ⟨_, hp1⟩ := Map.below_some.1 hp
    obtain ⟨_, hp2⟩ := Map.below_some.1 hp'
    obtain ⟨_, _, g3⟩ := ht.at_later hc hjj hj hw ((ht.mem j' hj).lt hx)
    obtain ⟨_, _, g3'⟩ := ht.at_later hc hjj hj hw ((ht.mem j' hj).lt hx')
    rw [g3] at hx
    rw [g3'] at hx'
    exact h.apart b b' p p' x x' hp1 hp2 hx hx'
  lt := fun b p hp => h.lt b p (Map.below_some.1 hp).2

/-- What an operation that is ready reads. -/
theorem DI.reads (h : DI P ops S nt ρ0 w0 l j ρ a w) (hd : drawOk P ops = true) {o : Oper} (hk : k ∈ Region.ready .any ops l) (ho : ops[k]? = some o) :
    ∀ t, t ∈ reads ops o → VRel (ρ.below (S k).mem.next) (((S k).tm.get t).getD undef) (a.tmps.getD t undef) := by
  intro t htr
  obtain ⟨h1, h2, _⟩ := ready_spec h.size hk
  refine h.slots t k (by omega) (fun q o' hq ho' hdst => ?_) (fun q o' hq ho' hdst hdone => ?_)
  · exact ready_bef h.size h.closed hk (drawOk_clash hd hq ho' ho (clash_reads hdst htr))
  · rcases Nat.lt_or_ge k q with hlt | hge
    · exact h2 (h.closed.bef hdone (drawOk_clash hd hlt ho ho' (clash_reads' htr hdst)))
    · have : q = k := by omega
      subst this
      exact h2 hdone

theorem put_getD {a : Act} {t : Tmp} {c : Value} (h : t < a.tmps.size) : (a.put (some t) c).tmps.getD t undef = c := by
  simp [Act.put, Array.getD_eq_getD_getElem?, h]
theorem put_getD_ne {a : Act} {dst : Option Tmp} {t : Tmp} {c : Value} (h : dst ≠ some t) : (a.put dst c).tmps.getD t undef = a.tmps.getD t undef := by
  cases dst with
  | none => rfl
  | some d =>
    have hne : d ≠ t := fun e => h (by rw [e])
    simp [Act.put, Array.getD_eq_getD_getElem?, Array.getElem?_setIfInBounds, hne]

theorem DI.slots_step (h : DI P ops S nt ρ0 w0 l j ρ a w) (ht : Trace P rec ops S) (hc : CallsLater rec) (hd : drawOk P ops = true) (hn : nt ≤ 1000000) (hdst : ∀ (i : Nat) (o : Oper), ops[i]? = some o → ∀ d, o.dst = some d → d < nt)
    {o : Oper} (hk : k ∈ Region.ready .any ops l) (ho : ops[k]? = some o) {ρ' : Map} (hle : ρ.Le ρ') {v c : Value} (htm : (S (k + 1)).tm = putAt (S k).tm o.dst v) (hv : VRel (ρ'.below (S (k + 1)).mem.next) v c) :
    ∀ t i, i ≤ ops.size → (∀ (q : Nat) (o : Oper), q < i → ops[q]? = some o → o.dst = some t → Done (l.setIfInBounds k true) q) → (∀ (q : Nat) (o : Oper), i ≤ q → ops[q]? = some o → o.dst = some t → ¬ Done (l.setIfInBounds k true) q) →
    VRel (ρ'.below (S i).mem.next) (((S i).tm.get t).getD undef) ((a.put o.dst c).tmps.getD t undef) := by
  intro t i hi h1 h2
  obtain ⟨hks, hkd, _⟩ := ready_spec h.size hk
  have hkl : k < l.size := by have := h.size; omega
  by_cases e : o.dst = some t
  · have hki : k < i := by
      rcases Nat.lt_or_ge k i with h' | h'
      · exact h'
      · exact absurd ((done_set hkl).2 (.inl rfl)) (h2 k o h' ho e)
    have hnone : ∀ (q : Nat) (o' : Oper), k + 1 ≤ q → q < i → ops[q]? = some o' → o'.dst ≠ some t := by
      intro q o' hq1 hq2 ho' he
      have hdq := h1 q o' hq2 ho' he
      rw [done_set hkl] at hdq
      rcases hdq with rfl | hdq
      · omega
      · exact hkd (h.closed.bef hdq (drawOk_clash hd (by omega) ho ho' (clash_dst e he)))
    have htn : t < nt := hdst k o ho t e
    rw [ht.slot hn hdst (show k + 1 ≤ i by omega) hi hnone, htm, e]
    have hg : (putAt (S k).tm (some t) v).get t = some v := by
      show (T.set v depth t (S k).tm).get t = some v
      rw [T.get_set v depth t _ t (Nat.lt_of_le_of_lt (Nat.le_trans (Nat.succ_le_of_lt htn) hn) (by decide)), if_pos rfl]
    rw [hg, put_getD (Nat.lt_of_lt_of_le htn h.tsize)]
    exact hv.mono (Map.below_mono (Map.Le.refl _) (ht.next_le hc (by omega) hi))
  · rw [put_getD_ne e]
    refine (h.slots t i hi (fun q o' hq ho' he => ?_) (fun q o' hq ho' he hdone => ?_)).mono (Map.below_mono hle (Nat.le_refl _))
    · have := h1 q o' hq ho' he
      rw [done_set hkl] at this
      rcases this with rfl | this
      · rw [ho] at ho'
        obtain rfl := Option.some.inj ho'
        exact absurd he e
      · exact this
    · exact h2 q o' hq ho' he ((done_set hkl).2 (.inr hdone))

/-- An operation that turns no memory and makes no block. -/
theorem DI.quiet (h : DI P ops S nt ρ0 w0 l j ρ a w) (ht : Trace P rec ops S) (hc : CallsLater rec) (hd : drawOk P ops = true) (hn : nt ≤ 1000000) (hdst : ∀ (i : Nat) (o : Oper), ops[i]? = some o → ∀ d, o.dst = some d → d < nt)
    {o : Oper} (hk : k ∈ Region.ready .any ops l) (ho : ops[k]? = some o) (hw : ¬ W P ops S k) {v c : Value} (htm : (S (k + 1)).tm = putAt (S k).tm o.dst v) (hv : VRel (ρ.below (S (k + 1)).mem.next) v c) :
    DI P ops S nt ρ0 w0 (l.setIfInBounds k true) j ρ (a.put o.dst c) w := by
  obtain ⟨hks, hkd, _⟩ := ready_spec h.size hk
  have hkl : k < l.size := by have := h.size; omega
  exact { h with
    size := by simp [h.size]
    closed := closed_set h.size h.closed hk
    done := fun i h1 h2 => (done_set hkl).2 (.inr (h.done i h1 h2))
    undone := fun i h1 h2 hdone => by
      rcases (done_set hkl).1 hdone with rfl | hdone
      · exact hw h2
      · exact h.undone i h1 h2 hdone
    slots := h.slots_step ht hc hd hn hdst hk ho (Map.Le.refl _) htm hv
    tsize := by
      cases hds : o.dst with
      | none => exact h.tsize
      | some d => simp [Act.put]; exact h.tsize
    defers := by cases hds : o.dst <;> simp [Act.put, h.defers]
    hid := fun i h1 h2 => h.hid i h1 (fun hdone => h2 ((done_set hkl).2 (.inr hdone))) }

/-- An operation that makes a block. -/
theorem DI.made (h : DI P ops S nt ρ0 w0 l j ρ a w) (ht : Trace P rec ops S) (hc : CallsLater rec) (hd : drawOk P ops = true) (hn : nt ≤ 1000000) (hdst : ∀ (i : Nat) (o : Oper), ops[i]? = some o → ∀ d, o.dst = some d → d < nt)
    {o : Oper} (hk : k ∈ Region.ready .any ops l) (ho : ops[k]? = some o) (hw : ¬ W P ops S k) {v c : Value} {x : Blk} {ob : Obj} {sz : Nat} (htm : (S (k + 1)).tm = putAt (S k).tm o.dst v) (hm : (S k).mem.push x = some (S (k + 1)).mem)
    (hv : VRel ((ρ.with (S k).mem.next ⟨w.heap.size, 0, sz⟩).below (S (k + 1)).mem.next) v c)
    (hb : BRel ((ρ.with (S k).mem.next ⟨w.heap.size, 0, sz⟩).below (S (k + 1)).mem.next) ⟨w.heap.size, 0, sz⟩ x (w.alloc ob)) :
    DI P ops S nt ρ0 w0 (l.setIfInBounds k true) j (ρ.with (S k).mem.next ⟨w.heap.size, 0, sz⟩) (a.put o.dst c) (w.alloc ob) := by
  obtain ⟨hks, hkd, _⟩ := ready_spec h.size hk
  have hkl : k < l.size := by have := h.size; omega
  obtain ⟨p1, p2, p3⟩ := Mem.push_some hm
  have hhid := h.hid k hks hkd (S k).mem.next (Nat.le_refl _) (by omega)
  have hle : ρ.Le (ρ.with (S k).mem.next ⟨w.heap.size, 0, sz⟩) := Map.le_with hhid.1
  have hid0 : (S 0).mem.next ≤ (S k).mem.next := ht.next_le hc (by omega) (by omega)
  have hcont : (S (at_ ops S j (S k).mem.next)).mem.get (S k).mem.next = some x := by
    rw [hhid.2, p3, if_pos rfl]
  have hatle : (S (k + 1)).mem.next ≤ (S (at_ ops S j (S k).mem.next)).mem.next := by
    rcases Nat.lt_or_ge (k + 1) j with h1 | h1
    · exact ht.next_le hc (Nat.le_trans (by omega) (ht.at_spec hc h.le _).1) (ht.at_spec hc h.le _).2.1
    · rw [ht.at_born hc h1 hks (Nat.le_refl _) (by omega)]
      exact Nat.le_refl _
  have hw0 := h.wsize
  have hgrew := grew_alloc w ob
  exact {
    size := by simp [h.size]
    closed := closed_set h.size h.closed hk
    le := h.le
    least := h.least
    done := fun i h1 h2 => (done_set hkl).2 (.inr (h.done i h1 h2))
    undone := fun i h1 h2 hdone => by
      rcases (done_set hkl).1 hdone with rfl | hdone
      · exact hw h2
      · exact h.undone i h1 h2 hdone
    slots := h.slots_step ht hc hd hn hdst hk ho hle htm hv
    tsize := by
      cases hds : o.dst with
      | none => exact h.tsize
      | some d => simp [Act.put]; exact h.tsize
    defers := by cases hds : o.dst <;> simp [Act.put, h.defers]
    blk := fun b p y hp hy => by
      by_cases e : b = (S k).mem.next
      · subst e
        rw [Map.with_self] at hp
        obtain rfl := Option.some.inj hp
        rw [hcont] at hy
        obtain rfl := Option.some.inj hy
        exact hb.mono (Map.below_mono (Map.Le.refl _) hatle) rfl
      · rw [Map.with_other _ _ e] at hp
        exact (h.blk b p y hp hy).mono (Map.below_mono hle (Nat.le_refl _)) (hgrew.old _ (h.lt b p hp))
    apart := fun b b' p p' y y' hp hp' hy hy' hyw hyl hne => by
      by_cases e : b = (S k).mem.next
      · subst e
        rw [Map.with_self] at hp
        obtain rfl := Option.some.inj hp
        rw [Map.with_other _ _ (Ne.symm hne)] at hp'
        have := h.lt b' p' hp'
        simp only
        omega
      · rw [Map.with_other _ _ e] at hp
        by_cases e' : b' = (S k).mem.next
        · subst e'
          rw [Map.with_self] at hp'
          obtain rfl := Option.some.inj hp'
          have := h.lt b p hp
          simp only
          omega
        · rw [Map.with_other _ _ e'] at hp'
          exact h.apart b b' p p' y y' hp hp' hy hy' hyw hyl hne
    lt := fun b p hp => by
      by_cases e : b = (S k).mem.next
      · subst e
        rw [Map.with_self] at hp
        obtain rfl := Option.some.inj hp
        simp
      · rw [Map.with_other _ _ e] at hp
        have := h.lt b p hp
        simp
        omega
    dom := fun b p hp => by
      by_cases e : b = (S k).mem.next
      · subst e
        have := ht.next_le hc (show k + 1 ≤ ops.size by omega) (Nat.le_refl _)
        omega
      · rw [Map.with_other _ _ e] at hp
        exact h.dom b p hp
    hid := fun i h1 h2 b h3 h4 => by
      have hik : i ≠ k := fun e => h2 ((done_set hkl).2 (.inl e))
      have := h.hid i h1 (fun hdone => h2 ((done_set hkl).2 (.inr hdone))) b h3 h4
      refine ⟨?_, this.2⟩
      rw [Map.with_other]
      · exact this.1
      · intro e
        subst e
        rcases Nat.lt_or_ge i k with hlt | hge
        · have := ht.next_le hc (show i + 1 ≤ k by omega) (by omega)
          omega
        · have := ht.next_le hc (show k + 1 ≤ i by omega) (by omega)
          omega
    old := fun b hb => by rw [Map.with_other _ _ (by omega)]; exact h.old b hb
    os := h.os
    tape := h.tape
    output := h.output
    wsize := by simp; omega
    fhid := h.fhid
    fstill := h.fstill
    fkeep := fun i h1 h2 => (hgrew.old i (by omega)).trans (h.fkeep i h1 h2)
    fnew := fun b p y h1 hp hy hyw => by
      by_cases e : b = (S k).mem.next
      · subst e
        rw [Map.with_self] at hp
        obtain rfl := Option.some.inj hp
        exact .inl hw0
      · rw [Map.with_other _ _ e] at hp
        exact h.fnew b p y h1 hp hy hyw }

end

end Go.AM
