/-
  The nice machine's word is the abstract machine's: tables, operands, pure instructions.
-/
import Derived.Test.YtbnllihefecemaaGreatDoorN1
import Derived.Test.YtbnllihefecemaaGreatDoorAm7
set_option linter.unusedSimpArgs false
set_option linter.unusedVariables false
namespace Go.AM
open Go

/-! ### Tables -/
theorem way_zero (n : Nat) : way 0 n = .stop := rfl
theorem way_succ (f n : Nat) : way (f + 1) n = bif Nat.beq n 0 then .here else bif Nat.beq (n % 2) 1 then .left (way f (n / 2)) else .right (way f (n / 2 - 1)) := by
  show @Bool.rec (fun _ => Way) (@Bool.rec (fun _ => Way) (.right (way f (n / 2 - 1))) (.left (way f (n / 2))) (Nat.beq (n % 2) 1)) .here (Nat.beq n 0) = _
  cases Nat.beq n 0 <;> cases Nat.beq (n % 2) 1 <;> rfl

theorem Way.get_left {α : Type} (w : Way) (l : T α) (v : Option α) (r : T α) : (Way.left w).get (.node l v r) = w.get l := rfl
theorem Way.get_right {α : Type} (w : Way) (l : T α) (v : Option α) (r : T α) : (Way.right w).get (.node l v r) = w.get r := rfl

theorem get_way {α : Type} : ∀ (f n : Nat) (t : T α), n + 1 < 2 ^ f → (way f n).get t = t.get n := by
  intro f
  induction f with
  | zero => intro n t h; simp at h
  | succ f ih =>
    intro n t h
    have h2 : 2 ^ (f + 1) = 2 * 2 ^ f := by rw [Nat.pow_succ]; omega
    rw [way_succ]
    cases t with
    | leaf => cases Nat.beq n 0 <;> cases Nat.beq (n % 2) 1 <;> rfl
    | node l v r =>
      rw [T.get_node]
      have e0 : ∀ k : Nat, Nat.beq k 0 = decide (k = 0) := fun k => by cases k <;> rfl
      have e1 : ∀ k : Nat, Nat.beq k 1 = decide (k = 1) := fun k => by rcases k with _ | _ | k <;> rfl
      by_cases h0 : n = 0
      · subst h0; rfl
      · by_cases h1 : n % 2 = 1
        · simp only [e0, e1, h0, h1, decide_false, decide_true, cond_false, cond_true, Way.get_left]
          exact ih _ _ (by omega)
        · simp only [e0, e1, h0, h1, decide_false, cond_false, Way.get_right]
          exact ih _ _ (by omega)

theorem setK_way {α : Type} (a : α) : ∀ (f n : Nat) (t : T α) (k : T α → T α), (way f n).setK a t k = k (T.set a f n t) := by
  intro f
  induction f with
  | zero => intro n t k; rfl
  | succ f ih =>
    intro n t k
    rw [way_succ]
    have hl : ∀ (w : Way) (l r : T α) (v : Option α), (Way.left w).setK a (.node l v r) k = w.setK a l fun x => k (.node x v r) := fun _ _ _ _ => rfl
    have hr : ∀ (w : Way) (l r : T α) (v : Option α), (Way.right w).setK a (.node l v r) k = w.setK a r fun x => k (.node l v x) := fun _ _ _ _ => rfl
    have hl0 : ∀ (w : Way), (Way.left w).setK a .leaf k = w.setK a .leaf fun x => k (.node x none .leaf) := fun _ => rfl
    have hr0 : ∀ (w : Way), (Way.right w).setK a .leaf k = w.setK a .leaf fun x => k (.node .leaf none x) := fun _ => rfl
    cases t with
    | leaf =>
      rw [T.set_leaf]
      cases Nat.beq n 0 with
      | true => rfl
      | false =>
        cases Nat.beq (n % 2) 1 with
        | true => simp only [cond_true, cond_false, hl0, T.look_eq, ih]
        | false => simp only [cond_false, hr0, T.look_eq, ih]
    | node l v r =>
      rw [T.set_node]
      cases Nat.beq n 0 with
      | true => rfl
      | false =>
        cases Nat.beq (n % 2) 1 with
        | true => simp only [cond_true, cond_false, hl, T.look_eq, ih]
        | false => simp only [cond_false, hr, T.look_eq, ih]

theorem set_way {α : Type} (a : α) (f n : Nat) (t : T α) : (way f n).set a t = T.set a f n t := setK_way a f n t fun x => x

theorem small_lt {n : Nat} (h : small n = true) : n + 1 < 2 ^ 40 := by
  have := Nat.le_of_ble_eq_true h
  omega

theorem orUndef_eq (x : Option Value) : orUndef x = x.getD undef := by cases x <;> rfl

theorem ev_eq {tm : T Value} {x : Operand} (h : opdSmall x = true) : ev tm x = evalAt tm x := by
  cases x with
  | tmp t =>
    show orUndef ((way depth t).get tm) = _
    rw [orUndef_eq, show way depth t = way 40 t from rfl, get_way _ _ _ (small_lt h)]
    rfl
  | const v => rfl
  | global g => rfl
  | func f => rfl

theorem evs_eq (tm : T Value) (xs : List Operand) : evs tm xs = xs.map (ev tm) := by
  induction xs with
  | nil => rfl
  | cons x r ih =>
    show ev tm x :: evs tm r = _
    rw [ih]; rfl

theorem evs_at {tm : T Value} {xs : List Operand} (h : ∀ x ∈ xs, opdSmall x = true) : evs tm xs = xs.map (evalAt tm) := by
  rw [evs_eq]
  exact List.map_congr_left fun x hx => ev_eq (h x hx)

theorem putN_eq (tm : T Value) (dst : Option Tmp) (v : Value) : putN tm dst v = putAt tm dst v := by
  cases dst with
  | none => rfl
  | some d => exact set_way v depth d tm

theorem nth_eq {α : Type} : ∀ (l : List α) (k : Nat), nth l k = l[k]?
  | [], k => by cases k <;> rfl
  | a :: r, 0 => rfl
  | a :: r, k + 1 => by
    show nth r k = _
    rw [nth_eq r k]; simp

theorem notB_eq (b : Bool) : notB b = !b := by cases b <;> rfl
theorem cond_rec {α : Type} (b : Bool) (x y : α) : @Bool.rec (fun _ => α) x y b = bif b then y else x := by cases b <;> rfl

/-! ### Whole numbers -/
theorem kind_beq (k k' : IntKind) : Nat.beq (kindNo k) (kindNo k') = decide (k = k') := by cases k <;> cases k' <;> rfl

theorem half_eq (k : IntKind) : (half k : Int) = 2 ^ (k.bits - 1) ∧ (half k : Int) < 2 ^ k.bits := by cases k <;> decide

theorem wrap_half {k : IntKind} {n : Nat} (h : n < half k) : k.wrap (n : Int) = n := by
  have hh := half_eq k
  unfold IntKind.wrap
  have h1 : ((n : Int) % 2 ^ k.bits) = n := Int.emod_eq_of_lt (by omega) (by omega)
  simp only [h1]
  rw [if_neg]
  rw [Bool.and_eq_true, not_and]
  intro _
  simp only [decide_eq_true_eq]
  omega

theorem wrapN_eq (k : IntKind) (n : Nat) : wrapN k n = k.wrap n := by
  unfold wrapN
  cases h : Nat.blt n (half k) with
  | true =>
    have : n < half k := by simpa [Nat.blt_eq] using h
    rw [wrap_half this]
    rfl
  | false => rfl

theorem addI_eq (a b : Int) (k : IntKind) : addI a b k = some (.int k (k.wrap (a + b))) := by
  cases a with
  | ofNat a => cases b with
    | ofNat b => show some (Value.int k (wrapN k (a + b))) = _; rw [wrapN_eq]; rfl
    | negSucc b => rfl
  | negSucc a => rfl
theorem mulI_eq (a b : Int) (k : IntKind) : mulI a b k = some (.int k (k.wrap (a * b))) := by
  cases a with
  | ofNat a => cases b with
    | ofNat b => show some (Value.int k (wrapN k (a * b))) = _; rw [wrapN_eq]; rfl
    | negSucc b => rfl
  | negSucc a => rfl
theorem subN_eq (a b : Nat) (k : IntKind) : subN a b k = k.wrap ((a : Int) - b) := by
  unfold subN
  cases h : Nat.ble b a with
  | true =>
    have hle := Nat.le_of_ble_eq_true h
    show wrapN k (a - b) = _
    rw [wrapN_eq, Int.ofNat_sub hle]
  | false => rfl
theorem subI_eq (a b : Int) (k : IntKind) : subI a b k = some (.int k (k.wrap (a - b))) := by
  cases a with
  | ofNat a => cases b with
    | ofNat b => show some (Value.int k (subN a b k)) = _; rw [subN_eq]; rfl
    | negSucc b => rfl
  | negSucc a => rfl
theorem natBeq (a b : Nat) : Nat.beq a b = decide (a = b) := by
  cases h : Nat.beq a b with
  | true => have := Nat.eq_of_beq_eq_true h; simp [this]
  | false => have := Nat.ne_of_beq_eq_false h; simp [this]
theorem natBlt (a b : Nat) : Nat.blt a b = decide (a < b) := by
  cases h : Nat.blt a b with
  | true => have : a < b := by simpa [Nat.blt_eq] using h
            simp [this]
  | false =>
    have : ¬ a < b := by
      intro h'
      rw [← Nat.blt_eq] at h'
      rw [h] at h'; cases h'
    simp [this]
theorem eqI_eq (a b : Int) : eqI a b = decide (a = b) := by
  cases a with
  | ofNat a => cases b with
    | ofNat b => show Nat.beq a b = _; rw [natBeq]; simp only [Int.ofNat_eq_natCast, Int.ofNat_inj]
    | negSucc b => show false = _; simp
  | negSucc a => cases b with
    | ofNat b => show false = _; simp
    | negSucc b => show Nat.beq a b = _; rw [natBeq]; simp
theorem ltI_eq (a b : Int) : ltI a b = decide (a < b) := by
  cases a with
  | ofNat a => cases b with
    | ofNat b => show Nat.blt a b = _; rw [natBlt]; simp
    | negSucc b =>
      show false = _
      have h1 := Int.negSucc_lt_zero b
      have : ¬ ((a : Int) < Int.negSucc b) := by omega
      simp only [Int.ofNat_eq_natCast, this, decide_false]
  | negSucc a => cases b with
    | ofNat b =>
      show true = _
      have h1 := Int.negSucc_lt_zero a
      have : (Int.negSucc a < (b : Int)) := by omega
      simp only [Int.ofNat_eq_natCast, this, decide_true]
    | negSucc b =>
      show Nat.blt b a = _
      rw [natBlt]
      simp only [Int.negSucc_eq]
      by_cases h : b < a
      · simp only [h, decide_true]; symm; simp only [decide_eq_true_eq]; omega
      · simp only [h, decide_false]; symm; simp only [decide_eq_false_iff_not]; omega

section
variable {P : Program} {rec : Rec} {tm : T Value} {m m' : Mem} {o : Oper} {v : Value} {i : Ins}

theorem ret_some {x : Option Value} {m : Mem} {r : Value × Mem} (h : ret x m = some r) : x = some r.1 ∧ r.2 = m := by
  cases x with
  | none => cases h
  | some v => cases h; exact ⟨rfl, rfl⟩

theorem binI_eq (P : Program) (op : BinOp) (t : TypeId) (a b : Int) (k : IntKind) {v : Value} (h : binI op a b k = some v) :
    pureRun P (binOp op t (.int k a) (.int k b)) = some v ∧ flat v = true := by
  have ee : ∀ c : Bool, ∀ (p : Prop) [Decidable p], c = decide p → some (Value.bool c) = some v → pureRun P (pure (Value.bool (decide p)) : Sem Value) = some v ∧ flat v = true := by
    intro c p _ e hv
    subst e
    simp only [Option.some.injEq] at hv
    subst hv
    exact ⟨rfl, rfl⟩
  cases op with
  | add => have e : binI .add a b k = addI a b k := rfl
           rw [e, addI_eq] at h; simp only [Option.some.injEq] at h; subst h; exact ⟨by simp [binOp, Op.intArith], rfl⟩
  | sub => have e : binI .sub a b k = subI a b k := rfl
           rw [e, subI_eq] at h; simp only [Option.some.injEq] at h; subst h; exact ⟨by simp [binOp, Op.intArith], rfl⟩
  | mul => have e : binI .mul a b k = mulI a b k := rfl
           rw [e, mulI_eq] at h; simp only [Option.some.injEq] at h; subst h; exact ⟨by simp [binOp, Op.intArith], rfl⟩
  | quo =>
    have e : binI .quo a b k = pureRun default (Op.intDiv .quo k a b) := rfl
    rw [e] at h
    unfold Op.intDiv at h
    by_cases hb : b = 0
    · simp [hb, runtimePanic] at h
    · simp only [hb, if_false, pureRun_pure, Option.some.injEq] at h
      subst h
      exact ⟨by simp [binOp, Op.intDiv, hb], rfl⟩
  | rem =>
    have e : binI .rem a b k = pureRun default (Op.intDiv .rem k a b) := rfl
    rw [e] at h
    unfold Op.intDiv at h
    by_cases hb : b = 0
    · simp [hb, runtimePanic] at h
    · simp only [hb, if_false, pureRun_pure, Option.some.injEq] at h
      subst h
      exact ⟨by simp [binOp, Op.intDiv, hb], rfl⟩
  | and =>
    have e : binI .and a b k = pureRun default (Op.intBits .and k a b) := rfl
    rw [e] at h
    simp only [Op.intBits, pureRun_pure, Option.some.injEq] at h
    subst h
    exact ⟨by simp [binOp, Op.intBits], rfl⟩
  | or =>
    have e : binI .or a b k = pureRun default (Op.intBits .or k a b) := rfl
    rw [e] at h
    simp only [Op.intBits, pureRun_pure, Option.some.injEq] at h
    subst h
    exact ⟨by simp [binOp, Op.intBits], rfl⟩
  | xor =>
    have e : binI .xor a b k = pureRun default (Op.intBits .xor k a b) := rfl
    rw [e] at h
    simp only [Op.intBits, pureRun_pure, Option.some.injEq] at h
    subst h
    exact ⟨by simp [binOp, Op.intBits], rfl⟩
  | andNot =>
    have e : binI .andNot a b k = pureRun default (Op.intBits .andNot k a b) := rfl
    rw [e] at h
    simp only [Op.intBits, pureRun_pure, Option.some.injEq] at h
    subst h
    exact ⟨by simp [binOp, Op.intBits], rfl⟩
  | shl => cases h
  | shr => cases h
  | eql =>
    have e : binI .eql a b k = some (.bool (eqI a b)) := rfl
    rw [e, eqI_eq] at h
    simp only [Option.some.injEq] at h
    subst h
    exact ⟨by simp only [binOp, Op.intCmp, ne_eq, not_true_eq_false, if_false]; rfl, rfl⟩
  | neq =>
    have e : binI .neq a b k = some (.bool (notB (eqI a b))) := rfl
    rw [e, eqI_eq, notB_eq] at h
    simp only [Option.some.injEq] at h
    subst h
    exact ⟨by simp only [binOp, Op.intCmp, ne_eq, not_true_eq_false, if_false]; rfl, rfl⟩
  | lss =>
    have e : binI .lss a b k = some (.bool (ltI a b)) := rfl
    rw [e, ltI_eq] at h
    simp only [Option.some.injEq] at h
    subst h
    exact ⟨by simp only [binOp, Op.intCmp, ne_eq, not_true_eq_false, if_false]; rfl, rfl⟩
  | leq =>
    have e : binI .leq a b k = some (.bool (notB (ltI b a))) := rfl
    rw [e, ltI_eq, notB_eq] at h
    simp only [Option.some.injEq] at h
    subst h
    refine ⟨?_, rfl⟩
    have : (!decide (b < a)) = decide (a ≤ b) := by by_cases hh : b < a <;> simp [hh] <;> omega
    rw [this]
    simp only [binOp, Op.intCmp, ne_eq, not_true_eq_false, if_false]; rfl
  | gtr =>
    have e : binI .gtr a b k = some (.bool (ltI b a)) := rfl
    rw [e, ltI_eq] at h
    simp only [Option.some.injEq] at h
    subst h
    exact ⟨by simp only [binOp, Op.intCmp, ne_eq, not_true_eq_false, if_false]; rfl, rfl⟩
  | geq =>
    have e : binI .geq a b k = some (.bool (notB (ltI a b))) := rfl
    rw [e, ltI_eq, notB_eq] at h
    simp only [Option.some.injEq] at h
    subst h
    refine ⟨?_, rfl⟩
    have : (!decide (a < b)) = decide (a ≥ b) := by by_cases hh : a < b <;> simp [hh] <;> omega
    rw [this]
    simp only [binOp, Op.intCmp, ne_eq, not_true_eq_false, if_false]; rfl

theorem bin2_some {op : BinOp} {v w u : Value} (h : bin2 op v w = some u) : ∃ k a b, v = .int k a ∧ w = .int k b ∧ binI op a b k = some u := by
  unfold bin2 at h
  split at h
  · rename_i k a
    split at h
    · rename_i k' b
      rw [kind_beq] at h
      by_cases e : k = k'
      · subst e
        simp only [decide_true] at h
        exact ⟨k, a, b, rfl, rfl, h⟩
      · simp only [e, decide_false] at h
        cases h
    · cases h
  · cases h

/-- An operation of two operands, by the model's own word on its values. -/
theorem pureOp_bin {op : BinOp} {t t' : TypeId} {x y : Operand} {ρ : Operand → Value} (ho : o.op = .binOp op t x y t') (hx : flat (ρ x) = true) (hy : flat (ρ y) = true) (hv : flat v = true)
    (h : pureRun P (do eqGuard op t x y (ρ x) (ρ y); binOp op t (ρ x) (ρ y)) = some v) : pureOp P ρ o = some v := by
  unfold pureOp
  simp only [ho, hx, hy, Bool.and_self, cond_true]
  unfold execOp
  simp only [ho]
  rw [pureRun_bind, h]
  simp only [Option.bind_some]
  show valueOf (some (.value v)) = some v
  simp [valueOf, hv]

theorem eqGuard_int {op : BinOp} {t : TypeId} {x y : Operand} {k k' : IntKind} {a b : Int} : pureRun P (eqGuard op t x y (.int k a) (.int k' b)) = some () := by
  unfold eqGuard
  cases op <;> rfl
theorem eqGuard_bool {op : BinOp} {t : TypeId} {x y : Operand} {a b : Bool} : pureRun P (eqGuard op t x y (.bool a) (.bool b)) = some () := by
  unfold eqGuard
  cases op <;> rfl

end
end Go.AM
