/-
  The abstract machine and the machine: the rest of the operations that ask nothing of memory, and all of them in one word (pure_sim).
-/
import Derived.Test.YtbnllihefecemaaGreatDoorAm3
set_option linter.unusedSimpArgs false
set_option linter.unusedVariables false
namespace Go.AM
open Go

/-! ### Lists side by side -/
inductive Both {α β : Type} (R : α → β → Prop) : List α → List β → Prop
  | nil : Both R [] []
  | cons {x : α} {y : β} {l : List α} {r : List β} (h : R x y) (t : Both R l r) : Both R (x :: l) (y :: r)

theorem Both.length {α β : Type} {R : α → β → Prop} {l : List α} {r : List β} (h : Both R l r) : l.length = r.length := by
  induction h with
  | nil => rfl
  | cons _ _ ih => simp [ih]

theorem Both.of_index {α β : Type} {R : α → β → Prop} : ∀ {l : List α} {r : List β}, l.length = r.length → (∀ (i : Nat) x y, l[i]? = some x → r[i]? = some y → R x y) → Both R l r
  | [], [], _, _ => .nil
  | x :: l, y :: r, hl, h => .cons (h 0 x y rfl rfl) (Both.of_index (by simpa using hl) fun i a b ha hb => h (i + 1) a b (by simpa using ha) (by simpa using hb))

theorem Both.get {α β : Type} {R : α → β → Prop} {l : List α} {r : List β} (h : Both R l r) : ∀ (i : Nat) x y, l[i]? = some x → r[i]? = some y → R x y := by
  induction h with
  | nil => intro i x y hx; simp at hx
  | cons h _ ih =>
    intro i x y hx hy
    rcases i with _ | i
    · simp at hx hy; subst hx; subst hy; exact h
    · exact ih i x y (by simpa using hx) (by simpa using hy)

theorem Both.map {α β γ δ : Type} {R : α → β → Prop} {S : γ → δ → Prop} {f : α → γ} {g : β → δ} (hfg : ∀ x y, R x y → S (f x) (g y)) {l : List α} {r : List β} (h : Both R l r) : Both S (l.map f) (r.map g) := by
  induction h with
  | nil => exact .nil
  | cons h _ ih => exact .cons (hfg _ _ h) ih

theorem Both.append {α β : Type} {R : α → β → Prop} {l l' : List α} {r r' : List β} (h : Both R l r) (h' : Both R l' r') : Both R (l ++ l') (r ++ r') := by
  induction h with
  | nil => exact h'
  | cons h _ ih => exact .cons h ih

theorem AllRel.both {ρ : Map} {a c : Array Value} (h : AllRel ρ a c) : Both (VRel ρ) a.toList c.toList :=
  .of_index (by simpa using h.1) (fun i x y hx hy => h.2 i x y (by simpa using hx) (by simpa using hy))

theorem AllRel.of_both {ρ : Map} {a c : Array Value} (h : Both (VRel ρ) a.toList c.toList) : AllRel ρ a c :=
  ⟨by simpa using h.length, fun i x y hx hy => h.get i x y (by simpa using hx) (by simpa using hy)⟩

theorem AllRel.of_lists {ρ : Map} {l r : List Value} (h : Both (VRel ρ) l r) : AllRel ρ l.toArray r.toArray := .of_both (by simpa using h)

theorem AllRel.append {ρ : Map} {a c a' c' : Array Value} (h : AllRel ρ a c) (h' : AllRel ρ a' c') : AllRel ρ (a ++ a') (c ++ c') :=
  .of_both (by simpa using h.both.append h'.both)

theorem AllRel.map {ρ : Map} {ev cv : Operand → Value} (xs : Array Operand) (h : ∀ x ∈ xs.toList, VRel ρ (ev x) (cv x)) : AllRel ρ (xs.map ev) (xs.map cv) := by
  refine ⟨by simp, fun i x y hx hy => ?_⟩
  rw [Array.getElem?_map] at hx hy
  cases hi : xs[i]? with
  | none => simp [hi] at hx
  | some o =>
    simp only [hi, Option.map_some, Option.some.injEq] at hx hy
    subst hx; subst hy
    exact h o (by rw [Array.mem_toList_iff]; exact Array.mem_of_getElem? hi)

theorem AllRel.set {ρ : Map} {a c : Array Value} (h : AllRel ρ a c) (i : Nat) {v u : Value} (hv : VRel ρ v u) : AllRel ρ (a.setIfInBounds i v) (c.setIfInBounds i u) := by
  refine ⟨by simp [h.1], fun j x y hx hy => ?_⟩
  rw [Array.getElem?_setIfInBounds] at hx hy
  by_cases e : i = j
  · subst e
    simp only [if_true] at hx hy
    split at hx
    · split at hy
      · simp only [Option.some.injEq] at hx hy; subst hx; subst hy; exact hv
      · cases hy
    · cases hx
  · rw [if_neg e] at hx hy
    exact h.2 j x y hx hy

theorem foldl_rel {ρ : Map} (off : Nat) {l r : List (Value × Nat)} (h : Both (fun x y => VRel ρ x.1 y.1 ∧ x.2 = y.2) l r) :
    ∀ {a c : Array Value}, AllRel ρ a c → AllRel ρ (l.foldl (fun cs x => cs.setIfInBounds (off + x.2) x.1) a) (r.foldl (fun cs x => cs.setIfInBounds (off + x.2) x.1) c) := by
  induction h with
  | nil => intro a c h; exact h
  | cons h _ ih =>
    intro a c hac
    simp only [List.foldl_cons]
    rw [← h.2]
    exact ih (hac.set _ h.1)

theorem zipIdx_both {ρ : Map} {a c : Array Value} (h : AllRel ρ a c) : Both (fun x y => VRel ρ x.1 y.1 ∧ x.2 = y.2) a.zipIdx.toList c.zipIdx.toList := by
  refine .of_index (by simp [h.1]) fun i x y hx hy => ?_
  simp only [Array.toList_zipIdx, List.getElem?_zipIdx, Array.getElem?_toList] at hx hy
  cases hx' : a[i]? with
  | none => simp [hx'] at hx
  | some u =>
    cases hy' : c[i]? with
    | none => simp [hy'] at hy
    | some u' =>
      simp only [hx', hy', Option.map_some, Option.some.injEq] at hx hy
      subst hx; subst hy
      exact ⟨h.2 i _ _ hx' hy', rfl⟩

theorem fill_rel {ρ : Map} (place : Nat → Option (Nat × Nat)) {l r : List (Nat × Value)} (h : Both (fun x y => x.1 = y.1 ∧ VRel ρ x.2 y.2) l r) :
    ∀ {a c cs : Array Value}, AllRel ρ a c → Instr.fill place a l = some cs → ∃ cs', Instr.fill place c r = some cs' ∧ AllRel ρ cs cs' := by
  induction h with
  | nil =>
    intro a c cs hac hf
    simp only [Instr.fill, Option.some.injEq] at hf
    subst hf
    exact ⟨c, rfl, hac⟩
  | @cons x y l r h _ ih =>
    obtain ⟨i, u⟩ := x
    obtain ⟨j, u'⟩ := y
    obtain ⟨rfl, hu⟩ := h
    intro a c cs hac hf
    simp only [Instr.fill] at hf ⊢
    cases hp : place i with
    | none => simp [hp] at hf
    | some os =>
      obtain ⟨off, size⟩ := os
      simp only [hp] at hf ⊢
      have hsz := hu.cells.1
      split at hf
      · cases hf
      · rename_i hc
        rw [if_neg (by rw [← hsz, ← hac.1]; exact hc)]
        refine ih ?_ hf
        simp only [← Array.foldl_toList]
        exact foldl_rel off (zipIdx_both hu.cells) hac

variable {P : Program} {ρ : Map} {ev cv : Operand → Value} {o : Oper} {v : Value} {w : World}

theorem zeroAt_some {t : TypeId} {z : Value} (h : zeroAt P t = some z) : flat z = true ∧ ∃ i, P.info? t = some i ∧ i.zero = some z := by
  unfold zeroAt at h
  cases hi : P.info? t with
  | none => simp [hi] at h
  | some i =>
    cases hz : i.zero with
    | none => simp [hi, hz] at h
    | some z' =>
      cases hf : flat z' with
      | false => simp [hi, hz, hf] at h
      | true => simp [hi, hz, hf] at h; subst h; exact ⟨hf, i, rfl, hz⟩

theorem pureRun_zeroValue {t : TypeId} {z : Value} (h : zeroAt P t = some z) : pureRun P (zeroValue t) = some z := by
  obtain ⟨_, i, hi, hz⟩ := zeroAt_some h
  simp [zeroValue, hi, hz]

theorem pureRun_mapM {α β : Type} (f : α → Sem β) : ∀ l : List α, (∃ x, pureRun P (l.mapM f) = some x) ∨ pureRun P (l.mapM f) = none := by
  intro l; cases pureRun P (l.mapM f) <;> simp

theorem parts_both {parts : Array (Nat × Operand)} (h : ∀ x ∈ parts.toList, VRel ρ (ev x.2) (cv x.2)) :
    Both (fun x y => x.1 = y.1 ∧ VRel ρ x.2 y.2) (parts.map fun x => (x.1, ev x.2)).toList (parts.map fun x => (x.1, cv x.2)).toList := by
  refine .of_index (by simp) fun i x y hx hy => ?_
  simp only [Array.toList_map, List.getElem?_map] at hx hy
  cases hi : parts.toList[i]? with
  | none => simp [hi] at hx
  | some q =>
    simp only [hi, Option.map_some, Option.some.injEq] at hx hy
    subst hx; subst hy
    exact ⟨rfl, h q (List.mem_of_getElem? hi)⟩

theorem build_sim {t : TypeId} {parts : Array (Nat × Operand)} (hp : ∀ x ∈ parts.toList, VRel ρ (ev x.2) (cv x.2)) {z : Value} (hz : zeroAt P t = some z)
    (h : pureRun P (Instr.build t (parts.map fun x => (x.1, ev x.2))) = some v) : Gives P ρ (Instr.build t (parts.map fun x => (x.1, cv x.2))) w v := by
  have hzr := pureRun_zeroValue hz
  have hzz : AllRel ρ z.cells z.cells := (flat_rel (zeroAt_some hz).1).cells
  have hb := parts_both hp
  unfold Instr.build at h ⊢
  simp only [pureRun_bind, hzr, Option.bind_some, pureRun_underlying] at h
  cases hu : P.underlying t with
  | none => simp [hu] at h
  | some d =>
    simp only [hu, Option.bind_some] at h
    cases d with
    | struct fields =>
      simp only [pureRun_bind] at h
      cases hm : pureRun P (fields.mapM fun f => do pure (f.offset, ← sizeOf f.type)) with
      | none => rw [hm] at h; simp at h
      | some places =>
        rw [hm] at h
        simp only [Option.bind_some] at h
        cases hf : Instr.fill (fun x => places[x]?) z.cells (parts.map fun x => (x.1, ev x.2)).toList with
        | none => rw [hf] at h; simp at h
        | some cs =>
          rw [hf] at h
          simp only [pureRun_pure, Option.some.injEq] at h
          subst h
          obtain ⟨cs', hf', hr⟩ := fill_rel _ hb hzz hf
          refine ⟨.agg cs', ?_, .agg hr.1 hr.2⟩
          simp only [Sem.run_bind, run_of_pureRun hzr w, Result.andThen_ok, run_underlying' hu w, run_of_pureRun hm w, hf', Sem.run_pure]
    | array n elem =>
      simp only [pureRun_bind, pureRun_sizeOf] at h
      cases hm : sizeAt P elem with
      | none => simp [hm] at h
      | some size =>
        simp only [hm, Option.bind_some] at h
        cases hf : Instr.fill (fun i => some (i * size, size)) z.cells (parts.map fun x => (x.1, ev x.2)).toList with
        | none => rw [hf] at h; simp at h
        | some cs =>
          rw [hf] at h
          simp only [pureRun_pure, Option.some.injEq] at h
          subst h
          obtain ⟨cs', hf', hr⟩ := fill_rel _ hb hzz hf
          refine ⟨.agg cs', ?_, .agg hr.1 hr.2⟩
          simp only [Sem.run_bind, run_of_pureRun hzr w, Result.andThen_ok, run_underlying' hu w, run_sizeOf' hm w, hf', Sem.run_pure]
    | _ => simp at h

theorem len_sim {argTypes : Array TypeId} {t : TypeId} {x c : Value} (hx : VRel ρ x c) (h : pureRun P (Builtin.len_ argTypes t #[x]) = some v) : Gives P ρ (Builtin.len_ argTypes t #[c]) w v := by
  unfold Builtin.len_ at h ⊢
  cases ht : argTypes[0]? with
  | none => simp [ht] at h
  | some s =>
    simp only [ht, List.getElem?_toArray, List.getElem?_cons_zero, pureRun_bind, pureRun_underlying] at h ⊢
    cases hu : P.underlying s with
    | none => simp [hu] at h
    | some d =>
      simp only [hu, Option.bind_some] at h
      simp only [Gives, Sem.run_bind, run_underlying' hu, Result.andThen_ok]
      cases d with
      | pointer arr =>
        cases hu2 : P.underlying arr with
        | none => cases hx <;> simp [hu2] at h
        | some d2 =>
          cases d2 <;> cases hx <;> simp [hu2] at h <;> subst h <;> simp [run_underlying' hu2] <;> exact .int _ _
      | _ => cases hx <;> simp at h ⊢ <;> subst h <;> exact .int _ _

theorem boundOf_rel {x : Option Operand} {d : Nat} {n : Nat} (h : boundOf (x.map ev) d = some n) (hx : ∀ y, x = some y → VRel ρ (ev y) (cv y)) :
    (x = none ∧ n = d) ∨ ∃ y k, x = some y ∧ ev y = .int k n ∧ cv y = .int k n := by
  cases x with
  | none => simp [boundOf] at h; exact .inl ⟨rfl, h.symm⟩
  | some y =>
    refine .inr ⟨y, ?_⟩
    have hr := hx y rfl
    simp only [boundOf, Option.map_some] at h
    cases he : ev y with
    | int k q =>
      rw [he] at h hr
      cases q with
      | ofNat q =>
        simp only [Option.some.injEq] at h
        subst h
        exact ⟨k, rfl, rfl, hr.int_inv⟩
      | negSucc q => simp at h
    | _ => rw [he] at h; simp at h

theorem sliceBounds_run {s : Bool} {lo hi : Option Operand} {l h len cap : Nat} {dh : Nat} (hl : (lo = none ∧ l = 0) ∨ ∃ y k, lo = some y ∧ ev y = .int k l ∧ cv y = .int k l)
    (hh : (hi = none ∧ h = len) ∨ ∃ y k, hi = some y ∧ ev y = .int k h ∧ cv y = .int k h) (h1 : l ≤ h) (h2 : h ≤ cap) :
    (Instr.sliceBounds s len cap (lo.map cv) (hi.map cv) none).run P w = .ok (l, h, cap) w := by
  unfold Instr.sliceBounds
  have e1 : (0 : Int) ≤ (h : Int) ∧ (h : Int) ≤ (cap : Int) := ⟨by omega, by omega⟩
  have e2 : (0 : Int) ≤ (l : Int) ∧ (l : Int) ≤ (h : Int) := ⟨by omega, by omega⟩
  rcases hl with ⟨rfl, rfl⟩ | ⟨y, k, rfl, _, hy⟩ <;> rcases hh with ⟨rfl, rfl⟩ | ⟨z, q, rfl, _, hz⟩ <;>
    simp [Instr.sliceBound, asIntOf, *]

theorem slice_sim {t : TypeId} {x : Operand} {lo hi : Option Operand} (hx : VRel ρ (ev x) (cv x)) (hlo : ∀ y, lo = some y → VRel ρ (ev y) (cv y)) (hhi : ∀ y, hi = some y → VRel ρ (ev y) (cv y))
    (h : sliceOp P t (ev x) (lo.map ev) (hi.map ev) = some v) : Gives P ρ (Instr.sliceAt t (cv x) (lo.map cv) (hi.map cv) none) w v := by
  unfold sliceOp at h
  unfold Instr.sliceAt
  split at h
  · rename_i elem b o len sz hu he
    cases hs : sizeAt P elem with
    | none => simp [hs] at h
    | some size =>
      cases hl : boundOf (lo.map ev) 0 with
      | none => simp [hs, hl] at h
      | some l =>
        cases hh : boundOf (hi.map ev) len with
        | none => simp [hs, hl, hh] at h
        | some hh' =>
          cases hc : (Nat.ble hh' len && Nat.ble l hh' && Nat.beq size sz) with
          | false => simp [hs, hl, hh, hc] at h
          | true =>
            simp only [hs, hl, hh, hc, Option.bind_some, cond_true, Option.some.injEq] at h
            simp only [Bool.and_eq_true, Nat.ble_eq, Nat.beq_eq] at hc
            obtain ⟨⟨hc1, hc2⟩, rfl⟩ := hc
            rw [he] at hx
            cases hcv : cv x with
            | slice a n c =>
              rw [hcv] at hx
              cases hx with
              | slice hb hoff hlen hcap =>
                rename_i off p
                have hsb := sliceBounds_run (P := P) (w := w) (s := true) (dh := 0) (boundOf_rel hl hlo) (boundOf_rel hh hhi) hc2 (Nat.le_trans hc1 hlen)
                simp only [Gives, Sem.run_bind, run_underlying' hu, Result.andThen_ok, Instr.slice, hsb, run_sizeOf' hs, Sem.run_pure, Option.map_some, add_none]
                subst h
                refine ⟨_, rfl, ?_⟩
                have hm : l * size + (c - l) * size = c * size := by
                  rw [← Nat.add_mul]; congr 1; omega
                by_cases hcl : c = l
                · rw [if_pos hcl]
                  have : hh' - l = 0 := by omega
                  rw [this, hcl, Nat.sub_self]
                  exact .slice hb (.inr ⟨rfl, rfl⟩) (Nat.le_refl _) (by omega)
                · rw [if_neg hcl]
                  refine .slice hb ?_ (by omega) (by omega)
                  rcases hoff with rfl | ⟨rfl, rfl⟩
                  · exact .inl (by omega)
                  · omega
            | _ => rw [hcv] at hx; cases hx
  · rename_i elem hu he
    cases hs : sizeAt P elem with
    | none => simp [hs] at h
    | some size =>
    cases hl : boundOf (lo.map ev) 0 with
    | none => simp [hs, hl] at h
    | some l =>
      cases hh : boundOf (hi.map ev) 0 with
      | none => simp [hs, hl, hh] at h
      | some hh' =>
        cases hc : (Nat.beq hh' 0 && Nat.beq l 0) with
        | false => simp [hs, hl, hh, hc] at h
        | true =>
          simp only [hs, hl, hh, hc, Option.bind_some, cond_true, Option.some.injEq] at h
          simp only [Bool.and_eq_true, Nat.beq_eq] at hc
          obtain ⟨rfl, rfl⟩ := hc
          subst h
          rw [he] at hx
          cases hcv : cv x with
          | slice a n c =>
            rw [hcv] at hx
            cases hx
            have hsb := sliceBounds_run (P := P) (w := w) (s := true) (dh := 0) (boundOf_rel hl hlo) (boundOf_rel hh hhi) (Nat.le_refl 0) (Nat.le_refl 0)
            simp only [Gives, Sem.run_bind, run_underlying' hu, Result.andThen_ok, Instr.slice, hsb, run_sizeOf' hs, Sem.run_pure, Option.map_none, ite_self]
            exact ⟨_, rfl, .sliceNil⟩
          | _ => rw [hcv] at hx; cases hx
  · rename_i s hu he
    cases hl : boundOf (lo.map ev) 0 with
    | none => simp [hl] at h
    | some l =>
      cases hh : boundOf (hi.map ev) s.size with
      | none => simp [hl, hh] at h
      | some hh' =>
        cases hc : (Nat.ble hh' s.size && Nat.ble l hh') with
        | false => simp [hl, hh, hc] at h
        | true =>
          simp only [hl, hh, hc, Option.bind_some, cond_true, Option.some.injEq] at h
          simp only [Bool.and_eq_true, Nat.ble_eq] at hc
          subst h
          rw [he] at hx
          rw [hx.string_inv]
          have hsb := sliceBounds_run (P := P) (w := w) (s := false) (dh := 0) (boundOf_rel hl hlo) (boundOf_rel hh hhi) hc.2 hc.1
          simp [Gives, run_underlying' hu, Instr.slice, hsb]
          exact .string _
  · cases h

theorem equalIn_nil {t : TypeId} {d : TypeDesc} {x y c e : Value} {b : Bool} (n : Nat) (hu : P.underlying t = some d) (hx : VRel ρ x c) (hy : VRel ρ y e) (h : nilPair d x y = some b) :
    (Op.equalIn (n + 1) t c e).run P w = .ok b w := by
  unfold nilPair at h
  unfold Op.equalIn
  rw [Sem.run_bind, run_underlying' hu, Result.andThen_ok]
  split at h <;> first | cases h | (simp only [Option.some.injEq] at h; subst h)
  all_goals (cases hx <;> cases hy <;> rfl)

theorem eqGuard_nil {t : TypeId} {d : TypeDesc} {x y c e : Value} {b : Bool} (hx : VRel ρ x c) (hy : VRel ρ y e) (h : nilPair d x y = some b) (op : BinOp) (s s' : Operand) :
    (eqGuard op t s s' c e).run P w = .ok () w := by
  unfold nilPair at h
  split at h <;> first | cases h | skip
  all_goals (cases hx <;> cases hy <;> cases op <;> rfl)

theorem binOp_nil {op : BinOp} {t : TypeId} {d : TypeDesc} {x y c e : Value} {b : Bool} (hx : VRel ρ x c) (hy : VRel ρ y e) (h : nilPair d x y = some b) :
    binOp .eql t c e = (do pure (.bool (← Op.equal t c e))) ∧ binOp .neq t c e = (do pure (.bool (!(← Op.equal t c e)))) := by
  unfold nilPair at h
  split at h <;> first | cases h | skip
  all_goals (cases hx <;> cases hy <;> exact ⟨rfl, rfl⟩)

theorem nil_sim {op : BinOp} {t : TypeId} {x y : Operand} {d : TypeDesc} (hu : P.underlying t = some d)
    (hx : VRel ρ (ev x) (cv x)) (hy : VRel ρ (ev y) (cv y)) (h : nilTest d op (ev x) (ev y) = some v) :
    Gives P ρ (do eqGuard op t x y (cv x) (cv y); binOp op t (cv x) (cv y)) w v := by
  unfold nilTest at h
  cases hb : nilPair d (ev x) (ev y) with
  | none => cases op <;> simp [hb] at h
  | some b =>
    have h1 : (Op.equal t (cv x) (cv y)).run P w = .ok b w := equalIn_nil 9999 hu hx hy hb
    have h2 := eqGuard_nil (P := P) (w := w) (t := t) hx hy hb
    have h3 := binOp_nil (op := op) (t := t) hx hy hb
    cases op <;> simp only [hb, Option.bind_some, Option.some.injEq] at h <;> first | cases h | skip
    all_goals
      refine ⟨_, ?_, .bool _⟩
      simp only [Sem.run_bind, h2, Result.andThen_ok, h3.1, h3.2, h1, Sem.run_pure]

theorem valueOf_some {x : Option Next} (h : valueOf x = some v) : x = some (.value v) ∧ flat v = true := by
  cases x with
  | none => simp [valueOf] at h
  | some n =>
    cases n <;> simp only [valueOf] at h <;> first | cases h | skip
    rename_i u
    cases hf : flat u with
    | false => simp [hf] at h
    | true => simp [hf] at h; subst h; exact ⟨rfl, hf⟩

theorem flat_env {x : Operand} (hx : VRel ρ (ev x) (cv x)) (hf : flat (ev x) = true) : cv x = ev x := flat_eq hf hx

theorem flatOf_some {x : Option Value} {v : Value} (h : flatOf x = some v) : x = some v ∧ flat v = true := by
  cases x with
  | none => simp [flatOf] at h
  | some u =>
    simp only [flatOf] at h
    cases hf : flat u with
    | false => simp [hf] at h
    | true =>
      simp only [hf, cond_true, Option.some.injEq] at h
      subst h
      exact ⟨rfl, hf⟩

theorem pure_sim (hop : OpRel ρ ev cv o) (h : pureOp P ev o = some v) :
    ∃ c, (execOp cv o).run P w = .ok (.value c) w ∧ VRel ρ v c := by
  have lift : ∀ s : Sem Value, Gives P ρ s w v → ∃ c, (do pure (Next.value (← s)) : Sem Next).run P w = .ok (.value c) w ∧ VRel ρ v c := by
    rintro s ⟨c, hc, hr⟩
    exact ⟨c, by rw [Sem.run_bind, hc]; rfl, hr⟩
  unfold pureOp at h
  unfold OpRel at hop
  unfold execOp
  cases ho : o.op with
  | move x =>
    simp only [ho, Option.some.injEq] at h
    subst h
    exact ⟨_, rfl, (by simpa [ho, Op.operands] using hop)⟩
  | assign x =>
    simp only [ho, Option.some.injEq] at h
    subst h
    exact ⟨_, rfl, (by simpa [ho, Op.operands] using hop)⟩
  | pick c a b =>
    simp [ho, Op.operands] at hop
    have hc := hop.1
    simp only [ho] at h
    split at h
    · rename_i e
      simp only [Option.some.injEq] at h
      subst h
      rw [e] at hc
      exact ⟨_, by simp [hc.bool_inv, asBool], hop.2.1⟩
    · rename_i e
      simp only [Option.some.injEq] at h
      subst h
      rw [e] at hc
      exact ⟨_, by simp [hc.bool_inv, asBool], hop.2.2⟩
    · cases h
  | nilCheck x =>
    have hx := (by simpa [ho, Op.operands] using hop)
    simp only [ho] at h
    split at h
    · rename_i a e
      simp only [Option.some.injEq] at h
      subst h
      rw [e] at hx
      cases hc : cv x with
      | pointer b =>
        rw [hc] at hx
        cases hx with
        | ptr hb => exact ⟨_, by simp [hc], .ptr hb⟩
      | _ => rw [hc] at hx; cases hx
    · cases h
  | binOp op t x y t2 =>
    simp [ho, Op.operands] at hop
    simp only [ho] at h
    cases hf : (flat (ev x) && flat (ev y)) with
    | true =>
      simp only [hf, cond_true] at h
      obtain ⟨h1, h2⟩ := valueOf_some h
      rw [Bool.and_eq_true] at hf
      dsimp only
      rw [flat_env hop.1 hf.1, flat_env hop.2 hf.2]
      unfold execOp at h1
      rw [ho] at h1
      exact ⟨v, run_of_pureRun h1 w, flat_rel h2⟩
    | false =>
      simp only [hf, cond_false] at h
      cases hu : P.underlying t with
      | none => simp [hu] at h
      | some d =>
        simp only [hu, Option.bind_some] at h
        exact lift _ (nil_sim hu (hop.1) (hop.2) h)
  | unOp op t x =>
    simp [ho, Op.operands] at hop
    simp only [ho] at h
    cases hf : flat (ev x) with
    | true =>
      simp only [hf, cond_true] at h
      obtain ⟨h1, h2⟩ := valueOf_some h
      dsimp only
      rw [flat_env hop hf]
      unfold execOp at h1
      rw [ho] at h1
      exact ⟨v, run_of_pureRun h1 w, flat_rel h2⟩
    | false => simp [hf] at h
  | convert s d x =>
    simp [ho, Op.operands] at hop
    simp only [ho] at h
    cases hf : flat (ev x) with
    | true =>
      simp only [hf, cond_true] at h
      obtain ⟨h1, h2⟩ := valueOf_some h
      dsimp only
      rw [flat_env hop hf]
      unfold execOp at h1
      rw [ho] at h1
      exact ⟨v, run_of_pureRun h1 w, flat_rel h2⟩
    | false => simp [hf] at h
  | fieldAddr t x f =>
    simp [ho, Op.operands] at hop
    simp only [ho] at h
    exact lift _ (fieldAt_sim (hop) h)
  | field t x f =>
    simp [ho, Op.operands] at hop
    simp only [ho] at h
    exact lift _ (field_sim (hop) h)
  | indexAddr t x ix =>
    simp [ho, Op.operands] at hop
    simp only [ho] at h
    exact lift _ (indexAt_sim (hop.1) (hop.2) h)
  | index t x ix =>
    simp [ho, Op.operands] at hop
    simp only [ho] at h
    exact lift _ (index_sim (hop.1) (hop.2) h)
  | extract x ix =>
    simp [ho, Op.operands] at hop
    simp only [ho] at h
    exact lift _ (extract_sim (hop) h)
  | makeFunc fn first captured =>
    simp only [ho, Op.operands] at hop
    simp only [ho] at h
    cases fn <;> simp only at h <;> first | cases h | skip
    have h1 := AllRel.map (ρ := ρ) (ev := ev) (cv := cv) first (fun x hx => (hop x (by simp; exact .inl (by simpa using hx))))
    have h2 := AllRel.map (ρ := ρ) (ev := ev) (cv := cv) captured (fun x hx => (hop x (by simp; exact .inr (by simpa using hx))))
    exact ⟨_, rfl, .func h1.1 h2.1 h1.2 h2.2⟩
  | build t parts =>
    simp only [ho, Op.operands] at hop
    simp only [ho] at h
    cases hz : zeroAt P t with
    | none => simp [hz] at h
    | some z =>
      simp only [hz, Option.bind_some] at h
      exact lift _ (build_sim (fun x hx => (hop x.2 (by simp; exact ⟨x.1, by simpa using hx⟩))) hz h)
  | slice t x lo hi mx =>
    simp only [ho] at h
    cases mx with
    | some m => simp at h
    | none =>
      simp only [ho, Op.operands] at hop
      simp only at h
      exact lift _ (slice_sim ((hop x (by simp))) (fun y hy => (hop y (by subst hy; simp))) (fun y hy => (hop y (by subst hy; simp))) h)
  | call c =>
    obtain ⟨callee, args, argTypes⟩ := c
    simp only [ho] at h
    cases callee with
    | builtin b =>
      cases b <;> simp only at h <;> first | cases h | skip
      all_goals split at h
      all_goals first
        | (cases h; done)
        | (rename_i x y hx
           have hargs : args = #[x, y] := by
             apply Array.ext'; simpa using hx
           subst hargs
           simp [ho, Op.operands, Call.operands] at hop
           cases hf : (flat (ev x) && flat (ev y)) with
           | false => simp [hf] at h
           | true =>
             simp only [hf, cond_true] at h
             obtain ⟨h1, h2⟩ := flatOf_some h
             rw [Bool.and_eq_true] at hf
             have e1 := flat_env hop.1 hf.1
             have e2 := flat_env hop.2 hf.2
             refine ⟨v, ?_, flat_rel h2⟩
             have h3 := run_of_pureRun h1 w
             simp only [resolve, Sem.run_bind, Sem.run_pure, Result.andThen_ok, invoke, Go.builtin, List.map_toArray, List.map_cons, List.map_nil, e1, e2]
             rw [h3]
             rfl)
        | (rename_i x hx
           have hargs : args = #[x] := by
             apply Array.ext'; simpa using hx
           subst hargs
           simp [ho, Op.operands, Call.operands] at hop
           obtain ⟨c, hc, hr⟩ := len_sim (w := w) (hop) h
           refine ⟨c, ?_, hr⟩
           simp only [resolve, Sem.run_bind, Sem.run_pure, Result.andThen_ok, invoke, Go.builtin, List.map_toArray, List.map_cons, List.map_nil]
           rw [hc]
           rfl)
    | _ => simp at h
  | _ => simp [ho] at h

end Go.AM
