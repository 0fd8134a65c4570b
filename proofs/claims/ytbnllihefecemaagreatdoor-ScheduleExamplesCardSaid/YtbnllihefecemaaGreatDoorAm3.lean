/-
  The abstract machine and the machine: operations that ask nothing of memory come to related values.
-/
import Derived.Test.YtbnllihefecemaaGreatDoorAm2
set_option linter.unusedSimpArgs false
set_option linter.unusedVariables false
namespace Go.AM
open Go

/-- The operands of an operation stand for each other. -/
def OpRel (ρ : Map) (ev cv : Operand → Value) (o : Oper) : Prop := ∀ x ∈ o.op.operands.toList, VRel ρ (ev x) (cv x)

section
variable {P : Program} {α β : Type}
attribute [simp] pureRun_bind
@[simp] theorem pureRun_map (P : Program) (s : Sem α) (f : α → β) : pureRun P (f <$> s) = (pureRun P s).map f := by
  have h : pureRun P (f <$> s) = (pureRun P s).bind fun a => some (f a) := pureRun_bind P s fun a => pure (f a)
  rw [h]; cases pureRun P s <;> rfl
@[simp] theorem pureRun_pure (a : α) : pureRun P (pure a : Sem α) = some a := rfl
@[simp] theorem pureRun_stuck (s : String) : pureRun P (stuck s : Sem α) = none := rfl
@[simp] theorem pureRun_unsupported (u : Unsupported) : pureRun P (unsupported u : Sem α) = none := rfl
@[simp] theorem pureRun_goPanic (v : Value) : pureRun P (goPanic v : Sem α) = none := rfl
@[simp] theorem pureRun_program : pureRun P program = some P := rfl
@[simp] theorem pureRun_shape (r : Nat) : pureRun P (shape r) = none := rfl
@[simp] theorem pureRun_choose (q : Question) : pureRun P (choose q) = none := rfl
@[simp] theorem pureRun_newObj (o : Obj) : pureRun P (newObj o) = none := rfl
@[simp] theorem pureRun_getObj (r : Nat) : pureRun P (getObj r) = none := rfl
@[simp] theorem pureRun_load (a : Addr) (m : Mode) : pureRun P (load a m) = none := rfl
@[simp] theorem pureRun_ite (c : Prop) [Decidable c] (x y : Sem α) : pureRun P (if c then x else y) = if c then pureRun P x else pureRun P y := by split <;> rfl

@[simp] theorem pureRun_underlying (t : TypeId) : pureRun P (underlying t) = P.underlying t := by
  unfold underlying
  rw [pureRun_bind, pureRun_program]
  simp only [Option.bind_some]
  cases P.underlying t <;> rfl
@[simp] theorem pureRun_typeInfo (t : TypeId) : pureRun P (typeInfo t) = P.info? t := by
  unfold typeInfo
  rw [pureRun_bind, pureRun_program]
  simp only [Option.bind_some]
  cases h : P.info? t <;> simp [h] <;> rfl
@[simp] theorem pureRun_sizeOf (t : TypeId) : pureRun P (sizeOf t) = sizeAt P t := by
  unfold sizeOf sizeAt
  rw [pureRun_bind, pureRun_typeInfo]
  cases P.info? t <;> rfl
@[simp] theorem pureRun_isAgg (t : TypeId) : pureRun P (isAgg t) = aggAt P t := by
  unfold isAgg aggAt
  rw [pureRun_bind, pureRun_underlying]
  cases P.underlying t with
  | none => rfl
  | some d => cases d <;> rfl

theorem run_underlying' {t : TypeId} {d : TypeDesc} (h : P.underlying t = some d) (w : World) : (underlying t).run P w = .ok d w :=
  run_of_pureRun (by rw [pureRun_underlying, h]) w
theorem run_typeInfo' {t : TypeId} {d : TypeInfo} (h : P.info? t = some d) (w : World) : (typeInfo t).run P w = .ok d w :=
  run_of_pureRun (by rw [pureRun_typeInfo, h]) w
theorem run_sizeOf' {t : TypeId} {d : Nat} (h : sizeAt P t = some d) (w : World) : (sizeOf t).run P w = .ok d w :=
  run_of_pureRun (by rw [pureRun_sizeOf, h]) w
theorem run_isAgg' {t : TypeId} {d : Bool} (h : aggAt P t = some d) (w : World) : (isAgg t).run P w = .ok d w :=
  run_of_pureRun (by rw [pureRun_isAgg, h]) w
end

theorem add_none (b o n : Nat) : (⟨b, o, none⟩ : Addr).add n = ⟨b, o + n, none⟩ := by
  unfold Addr.add
  split
  · simp [*]
  · rfl

theorem VRel.int_inv {ρ : Map} {k : IntKind} {n : Int} {c : Value} (h : VRel ρ (.int k n) c) : c = .int k n := by cases h; rfl
theorem VRel.bool_inv {ρ : Map} {n : Bool} {c : Value} (h : VRel ρ (.bool n) c) : c = .bool n := by cases h; rfl
theorem VRel.string_inv {ρ : Map} {n : ByteArray} {c : Value} (h : VRel ρ (.string n) c) : c = .string n := by cases h; rfl

variable {P : Program} {ρ : Map} {ev cv : Operand → Value} {o : Oper} {v : Value} {w : World}

/-- An end of a run: a value, the world as it was. -/
def Gives (P : Program) (ρ : Map) (s : Sem Value) (w : World) (v : Value) : Prop := ∃ c, s.run P w = .ok c w ∧ VRel ρ v c

theorem asIntOf_pure {x : Value} {k : IntKind × Int} (h : pureRun P (asIntOf x) = some k) : x = .int k.1 k.2 := by
  cases x <;> simp [asIntOf, pureRun_pure, pureRun_stuck] at h
  · subst h; rfl
  · rename_i a; cases a <;> simp [asIntOf, pureRun_stuck, pureRun_unsupported] at h

theorem part_sim {t : TypeId} {cs cs' : Array Value} {off : Nat} (hc : AllRel ρ cs cs') (h : pureRun P (part t cs off) = some v) : Gives P ρ (part t cs' off) w v := by
  unfold part at h ⊢
  rw [pureRun_bind, pureRun_isAgg] at h
  cases ha : aggAt P t with
  | none => simp [ha] at h
  | some b =>
    rw [ha] at h
    simp only [Option.bind_some] at h
    cases b with
    | true =>
      simp only [if_true, pureRun_bind, pureRun_sizeOf] at h
      cases hs : sizeAt P t with
      | none => simp [hs] at h
      | some n =>
        simp only [hs, Option.bind_some, pureRun_pure, Option.some.injEq] at h
        subst h
        refine ⟨.agg (cs'.extract off (off + n)), by simp [run_isAgg' ha, run_sizeOf' hs], .agg ?_ ?_⟩
        · simp [hc.1]
        · intro i x y hx hy
          rw [Array.getElem?_extract] at hx hy
          split at hx
          · rename_i h1
            rw [if_pos (by rw [← hc.1]; exact h1)] at hy
            exact hc.2 _ _ _ hx hy
          · cases hx
    | false =>
      simp only [Bool.false_eq_true, if_false] at h
      cases hx : cs[off]? with
      | none => simp [hx, pureRun_stuck] at h
      | some x =>
        simp only [hx, pureRun_pure, Option.some.injEq] at h
        subst h
        obtain ⟨y, hy, hr⟩ := hc.get hx
        exact ⟨y, by simp [run_isAgg' ha, hy], hr⟩

theorem fieldAt_sim {t : TypeId} {x c : Value} {f : Nat} (hx : VRel ρ x c) (h : pureRun P (Instr.fieldAt t x f) = some v) : Gives P ρ (Instr.fieldAt t c f) w v := by
  unfold Instr.fieldAt at h ⊢
  rw [pureRun_bind, pureRun_underlying] at h
  cases hu : P.underlying t with
  | none => simp [hu] at h
  | some d =>
    cases d <;> simp [hu, pureRun_stuck] at h
    rename_i fields
    cases hf : fields[f]? with
    | none => simp [hf, pureRun_stuck] at h
    | some fd =>
      simp only [hf] at h
      cases hx with
      | ptr hb =>
        simp [Instr.sureAddr, fieldPlace] at h
        cases hs : sizeAt P fd.type with
        | none => simp [hs] at h
        | some n =>
          simp only [hs, Option.bind_some] at h
          by_cases hn : n = 0
          · simp [hn, partAt, Go.byteOf] at h
          · simp [hn] at h
            subst h
            refine ⟨_, by simp [run_underlying' hu, hf, Instr.sureAddr, fieldPlace, run_sizeOf' hs, hn]; rfl, ?_⟩
            rw [add_none, add_none, Nat.add_assoc]
            exact .ptr hb
      | _ => simp [Instr.sureAddr, pureRun_stuck] at h

theorem field_sim {t : TypeId} {x c : Value} {f : Nat} (hx : VRel ρ x c) (h : pureRun P (Instr.field t x f) = some v) : Gives P ρ (Instr.field t c f) w v := by
  unfold Instr.field at h ⊢
  rw [pureRun_bind, pureRun_underlying] at h
  cases hu : P.underlying t with
  | none => simp [hu] at h
  | some d =>
    cases d <;> simp [hu, pureRun_stuck] at h
    rename_i fields
    cases hf : fields[f]? with
    | none => simp [hf, pureRun_stuck] at h
    | some fd =>
      simp only [hf, pureRun_bind] at h
      cases hx with
      | agg hs hh =>
        simp only [asAgg, pureRun_pure, Option.bind_some] at h
        obtain ⟨r, hr, hv⟩ := part_sim (w := w) ⟨hs, hh⟩ h
        exact ⟨r, by simp [run_underlying' hu, hf, asAgg, hr], hv⟩
      | _ => simp [asAgg, pureRun_stuck] at h

theorem indexAt_sim {t : TypeId} {x c i j : Value} (hx : VRel ρ x c) (hi : VRel ρ i j) (h : pureRun P (Instr.indexAt t x i) = some v) : Gives P ρ (Instr.indexAt t c j) w v := by
  unfold Instr.indexAt at h ⊢
  rw [pureRun_bind] at h
  cases ha : pureRun P (asIntOf i) with
  | none => simp [ha] at h
  | some kn =>
    obtain ⟨k, n⟩ := kn
    have := asIntOf_pure ha
    simp only at this
    subst this
    rw [hi.int_inv]
    simp only [ha, Option.bind_some, pureRun_bind, pureRun_underlying] at h
    cases hu : P.underlying t with
    | none => simp [hu] at h
    | some d =>
      simp only [hu, Option.bind_some] at h
      cases d with
      | array len elem =>
        simp only [pureRun_bind] at h
        cases hx with
        | ptr hb =>
          by_cases hn : 0 ≤ n ∧ n < len
          · simp [Instr.sureAddr, hn, hu] at h
            cases hs : sizeAt P elem with
            | none => simp [hs] at h
            | some sz =>
              simp [hs] at h
              subst h
              refine ⟨_, by simp [asIntOf, run_underlying' hu, Instr.sureAddr, hn, run_sizeOf' hs]; rfl, ?_⟩
              rw [add_none, add_none, Nat.add_assoc]
              exact .ptr hb
          · simp [hn, hu, Instr.sureAddr, boundsPanic, runtimePanic] at h
            try (by_cases hl : len ≤ 1 <;> simp [hl, boundsPanic, runtimePanic] at h)
        | _ => simp [Instr.sureAddr, pureRun_stuck] at h
      | slice elem =>
        cases hx with
        | slice hb hoff hlen hcap =>
          rename_i b o len sz off ccap p
          by_cases hn : 0 ≤ n ∧ n < len
          · simp [hn, hu] at h
            cases hs : sizeAt P elem with
            | none => simp [hs] at h
            | some sz =>
              simp [hs] at h
              subst h
              refine ⟨_, by simp [asIntOf, run_underlying' hu, hn, run_sizeOf' hs]; rfl, ?_⟩
              rcases hoff with rfl | ⟨rfl, _⟩
              · rw [add_none, add_none, Nat.add_assoc]
                exact .ptr hb
              · omega
          · simp [hn, hu, Instr.sureAddr, boundsPanic, runtimePanic] at h
            try (by_cases hl : len ≤ 1 <;> simp [hl, boundsPanic, runtimePanic] at h)
        | sliceNil =>
          simp [hu, boundsPanic, runtimePanic] at h
        | _ => simp [pureRun_stuck] at h
      | _ => simp [pureRun_stuck] at h

theorem index_sim {t : TypeId} {x c i j : Value} (hx : VRel ρ x c) (hi : VRel ρ i j) (h : pureRun P (Instr.index t x i) = some v) : Gives P ρ (Instr.index t c j) w v := by
  unfold Instr.index at h ⊢
  rw [pureRun_bind] at h
  cases ha : pureRun P (asIntOf i) with
  | none => simp [ha] at h
  | some kn =>
    obtain ⟨k, n⟩ := kn
    have := asIntOf_pure ha
    simp only at this
    subst this
    rw [hi.int_inv]
    simp only [ha, Option.bind_some, pureRun_bind, pureRun_underlying] at h
    cases hu : P.underlying t with
    | none => simp [hu] at h
    | some d =>
      simp only [hu, Option.bind_some] at h
      cases d with
      | array len elem =>
        cases hx with
        | agg hs hh =>
          simp only at h
          by_cases hn : 0 ≤ n ∧ n < len
          · simp only [hn, and_self, if_true, pureRun_bind, pureRun_sizeOf] at h
            cases hsz : sizeAt P elem with
            | none => simp [hsz] at h
            | some sz =>
              simp only [hsz, Option.bind_some] at h
              obtain ⟨r, hr, hv⟩ := part_sim (w := w) ⟨hs, hh⟩ h
              exact ⟨r, by simp [asIntOf, run_underlying' hu, hn, run_sizeOf' hsz, hr], hv⟩
          · simp [hn, boundsPanic, pureRun_bind, pureRun_ite, pureRun_pure, runtimePanic, pureRun_goPanic, pureRun_program, pureRun_choose] at h
        | _ => simp [pureRun_stuck] at h
      | string =>
        cases hx with
        | string s =>
          exact ⟨v, run_of_pureRun (by rw [pureRun_bind, ha]; simp only [Option.bind_some, pureRun_bind, pureRun_underlying, hu]; exact h) w, by
            simp only at h
            split at h
            · simp only [pureRun_pure, Option.some.injEq] at h
              subst h
              exact .int _ _
            · simp [boundsPanic, pureRun_bind, pureRun_ite, pureRun_pure, runtimePanic, pureRun_goPanic, pureRun_program, pureRun_choose] at h⟩
        | _ => simp [pureRun_stuck] at h
      | _ => simp [pureRun_stuck] at h

theorem extract_sim {x c : Value} {i : Nat} (hx : VRel ρ x c) (h : pureRun P (Instr.extract x i) = some v) : Gives P ρ (Instr.extract c i) w v := by
  unfold Instr.extract at h ⊢
  cases hx with
  | tuple hs hh =>
    rename_i a c
    simp only at h ⊢
    cases hi : a[i]? with
    | none => simp [hi, pureRun_stuck] at h
    | some u =>
      simp only [hi, pureRun_pure, Option.some.injEq] at h
      subst h
      obtain ⟨y, hy, hr⟩ := AllRel.get ⟨hs, hh⟩ hi
      exact ⟨y, by simp [hy], hr⟩
  | _ => simp [pureRun_stuck] at h

end Go.AM
