/-
  The abstract machine and the machine: operations that make a block, and calls.
-/
import Derived.Test.YtbnllihefecemaaGreatDoorAm6
set_option linter.unusedSimpArgs false
set_option linter.unusedVariables false
namespace Go.AM
open Go

variable {P : Program} {ρ : Map} {ev cv : Operand → Value} {o : Oper} {v : Value} {w : World} {m : Mem}

theorem heap_alloc_self (w : World) (ob : Obj) : (w.alloc ob).heap[w.heap.size]? = some ob := by
  show (w.heap.push ob)[w.heap.size]? = some ob
  simp

theorem grew_alloc (w : World) (ob : Obj) : Grew w (w.alloc ob) where
  os := rfl
  tape := rfl
  output := rfl
  size := by simp
  old := fun k hk => by
    show (w.heap.push ob)[k]? = _
    rw [Array.getElem?_push, if_neg (by omega)]

theorem BRel.new {ρ' : Map} {a c : Array Value} (e e' : TypeId) (h : AllRel ρ' a c) : BRel ρ' ⟨w.heap.size, 0, c.size⟩ (.cells e a.toList true) (w.alloc (.cells c e')) := by
  refine ⟨c, e', 0, 0, heap_alloc_self w _, rfl, ⟨by simp [h.1], ?_⟩, fun _ i _ hh => by omega⟩
  intro i x hx
  rw [Array.getElem?_toList] at hx
  obtain ⟨y, hy, hr⟩ := h.get hx
  exact ⟨y, by simpa using hy, hr⟩

theorem flat_cell {z : Value} (hz : flat z = true) (k : Nat) (ρ : Map) : VRel ρ (z.cells[k]!) (z.cells[k]!) := by
  rcases Nat.lt_or_ge k z.cells.size with hk | hk
  · have := (flat_rel (ρ := ρ) hz).cells.2 k (z.cells[k]) (z.cells[k]) (Array.getElem?_eq_getElem hk) (Array.getElem?_eq_getElem hk)
    rw [getElem!_pos z.cells k hk]
    exact this
  · rw [getElem!_neg z.cells k (by omega)]
    exact .bool _

theorem zeros_rel {z : Value} (hz : flat z = true) (n : Nat) (ρ : Map) : AllRel ρ ((Array.range n).map (z.cells[· % z.cells.size]!)) ((Array.range n).map (z.cells[· % z.cells.size]!)) := by
  refine ⟨rfl, fun i x y hx hy => ?_⟩
  rw [hx] at hy
  obtain rfl := Option.some.inj hy
  rw [Array.getElem?_map] at hx
  cases hr : (Array.range n)[i]? with
  | none => simp [hr] at hx
  | some j =>
    simp only [hr, Option.map_some, Option.some.injEq] at hx
    subst hx
    exact flat_cell hz _ ρ

theorem wrap_small {n : Nat} (h : n ≤ 1000000000) : IntKind.i64.wrap (n : Int) = n := by
  have e : (2 : Int) ^ (IntKind.bits .i64) = 18446744073709551616 := by decide
  have e' : (2 : Int) ^ (IntKind.bits .i64 - 1) = 9223372036854775808 := by decide
  unfold IntKind.wrap
  simp only [e, e']
  rw [Int.emod_eq_of_lt (by omega) (by omega), if_neg]
  simp
  intro _
  omega

theorem zeros_spec {elem : TypeId} {n size : Nat} {z : List Value} (hs : sizeAt P elem = some size) (hz : zeroCells P elem n = some z) :
    z.length = n * size ∧ AllRel ρ z.toArray z.toArray ∧ ((n * size = 0 ∧ z = []) ∨ (n * size ≠ 0 ∧ ∃ z0, zeroAt P elem = some z0 ∧ z.toArray = (Array.range (n * size)).map (z0.cells[· % z0.cells.size]!))) := by
  unfold zeroCells at hz
  simp only [hs, Option.bind_some] at hz
  by_cases h0 : n * size = 0
  · simp only [h0, Nat.beq_refl, cond_true, Option.some.injEq] at hz
    subst hz
    exact ⟨by simp [h0], ⟨rfl, fun i x y hx => by simp at hx⟩, .inl ⟨h0, rfl⟩⟩
  · have hb0 : Nat.beq (n * size) 0 = false := by
      cases hq : Nat.beq (n * size) 0 with
      | false => rfl
      | true => exact absurd (Nat.eq_of_beq_eq_true hq) h0
    simp only [hb0, cond_false] at hz
    cases hz0 : zeroAt P elem with
    | none => simp [hz0] at hz
    | some z0 =>
      simp only [hz0, Option.bind_some, Option.some.injEq] at hz
      subst hz
      refine ⟨by simp, ?_, .inr ⟨h0, z0, rfl, by rw [Array.toArray_toList]⟩⟩
      rw [Array.toArray_toList]
      exact zeros_rel (zeroAt_some hz0).1 (n * size) ρ

theorem fill_size (place : Nat → Option (Nat × Nat)) : ∀ (l : List (Nat × Value)) {a cs : Array Value}, Instr.fill place a l = some cs → cs.size = a.size
  | [], a, cs, h => by simp only [Instr.fill, Option.some.injEq] at h; rw [h]
  | (i, v) :: r, a, cs, h => by
    simp only [Instr.fill] at h
    split at h
    · cases h
    · split at h
      · cases h
      · have hfold : ∀ (l : List (Value × Nat)) (off : Nat) (b : Array Value), (l.foldl (fun cs x => cs.setIfInBounds (off + x.2) x.1) b).size = b.size := by
          intro l off
          induction l with
          | nil => intro b; rfl
          | cons x l ih => intro b; simp only [List.foldl_cons]; rw [ih]; simp
        rw [fill_size place r h, ← Array.foldl_toList]
        exact hfold _ _ _

/-- What a new block asks of the map. -/
def NewEnd (P : Program) (ρ : Map) (cv : Operand → Value) (o : Oper) (w : World) (x : Blk) (f : Nat → Value) : Prop :=
  ∃ c ob size, (execOp cv o).run P w = .ok (.value c) (w.alloc ob) ∧ ∀ (ρ' : Map) (b : Nat), ρ.Le ρ' → ρ' b = some ⟨w.heap.size, 0, size⟩ → VRel ρ' (f b) c ∧ BRel ρ' ⟨w.heap.size, 0, size⟩ x (w.alloc ob)

theorem new_sim {x : Blk} {f : Nat → Value} (hop : OpRel ρ ev cv o) (h : newOp P ev o = some (x, f)) : NewEnd P ρ cv o w x f := by
  unfold newOp at h
  unfold OpRel at hop
  unfold NewEnd execOp
  cases ho : o.op with
  | alloc elem =>
    simp only [ho] at h
    cases hz : zeroAt P elem with
    | none => simp [hz] at h
    | some z =>
      simp only [hz, Option.bind_some, Option.some.injEq, Prod.mk.injEq] at h
      obtain ⟨rfl, rfl⟩ := h
      refine ⟨.pointer (some ⟨w.heap.size, 0, none⟩), .cells z.cells elem, z.cells.size, ?_, fun ρ' b _ hb => ⟨?_, ?_⟩⟩
      · simp [Instr.alloc, run_zeroValue' hz, newVar, newRow]
      · exact .ptr hb
      · exact .new elem elem (flat_rel (zeroAt_some hz).1).cells
  | box elem a =>
    simp [ho, Op.operands] at hop
    simp only [ho, Option.some.injEq, Prod.mk.injEq] at h
    obtain ⟨rfl, rfl⟩ := h
    refine ⟨.pointer (some ⟨w.heap.size, 0, none⟩), .cells (cv a).cells elem, (cv a).cells.size, ?_, fun ρ' b hle hb => ⟨?_, ?_⟩⟩
    · simp [Instr.box, newVar, newRow]
    · exact .ptr hb
    · exact .new elem elem ((hop).mono hle).cells
  | buildSlice t len parts =>
    simp only [ho, Op.operands] at hop
    simp only [ho] at h
    split at h
    · rename_i elem hu
      cases hs : sizeAt P elem with
      | none => simp [hs] at h
      | some size =>
        cases hz : zeroCells P elem len with
        | none => simp [hs, hz] at h
        | some z =>
          cases hle : Nat.ble (len * size) 1000000 with
          | false => simp [hs, hz, hle] at h
          | true =>
            simp only [hs, hz, hle, Option.bind_some, cond_true] at h
            cases hf : Instr.fill (fun i => some (i * size, size)) z.toArray (parts.map fun x => (x.1, ev x.2)).toList with
            | none => rw [hf] at h; simp at h
            | some cs =>
              rw [hf] at h
              simp only [Option.bind_some, Option.some.injEq, Prod.mk.injEq] at h
              obtain ⟨rfl, rfl⟩ := h
              have hb := parts_both (ρ := ρ) (ev := ev) (cv := cv) (parts := parts) (fun x hx => (hop x.2 (by simp; exact ⟨x.1, by simpa using hx⟩)))
              have hle' := Nat.le_of_ble_eq_true hle
              obtain ⟨hzl, hzr, hzz⟩ := zeros_spec (ρ := ρ) hs hz
              obtain ⟨cs', hf', hr⟩ := fill_rel _ hb hzr hf
              have hflen : cs'.size = len * size := by
                rw [← hr.1, fill_size _ _ hf]
                simpa using hzl
              refine ⟨.slice (some ⟨w.heap.size, 0, none⟩) len len, .cells cs' elem, cs'.size, ?_, fun ρ' b hl hb => ⟨?_, ?_⟩⟩
              · have hbig : ¬ (len * size > 2 ^ 24) := by omega
                rcases hzz with ⟨h0, rfl⟩ | ⟨h0, z0, hz0, hza⟩
                · have er : ∀ f : Nat → Value, (Array.range 0).map f = #[] := fun f => by simp
                  simp only [Instr.buildSlice, Sem.run_bind, run_underlying' hu, run_sizeOf' hs, Result.andThen_ok, h0, show ¬ (0 > 2 ^ 24) by omega, if_false, if_true, Sem.run_pure, er, hf']
                  simp [newRow]
                · have hf2 := hf'
                  rw [hza] at hf2
                  simp only [Instr.buildSlice, Sem.run_bind, run_underlying' hu, run_sizeOf' hs, Result.andThen_ok, hbig, if_false, h0, run_zeroValue' hz0, Sem.run_pure, hf2]
                  simp [newRow]
              · exact .slice hb (.inl rfl) (Nat.le_refl _) (by simp [hflen])
              · exact .new elem elem ⟨hr.1, fun i a c ha hc => (hr.2 i a c ha hc).mono hl⟩
    · cases h
  | makeSlice t l c =>
    simp [ho, Op.operands] at hop
    simp only [ho] at h
    split at h
    · rename_i elem k l' k' c' hu hl hc
      cases hi : P.info? elem with
      | none => simp [hi] at h
      | some i =>
        cases hb : (Nat.ble l' c' && Nat.ble c' 1000000 && Nat.ble i.bytes 100000) with
        | false => simp [hi, hb] at h
        | true =>
          simp only [hi, hb, Option.bind_some, cond_true] at h
          simp only [Bool.and_eq_true, Nat.ble_eq] at hb
          obtain ⟨⟨hb1, hb2⟩, hb3⟩ := hb
          cases hz0 : zeroAt P elem with
          | none => simp [hz0] at h
          | some z0 =>
          cases hz : zeroCells P elem l' with
          | none => simp [hz0, hz] at h
          | some z =>
            simp only [hz0, hz, Option.bind_some, Option.some.injEq, Prod.mk.injEq] at h
            obtain ⟨rfl, rfl⟩ := h
            have hsz : sizeAt P elem = some i.size := by simp [sizeAt, hi]
            have hcl : cv l = .int k (Int.ofNat l') := by have := hop.1; rw [hl] at this; exact this.int_inv
            have hcc : cv c = .int k' (Int.ofNat c') := by have := hop.2; rw [hc] at this; exact this.int_inv
            obtain ⟨hzl, hzr, hzz⟩ := zeros_spec (ρ := ρ) hsz hz
            have hw1 : IntKind.i64.wrap (Int.ofNat l') = l' := wrap_small (by omega)
            have hw2 : IntKind.i64.wrap (Int.ofNat c') = c' := wrap_small (by omega)
            have hbyt : i.bytes * c' ≤ 100000 * 1000000 := Nat.mul_le_mul hb3 hb2
            have hlarge : ∀ n : Nat, n ≤ c' → ((n : Int) < 0 || (i.bytes : Int) * n > 2 ^ 48) = false := by
              intro n hn
              have h1 : i.bytes * n ≤ 100000 * 1000000 := Nat.mul_le_mul hb3 (by omega)
              have h2 : ((i.bytes * n : Nat) : Int) ≤ 100000000000 := by omega
              rw [Int.natCast_mul] at h2
              simp
              omega
            have hmul : l' * i.size ≤ c' * i.size := Nat.mul_le_mul_right _ hb1
            have hcells : ∃ cs : Array Value, ((Instr.makeSlice t (cv l) (cv c)).run P w = .ok (.slice (some ⟨w.heap.size, 0, none⟩) l' c') (w.alloc (.cells cs elem))) ∧ cs.size = c' * i.size ∧ ∀ (j : Nat) x, z[j]? = some x → ∃ u, cs[j]? = some u ∧ VRel ρ x u := by
              have hL := hlarge l' hb1
              have hC := hlarge c' (Nat.le_refl _)
              have hlc : ((l' : Int) < 0 ∨ (l' : Int) > c') = False := by simp; omega
              rw [hcl, hcc]
              have hc2 : (false || decide ((l' : Int) < 0) || decide ((l' : Int) > c')) = false := by simp; omega
              have hf : (false = true) = False := by simp
              by_cases h0 : c' * i.size = 0
              · refine ⟨#[], ?_, by simp [h0], fun j x hx => ?_⟩
                · have er : ∀ f : Nat → Value, (Array.range 0).map f = #[] := fun f => by simp
                  simp only [Instr.makeSlice, Sem.run_bind, run_underlying' hu, Result.andThen_ok, asInt, asIntOf, Sem.run_pure, run_typeInfo' hi, hw1, hw2, hL, hC, Int.toNat_natCast]
                  rw [if_neg (by rw [hc2]; simp)]
                  simp only [Sem.run_bind, Result.andThen_ok, run_askRoom, run_sizeOf' hsz, h0, if_true, Sem.run_pure, er]
                  simp [newRow]
                · have : l' * i.size = 0 := by omega
                  rw [this] at hzl
                  rw [List.eq_nil_of_length_eq_zero hzl] at hx
                  simp at hx
              · refine ⟨(Array.range (c' * i.size)).map (z0.cells[· % z0.cells.size]!), ?_, by simp, fun j x hx => ?_⟩
                · simp only [Instr.makeSlice, Sem.run_bind, run_underlying' hu, Result.andThen_ok, asInt, asIntOf, Sem.run_pure, run_typeInfo' hi, hw1, hw2, hL, hC, Int.toNat_natCast]
                  rw [if_neg (by rw [hc2]; simp)]
                  simp only [Sem.run_bind, Result.andThen_ok, run_askRoom, run_sizeOf' hsz, h0, if_false, Sem.run_pure, run_zeroValue' hz0]
                  simp [newRow]
                · rcases hzz with ⟨_, rfl⟩ | ⟨h1, z1, hz1, hza⟩
                  · simp at hx
                  · rw [hz0] at hz1
                    obtain rfl := Option.some.inj hz1
                    have hj : j < z.length := by
                      rcases Nat.lt_or_ge j z.length with h' | h'
                      · exact h'
                      · rw [List.getElem?_eq_none h'] at hx; cases hx
                    have hx' : z.toArray[j]? = some x := by simpa using hx
                    rw [hza] at hx'
                    refine ⟨x, ?_, ?_⟩
                    · rw [Array.getElem?_map, Array.getElem?_range] at hx' ⊢
                      rw [if_pos (by omega)] at hx'
                      rw [if_pos (by omega)]
                      exact hx'
                    · rw [Array.getElem?_map, Array.getElem?_range, if_pos (by omega)] at hx'
                      simp only [Option.map_some, Option.some.injEq] at hx'
                      rw [← hx']
                      exact flat_cell (zeroAt_some hz0).1 _ ρ
            obtain ⟨cs, hrun, hcs, hrel⟩ := hcells
            refine ⟨.slice (some ⟨w.heap.size, 0, none⟩) l' c', .cells cs elem, cs.size, by simp [hrun], fun ρ' b hle hb => ⟨?_, ?_⟩⟩
            · exact .slice hb (.inl rfl) hb1 (by simp [hcs])
            · refine ⟨cs, elem, 0, 0, heap_alloc_self w _, rfl, ⟨by simp [hzl, hcs]; exact hmul, ?_⟩, fun _ i _ hh => by omega⟩
              intro j x hx
              obtain ⟨u, hu', hr⟩ := hrel j x hx
              exact ⟨u, by simpa using hu', hr.mono hle⟩
    · cases h
  | makeMap t r =>
    simp only [ho, Op.operands] at hop
    simp only [ho] at h
    split at h
    · rename_i key elem hu
      simp only [Option.some.injEq, Prod.mk.injEq] at h
      obtain ⟨rfl, rfl⟩ := h
      refine ⟨.map (some w.heap.size), .map #[] 0, 0, ?_, fun ρ' b _ hb => ⟨.map hb, #[], 0, heap_alloc_self w _, .nil⟩⟩
      simp [Instr.makeMap]
    · rename_i key elem r hu
      cases hr : intOf (ev r) with
      | none => simp [hr] at h
      | some n =>
        simp only [hr, Option.bind_some, Option.some.injEq, Prod.mk.injEq] at h
        obtain ⟨rfl, rfl⟩ := h
        have hrr := (hop r (by simp))
        cases hv : ev r <;> rw [hv] at hr hrr <;> simp [intOf] at hr
        refine ⟨.map (some w.heap.size), .map #[] 0, 0, ?_, fun ρ' b _ hb => ⟨.map hb, #[], 0, heap_alloc_self w _, .nil⟩⟩
        simp [Instr.makeMap, run_underlying' hu, hrr.int_inv, asInt, asIntOf]
    · cases h
  | _ => simp [ho] at h

theorem call_sim {f : FuncId} {args : Array Value} (hop : OpRel ρ ev cv o) (h : callOp P ev o = some (f, args)) :
    ∃ cargs, (execOp cv o).run P w = .ok (.enter f cargs) w ∧ AllRel ρ args cargs := by
  unfold callOp at h
  unfold OpRel at hop
  unfold execOp
  cases ho : o.op with
  | call c =>
    obtain ⟨callee, as, argTypes⟩ := c
    simp only [ho] at h
    cases callee with
    | value fv =>
      simp only at h
      simp only [ho, Op.operands, Call.operands] at hop
      split at h
      · rename_i g first captured hv
        have hr := (hop fv (by simp))
        rw [hv] at hr
        split at h
        · rename_i fn hfn
          cases hb : (fn.body.isSome && !(fn.name == "runtime.NumGoroutine")) with
          | false => simp [hb] at h
          | true =>
            simp only [hb, cond_true, Option.some.injEq, Prod.mk.injEq] at h
            obtain ⟨rfl, rfl⟩ := h
            rw [Bool.and_eq_true] at hb
            have hn : (fn.name == "runtime.NumGoroutine") = false := by simpa using hb.2
            have hbn : fn.body.isNone = false := by cases hq : fn.body <;> simp_all
            cases hcv : cv fv with
            | func fn' f' c' =>
              rw [hcv] at hr
              cases hr with
              | func h1 h2 h3 h4 =>
                refine ⟨f' ++ as.map cv ++ c', ?_, ?_⟩
                · have hn' : fn.name ≠ "runtime.NumGoroutine" := by simpa using hn
                  have hbn' : fn.body ≠ none := by intro e; rw [e] at hbn; cases hbn
                  simp [resolve, hcv, Deferred.ofValue, invoke, callFunc, hfn, hn', hbn']
                · exact (AllRel.append ⟨h1, h3⟩ (AllRel.map as fun x hx => (hop x (by simp; exact .inr (by simpa using hx))))).append ⟨h2, h4⟩
            | _ => rw [hcv] at hr; cases hr
        · cases h
      · cases h
    | _ => simp at h
  | _ => simp [ho] at h

end Go.AM
