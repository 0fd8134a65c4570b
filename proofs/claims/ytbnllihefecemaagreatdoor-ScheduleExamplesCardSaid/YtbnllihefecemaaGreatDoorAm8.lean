/-
  The abstract machine and the machine: operations that write memory.
-/
import Derived.Test.YtbnllihefecemaaGreatDoorAm7
set_option linter.unusedSimpArgs false
set_option linter.unusedVariables false
namespace Go.AM
open Go

variable {P : Program} {ρ : Map} {ev cv : Operand → Value} {o : Oper} {v : Value} {w : World} {m m' : Mem}

theorem ones_mem {ρ : Map} : ∀ {l r : List Value}, ones l = true → Both (VRel ρ) l r → ∀ x ∈ r, x.oneCell' = true
  | [], r, _, hb, x, hx => by cases hb; simp at hx
  | v :: l, r, h, hb, x, hx => by
    cases hb with
    | cons hv ht =>
      rename_i y r
      have hl : ones l = true := by cases v <;> simp_all [ones]
      rcases List.mem_cons.1 hx with rfl | hx
      · cases hv <;> first | rfl | (simp [ones] at h)
      · exact ones_mem hl ht x hx

theorem storeCells_run {cb off : Nat} {e : TypeId} {lo hi : Nat} : ∀ (vs : List Value) (i : Nat) (w : World) (c : Array Value), w.heap[cb]? = some (.cells c e (lo, hi)) → (∀ x ∈ vs, x.oneCell' = true) →
    off + i + vs.length ≤ c.size → (∀ j, j < c.size → ¬ (lo ≤ j ∧ j < hi)) →
    ∃ c' w', (storeCells ⟨cb, off, none⟩ vs i).run P w = .ok () w' ∧ Turned w w' cb ∧ w'.heap[cb]? = some (.cells c' e (lo, hi)) ∧ c'.size = c.size ∧
      ∀ j, c'[j]? = if off + i ≤ j ∧ j < off + i + vs.length then vs[j - (off + i)]? else c[j]?
  | [], i, w, c, hc, _, _, _ => ⟨c, w, by simp [storeCells], ⟨rfl, rfl, rfl, rfl, fun _ _ => rfl⟩, hc, rfl, fun j => by
      rw [if_neg]; simp⟩
  | x :: vs, i, w, c, hc, h1, h2, h3 => by
    simp only [List.length_cons] at h2
    have hcell : w.cell? ⟨cb, off + i, none⟩ = some (c[off + i]'(by omega)) := by
      simp only [World.cell?, hc]
      simp only [Option.isSome_none, Bool.false_eq_true, if_false]
      exact Array.getElem?_eq_getElem _
    have hfr : w.frozen? ⟨cb, off + i, none⟩ = false := by
      simp only [World.frozen?, hc]
      have := h3 (off + i) (by omega)
      simp only [Bool.and_eq_false_iff, decide_eq_false_iff_not]
      omega
    have hset : (w.setCell ⟨cb, off + i, none⟩ x).heap[cb]? = some (.cells (c.setIfInBounds (off + i) x) e (lo, hi)) := by
      simp [World.setCell, Array.getElem?_modify, hc]
    have hsz : (c.setIfInBounds (off + i) x).size = c.size := by simp
    obtain ⟨c', w', g1, g2, g3, g4, g5⟩ := storeCells_run (off := off) vs (i + 1) (w.setCell ⟨cb, off + i, none⟩ x) (c.setIfInBounds (off + i) x) hset (fun y hy => h1 y (List.mem_cons_of_mem _ hy)) (by rw [hsz]; omega) (by rw [hsz]; exact h3)
    refine ⟨c', w', ?_, ?_, g3, by simpa using g4, ?_⟩
    · simp only [storeCells, Sem.run_bind, add_none]
      rw [run_store P w _ x .plain (h1 x (by simp)), hcell, hfr]
      simp only [Bool.false_eq_true, if_false, Result.andThen_ok]
      exact g1
    · exact ⟨g2.os, g2.tape, g2.output, by rw [g2.size]; simp, fun k hk => by rw [g2.other k hk]; simp [World.setCell, Array.getElem?_modify, Ne.symm hk]⟩
    · intro j
      rw [g5 j]
      by_cases e1 : off + (i + 1) ≤ j ∧ j < off + (i + 1) + vs.length
      · rw [if_pos e1, if_pos (by simp; omega)]
        rw [show j - (off + i) = j - (off + (i + 1)) + 1 by omega, List.getElem?_cons_succ]
      · rw [if_neg e1]
        by_cases e2 : j = off + i
        · subst e2
          have hlt : off + i < c.size := by omega
          rw [if_pos (by simp)]
          simp [hlt]
        · rw [if_neg (by simp; omega)]
          rw [Array.getElem?_setIfInBounds, if_neg (by omega)]

/-- The end of an operation that writes. -/
def WriteEnd (P : Program) (ρ : Map) (cv : Operand → Value) (o : Oper) (m : Mem) (w : World) (v : Value) (m' : Mem) : Prop :=
  ∃ c r w' ρ', (execOp cv o).run P w = .ok r w' ∧ (r = .value c ∨ (r = .skip ∧ c = undef)) ∧ VRel ρ' v c ∧ Inv ρ' m' w' ∧ Frm ρ m w ρ' m' w'

/-- New values in a row of cells. -/
theorem paste_sim {b k : Nat} {e : TypeId} {cs cs' vs : List Value} {us : List Value} {p : Pl} (hi : Inv ρ m w) (hp : ρ b = some p) (hb : m.get b = some (.cells e cs true)) (hpa : paste k vs cs = some cs') (hvs : Both (VRel ρ) vs us) (ho : ones vs = true) :
    ∃ w', (storeCells ⟨p.cb, p.co + k, none⟩ us).run P w = .ok () w' ∧ Inv ρ (m.put b (.cells e cs' true)) w' ∧ Frm ρ m w ρ (m.put b (.cells e cs' true)) w' := by
  obtain ⟨h1, h2, h3⟩ := paste_spec hpa
  obtain ⟨c, e', lo, hi', g1, g2, g3, g4⟩ := hi.rel.blk b p _ hp hb
  have hl := hvs.length
  have hsz := g3.1
  obtain ⟨c', w', r1, r2, r3, r4, r5⟩ := storeCells_run (P := P) (off := p.co + k) us 0 w c g1 (ones_mem ho hvs) (by omega) (g4 rfl)
  refine ⟨w', r1, put_inv hi hp hb rfl r2 ⟨c', e', lo, hi', r3, by rw [r4]; exact g2, ⟨by omega, ?_⟩, fun _ => by rw [r4]; exact g4 rfl⟩⟩
  intro i x hx
  rw [h3] at hx
  rw [r5]
  by_cases ei : k ≤ i ∧ i < k + vs.length
  · rw [if_pos ei] at hx
    rw [if_pos (by omega)]
    have hlt : i - k < us.length := by omega
    refine ⟨us[i - k], ?_, ?_⟩
    · rw [show p.co + i - (p.co + k + 0) = i - k by omega]
      exact List.getElem?_eq_getElem hlt
    · exact hvs.get _ _ _ hx (List.getElem?_eq_getElem hlt)
  · rw [if_neg ei] at hx
    rw [if_neg (by omega)]
    exact g3.2 i x hx

theorem storeAt_sim {t : TypeId} {a x ca cx : Value} (hi : Inv ρ m w) (ha : VRel ρ a ca) (hx : VRel ρ x cx) (h : storeAt P m t a x = some m') :
    ∃ w', (Instr.storeAt t ca cx).run P w = .ok () w' ∧ Inv ρ m' w' ∧ Frm ρ m w ρ m' w' := by
  unfold storeAt at h
  split at h
  · rename_i b k
    split at h
    · rename_i e cs hb
      cases hs : sizeAt P t with
      | none => simp [hs] at h
      | some n =>
        cases hc : (Nat.beq x.cells.size n && ones x.cells.toList) with
        | false => simp [hs, hc] at h
        | true =>
          simp only [hs, hc, Option.bind_some, cond_true] at h
          rw [Bool.and_eq_true, Nat.beq_eq] at hc
          obtain ⟨hc1, hc2⟩ := hc
          cases hpa : paste k x.cells.toList cs with
          | none => simp [hpa] at h
          | some cs' =>
            simp only [hpa, Option.bind_some, Option.some.injEq] at h
            subst h
            cases ha with
            | ptr hp =>
              rename_i p
              obtain ⟨w', h1, h2, h3⟩ := paste_sim (P := P) hi hp hb hpa hx.cells.both hc2
              refine ⟨w', ?_, h2, h3⟩
              have hsz : ¬ (cx.cells.size ≠ n) := by
                have := hx.cells.1
                omega
              simp only [Instr.storeAt, Instr.sureAddr, Sem.run_bind, Sem.run_pure, Result.andThen_ok, storeVar, run_sizeOf' hs, hsz, if_false]
              exact h1
    · cases h
  · cases h

theorem sameBits_key {t : TypeId} {k : Value} {kind : TypeDesc} (h : keyKind P t k = some kind) (n : Nat) : Instr.sameBits n k k = true := by
  obtain ⟨_, _, hk⟩ := keyKind_some h
  rcases hk with ⟨q, n, rfl, rfl⟩ | ⟨s, rfl, rfl⟩ | ⟨b, rfl, rfl⟩ <;> simp [Instr.sameBits]
  exact (MapKept.bytes_beq _ _).2 rfl

theorem storeKey_sim {kind : TypeDesc} {k v u : Value} {es : List (Value × Value)} {es' : List MapEntry} (hv : VRel ρ v u) (h : Both (EntryRel ρ) es es') : ∀ {es2 : List (Value × Value)} (i : Nat), storeKey kind k v es = some es2 →
    (Instr.findNow kind k es' i = some none ∧ es2 = es ++ [(k, v)]) ∨
    ∃ j y e, Instr.findNow kind k es' i = some (some (i + j, y)) ∧ es'[j]? = some e ∧ e.key = k ∧ Both (EntryRel ρ) es2 (es'.modify j fun e => { e with key := k, val := u }) := by
  induction h with
  | nil =>
    intro es2 i hs
    simp only [storeKey, Option.some.injEq] at hs
    subst hs
    exact .inl ⟨rfl, rfl⟩
  | @cons e e' l r he ht ih =>
    intro es2 i hs
    simp only [storeKey] at hs
    simp only [Instr.findNow]
    rw [← he.1]
    split at hs
    · rename_i hn
      simp only [Option.some.injEq] at hs
      subst hs
      have hk := sameNow_true hn
      refine .inr ⟨0, e'.val, e', by simp [hn], rfl, by rw [← he.1, ← hk], ?_⟩
      exact .cons ⟨rfl, hv⟩ ht
    · rename_i hn
      cases hr : storeKey kind k v l with
      | none => simp [hr] at hs
      | some q =>
        simp only [hr, Option.bind_some, Option.some.injEq] at hs
        subst hs
        rcases ih (i + 1) hr with ⟨h1, h2⟩ | ⟨j, y, e2, h1, h2, h3, h4⟩
        · exact .inl ⟨by simp [hn, h1], by simp [h2]⟩
        · refine .inr ⟨j + 1, y, e2, ?_, by simpa using h2, h3, ?_⟩
          · simp only [hn, h1]
            rw [show i + 1 + j = i + (j + 1) by omega]
          · simp only [List.modify_succ_cons]
            exact .cons he h4
    · cases hs

theorem dropKey_sim {kind : TypeDesc} {k : Value} {es : List (Value × Value)} {es' : List MapEntry} (h : Both (EntryRel ρ) es es') : ∀ {es2 : List (Value × Value)} (i : Nat), dropKey kind k es = some es2 →
    (Instr.findNow kind k es' i = some none ∧ es2 = es) ∨
    ∃ j y, Instr.findNow kind k es' i = some (some (i + j, y)) ∧ Both (EntryRel ρ) es2 (es'.eraseIdx j) := by
  induction h with
  | nil =>
    intro es2 i hs
    simp only [dropKey, Option.some.injEq] at hs
    subst hs
    exact .inl ⟨rfl, rfl⟩
  | @cons e e' l r he ht ih =>
    intro es2 i hs
    simp only [dropKey] at hs
    simp only [Instr.findNow]
    rw [← he.1]
    split at hs
    · rename_i hn
      simp only [Option.some.injEq] at hs
      subst hs
      exact .inr ⟨0, e'.val, by simp [hn], ht⟩
    · rename_i hn
      cases hr : dropKey kind k l with
      | none => simp [hr] at hs
      | some q =>
        simp only [hr, Option.bind_some, Option.some.injEq] at hs
        subst hs
        rcases ih (i + 1) hr with ⟨h1, h2⟩ | ⟨j, y, h1, h2⟩
        · exact .inl ⟨by simp [hn, h1], by simp [h2]⟩
        · refine .inr ⟨j + 1, y, ?_, ?_⟩
          · simp only [hn, h1]
            rw [show i + 1 + j = i + (j + 1) by omega]
          · simp only [List.eraseIdx_cons_succ]
            exact .cons he h2
    · cases hs

/-- An object takes another's place. -/
theorem setObj_run {r : Nat} {ob ob' : Obj} (h : w.heap[r]? = some ob) (hm : ∃ es clock, ob = .map es clock) : ∃ w', (setObj r ob').run P w = .ok () w' ∧ Turned w w' r ∧ w'.heap[r]? = some ob' := by
  obtain ⟨es, clock, rfl⟩ := hm
  have hr : r < w.heap.size := by
    rcases Nat.lt_or_ge r w.heap.size with h' | h'
    · exact h'
    · rw [Array.getElem?_eq_none h'] at h; cases h
  refine ⟨{ w with heap := w.heap.setIfInBounds r ob' }, by simp [setObj, Sem.run, h], ⟨rfl, rfl, rfl, by simp, fun k hk => ?_⟩, ?_⟩
  · simp [Array.getElem?_setIfInBounds, Ne.symm hk]
  · simp [hr]

theorem mapUpdate_sim {t : TypeId} {r : Nat} {k x cx : Value} {key elem : TypeId} {kind : TypeDesc} {es es2 : List (Value × Value)} {p : Pl} (hi : Inv ρ m w) (hp : ρ r = some p) (hb : m.get r = some (.map es)) (hu : P.underlying t = some (.map key elem))
    (hk : keyKind P key k = some kind) (hx : VRel ρ x cx) (hs : storeKey kind k x es = some es2) :
    ∃ w', (Instr.mapUpdate t (.map (some p.cb)) k cx).run P w = .ok () w' ∧ Inv ρ (m.put r (.map es2)) w' ∧ Frm ρ m w ρ (m.put r (.map es2)) w' := by
  obtain ⟨es', clock, g1, g2⟩ := hi.rel.blk r p _ hp hb
  have hku := (keyKind_some hk).1
  have hck := checkKey_run (w := w) hk false 9999
  have hfind : ∀ r', Instr.findNow kind k es'.toList 0 = some r' → (Instr.findKey key k es'.toList).run P w = .ok r' w := by
    intro r' h
    unfold Instr.findKey
    rw [Sem.run_bind, run_underlying' hku, Result.andThen_ok, h]
    rfl
  rcases storeKey_sim hx g2 0 hs with ⟨h1, h2⟩ | ⟨j, y, e, h1, h2, h3, h4⟩
  · obtain ⟨w', r1, r2, r3⟩ := setObj_run (P := P) (ob' := .map (es'.push { key := k, val := cx, born := clock }) (clock + 1)) g1 ⟨_, _, rfl⟩
    refine ⟨w', ?_, put_inv hi hp hb rfl r2 ⟨_, _, r3, ?_⟩⟩
    · simp only [Instr.mapUpdate, Sem.run_bind, run_underlying' hu, Result.andThen_ok, run_getObj_map g1, hck, hfind _ h1, r1]
    · subst h2
      simpa using g2.append (.cons ⟨rfl, hx⟩ .nil)
  · rw [Nat.zero_add] at h1
    obtain ⟨w', r1, r2, r3⟩ := setObj_run (P := P) (ob' := .map (es'.modify j fun e => { e with key := k, val := cx }) clock) g1 ⟨_, _, rfl⟩
    refine ⟨w', ?_, put_inv hi hp hb rfl r2 ⟨_, _, r3, ?_⟩⟩
    · have hj : es'[j]? = some e := by simpa using h2
      have hsb := sameBits_key hk 10000
      simp only [Instr.mapUpdate, Sem.run_bind, run_underlying' hu, Result.andThen_ok, run_getObj_map g1, hck, hfind _ h1, hj, Option.map_some, Option.getD_some, h3, Instr.keyThatStays, hsb, if_true, Sem.run_pure, r1]
    · have h4' : Both (EntryRel ρ) es2 (es'.modify j fun e => { e with key := k, val := cx }).toList := by simpa using h4
      exact h4'

theorem delete_sim {argTypes : Array TypeId} {t : TypeId} {r : Nat} {k : Value} {mt key elem : TypeId} {kind : TypeDesc} {es es2 : List (Value × Value)} {p : Pl} (hi : Inv ρ m w) (hp : ρ r = some p) (hb : m.get r = some (.map es))
    (ht : argTypes[0]? = some mt) (hu : P.underlying mt = some (.map key elem)) (hk : keyKind P key k = some kind) (hs : dropKey kind k es = some es2) :
    ∃ w', (Builtin.delete_ argTypes t #[.map (some p.cb), k]).run P w = .ok (.tuple #[]) w' ∧ Inv ρ (m.put r (.map es2)) w' ∧ Frm ρ m w ρ (m.put r (.map es2)) w' := by
  obtain ⟨es', clock, g1, g2⟩ := hi.rel.blk r p _ hp hb
  have hku := (keyKind_some hk).1
  have hck := fun b => checkKey_run (w := w) hk b 9999
  have hfind : ∀ r', Instr.findNow kind k es'.toList 0 = some r' → (Instr.findKey key k es'.toList).run P w = .ok r' w := by
    intro r' h
    unfold Instr.findKey
    rw [Sem.run_bind, run_underlying' hku, Result.andThen_ok, h]
    rfl
  rcases dropKey_sim g2 0 hs with ⟨h1, h2⟩ | ⟨j, y, h1, h2⟩
  · obtain ⟨w', r1, r2, r3⟩ := setObj_run (P := P) (ob' := .map es' clock) g1 ⟨_, _, rfl⟩
    subst h2
    refine ⟨w', ?_, put_inv hi hp hb rfl r2 ⟨_, _, r3, g2⟩⟩
    unfold Builtin.delete_
    simp [ht, run_underlying' hu, run_getObj_map g1, hck, hfind _ h1, r1]
  · rw [Nat.zero_add] at h1
    obtain ⟨w', r1, r2, r3⟩ := setObj_run (P := P) (ob' := .map (es'.eraseIdxIfInBounds j) clock) g1 ⟨_, _, rfl⟩
    refine ⟨w', ?_, put_inv hi hp hb rfl r2 ⟨_, _, r3, ?_⟩⟩
    · unfold Builtin.delete_
      simp [ht, run_underlying' hu, run_getObj_map g1, hck, hfind _ h1, r1]
    · have h2' : Both (EntryRel ρ) es2 (es'.eraseIdxIfInBounds j).toList := by simpa using h2
      exact h2'

/-! ### append and copy -/
theorem lenOf_sim {x c : Value} {n : Nat} (hx : VRel ρ x c) (h : lenOf x = some n) : (Builtin.lenOf c).run P w = .ok n w := by
  unfold lenOf at h
  split at h
  · simp only [Option.some.injEq] at h
    subst h
    cases hx <;> rfl
  · simp only [Option.some.injEq] at h
    subst h
    cases hx
    rfl
  · cases h

theorem Both.same_of {ρ : Map} : ∀ {l : List Value}, (∀ x ∈ l, VRel ρ x x) → Both (VRel ρ) l l
  | [], _ => .nil
  | _ :: _, h => .cons (h _ (by simp)) (Both.same_of fun x hx => h x (List.mem_cons_of_mem _ hx))

theorem cell_same {w w' : World} (h : w'.heap = w.heap) (a : Addr) : w'.cell? a = w.cell? a := by unfold World.cell?; rw [h]

theorem firstCells_sim {size n : Nat} {x c : Value} {new : List Value} (hi : Inv ρ m w) (hx : VRel ρ x c) (h : sourceCells m size n x = some new) (hn : ∀ a len sz, x = .slice a len sz → n ≤ len) :
    ∃ a : Array Value, (∀ w' : World, w'.heap = w.heap → (Builtin.firstCells size n c).run P w' = .ok a w') ∧ Both (VRel ρ) new a.toList := by
  unfold sourceCells at h
  split at h
  · simp only [Option.some.injEq] at h
    subst h
    cases hx
    exact ⟨#[], fun _ _ => rfl, .nil⟩
  · rename_i b k len sz
    split at h
    · rename_i e cs wr hb
      cases hz : Nat.beq sz size with
      | false => simp [hz] at h
      | true =>
        simp only [hz, cond_true] at h
        have hnl := hn _ _ _ rfl
        cases hx with
        | slice hp hoff hlen hcap =>
          rename_i off ccap p
          have hbr := hi.rel.blk b p _ hp hb
          obtain ⟨r, hr1, hr2, hr3⟩ := hbr.part h
          refine ⟨r.toArray, fun w' hw' => ?_, by simpa using hr2⟩
          rcases hoff with rfl | ⟨rfl, rfl⟩
          · exact loadCells_run hr1 (fun j hj => by rw [cell_same hw']; exact hr3 j hj)
          · have hn0 : n = 0 := by omega
            subst hn0
            have : r = [] := List.eq_nil_of_length_eq_zero (by simpa using hr1)
            subst this
            simp [Builtin.firstCells, loadCells, loadCellsFrom]
    · cases h
  · rename_i s
    cases hz : Nat.beq size 1 with
    | false => simp [hz] at h
    | true =>
      simp only [hz, cond_true, Option.some.injEq] at h
      subst h
      cases hx
      refine ⟨_, fun _ _ => rfl, ?_⟩
      rw [Array.toList_map]
      refine .same_of fun x hx => ?_
      obtain ⟨q, _, rfl⟩ := List.mem_map.1 hx
      exact .int _ _
  · cases h

theorem sourceCells_length {size n : Nat} {x : Value} {new : List Value} (h : sourceCells m size n x = some new) (hl : ∃ k, lenOf x = some k ∧ n ≤ k) : new.length = n * size := by
  obtain ⟨q, hl, hq⟩ := hl
  unfold sourceCells at h
  split at h
  · simp only [Option.some.injEq] at h
    subst h
    simp only [lenOf, Option.some.injEq] at hl
    have : n = 0 := by omega
    simp [this]
  · split at h
    · rename_i b k len sz _ e cs wr hb
      cases hz : Nat.beq sz size with
      | false => simp [hz] at h
      | true =>
        simp only [hz, cond_true] at h
        exact (cut_spec h).1
    · cases h
  · rename_i s
    cases hz : Nat.beq size 1 with
    | false => simp [hz] at h
    | true =>
      rw [Nat.beq_eq] at hz
      subst hz
      simp only [Nat.beq_refl, cond_true, Option.some.injEq] at h
      subst h
      simp only [lenOf, Option.some.injEq] at hl
      have e : (s.extract 0 n).size = min n s.size := by simp [ByteArray.size_extract]
      have e2 : (s.extract 0 n).data.toList.length = (s.extract 0 n).size := rfl
      simp only [List.length_map, e2, e]
      omega
  · cases h

theorem growBy_le (newLen : Nat) : ∀ (r c : Nat), c ≤ 2 * newLen + 768 → Builtin.growBy newLen r c ≤ 2 * newLen + 768
  | 0, c, h => h
  | r + 1, c, h => by
    unfold Builtin.growBy
    split
    · exact h
    · exact growBy_le newLen r _ (by omega)

theorem nextslicecap_le {newLen old : Nat} (h : old < newLen) : Builtin.nextslicecap newLen old ≤ 2 * newLen + 768 := by
  unfold Builtin.nextslicecap
  split
  · omega
  · split
    · omega
    · exact growBy_le _ _ _ (by omega)

end Go.AM
