/-
  The abstract machine and the machine: operations that read memory come to related values; operations that make a block make related ones.
-/
import Derived.Test.YtbnllihefecemaaGreatDoorAm5
import Derived.MapKept
set_option linter.unusedSimpArgs false
set_option linter.unusedVariables false
namespace Go.AM
open Go

theorem rec_bind {α : Type} (x : Option (List α)) (v : α) : @Option.rec (List α) (fun _ => Option (List α)) none (fun q => some (v :: q)) x = x.bind fun q => some (v :: q) := by cases x <;> rfl
theorem cut_zero {α : Type} (l : List α) : cut 0 0 l = some [] := by cases l <;> rfl
theorem cut_cons {α : Type} (n : Nat) (v : α) (r : List α) : cut 0 (n + 1) (v :: r) = (cut 0 n r).bind fun l => some (v :: l) := by
  rw [← rec_bind]
  cases r <;> rfl
theorem cut_succ {α : Type} (k n : Nat) (v : α) (r : List α) : cut (k + 1) n (v :: r) = cut k n r := rfl
theorem cut_nil {α : Type} (n : Nat) : cut 0 (n + 1) ([] : List α) = none := rfl
theorem cut_nil' {α : Type} (k n : Nat) : cut (k + 1) n ([] : List α) = none := rfl
theorem paste_zero {α : Type} (l : List α) : paste 0 [] l = some l := rfl
theorem paste_cons {α : Type} (v u : α) (r l : List α) : paste 0 (v :: r) (u :: l) = (paste 0 r l).bind fun x => some (v :: x) := by
  rw [← rec_bind]
  rfl
theorem paste_succ {α : Type} (k : Nat) (x : List α) (v : α) (l : List α) : paste (k + 1) x (v :: l) = (paste k x l).bind fun y => some (v :: y) := by
  rw [← rec_bind]
  rfl
theorem paste_nil {α : Type} (v : α) (r : List α) : paste 0 (v :: r) [] = none := rfl
theorem paste_nil' {α : Type} (k : Nat) (x : List α) : paste (k + 1) x ([] : List α) = none := rfl

theorem cut_spec {α : Type} : ∀ {k n : Nat} {l r : List α}, cut k n l = some r → r.length = n ∧ k + n ≤ l.length ∧ ∀ i, i < n → r[i]? = l[k + i]?
  | 0, 0, l, r, h => by
    simp only [cut_zero, Option.some.injEq] at h
    subst h
    exact ⟨rfl, by simp, fun i hi => by omega⟩
  | 0, n + 1, [], r, h => by simp [cut_zero, cut_cons, cut_succ, cut_nil, cut_nil'] at h
  | 0, n + 1, v :: l, r, h => by
    cases hc : cut 0 n l with
    | none => simp [cut_cons, hc] at h
    | some q =>
      simp only [cut_cons, hc, Option.bind_some, Option.some.injEq] at h
      subst h
      obtain ⟨h1, h2, h3⟩ := cut_spec hc
      refine ⟨by simp [h1], by simp; omega, fun i hi => ?_⟩
      rcases i with _ | i
      · rfl
      · have := h3 i (by omega)
        simpa using this
  | k + 1, n, [], r, h => by
    cases n <;> simp [cut_zero, cut_cons, cut_succ, cut_nil, cut_nil'] at h
  | k + 1, n, v :: l, r, h => by
    have h' : cut k n l = some r := by
      cases n <;> simpa [cut_succ] using h
    obtain ⟨h1, h2, h3⟩ := cut_spec h'
    refine ⟨h1, by simp; omega, fun i hi => ?_⟩
    rw [h3 i hi, show k + 1 + i = k + i + 1 by omega, List.getElem?_cons_succ]

theorem paste_spec {α : Type} : ∀ {k : Nat} {x l y : List α}, paste k x l = some y → y.length = l.length ∧ k + x.length ≤ l.length ∧ ∀ i, y[i]? = if k ≤ i ∧ i < k + x.length then x[i - k]? else l[i]?
  | 0, [], l, y, h => by
    simp only [paste_zero, Option.some.injEq] at h
    subst h
    exact ⟨rfl, by simp, fun i => by simp⟩
  | 0, v :: r, [], y, h => by simp [paste_nil, paste_nil'] at h
  | 0, v :: r, u :: l, y, h => by
    cases hc : paste 0 r l with
    | none => simp [paste_cons, paste_succ, hc] at h
    | some q =>
      simp only [paste_cons, hc, Option.bind_some, Option.some.injEq] at h
      subst h
      obtain ⟨h1, h2, h3⟩ := paste_spec hc
      refine ⟨by simp [h1], by simp at h2 ⊢; omega, fun i => ?_⟩
      rcases i with _ | i
      · simp
      · simp only [List.getElem?_cons_succ, h3, Nat.zero_le, true_and, Nat.zero_add, List.length_cons, Nat.sub_zero, Nat.add_lt_add_iff_right]
  | k + 1, x, [], y, h => by cases x <;> simp [paste_nil, paste_nil'] at h
  | k + 1, x, v :: l, y, h => by
    cases hc : paste k x l with
    | none => cases x <;> simp [paste_cons, paste_succ, hc] at h
    | some q =>
      have h' : y = v :: q := by cases x <;> simp [paste_cons, paste_succ, hc] at h <;> exact h.symm
      subst h'
      obtain ⟨h1, h2, h3⟩ := paste_spec hc
      refine ⟨by simp [h1], by simp; omega, fun i => ?_⟩
      rcases i with _ | i
      · simp
      · simp only [List.getElem?_cons_succ, h3]
        by_cases e : k ≤ i ∧ i < k + x.length
        · rw [if_pos e, if_pos ⟨by omega, by omega⟩]
          congr 1; omega
        · rw [if_neg e, if_neg (by omega)]

variable {P : Program} {ρ : Map} {ev cv : Operand → Value} {o : Oper} {v : Value} {w : World} {m : Mem}

/-- A cell of a block. -/
theorem BRel.cell {p : Pl} {e : TypeId} {cs : List Value} {wr : Bool} (h : BRel ρ p (.cells e cs wr) w) {i : Nat} {x : Value} (hx : cs[i]? = some x) :
    ∃ u, w.cell? ⟨p.cb, p.co + i, none⟩ = some u ∧ VRel ρ x u := by
  obtain ⟨c, e', lo, hi, h1, h2, h3, h4⟩ := h
  obtain ⟨u, hu, hr⟩ := h3.2 i x hx
  exact ⟨u, by simp [World.cell?, h1, hu], hr⟩

/-- A part of a block's cells, and what the machine has there. -/
theorem BRel.part {p : Pl} {e : TypeId} {cs : List Value} {wr : Bool} (h : BRel ρ p (.cells e cs wr) w) {k n : Nat} {l : List Value} (hc : cut k n cs = some l) :
    ∃ r : List Value, r.length = n ∧ Both (VRel ρ) l r ∧ ∀ i, i < n → w.cell? ⟨p.cb, p.co + k + i, none⟩ = r[i]? := by
  obtain ⟨h1, h2, h3⟩ := cut_spec hc
  obtain ⟨c, e', lo, hi, g1, g2, g3, g4⟩ := h
  have hlen : p.co + k + n ≤ c.size := by have := g3.1; omega
  refine ⟨((c.toList.drop (p.co + k)).take n), by simp; omega, ?_, ?_⟩
  · refine .of_index (by simp; omega) fun i x y hx hy => ?_
    have hi : i < n := by
      rcases Nat.lt_or_ge i n with h' | h'
      · exact h'
      · rw [List.getElem?_eq_none (by omega)] at hx; cases hx
    rw [h3 i hi] at hx
    obtain ⟨u, hu, hr⟩ := g3.2 _ x hx
    rw [List.getElem?_take_of_lt hi, List.getElem?_drop, Array.getElem?_toList, Nat.add_assoc, hu] at hy
    obtain rfl := Option.some.inj hy
    exact hr
  · intro i hi
    rw [List.getElem?_take_of_lt hi, List.getElem?_drop, Array.getElem?_toList]
    simp [World.cell?, g1]

theorem loadCellsFrom_run {a : Addr} : ∀ (n i : Nat) (acc : Array Value) (r : List Value), r.length = n → (∀ j, j < n → w.cell? (a.add (i + j)) = r[j]?) →
    (loadCellsFrom a i n acc).run P w = .ok (acc ++ r.toArray) w
  | 0, i, acc, r, hr, h => by
    have : r = [] := List.eq_nil_of_length_eq_zero hr
    subst this
    simp [loadCellsFrom]
  | n + 1, i, acc, r, hr, h => by
    cases r with
    | nil => simp at hr
    | cons x r =>
      have h0 := h 0 (by omega)
      simp only [Nat.add_zero, List.getElem?_cons_zero] at h0
      simp only [loadCellsFrom, Sem.run_bind, run_load, h0, Result.andThen_ok]
      rw [loadCellsFrom_run n (i + 1) (acc.push x) r (by simpa using hr) (fun j hj => by
        have := h (j + 1) (by omega)
        rw [show i + 1 + j = i + (j + 1) by omega, this, List.getElem?_cons_succ])]
      simp

theorem loadCells_run {cb co n : Nat} {r : List Value} (hr : r.length = n) (h : ∀ j, j < n → w.cell? ⟨cb, co + j, none⟩ = r[j]?) :
    (loadCells ⟨cb, co, none⟩ n).run P w = .ok r.toArray w := by
  unfold loadCells
  rw [loadCellsFrom_run n 0 #[] r hr (fun j hj => by rw [Nat.zero_add, add_none]; exact h j hj)]
  simp

theorem loadVar_sim {t : TypeId} {a c : Value} (hi : Rel ρ m.get w) (ha : VRel ρ a c) (h : loadAt P m t a = some v) :
    ∃ ad, c = .pointer (some ad) ∧ Gives P ρ (loadVar t ad) w v := by
  unfold loadAt at h
  split at h
  · rename_i b k
    split at h
    · rename_i e cs wr hb
      cases ha with
      | ptr hp =>
        rename_i p
        refine ⟨_, rfl, ?_⟩
        have hbr := hi.blk b p _ hp hb
        cases hag : aggAt P t with
        | none => simp [hag] at h
        | some ag =>
          simp only [hag, Option.bind_some] at h
          cases ag with
          | true =>
            simp only [cond_true] at h
            cases hs : sizeAt P t with
            | none => simp [hs] at h
            | some n =>
              simp only [hs, Option.bind_some] at h
              cases hc : cut k n cs with
              | none => simp [hc] at h
              | some l =>
                simp only [hc, Option.bind_some, Option.some.injEq] at h
                subst h
                obtain ⟨r, hr1, hr2, hr3⟩ := hbr.part hc
                refine ⟨.agg r.toArray, ?_, ?_⟩
                · simp only [loadVar, Sem.run_bind, run_isAgg' hag, Result.andThen_ok, if_true, run_sizeOf' hs, loadCells_run hr1 hr3, Sem.run_pure]
                · exact .agg (AllRel.of_lists hr2).1 (AllRel.of_lists hr2).2
          | false =>
            simp only [cond_false] at h
            split at h
            · rename_i x hc
              simp only [Option.some.injEq] at h
              subst h
              obtain ⟨r, hr1, hr2, hr3⟩ := hbr.part hc
              cases hr2 with
              | cons hxy ht =>
                rename_i y r
                cases ht
                have h0 := hr3 0 (by omega)
                refine ⟨y, ?_, hxy⟩
                simp only [Nat.add_zero, List.getElem?_cons_zero] at h0
                simp [loadVar, run_isAgg' hag, h0]
            · cases h
    · cases h
  · cases h

theorem sameNow_true {kind : TypeDesc} {k k' : Value} (h : Instr.sameNow kind k k' = some true) : k = k' := by
  unfold Instr.sameNow at h
  split at h
  · split at h
    · simp only [Option.some.injEq, beq_iff_eq] at h
      subst h; simp [*]
    · cases h
  · simp only [Option.some.injEq] at h; rw [(MapKept.bytes_beq _ _).1 h]
  · simp only [Option.some.injEq, beq_iff_eq] at h; rw [h]
  · cases h

def EntryRel (ρ : Map) (e : Value × Value) (e' : MapEntry) : Prop := e.1 = e'.key ∧ VRel ρ e.2 e'.val

theorem findNow_sim {kind : TypeDesc} {k : Value} {es : List (Value × Value)} {es' : List MapEntry} (h : Both (EntryRel ρ) es es') : ∀ {r : Option Value} (i : Nat), findKey kind k es = some r →
    ∃ r', Instr.findNow kind k es' i = some r' ∧ (r = none ↔ r' = none) ∧ ∀ x, r = some x → ∃ j u, r' = some (j, u) ∧ VRel ρ x u := by
  induction h with
  | nil =>
    intro r i hf
    simp only [findKey, Option.some.injEq] at hf
    subst hf
    exact ⟨none, rfl, by simp, by simp⟩
  | cons he _ ih =>
    intro r i hf
    simp only [findKey] at hf
    simp only [Instr.findNow]
    rw [← he.1]
    split at hf
    · rename_i hs
      simp only [Option.some.injEq] at hf
      subst hf
      simp only [hs]
      exact ⟨_, rfl, by simp, fun x hx => by simp only [Option.some.injEq] at hx; subst hx; exact ⟨_, _, rfl, he.2⟩⟩
    · rename_i hs
      simp only [hs]
      exact ih (i + 1) hf
    · cases hf

theorem keyKind_some {t : TypeId} {k : Value} {kind : TypeDesc} (h : keyKind P t k = some kind) : P.underlying t = some kind ∧ flat0 k = true ∧
    ((∃ q n, kind = .int q ∧ k = .int q n) ∨ (∃ s, kind = .string ∧ k = .string s) ∨ (∃ b, kind = .bool ∧ k = .bool b)) := by
  unfold keyKind at h
  split at h
  · rename_i q q' n hu
    cases hq : (q == q') with
    | false => simp [hq] at h
    | true =>
      simp only [hq, cond_true, Option.some.injEq] at h
      subst h
      have := eq_of_beq hq
      subst this
      exact ⟨hu, rfl, .inl ⟨_, _, rfl, rfl⟩⟩
  · rename_i s hu
    simp only [Option.some.injEq] at h
    subst h
    exact ⟨hu, rfl, .inr (.inl ⟨_, rfl, rfl⟩)⟩
  · rename_i b hu
    simp only [Option.some.injEq] at h
    subst h
    exact ⟨hu, rfl, .inr (.inr ⟨_, rfl, rfl⟩)⟩
  · cases h

theorem checkKey_run {t : TypeId} {k : Value} {kind : TypeDesc} (h : keyKind P t k = some kind) (empty : Bool) (n : Nat) : (Instr.checkKey empty (n + 1) t k).run P w = .ok () w := by
  obtain ⟨hu, _, hk⟩ := keyKind_some h
  unfold Instr.checkKey
  rw [Sem.run_bind, run_underlying' hu, Result.andThen_ok]
  rcases hk with ⟨q, n, rfl, rfl⟩ | ⟨s, rfl, rfl⟩ | ⟨b, rfl, rfl⟩ <;> rfl

theorem findKey_run {t : TypeId} {k : Value} {kind : TypeDesc} {es : List (Value × Value)} {es' : List MapEntry} {r : Option Value} (hk : keyKind P t k = some kind) (he : Both (EntryRel ρ) es es') (hf : findKey kind k es = some r) :
    ∃ r', (Instr.findKey t k es').run P w = .ok r' w ∧ Instr.findNow kind k es' 0 = some r' ∧ (r = none ↔ r' = none) ∧ ∀ x, r = some x → ∃ j u, r' = some (j, u) ∧ VRel ρ x u := by
  obtain ⟨hu, _, _⟩ := keyKind_some hk
  obtain ⟨r', h1, h2, h3⟩ := findNow_sim he 0 hf
  refine ⟨r', ?_, h1, h2, h3⟩
  unfold Instr.findKey
  rw [Sem.run_bind, run_underlying' hu, Result.andThen_ok, h1]
  rfl

theorem run_zeroValue' {t : TypeId} {z : Value} (h : zeroAt P t = some z) : (zeroValue t).run P w = .ok z w := run_of_pureRun (pureRun_zeroValue h) w

/-- What a map's value stands for. -/
theorem entries_sim {x c : Value} {es : List (Value × Value)} (hi : Rel ρ m.get w) (hx : VRel ρ x c) (h : entriesOf m x = some es) :
    (x = .map none ∧ c = .map none ∧ es = []) ∨ ∃ b p es' clock, x = .map (some b) ∧ c = .map (some p.cb) ∧ ρ b = some p ∧ m.get b = some (.map es) ∧ w.heap[p.cb]? = some (.map es' clock) ∧ Both (EntryRel ρ) es es'.toList := by
  unfold entriesOf at h
  split at h
  · simp only [Option.some.injEq] at h
    subst h
    cases hx
    exact .inl ⟨rfl, rfl, rfl⟩
  · rename_i b
    split at h
    · rename_i es0 hb
      simp only [Option.some.injEq] at h
      subst h
      cases hx with
      | map hp =>
        rename_i p
        obtain ⟨es', clock, h1, h2⟩ := hi.blk b p _ hp hb
        exact .inr ⟨b, p, es', clock, rfl, rfl, hp, hb, h1, h2⟩
    · cases h
  · cases h

theorem run_getObj_map {r : Nat} {es : Array MapEntry} {clock : Nat} (h : w.heap[r]? = some (.map es clock)) : (getObj r).run P w = .ok (.map es clock) w := by
  simp [getObj, Sem.run, h]

theorem lookup_sim {t : TypeId} {x k c kc : Value} {ok : Bool} (hi : Rel ρ m.get w) (hx : VRel ρ x c) (hk : VRel ρ k kc) (h : lookupAt P m t x k ok = some v) : Gives P ρ (Instr.lookup t c kc ok) w v := by
  unfold lookupAt at h
  split at h
  · rename_i key elem hu
    cases hkk : keyKind P key k with
    | none => simp [hkk] at h
    | some kind =>
      cases he : entriesOf m x with
      | none => simp [hkk, he] at h
      | some es =>
        cases hf : findKey kind k es with
        | none => simp [hkk, he, hf] at h
        | some r =>
          simp only [hkk, he, hf, Option.bind_some] at h
          obtain ⟨_, hflat, _⟩ := keyKind_some hkk
          have hkc := flat0_eq hflat hk
          subst hkc
          obtain ⟨es', hc, hb⟩ : ∃ es' : Array MapEntry, ((c = .map none ∧ es' = #[]) ∨ ∃ q clock, c = .map (some q) ∧ w.heap[q]? = some (.map es' clock)) ∧ Both (EntryRel ρ) es es'.toList := by
            rcases entries_sim hi hx he with ⟨_, rfl, rfl⟩ | ⟨b, p, es', clock, _, rfl, _, _, h1, h2⟩
            · exact ⟨#[], .inl ⟨rfl, rfl⟩, .nil⟩
            · exact ⟨es', .inr ⟨_, _, rfl, h1⟩, h2⟩
          obtain ⟨r', h1, h2, h3, h4⟩ := findKey_run (w := w) hkk hb hf
          have hck := fun b => checkKey_run (w := w) hkk b 9999
          cases r with
          | some x =>
            obtain ⟨j, u, rfl, hr⟩ := h4 x rfl
            simp only [Option.some.injEq] at h
            subst h
            refine ⟨if ok then .tuple #[u, .bool true] else u, ?_, ?_⟩
            · unfold Instr.lookup
              rcases hc with ⟨rfl, rfl⟩ | ⟨q, clock, rfl, hq⟩
              · simp only [Sem.run_bind, run_underlying' hu, Result.andThen_ok, Sem.run_pure, hck, h1]
              · simp only [Sem.run_bind, run_underlying' hu, Result.andThen_ok, Sem.run_pure, hck, h1, run_getObj_map hq]
            cases ok
            · exact hr
            · refine .tuple rfl fun i a b ha hb => ?_
              rcases i with _ | _ | i <;> simp at ha hb
              · subst ha; subst hb; exact hr
              · subst ha; subst hb; exact .bool _
          | none =>
            obtain rfl := h3.1 rfl
            cases hz : zeroAt P elem with
            | none => simp [hz] at h
            | some z =>
              simp only [hz, Option.bind_some, Option.some.injEq] at h
              subst h
              refine ⟨if ok then .tuple #[z, .bool false] else z, ?_, ?_⟩
              · unfold Instr.lookup
                rcases hc with ⟨rfl, rfl⟩ | ⟨q, clock, rfl, hq⟩
                · simp only [Sem.run_bind, run_underlying' hu, Result.andThen_ok, Sem.run_pure, hck, h1, run_zeroValue' hz]
                · simp only [Sem.run_bind, run_underlying' hu, Result.andThen_ok, Sem.run_pure, hck, h1, run_getObj_map hq, run_zeroValue' hz]
              have hzr := flat_rel (ρ := ρ) (zeroAt_some hz).1
              cases ok
              · exact hzr
              · refine .tuple rfl fun i a b ha hb => ?_
                rcases i with _ | _ | i <;> simp at ha hb
                · subst ha; subst hb; exact hzr
                · subst ha; subst hb; exact .bool _
  · cases h

theorem bytesOf_spec {f : Value → ByteArray → Sem (ForInStep ByteArray)} (hf : ∀ n s, f (.int .u8 n) s = pure (.yield (s.push (UInt8.ofNat n.toNat)))) :
    ∀ {l : List Value} {s : List UInt8}, bytesOf l = some s → ∀ {r : List Value}, Both (VRel ρ) l r → ∀ acc : ByteArray,
    (forIn (m := Sem) r.toArray acc f).run P w = .ok ⟨acc.data ++ s.toArray⟩ w := by
  intro l
  induction l with
  | nil =>
    intro s h r hb acc
    simp only [bytesOf, Option.some.injEq] at h
    subst h
    cases hb
    simp
  | cons v l ih =>
    intro s h r hb acc
    cases hb with
    | cons hv ht =>
      rename_i y r
      simp only [bytesOf] at h
      cases hby : byteOf v with
      | none => simp [hby] at h
      | some b =>
        cases hbs : bytesOf l with
        | none => simp [hby, hbs] at h
        | some q =>
          simp only [hby, hbs, Option.bind_some, Option.some.injEq] at h
          subst h
          unfold byteOf at hby
          split at hby
          · rename_i n
            simp only [Option.some.injEq] at hby
            subst hby
            rw [hv.int_inv]
            have := ih hbs ht (acc.push (UInt8.ofNat n))
            simp only [List.forIn_toArray] at this ⊢
            simp only [List.forIn_cons, hf, Sem.run_bind, Sem.run_pure, Result.andThen_ok, Int.toNat_natCast]
            rw [show (Int.ofNat n).toNat = n from rfl, this]
            simp [ByteArray.push]
          · cases hby

theorem convert_sim {src dst : TypeId} {x c : Value} {e : TypeId} {b k len : Nat} {el : TypeId} {cs : List Value} {wr : Bool} {l : List Value} {s : List UInt8} (hi : Rel ρ m.get w) (hx : VRel ρ x c) (hs : P.underlying src = some (.slice e)) (hd : P.underlying dst = some .string)
    (he : P.underlying e = some (.int .u8)) (hxe : x = .slice (some ⟨b, k, none⟩) len 1) (hb : m.get b = some (.cells el cs wr)) (hc : cut k len cs = some l) (hl : bytesOf l = some s) :
    Gives P ρ (convert src dst c) w (.string ⟨s.toArray⟩) := by
  subst hxe
  cases hx with
  | slice hp hoff hlen hcap =>
    rename_i off ccap p
    have hbr := hi.blk b p _ hp hb
    obtain ⟨r, hr1, hr2, hr3⟩ := hbr.part hc
    have hcells : (loadCells ⟨p.cb, off, none⟩ len).run P w = .ok r.toArray w := by
      rcases hoff with rfl | ⟨rfl, _⟩
      · exact loadCells_run hr1 hr3
      · have : r = [] := List.eq_nil_of_length_eq_zero hr1
        subst this
        simp [loadCells, loadCellsFrom]
    refine ⟨.string ⟨s.toArray⟩, ?_, .string _⟩
    unfold convert
    simp only [Sem.run_bind, run_underlying' hs, run_underlying' hd, Result.andThen_ok, run_underlying' he]
    unfold Conv.bytesToString
    simp only [Sem.run_bind, hcells, Result.andThen_ok, Sem.run_pure]
    rw [bytesOf_spec (fun _ _ => rfl) hl hr2 ByteArray.empty, Result.andThen_ok]
    rw [show ByteArray.empty.data = #[] from rfl, Array.empty_append]

theorem lenMap_sim {argTypes : Array TypeId} {t : TypeId} {x c : Value} {mt key elem : TypeId} {es : List (Value × Value)} (hi : Rel ρ m.get w) (hx : VRel ρ x c) (ht : argTypes[0]? = some mt) (hu : P.underlying mt = some (.map key elem)) (he : entriesOf m x = some es) :
    Gives P ρ (Builtin.len_ argTypes t #[c]) w (goInt es.length) := by
  refine ⟨goInt es.length, ?_, .int _ _⟩
  unfold Builtin.len_
  rcases entries_sim hi hx he with ⟨_, rfl, rfl⟩ | ⟨b, p, es', clock, _, rfl, _, _, h1, h2⟩
  · simp [ht, run_underlying' hu]
  · have := h2.length
    simp [ht, run_underlying' hu, run_getObj_map h1, this]

theorem sliceArr_sim {t : TypeId} {x : Operand} {lo hi : Option Operand} (hrel : Rel ρ m.get w) (hx : VRel ρ (ev x) (cv x)) (hlo : ∀ y, lo = some y → VRel ρ (ev y) (cv y)) (hhi : ∀ y, hi = some y → VRel ρ (ev y) (cv y))
    (h : sliceArr P m t (ev x) (lo.map ev) (hi.map ev) = some v) : Gives P ρ (Instr.sliceAt t (cv x) (lo.map cv) (hi.map cv) none) w v := by
  unfold sliceArr at h
  split at h
  · rename_i n elem b o hu he
    split at h
    · rename_i e cs wr hg
      cases hs : sizeAt P elem with
      | none => simp [hs] at h
      | some size =>
        cases hl : boundOf (lo.map ev) 0 with
        | none => simp [hs, hl] at h
        | some l =>
          cases hh : boundOf (hi.map ev) n with
          | none => simp [hs, hl, hh] at h
          | some hh' =>
            cases hc : (Nat.ble hh' n && Nat.ble l hh' && Nat.ble (o + n * size) cs.length) with
            | false => simp [hs, hl, hh, hc] at h
            | true =>
              simp only [hs, hl, hh, hc, Option.bind_some, cond_true, Option.some.injEq] at h
              simp only [Bool.and_eq_true, Nat.ble_eq] at hc
              obtain ⟨⟨h1, h2⟩, h3⟩ := hc
              subst h
              rw [he] at hx
              cases hcv : cv x with
              | pointer a =>
                rw [hcv] at hx
                cases hx with
                | ptr hb =>
                  rename_i p
                  have hbr := hrel.blk _ _ _ hb hg
                  obtain ⟨c, e', lo', hi', hw, hsz, hcr, _⟩ := hbr
                  have hbound : p.co + o + n * size ≤ p.size := by have := hcr.1; omega
                  have hsb := sliceBounds_run (P := P) (w := w) (s := false) (dh := 0) (boundOf_rel hl hlo) (boundOf_rel hh hhi) h2 h1
                  unfold Instr.sliceAt
                  simp only [Gives, Sem.run_bind, run_underlying' hu, Result.andThen_ok, Instr.sureAddr, Sem.run_pure, hsb, run_sizeOf' hs, add_none]
                  refine ⟨_, rfl, ?_⟩
                  have hm : l * size + (n - l) * size = n * size := by
                    rw [← Nat.add_mul]; congr 1; omega
                  by_cases hcl : n = l
                  · rw [if_pos hcl]
                    have : hh' - l = 0 := by omega
                    rw [this, hcl, Nat.sub_self]
                    exact .slice hb (.inr ⟨rfl, rfl⟩) (Nat.le_refl _) (by omega)
                  · rw [if_neg hcl]
                    exact .slice hb (.inl (by omega)) (by omega) (by omega)
              | _ => rw [hcv] at hx; cases hx
    · cases h
  · cases h

theorem read_sim (hi : Rel ρ m.get w) (hop : OpRel ρ ev cv o) (h : readOp P ev m o = some v) :
    ∃ c, (execOp cv o).run P w = .ok (.value c) w ∧ VRel ρ v c := by
  have lift : ∀ s : Sem Value, Gives P ρ s w v → ∃ c, (do pure (Next.value (← s)) : Sem Next).run P w = .ok (.value c) w ∧ VRel ρ v c := by
    rintro s ⟨c, hc, hr⟩
    exact ⟨c, by rw [Sem.run_bind, hc]; rfl, hr⟩
  unfold readOp at h
  unfold OpRel at hop
  unfold execOp
  cases ho : o.op with
  | load t a =>
    simp [ho, Op.operands] at hop
    simp only [ho] at h
    obtain ⟨ad, h1, h2⟩ := loadVar_sim hi (hop) h
    refine lift _ ?_
    obtain ⟨c, hc, hr⟩ := h2
    exact ⟨c, by simp [Instr.loadAt, h1, Instr.sureAddr, hc], hr⟩
  | lookup t x k ok =>
    simp [ho, Op.operands] at hop
    simp only [ho] at h
    exact lift _ (lookup_sim hi (hop.1) (hop.2) h)
  | slice t x lo hi' mx =>
    cases mx with
    | some y => simp [ho] at h
    | none =>
      simp [ho, Op.operands] at hop
      simp only [ho] at h
      exact lift _ (sliceArr_sim hi hop.1 (fun y e => hop.2 y (.inl e)) (fun y e => hop.2 y (.inr e)) h)
  | convert src dst x =>
    simp [ho, Op.operands] at hop
    simp only [ho] at h
    split at h
    · rename_i e b k len sz hs hd hx
      split at h
      · rename_i el cs wr heu hb
        cases hz : Nat.beq sz 1 with
        | false => simp [hz] at h
        | true =>
          simp only [hz, cond_true] at h
          rw [Nat.beq_eq] at hz
          subst hz
          cases hc : cut k len cs with
          | none => simp [hc] at h
          | some l =>
            cases hl : bytesOf l with
            | none => simp [hc, hl] at h
            | some s =>
              simp only [hc, hl, Option.bind_some, Option.some.injEq] at h
              subst h
              exact lift _ (convert_sim hi (hop) hs hd heu hx hb hc hl)
      · cases h
    · cases h
  | call c =>
    obtain ⟨callee, args, argTypes⟩ := c
    simp only [ho] at h
    cases callee with
    | builtin b =>
      cases b <;> simp only at h <;> first | cases h | skip
      split at h
      · rename_i x key elem hx hm
        have hargs : args = #[x] := by
          apply Array.ext'; simpa using hx
        subst hargs
        simp [ho, Op.operands, Call.operands] at hop
        cases ht : argTypes[0]? with
        | none => simp [ht] at hm
        | some mt =>
          simp only [ht, Option.bind_some] at hm
          cases hes : entriesOf m (ev x) with
          | none => simp [hes] at h
          | some es =>
            simp only [hes, Option.bind_some, Option.some.injEq] at h
            subst h
            obtain ⟨c, hc, hr⟩ := lenMap_sim (w := w) (t := o.type) hi (hop) ht hm hes
            refine ⟨c, ?_, hr⟩
            simp only [resolve, Sem.run_bind, Sem.run_pure, Result.andThen_ok, invoke, Go.builtin, List.map_toArray, List.map_cons, List.map_nil]
            rw [hc]
            rfl
      · cases h
    | _ => simp at h
  | _ => simp [ho] at h

end Go.AM
