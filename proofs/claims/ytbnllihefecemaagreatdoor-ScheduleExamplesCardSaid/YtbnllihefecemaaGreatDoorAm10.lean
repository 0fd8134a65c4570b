/-
  The abstract machine and the machine: one operation of a region; frames; results.
-/
import Derived.Test.YtbnllihefecemaaGreatDoorAm9
set_option linter.unusedSimpArgs false
set_option linter.unusedVariables false
namespace Go.AM
open Go

variable {P : Program} {ρ : Map} {w : World} {m m' : Mem}

/-- A memory holds nothing above its next number. -/
structure MemOk (m : Mem) : Prop where
  small : m.next ≤ 1000000001
  top : ∀ b, m.next ≤ b → m.get b = none

/-- The slots stand for each other. -/
structure StR (ρ : Map) (tm : T Value) (a : Act) (nt : Nat) : Prop where
  rel : ∀ t, VRel ρ ((tm.get t).getD undef) (a.tmps.getD t undef)
  size : nt ≤ a.tmps.size
  defers : a.defers = []

theorem StR.mono {ρ ρ' : Map} (h : ρ.Le ρ') {tm : T Value} {a : Act} {nt : Nat} (hs : StR ρ tm a nt) : StR ρ' tm a nt := ⟨fun t => (hs.rel t).mono h, hs.size, hs.defers⟩

theorem StR.put {tm : T Value} {a : Act} {nt : Nat} {v c : Value} {dst : Option Tmp} (hs : StR ρ tm a nt) (hd : ∀ d, dst = some d → d < nt) (hn : nt ≤ 1000000) (hv : VRel ρ v c) : StR ρ (putAt tm dst v) (a.put dst c) nt := by
  cases dst with
  | none => exact hs
  | some d =>
    have hd' := hd d rfl
    refine ⟨fun t => ?_, by simp [Act.put]; exact hs.size, hs.defers⟩
    have hg : (putAt tm (some d) v).get t = if t = d then some v else tm.get t := T.get_set v depth d tm t (Nat.lt_of_le_of_lt (Nat.le_trans (Nat.succ_le_of_lt hd') hn) (by decide))
    rw [hg]
    by_cases e : t = d
    · subst e
      have := hs.size
      rw [if_pos rfl]
      have hlt : t < a.tmps.size := Nat.lt_of_lt_of_le hd' this
      have h1 : (a.put (some t) c).tmps.getD t undef = c := by
        simp [Act.put, Array.getD_eq_getD_getElem?, hlt]
      rw [h1]
      exact hv
    · rw [if_neg e]
      have h1 : (a.put (some d) c).tmps.getD t undef = a.tmps.getD t undef := by
        simp [Act.put, Array.getD_eq_getD_getElem?, Array.getElem?_setIfInBounds, Ne.symm e]
      rw [h1]
      exact hs.rel t

/-- A constant of the text holds no address; a variable of the package level is one of the first n. -/
def opdOk (n : Nat) : Operand → Bool
  | .const v => flat v
  | .global g => Nat.blt g n
  | _ => true

/-- The package-level variables lie where they lie. -/
def Glob (n : Nat) (ρ : Map) : Prop := ∀ g, g < n → ∃ sz, ρ g = some ⟨g, 0, sz⟩

theorem Glob.mono {n : Nat} {ρ ρ' : Map} (h : ρ.Le ρ') (hg : Glob n ρ) : Glob n ρ' := fun g hlt => let ⟨sz, e⟩ := hg g hlt; ⟨sz, h _ _ e⟩

theorem evalAt_rel {tm : T Value} {a : Act} {n : Nat} (hg : Glob n ρ) {x : Operand} (hx : opdOk n x = true) (ht : ∀ t, x = .tmp t → VRel ρ ((tm.get t).getD undef) (a.tmps.getD t undef)) :
    VRel ρ (evalAt tm x) (a.eval x) := by
  cases x with
  | tmp t => exact ht t rfl
  | const v => exact flat_rel hx
  | global g =>
    have hlt : g < n := by simpa [opdOk, Nat.blt_eq] using hx
    obtain ⟨sz, e⟩ := hg g hlt
    have := VRel.ptr (ρ := ρ) (b := g) (o := 0) e
    exact (by simpa using this : VRel ρ (.pointer (some ⟨g, 0, none⟩)) (.pointer (some ⟨g, 0, none⟩)))
  | func f => exact .func rfl rfl (fun i x y hx => by simp at hx) (fun i x y hx => by simp at hx)

/-- The slots that an operation names: those that it reads, the guard's, its own. -/
def reads (ops : Array Oper) (o : Oper) : List Tmp :=
  (match o.guard with
   | some (j, _) => ((ops[j]?).bind (·.dst)).toList
   | none => []) ++ o.op.operands.toList.filterMap fun | .tmp t => some t | _ => none

/-- An operation is in order. -/
def operOk (n nt : Nat) (ops : Array Oper) (o : Oper) : Bool :=
  o.op.operands.toList.all (opdOk n) && (match o.dst with | some d => Nat.blt d nt | none => true) &&
  (match o.guard with | some (j, _) => (match (ops[j]?).bind (·.dst) with | some d => Nat.blt d nt | none => true) | none => true)

theorem operOk_dst {n nt : Nat} {ops : Array Oper} {o : Oper} (h : operOk n nt ops o = true) : ∀ d, o.dst = some d → d < nt := by
  intro d hd
  simp only [operOk, hd, Bool.and_eq_true, Nat.blt_eq] at h
  exact h.1.2

theorem opRel_of {n nt : Nat} {ops : Array Oper} {o : Oper} {tm : T Value} {a : Act} (hg : Glob n ρ) (h : operOk n nt ops o = true)
    (ht : ∀ t, t ∈ reads ops o → VRel ρ ((tm.get t).getD undef) (a.tmps.getD t undef)) : OpRel ρ (evalAt tm) a.eval o := by
  intro x hx
  simp only [operOk, Bool.and_eq_true, List.all_eq_true] at h
  refine evalAt_rel hg (h.1.1 x hx) fun t e => ht t ?_
  subst e
  unfold reads
  refine List.mem_append_right _ (List.mem_filterMap.2 ⟨_, hx, rfl⟩)

theorem wanted_eq {n nt : Nat} {ops : Array Oper} {o : Oper} {tm : T Value} {a : Act} (h : operOk n nt ops o = true) (hs : nt ≤ a.tmps.size)
    (ht : ∀ t, t ∈ reads ops o → VRel ρ ((tm.get t).getD undef) (a.tmps.getD t undef)) : Region.wanted o (yielded ops a.tmps) = wantedAt ops o tm := by
  unfold Region.wanted wantedAt
  cases hgu : o.guard with
  | none => rfl
  | some jw =>
    obtain ⟨j, want⟩ := jw
    simp only [yielded]
    cases hd : (ops[j]?).bind (·.dst) with
    | none => simp
    | some d =>
      have hr := ht d (by unfold reads; rw [hgu]; simp [hd])
      simp only [operOk, hgu, hd, Bool.and_eq_true, Nat.blt_eq] at h
      have hlt : d < a.tmps.size := Nat.lt_of_lt_of_le h.2 hs
      obtain ⟨c, hc⟩ : ∃ c, a.tmps[d]? = some c := ⟨_, Array.getElem?_eq_getElem hlt⟩
      have hgd : a.tmps.getD d undef = c := by simp [Array.getD_eq_getD_getElem?, hc]
      rw [hgd] at hr
      simp only [Option.bind_some, hc]
      cases hv : tm.get d with
      | none =>
        rw [hv] at hr
        simp only [Option.getD_none] at hr
        cases c with
        | bool b => cases hr
        | _ => simp
      | some v =>
        rw [hv] at hr
        simp only [Option.getD_some] at hr
        cases hr <;> simp

/-- What an operation's call comes to. -/
def CallEnd (ρ : Map) (m : Mem) (w : World) (v : Value) (m' : Mem) (e : Ending) (w' : World) : Prop :=
  ∃ c ρ', e = .returned c ∧ VRel ρ' v c ∧ Inv ρ' m' w' ∧ Frm ρ m w ρ' m' w'

/-- What the abstract machine's calls say. -/
def CallsOk (P : Program) (rec : Task → Option Res) : Prop :=
  ∀ f args m v m', rec (.call f args m) = some (.call v m') → MemOk m → ∀ (ρ : Map) w cargs, Glob P.globals.size ρ → AllRel ρ args cargs → Inv ρ m w → Calls P f cargs w (CallEnd ρ m w v m')

variable {rec : Task → Option Res} {ops : Array Oper} {o : Oper} {a : Act} {K : Act → World → Prop} {Q : Exit → Act → World → Prop}

theorem wp_value {c : Value} {w' : World} (h : (execOp a.eval o).run P w = .ok (.value c) w') (hk : K (a.put o.dst c) w') : o.wp P a w K Q := by
  unfold Oper.wp
  rw [h, Oper.upon_value]
  exact hk

theorem wp_skip' {w' : World} (h : (execOp a.eval o).run P w = .ok .skip w') (hk : K (a.put o.dst undef) w') : o.wp P a w K Q := by
  unfold Oper.wp
  rw [h, Oper.upon_skip]
  exact hk

theorem wp_enter {f : FuncId} {args : Array Value} {w' : World} {R : Ending → World → Prop} (h : (execOp a.eval o).run P w = .ok (.enter f args) w') (hc : Calls P f args w' R)
    (hk : ∀ e w'', R e w'' → ∃ c, e = .returned c ∧ K (a.put o.dst c) w'') : o.wp P a w K Q := by
  unfold Oper.wp
  rw [h, Oper.upon_enter]
  refine hc.mono fun e w'' hr => ?_
  obtain ⟨c, rfl, hk'⟩ := hk e w'' hr
  exact hk'

/-- One operation of a region. -/
theorem opStep_sim {nt : Nat} {s s' : St} (hc : CallsOk P rec) (hmo : MemOk s.mem) (hg : Glob P.globals.size ρ) (hn : nt ≤ 1000000) (ho : operOk P.globals.size nt ops o = true) (hst : opStep P rec ops o s = some s')
    (hs : StR ρ s.tm a nt) (hi : Inv ρ s.mem w) (hk : ∀ ρ' a' w', StR ρ' s'.tm a' nt → Inv ρ' s'.mem w' → Frm ρ s.mem w ρ' s'.mem w' → K a' w') (i : Nat) (hop : ops[i]? = some o) : wpOp P ops Q i K a w := by
  have hrel : ∀ t, t ∈ reads ops o → VRel ρ ((s.tm.get t).getD undef) (a.tmps.getD t undef) := fun t _ => hs.rel t
  have hor := opRel_of hg ho hrel
  have hdst := operOk_dst ho
  unfold wpOp
  simp only [hop]
  rw [wanted_eq ho hs.size hrel]
  unfold opStep at hst
  cases hw : wantedAt ops o s.tm with
  | false =>
    simp only [hw, cond_false, Option.some.injEq] at hst
    subst hst
    simp only [Bool.false_eq_true, if_false]
    exact hk ρ _ w (hs.put hdst hn (.undef ρ)) hi (Frm.refl hi.dom)
  | true =>
    simp only [hw, cond_true] at hst
    simp only [if_true]
    refine .inl ?_
    cases hkd : kindOf P o with
    | pure =>
      simp only [hkd] at hst
      cases hv : pureOp P (evalAt s.tm) o with
      | none => simp [hv] at hst
      | some v =>
        simp only [hv, Option.bind_some, Option.some.injEq] at hst
        subst hst
        obtain ⟨c, h1, h2⟩ := pure_sim (w := w) hor hv
        exact wp_value h1 (hk ρ _ w (hs.put hdst hn h2) hi (Frm.refl hi.dom))
    | read =>
      simp only [hkd] at hst
      cases hv : readOp P (evalAt s.tm) s.mem o with
      | none => simp [hv] at hst
      | some v =>
        simp only [hv, Option.bind_some, Option.some.injEq] at hst
        subst hst
        obtain ⟨c, h1, h2⟩ := read_sim hi.rel hor hv
        exact wp_value h1 (hk ρ _ w (hs.put hdst hn h2) hi (Frm.refl hi.dom))
    | new =>
      simp only [hkd] at hst
      cases hv : newOp P (evalAt s.tm) o with
      | none => simp [hv] at hst
      | some xf =>
        obtain ⟨x, f⟩ := xf
        simp only [hv, Option.bind_some] at hst
        cases hm : s.mem.push x with
        | none => simp [hm] at hst
        | some m2 =>
          simp only [hm, Option.bind_some, Option.some.injEq] at hst
          subst hst
          obtain ⟨c, ob, size, h1, h2⟩ := new_sim (w := w) hor hv
          have hle := Map.le_with (p := ⟨w.heap.size, 0, size⟩) hi.free
          obtain ⟨h3, h4⟩ := h2 _ s.mem.next hle (Map.with_self _ _ _)
          obtain ⟨h5, h6⟩ := push_inv hi hm (grew_alloc w ob) (Nat.le_refl _) (by simp) h4
          exact wp_value h1 (hk _ _ _ ((hs.mono hle).put hdst hn h3) h5 h6)
    | write =>
      simp only [hkd] at hst
      cases hv : writeOp P (evalAt s.tm) s.mem o with
      | none => simp [hv] at hst
      | some vm =>
        obtain ⟨v, m2⟩ := vm
        simp only [hv, Option.bind_some, Option.some.injEq] at hst
        subst hst
        obtain ⟨c, r, w', ρ', h1, h2, h3, h4, h5⟩ := write_sim hi hor hv
        have hle : ρ.Le ρ' := fun b p hb => by rw [h5.old b (hi.dom b p hb)]; exact hb
        have hfin := hk ρ' _ w' ((hs.mono hle).put hdst hn h3) h4 h5
        rcases h2 with rfl | ⟨rfl, rfl⟩
        · exact wp_value h1 hfin
        · exact wp_skip' h1 hfin
    | call =>
      simp only [hkd] at hst
      cases hv : callOp P (evalAt s.tm) o with
      | none => simp [hv] at hst
      | some fa =>
        obtain ⟨f, args⟩ := fa
        simp only [hv, Option.bind_some] at hst
        split at hst
        · rename_i v m2 hr
          simp only [Option.some.injEq] at hst
          subst hst
          obtain ⟨cargs, h1, h2⟩ := call_sim (w := w) hor hv
          refine wp_enter h1 (hc f args s.mem v m2 hr hmo ρ w cargs hg h2 hi) fun e w'' he => ?_
          obtain ⟨c, ρ', rfl, g1, g2, g3⟩ := he
          have hle : ρ.Le ρ' := fun b p hb => by rw [g3.old b (hi.dom b p hb)]; exact hb
          exact ⟨c, rfl, hk ρ' _ w'' ((hs.mono hle).put hdst hn g1) g2 g3⟩
        · cases hst
    | bad => simp [hkd] at hst

end Go.AM
