/-
  From the row's listed variables to the abstract machine's first memory.
-/
import Derived.Test.YtbnllihefecemaaGreatDoorAm16
import Derived.Test.YtbnllihefecemaaGreatDoorAmF
import Derived.Lib.LaidTab
set_option linter.unusedSimpArgs false
set_option linter.unusedVariables false
namespace Go.AM
open Go

variable {P : Program} {w : World} {ρ : Map}

def fieldsTile (P : Program) (ok : TypeId → Bool) (n : Nat) : Nat → List Field → Bool
  | o, [] => Nat.beq o n
  | o, f :: r => Nat.beq f.offset o && ok f.type && fieldsTile P ok n (o + P.cellsOf f.type) r

/-- A type whose values lie cell by cell. -/
def tiles (P : Program) : Nat → TypeId → Bool
  | 0, _ => false
  | k + 1, t =>
    match P.underlying t with
    | some .bool => true
    | some (.int _) => true
    | some .string => true
    | some (.struct fs) => fieldsTile P (tiles P k) (P.cellsOf t) 0 fs.toList
    | some (.array n e) => Nat.beq (n * P.cellsOf e) (P.cellsOf t) && tiles P k e
    | _ => false

theorem litV_flat0 : ∀ l : Lit, flat0 (litV l) = true := by
  intro l
  cases l <;> rfl

theorem flat_flat0 {H : Type} : ∀ (k : Nat) (d : DataW H), ∀ v ∈ flatW k d, flat0 v = true
  | 0, _, v, h => by simp [flatW] at h
  | k + 1, d, v, h => by
    cases d with
    | lit l =>
      simp only [flatW, List.mem_singleton] at h
      subst h
      exact litV_flat0 l
    | agg ds =>
      simp only [flatW, List.mem_flatMap] at h
      obtain ⟨x, _, hx⟩ := h
      exact flat_flat0 k x v hx
    | _ => simp [flatW] at h

section
variable {H : Type} {enc : TypeId × Value → H} {base : Nat} {sp : Nat → Bool} {held : Bool}

theorem fields_flat {k f : Nat} (ih : ∀ (t : TypeId) cs (d : DataW H) p, tiles P k t = true → DataW.trod enc P w base sp held f t cs = some (d, p) → cs = flatW k d) (cs : List Value) :
    ∀ (fs : List Field) (o : Nat) (xs : List (DataW H × List MemPlace)), fieldsTile P (tiles P k) cs.length o fs = true → fs.mapM (fun f' => DataW.trod enc P w base sp held f f'.type ((cs.drop f'.offset).take (P.cellsOf f'.type))) = some xs →
      cs.drop o = (xs.map (·.1)).flatMap (flatW k)
  | [], o, xs, ht, hm => by
    simp only [List.mapM_nil, Option.pure_def, Option.some.injEq] at hm
    subst hm
    simp only [fieldsTile, Nat.beq_eq] at ht
    simp [ht]
  | f' :: r, o, xs, ht, hm => by
    simp only [fieldsTile, Bool.and_eq_true, Nat.beq_eq] at ht
    obtain ⟨⟨h1, h2⟩, h3⟩ := ht
    simp only [List.mapM_cons, Option.bind_eq_bind, Option.bind_eq_some_iff, Option.pure_def, Option.some.injEq] at hm
    obtain ⟨x, hx, r', hr', rfl⟩ := hm
    have e1 := ih _ _ x.1 x.2 h2 hx
    have e2 := fields_flat ih cs r _ r' h3 hr'
    rw [h1] at e1
    simp only [List.map_cons, List.flatMap_cons]
    rw [← e1, ← e2, ← List.drop_drop, List.take_append_drop]

theorem elems_flat {k f c : Nat} {e : TypeId} (ih : ∀ (t : TypeId) cs (d : DataW H) p, tiles P k t = true → DataW.trod enc P w base sp held f t cs = some (d, p) → cs = flatW k d) (hk : tiles P k e = true) (cs : List Value) :
    ∀ (n j : Nat) (xs : List (DataW H × List MemPlace)), (j + n) * c = cs.length → (List.range' j n).mapM (fun i => DataW.trod enc P w base sp held f e ((cs.drop (i * c)).take c)) = some xs →
      cs.drop (j * c) = (xs.map (·.1)).flatMap (flatW k)
  | 0, j, xs, ht, hm => by
    simp only [List.range'_zero, List.mapM_nil, Option.pure_def, Option.some.injEq] at hm
    subst hm
    simp only [Nat.add_zero] at ht
    simp [ht]
  | n + 1, j, xs, ht, hm => by
    simp only [List.range'_succ, List.mapM_cons, Option.bind_eq_bind, Option.bind_eq_some_iff, Option.pure_def, Option.some.injEq] at hm
    obtain ⟨x, hx, r', hr', rfl⟩ := hm
    have e1 := ih _ _ x.1 x.2 hk hx
    have e2 := elems_flat ih hk cs n (j + 1) r' (by rw [← ht]; congr 1; omega) hr'
    simp only [List.map_cons, List.flatMap_cons]
    rw [← e1, ← e2, Nat.add_mul, Nat.one_mul, ← List.drop_drop, List.take_append_drop]

/-- WHAT READS AS A DATUM HOLDS ITS CELLS. -/
theorem flat_of_trod : ∀ (k f : Nat) (t : TypeId) (cs : List Value) (d : DataW H) (p : List MemPlace), tiles P k t = true → DataW.trod enc P w base sp held f t cs = some (d, p) → cs = flatW k d
  | 0, _, _, _, _, _, h, _ => by simp [tiles] at h
  | k + 1, 0, t, cs, d, p, h, hd => by simp [DataW.trod] at hd
  | k + 1, f + 1, t, cs, d, p, h, hd => by
    simp only [tiles] at h
    split at h
    · rename_i hu
      simp only [DataW.trod, hu] at hd
      split at hd <;> simp_all
      obtain ⟨rfl, rfl⟩ := hd
      rfl
    · rename_i hu
      simp only [DataW.trod, hu] at hd
      split at hd <;> simp_all
      obtain ⟨_, rfl, rfl⟩ := hd
      rfl
    · rename_i hu
      simp only [DataW.trod, hu] at hd
      split at hd <;> simp_all
      obtain ⟨_, rfl, rfl⟩ := hd
      rfl
    · rename_i fs hu
      simp only [DataW.trod, hu] at hd
      by_cases hl : cs.length = P.cellsOf t
      · rw [if_pos hl] at hd
        obtain ⟨xs, hm, hx⟩ := Option.map_eq_some_iff.1 hd
        simp only [Prod.mk.injEq] at hx
        obtain ⟨rfl, _⟩ := hx
        rw [← hl] at h
        have := fields_flat (fun t cs d p h1 h2 => flat_of_trod k f t cs d p h1 h2) cs fs.toList 0 xs h hm
        simpa [flatW] using this
      · rw [if_neg hl] at hd
        cases hd
    · rename_i n e hu
      simp only [Bool.and_eq_true, Nat.beq_eq] at h
      simp only [DataW.trod, hu] at hd
      by_cases hl : cs.length = P.cellsOf t
      · rw [if_pos hl] at hd
        obtain ⟨xs, hm, hx⟩ := Option.map_eq_some_iff.1 hd
        simp only [Prod.mk.injEq] at hx
        obtain ⟨rfl, _⟩ := hx
        rw [List.range_eq_range'] at hm
        have := elems_flat (fun t cs d p h1 h2 => flat_of_trod k f t cs d p h1 h2) h.2 cs n 0 xs (by rw [Nat.zero_add, hl]; exact h.1) hm
        simpa [flatW] using this
      · rw [if_neg hl] at hd
        cases hd
    · cases h
end

/-- One listed variable's reading. -/
def Reads (P : Program) (w : World) (n : String) (d : DataW Unit) : Prop :=
  ∃ g t cs fuel p, P.globalNamed n = some g ∧ (P.globals[g]?).map (·.type) = some t ∧ w.var? P n = some cs ∧ DataW.trod (fun _ => ()) P w 0 (fun _ => true) false fuel t cs.toList = some (d, p)

theorem LaidVars_reads : ∀ {l : List (String × DataW Unit)} {ps : List MemPlace}, DataW.LaidVars P w l ps → ∀ n d, (n, d) ∈ l → Reads P w n d
  | [], _, _, _, _, hm => by cases hm
  | (n', d') :: r, ps, h, n, d, hm => by
    obtain ⟨g, t, cs, fuel, p, q, h1, h2, h3, h4, h5, _⟩ := h
    rcases List.mem_cons.1 hm with e | e
    · cases e
      exact ⟨g, t, cs, fuel, p, h1, h2, h3, h4⟩
    · exact LaidVars_reads h5 n d e

theorem reads_of {l : List (String × DataW Unit)} (h : laidMet P l w) {n : String} {d : DataW Unit} (hm : (n, d) ∈ l) : Reads P w n d :=
  let ⟨_, hv, _⟩ := h
  LaidVars_reads hv n d hm

def szOf (w : World) (b : Nat) : Nat :=
  match w.heap[b]? with
  | some (.cells c _ _) => c.size
  | _ => 0

theorem var_block {n : String} {g : Nat} {cs : Array Value} (hg : P.globalNamed n = some g) (h : w.var? P n = some cs) : ∃ t lo hi, w.heap[g]? = some (.cells cs t (lo, hi)) := by
  unfold World.var? at h
  rw [hg] at h
  simp only [Option.bind_some] at h
  split at h
  · rename_i c t fr hw
    simp only [Option.some.injEq] at h
    subst h
    exact ⟨t, fr.1, fr.2, hw⟩
  · cases h

theorem brel_cells {b : Nat} {c : Array Value} {t : TypeId} {lo hi co : Nat} {vs : List Value} (hw : w.heap[b]? = some (.cells c t (lo, hi))) (hf : ∀ v ∈ vs, flat0 v = true) (hsz : co + vs.length ≤ c.size) (h : ∀ i v, vs[i]? = some v → c[co + i]? = some v) :
    BRel ρ ⟨b, co, szOf w b⟩ (.cells 0 vs false) w := by
  refine ⟨c, t, lo, hi, hw, by simp [szOf, hw], ⟨hsz, fun i v hv => ⟨v, h i v hv, flat0_rel (hf v (List.mem_of_getElem? hv))⟩⟩, fun h => by cases h⟩

/-- A variable of plain data. -/
theorem brel_flat {n : String} {d : DataW Unit} {g : Nat} {t : TypeId} (k : Nat) (hr : Reads P w n d) (hg : P.globalNamed n = some g) (ht : (P.globals[g]?).map (·.type) = some t) (hk : tiles P k t = true) :
    BRel ρ ⟨g, 0, szOf w g⟩ (.cells 0 (flatW k d) false) w ∧ g < w.heap.size := by
  obtain ⟨g', t', cs, fuel, p, hg', ht', hvar, hd⟩ := hr
  obtain rfl := Option.some.inj (hg.symm.trans hg')
  obtain rfl := Option.some.inj (ht.symm.trans ht')
  obtain ⟨ty, lo, hi, hw⟩ := var_block hg hvar
  have e := flat_of_trod k fuel t cs.toList d p hk hd
  refine ⟨brel_cells hw (flat_flat0 k d) (by rw [← e]; simp) (fun i v hv => ?_), (Array.getElem?_eq_some_iff.1 hw).1⟩
  rw [← e] at hv
  simpa using hv

theorem flatMap_get {α β : Type} {f : α → List β} {c : Nat} (hc : 0 < c) : ∀ (l : List α) (q : Nat), (∀ x ∈ l, (f x).length = c) → (l.flatMap f)[q]? = (l[q / c]?).bind fun x => (f x)[q % c]?
  | [], q, _ => by simp
  | x :: l, q, h => by
    have hx := h x (by simp)
    simp only [List.flatMap_cons]
    by_cases hq : q < c
    · rw [List.getElem?_append_left (by omega), Nat.div_eq_of_lt hq, Nat.mod_eq_of_lt hq]
      simp
    · rw [List.getElem?_append_right (by omega), flatMap_get hc l _ (fun y hy => h y (by simp [hy])), hx]
      have e1 : q / c = (q - c) / c + 1 := by
        rw [Nat.div_eq_sub_div hc (by omega)]
      have e2 : q % c = (q - c) % c := by
        rw [Nat.mod_eq_sub_mod (by omega)]
      rw [e1, e2, List.getElem?_cons_succ]

theorem cells_get {base : Nat} {a : Addr} {n : Nat} {cs : List Value} (h : w.cells? base a n = some cs) : cs.length = n ∧ ∀ i, i < n → ∃ v, cs[i]? = some v ∧ w.cell? (a.add i) = some v := by
  unfold World.cells? at h
  split at h
  · refine ⟨by simpa using Lib.mapM_length h, fun i hi => ?_⟩
    obtain ⟨b, hb, hf⟩ := Lib.mapM_at h i i (by simp [hi])
    exact ⟨b, hb, hf⟩
  · cases h

theorem cell_place {a : Addr} {v : Value} (h : w.cell? a = some v) : a.spot = none ∧ ∃ c t fr, w.heap[a.block]? = some (.cells c t fr) ∧ c[a.off]? = some v := by
  unfold World.cell? at h
  split at h
  · rename_i c t fr hw
    cases hs : a.spot with
    | none =>
      simp only [hs, Option.isSome_none, Bool.false_eq_true, if_false] at h
      exact ⟨rfl, c, t, fr, hw, h⟩
    | some s => simp [hs] at h
  · cases h

theorem add_off (a : Addr) (n : Nat) : (a.add n).block = a.block ∧ (a.add n).off = a.off + n := by
  unfold Addr.add
  split
  · rename_i h
    subst h
    exact ⟨rfl, rfl⟩
  · exact ⟨rfl, rfl⟩

/-- A variable that is a slice of plain data. -/
theorem slice_flat {n : String} {ds : List (DataW Unit)} {g c : Nat} {t e : TypeId} (tb k : Nat) (hr : Reads P w n (.slice ds [])) (hg : P.globalNamed n = some g) (ht : (P.globals[g]?).map (·.type) = some t)
    (hu : P.underlying t = some (.slice e)) (hk : tiles P k e = true) (hce : P.cellsOf e = c) (hc : 0 < c) (hds : 0 < ds.length) :
    g < w.heap.size ∧ ∃ b o, b < w.heap.size ∧ o + ds.length * c ≤ szOf w b ∧ (∀ ρ : Map, ρ tb = some ⟨b, o, szOf w b⟩ → BRel ρ ⟨g, 0, szOf w g⟩ (.cells 0 [.slice (some ⟨tb, 0, none⟩) ds.length c] false) w) ∧
      ∀ ρ : Map, BRel ρ ⟨b, o, szOf w b⟩ (.cells 0 (ds.flatMap (flatW k)) false) w := by
  obtain ⟨g', t', cs, fuel, p, hg', ht', hvar, hd⟩ := hr
  obtain rfl := Option.some.inj (hg.symm.trans hg')
  obtain rfl := Option.some.inj (ht.symm.trans ht')
  obtain ⟨ty, lo, hi, hw⟩ := var_block hg hvar
  refine ⟨(Array.getElem?_eq_some_iff.1 hw).1, ?_⟩
  rcases DataW.trod_slice hu hd with ⟨_, h2⟩ | ⟨a, len, cap, elems, rest, f', rfl, hcs, hx, _, hlc, _, hel, hall, hrest, _⟩
  · simp at h2
  · simp only [Prod.mk.injEq, DataW.slice.injEq] at hx
    obtain ⟨⟨hds1, hrs⟩, _⟩ := hx
    have hrl := (hrest rfl).1
    have hr0 : rest.length = 0 := by
      have := congrArg List.length hrs
      simpa using this.symm
    have hcap : cap = len := by omega
    have hlen : ds.length = len := by
      rw [hds1]
      simp [hel]
    subst hcap
    rw [hce] at hall
    have each : ∀ i, i < ds.length → ∃ d csi, ds[i]? = some d ∧ csi.length = c ∧ csi = flatW k d ∧ ∀ j, j < c → ∃ v, csi[j]? = some v ∧ w.cell? ((a.add (i * c)).add j) = some v := by
      intro i hi'
      have h1 := hall i (by omega)
      obtain ⟨x, h2⟩ : ∃ x, elems[i]? = some x := ⟨_, List.getElem?_eq_getElem (by omega)⟩
      rw [h2] at h1
      obtain ⟨csi, hci, hdi⟩ := Option.bind_eq_some_iff.1 h1
      obtain ⟨g1, g2⟩ := cells_get hci
      refine ⟨x.1, csi, by rw [hds1, List.getElem?_map, h2]; rfl, g1, flat_of_trod k f' e csi _ x.2 hk hdi, g2⟩
    obtain ⟨d0, cs0, _, _, _, h0⟩ := each 0 hds
    obtain ⟨v0, _, hv0⟩ := h0 0 hc
    have ha0 : (a.add (0 * c)).add 0 = a := by simp [Addr.add]
    rw [ha0] at hv0
    obtain ⟨hspot, arr, tya, fra, hwa, _⟩ := cell_place hv0
    have pl : ∀ i, i < ds.length → ∀ j, j < c → ∀ d, ds[i]? = some d → ∃ v, (flatW k d)[j]? = some v ∧ arr[a.off + i * c + j]? = some v := by
      intro i hi' j hj d hd'
      obtain ⟨d1, csi, e1, e2, e3, e4⟩ := each i hi'
      rw [hd'] at e1
      obtain rfl := Option.some.inj e1
      obtain ⟨v, f1, f2⟩ := e4 j hj
      obtain ⟨_, arr', _, _, q1, q2⟩ := cell_place f2
      rw [(add_off _ _).1, (add_off _ _).1, hwa] at q1
      simp only [Option.some.injEq, Obj.cells.injEq] at q1
      obtain ⟨rfl, _⟩ := q1
      rw [(add_off _ _).2, (add_off _ _).2] at q2
      exact ⟨v, by rw [← e3]; exact f1, q2⟩
    have hsz : a.off + ds.length * c ≤ arr.size := by
      obtain ⟨d, hd'⟩ : ∃ d, ds[ds.length - 1]? = some d := ⟨_, List.getElem?_eq_getElem (by omega)⟩
      obtain ⟨v, _, q⟩ := pl (ds.length - 1) (by omega) (c - 1) (by omega) d hd'
      have := (Array.getElem?_eq_some_iff.1 q).1
      have e : ds.length * c = (ds.length - 1) * c + c := by
        rw [← Nat.succ_mul]
        congr 1
        omega
      omega
    have hsza : szOf w a.block = arr.size := by simp [szOf, hwa]
    refine ⟨a.block, a.off, (Array.getElem?_eq_some_iff.1 hwa).1, by rw [hsza]; exact hsz, fun ρ h4 => ?_, fun ρ => ?_⟩
    · refine ⟨cs, ty, lo, hi, hw, by simp [szOf, hw], ?_, fun h => by cases h⟩
      have hcs1 : cs.size = 1 := by
        have := congrArg List.length hcs
        simpa using this
      refine ⟨by simp; omega, fun i v hv => ?_⟩
      match i, hv with
      | 0, hv =>
        simp only [List.getElem?_cons_zero, Option.some.injEq] at hv
        subst hv
        refine ⟨.slice (some a) cap cap, by
          rw [← Array.getElem?_toList, hcs]
          rfl, ?_⟩
        obtain ⟨ab, ao, as⟩ := a
        simp only at hspot
        subst hspot
        have h := VRel.slice (ρ := ρ) (b := tb) (o := 0) (len := ds.length) (sz := c) (off := ao) (ccap := ds.length) h4 (.inl rfl) (Nat.le_refl _) (by simpa [hsza] using hsz)
        rw [hlen] at h ⊢
        exact h
      | i + 1, hv => simp at hv
    · refine brel_cells (t := tya) (lo := fra.1) (hi := fra.2) hwa (fun v hv => ?_) ?_ (fun i v hv => ?_)
      · obtain ⟨d, _, hd'⟩ := List.mem_flatMap.1 hv
        exact flat_flat0 k d v hd'
      · have : (ds.flatMap (flatW k)).length ≤ ds.length * c := by
          rw [List.length_flatMap]
          have : ∀ l : List (DataW Unit), (∀ d ∈ l, (flatW k d).length = c) → (l.map fun d => (flatW k d).length).sum = l.length * c := by
            intro l
            induction l with
            | nil => simp
            | cons x l ih =>
              intro h
              simp only [List.map_cons, List.sum_cons, List.length_cons, Nat.succ_mul]
              rw [ih (fun d hd' => h d (by simp [hd'])), h x (by simp)]
              omega
          rw [this]
          · exact Nat.le_refl _
          · intro d hd'
            obtain ⟨i, hi', rfl⟩ := List.mem_iff_getElem.1 hd'
            obtain ⟨d1, csi, e1, e2, e3, _⟩ := each i hi'
            rw [List.getElem?_eq_getElem hi'] at e1
            rw [Option.some.inj e1, ← e3, e2]
        omega
      · have hlenf : ∀ d ∈ ds, (flatW k d).length = c := by
          intro d hd'
          obtain ⟨i, hi', rfl⟩ := List.mem_iff_getElem.1 hd'
          obtain ⟨d1, csi, e1, e2, e3, _⟩ := each i hi'
          rw [List.getElem?_eq_getElem hi'] at e1
          rw [Option.some.inj e1, ← e3, e2]
        rw [flatMap_get hc ds i hlenf] at hv
        obtain ⟨d, hd1, hd2⟩ := Option.bind_eq_some_iff.1 hv
        have hi' := (List.getElem?_eq_some_iff.1 hd1).1
        obtain ⟨v', q1, q2⟩ := pl (i / c) hi' (i % c) (Nat.mod_lt _ hc) d hd1
        rw [hd2] at q1
        obtain rfl := Option.some.inj q1
        have : i / c * c + i % c = i := by
          rw [Nat.mul_comm]
          exact Nat.div_add_mod i c
        rw [← this, ← Nat.add_assoc]
        exact q2

/-- A memory that nobody may write. -/
theorem inv_ro {m : Mem} (hn : m.next ≤ 1000000001) (h1 : ∀ b p, ρ b = some p → b < m.next ∧ p.cb < w.heap.size) (h2 : ∀ b x, b < m.next → m.get b = some x → x.wrs = false) (h3 : ∀ b p x, ρ b = some p → m.get b = some x → BRel ρ p x w) : Inv ρ m w where
  rel := ⟨h3, fun b b' p p' x x' hb _ hx _ hwr => by (rw [h2 b x (h1 b p hb).1 hx] at hwr; cases hwr), fun b p h => (h1 b p h).2⟩
  dom := fun b p h => (h1 b p h).1
  small := hn

/-- What a call leaves as it was. -/
theorem below_of_ro {m m' : Mem} {w' : World} {ρ' : Map} (h : Frm ρ m w ρ' m' w') (hd : ∀ b p, ρ b = some p → b < m.next) (h2 : ∀ b x, b < m.next → m.get b = some x → x.wrs = false) :
    w'.os = w.os ∧ w'.tape = w.tape ∧ w'.output = w.output ∧ w.heap.size ≤ w'.heap.size ∧ ∀ i, i < w.heap.size → w'.heap[i]? = w.heap[i]? :=
  ⟨h.os, h.tape, h.output, h.size, fun i hi => h.keep i hi fun b p x hb hx hwr => by (rw [h2 b x (hd b p hb) hx] at hwr; cases hwr)⟩

end Go.AM
