/-
  The abstract machine and the machine: how their values and memories stand to each other.
-/
import Derived.Test.YtbnllihefecemaaGreatDoorAm1
import Derived.Laws.Sem
import Derived.Laws.World
set_option linter.unusedSimpArgs false
namespace Go.AM
open Go

/-! ### Tables -/
theorem T.look_eq {α β : Type} (t : T α) (k : T α → β) : t.look k = k t := by cases t <;> rfl

theorem T.get_leaf {α : Type} (n : Nat) : (T.leaf : T α).get n = none := rfl
theorem T.get_node {α : Type} (l : T α) (v : Option α) (r : T α) (n : Nat) : (T.node l v r).get n = bif Nat.beq n 0 then v else bif Nat.beq (n % 2) 1 then l.get (n / 2) else r.get (n / 2 - 1) := by
  show @Bool.rec (fun _ => Option α) (@Bool.rec (fun _ => Option α) (r.get (n / 2 - 1)) (l.get (n / 2)) (Nat.beq (n % 2) 1)) v (Nat.beq n 0) = _
  cases Nat.beq n 0 <;> cases Nat.beq (n % 2) 1 <;> rfl
theorem T.set_zero {α : Type} (a : α) (n : Nat) (t : T α) : T.set a 0 n t = t := rfl
theorem T.set_leaf {α : Type} (a : α) (f n : Nat) : T.set a (f + 1) n .leaf = bif Nat.beq n 0 then .node .leaf (some a) .leaf
    else bif Nat.beq (n % 2) 1 then (T.set a f (n / 2) .leaf).look fun x => .node x none .leaf
    else (T.set a f (n / 2 - 1) .leaf).look fun x => .node .leaf none x := by
  show @Bool.rec (fun _ => T α) (@Bool.rec (fun _ => T α) ((T.set a f (n / 2 - 1) .leaf).look fun x => .node .leaf none x) ((T.set a f (n / 2) .leaf).look fun x => .node x none .leaf) (Nat.beq (n % 2) 1)) (T.node .leaf (some a) .leaf) (Nat.beq n 0) = _
  cases Nat.beq n 0 <;> cases Nat.beq (n % 2) 1 <;> rfl
theorem T.set_node {α : Type} (a : α) (f n : Nat) (l : T α) (v : Option α) (r : T α) : T.set a (f + 1) n (.node l v r) = bif Nat.beq n 0 then .node l (some a) r
    else bif Nat.beq (n % 2) 1 then (T.set a f (n / 2) l).look fun x => .node x v r
    else (T.set a f (n / 2 - 1) r).look fun x => .node l v x := by
  show @Bool.rec (fun _ => T α) (@Bool.rec (fun _ => T α) ((T.set a f (n / 2 - 1) r).look fun x => .node l v x) ((T.set a f (n / 2) l).look fun x => .node x v r) (Nat.beq (n % 2) 1)) (T.node l (some a) r) (Nat.beq n 0) = _
  cases Nat.beq n 0 <;> cases Nat.beq (n % 2) 1 <;> rfl

theorem T.get_set {α : Type} (a : α) : ∀ (f n : Nat) (t : T α) (m : Nat), n + 1 < 2 ^ f → (T.set a f n t).get m = if m = n then some a else t.get m := by
  intro f
  induction f with
  | zero => intro n t m h; simp at h
  | succ f ih =>
    intro n t m h
    have h2 : 2 ^ (f + 1) = 2 * 2 ^ f := by rw [Nat.pow_succ]; omega
    have e0 : ∀ k : Nat, Nat.beq k 0 = decide (k = 0) := fun k => by cases k <;> rfl
    have e1 : ∀ k : Nat, Nat.beq k 1 = decide (k = 1) := fun k => by
      rcases k with _ | _ | k <;> rfl
    by_cases hn : n = 0
    · subst hn
      cases t <;> by_cases hm : m = 0 <;> simp [T.set_leaf, T.set_node, T.get_leaf, T.get_node, e0, e1, hm]
    · by_cases ho : n % 2 = 1
      · have hs : n / 2 + 1 < 2 ^ f := by omega
        cases t <;> simp only [T.set_leaf, T.set_node, T.get_leaf, T.get_node, e0, e1, hn, ho, T.look_eq, decide_true, decide_false, cond_true, cond_false] <;>
          by_cases hm : m = 0
        · simp [hm]; omega
        · by_cases hmo : m % 2 = 1
          · simp only [hm, hmo, decide_true, decide_false, cond_true, cond_false, ih _ _ _ hs, T.get_leaf, T.get_node]
            by_cases e : m = n
            · simp [e]
            · have : m / 2 ≠ n / 2 := by omega
              simp [e, this]
          · simp only [hm, hmo, decide_false, cond_false]
            have : m ≠ n := by omega
            simp [this]
        · simp [hm]; omega
        · by_cases hmo : m % 2 = 1
          · simp only [hm, hmo, decide_true, decide_false, cond_true, cond_false, ih _ _ _ hs]
            by_cases e : m = n
            · simp [e]
            · have : m / 2 ≠ n / 2 := by omega
              simp [e, this]
          · simp only [hm, hmo, decide_false, cond_false]
            have : m ≠ n := by omega
            simp [this]
      · have hs : n / 2 - 1 + 1 < 2 ^ f := by omega
        cases t <;> simp only [T.set_leaf, T.set_node, T.get_leaf, T.get_node, e0, e1, hn, ho, T.look_eq, decide_false, cond_false] <;>
          by_cases hm : m = 0
        · simp [hm]; omega
        · by_cases hmo : m % 2 = 1
          · simp only [hm, hmo, decide_true, decide_false, cond_true, cond_false]
            have : m ≠ n := by omega
            simp [this, T.get_leaf, T.get_node]
          · simp only [hm, hmo, decide_false, cond_false, ih _ _ _ hs]
            by_cases e : m = n
            · simp [e]
            · have : m / 2 - 1 ≠ n / 2 - 1 := by omega
              simp [e, this, T.get_leaf, T.get_node]
        · simp [hm]; omega
        · by_cases hmo : m % 2 = 1
          · simp only [hm, hmo, decide_true, decide_false, cond_true, cond_false]
            have : m ≠ n := by omega
            simp [this]
          · simp only [hm, hmo, decide_false, cond_false, ih _ _ _ hs]
            by_cases e : m = n
            · simp [e]
            · have : m / 2 - 1 ≠ n / 2 - 1 := by omega
              simp [e, this]

theorem Mem.get_put (m : Mem) (b : Nat) (x : Blk) (c : Nat) (h : b + 1 < 2 ^ 40) : (m.put b x).get c = if c = b then some x else m.get c :=
  T.get_set x depth b m.t c h

theorem Mem.push_some {m m' : Mem} {x : Blk} (h : m.push x = some m') : m.next ≤ 1000000000 ∧ m'.next = m.next + 1 ∧ ∀ c, m'.get c = if c = m.next then some x else m.get c := by
  unfold Mem.push at h
  cases hb : Nat.ble m.next 1000000000 with
  | false => simp [hb] at h
  | true =>
    have hle := Nat.le_of_ble_eq_true hb
    simp only [hb, cond_true, Option.some.injEq] at h
    subst h
    refine ⟨hle, rfl, fun c => ?_⟩
    exact T.get_set x depth m.next m.t c (by show m.next + 1 < 2 ^ 40; omega)

/-! ### Where the abstract blocks lie -/
structure Pl where
  cb : Nat
  co : Nat
  size : Nat

abbrev Map := Nat → Option Pl

def Map.Le (ρ ρ' : Map) : Prop := ∀ b p, ρ b = some p → ρ' b = some p

inductive VRel (ρ : Map) : Value → Value → Prop
  | bool (b : Bool) : VRel ρ (.bool b) (.bool b)
  | int (k : IntKind) (n : Int) : VRel ρ (.int k n) (.int k n)
  | string (s : ByteArray) : VRel ρ (.string s) (.string s)
  | ptrNil : VRel ρ (.pointer none) (.pointer none)
  | ptr {b o : Nat} {p : Pl} (h : ρ b = some p) : VRel ρ (.pointer (some ⟨b, o, none⟩)) (.pointer (some ⟨p.cb, p.co + o, none⟩))
  | sliceNil : VRel ρ (.slice none 0 0) (.slice none 0 0)
  | slice {b o len sz off ccap : Nat} {p : Pl} (h : ρ b = some p) (hoff : off = p.co + o ∨ (len = 0 ∧ ccap = 0)) (hlen : len ≤ ccap) (hcap : off + ccap * sz ≤ p.size) :
      VRel ρ (.slice (some ⟨b, o, none⟩) len sz) (.slice (some ⟨p.cb, off, none⟩) len ccap)
  | mapNil : VRel ρ (.map none) (.map none)
  | map {b : Nat} {p : Pl} (h : ρ b = some p) : VRel ρ (.map (some b)) (.map (some p.cb))
  | nilFunc : VRel ρ .nilFunc .nilFunc
  | nilIface : VRel ρ .nilIface .nilIface
  | func {fn : Fn} {f f' c c' : Array Value} (hf : f.size = f'.size) (hc : c.size = c'.size) (h1 : ∀ (i : Nat) x y, f[i]? = some x → f'[i]? = some y → VRel ρ x y)
      (h2 : ∀ (i : Nat) x y, c[i]? = some x → c'[i]? = some y → VRel ρ x y) : VRel ρ (.func fn f c) (.func fn f' c')
  | agg {a c : Array Value} (hs : a.size = c.size) (h : ∀ (i : Nat) x y, a[i]? = some x → c[i]? = some y → VRel ρ x y) : VRel ρ (.agg a) (.agg c)
  | tuple {a c : Array Value} (hs : a.size = c.size) (h : ∀ (i : Nat) x y, a[i]? = some x → c[i]? = some y → VRel ρ x y) : VRel ρ (.tuple a) (.tuple c)

/-- Element by element. -/
def AllRel (ρ : Map) (a c : Array Value) : Prop := a.size = c.size ∧ ∀ (i : Nat) x y, a[i]? = some x → c[i]? = some y → VRel ρ x y

theorem VRel.mono {ρ ρ' : Map} (h : ρ.Le ρ') {v c : Value} (hv : VRel ρ v c) : VRel ρ' v c := by
  induction hv with
  | bool b => exact .bool b
  | int k n => exact .int k n
  | string s => exact .string s
  | ptrNil => exact .ptrNil
  | ptr hb => exact .ptr (h _ _ hb)
  | sliceNil => exact .sliceNil
  | slice hb h1 h2 h3 => exact .slice (h _ _ hb) h1 h2 h3
  | mapNil => exact .mapNil
  | map hb => exact .map (h _ _ hb)
  | nilFunc => exact .nilFunc
  | nilIface => exact .nilIface
  | func hf hc _ _ ih1 ih2 => exact .func hf hc ih1 ih2
  | agg hs _ ih => exact .agg hs ih
  | tuple hs _ ih => exact .tuple hs ih

theorem VRel.undef (ρ : Map) : VRel ρ undef undef := .tuple rfl (fun i x y h => by simp at h)

theorem flat0_rel {ρ : Map} {v : Value} (h : flat0 v = true) : VRel ρ v v := by
  cases v with
  | bool b => exact .bool b
  | int k n => exact .int k n
  | string s => exact .string s
  | pointer a => cases a with | none => exact .ptrNil | some a => simp [flat0] at h
  | slice a n c =>
    cases a with
    | none =>
      simp only [flat0, Bool.and_eq_true, Nat.beq_eq] at h
      obtain ⟨rfl, rfl⟩ := h
      exact .sliceNil
    | some a => simp [flat0] at h
  | map r => cases r with | none => exact .mapNil | some a => simp [flat0] at h
  | nilFunc => exact .nilFunc
  | nilIface => exact .nilIface
  | _ => simp [flat0] at h

theorem flat0_eq {ρ : Map} {v c : Value} (h : flat0 v = true) (hr : VRel ρ v c) : c = v := by
  cases hr <;> first | rfl | (simp [flat0] at h)

theorem flatAll_mem : ∀ {l : List Value}, flatAll l = true → ∀ {v : Value}, v ∈ l → flat0 v = true
  | [], _, _, hv => by simp at hv
  | x :: r, h, v, hv => by
    simp only [flatAll, Bool.and_eq_true] at h
    rcases List.mem_cons.1 hv with rfl | hv
    · exact h.1
    · exact flatAll_mem h.2 hv

theorem flat_rel {ρ : Map} {v : Value} (h : flat v = true) : VRel ρ v v := by
  have key : ∀ cs : Array Value, flatAll cs.toList = true → ∀ (i : Nat) x y, cs[i]? = some x → cs[i]? = some y → VRel ρ x y := by
    intro cs hc i x y hx hy
    rw [hx] at hy; obtain rfl := Option.some.inj hy
    exact flat0_rel (flatAll_mem hc (by rw [Array.mem_toList_iff]; exact Array.mem_of_getElem? hx))
  cases v with
  | agg cs => exact .agg rfl (key cs h)
  | tuple cs => exact .tuple rfl (key cs h)
  | _ => exact flat0_rel (by simpa [flat] using h)

theorem flat_eq {ρ : Map} {v c : Value} (h : flat v = true) (hr : VRel ρ v c) : c = v := by
  have key : ∀ a b : Array Value, flatAll a.toList = true → a.size = b.size → (∀ (i : Nat) x y, a[i]? = some x → b[i]? = some y → VRel ρ x y) → b = a := by
    intro a b ha hs hab
    apply Array.ext hs.symm
    intro i h1 h2
    have hx : a[i]? = some a[i] := Array.getElem?_eq_getElem h2
    have hy : b[i]? = some b[i] := Array.getElem?_eq_getElem h1
    exact flat0_eq (flatAll_mem ha (by rw [Array.mem_toList_iff]; exact Array.getElem_mem h2)) (hab i _ _ hx hy)
  cases hr with
  | agg hs hh => rw [key _ _ h hs hh]
  | tuple hs hh => rw [key _ _ h hs hh]
  | bool | int | string | ptrNil | sliceNil | mapNil | nilFunc | nilIface => rfl
  | _ => simp [flat, flat0] at h

theorem AllRel.get {ρ : Map} {a c : Array Value} (h : AllRel ρ a c) {i : Nat} {x : Value} (hx : a[i]? = some x) : ∃ y, c[i]? = some y ∧ VRel ρ x y := by
  have hi : i < a.size := by
    rcases Nat.lt_or_ge i a.size with h' | h'
    · exact h'
    · rw [Array.getElem?_eq_none h'] at hx; cases hx
  have hy : c[i]? = some (c[i]'(h.1 ▸ hi)) := Array.getElem?_eq_getElem _
  exact ⟨_, hy, h.2 i _ _ hx hy⟩

theorem AllRel.none {ρ : Map} {a c : Array Value} (h : AllRel ρ a c) {i : Nat} (hx : a[i]? = none) : c[i]? = none := by
  rw [Array.getElem?_eq_none_iff] at hx ⊢
  have := h.1
  omega

theorem VRel.cells {ρ : Map} {v c : Value} (h : VRel ρ v c) : AllRel ρ v.cells c.cells := by
  cases h with
  | agg hs hh => exact ⟨hs, hh⟩
  | _ =>
    refine ⟨rfl, fun i x y hx hy => ?_⟩
    rcases i with _ | i
    · simp only [Value.cells, List.getElem?_toArray, List.getElem?_cons_zero, Option.some.injEq] at hx hy
      subst hx; subst hy
      constructor <;> assumption
    · simp [Value.cells] at hx

/-! ### What asks nothing of memory -/
theorem run_of_pureRun {α : Type} {P : Program} : ∀ {s : Sem α} {a : α}, pureRun P s = some a → ∀ w, s.run P w = .ok a w
  | .pure x, a, h, w => by simp only [pureRun, Option.some.injEq] at h; rw [h]; rfl
  | .program k, a, h, w => by
    simp only [pureRun] at h
    exact run_of_pureRun (s := k P) h w
  | .mark m k, a, h, w => by
    simp only [pureRun] at h
    exact run_of_pureRun (s := k) h w

theorem pureRun_bind {α β : Type} (P : Program) (s : Sem α) (k : α → Sem β) : pureRun P (s >>= k) = (pureRun P s).bind fun a => pureRun P (k a) := by
  show pureRun P (s.bind k) = _
  induction s with
  | pure a => rfl
  | program f ih => exact ih P
  | mark m f ih => exact ih
  | _ => rfl

end Go.AM
