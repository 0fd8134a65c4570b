/-
  ScheduleExamples: the call, in every world whose listed variables read as listed.
-/
import Derived.Test.YtbnllihefecemaaGreatDoorRunS1
import Derived.Test.YtbnllihefecemaaGreatDoorRunS2
import Derived.Test.YtbnllihefecemaaGreatDoorRunS3
import Derived.Test.YtbnllihefecemaaGreatDoorRunS4
set_option linter.unusedSimpArgs false
set_option linter.unusedVariables false
set_option maxRecDepth 100000
namespace Go.Proofs.YtbnllihefecemaaGreatDoor
open Go Go.AM

def laidList : List (String × DataW Unit) := [("math/bits.deBruijn32tab", Rows.laid_math_bits_deBruijn32tab), ("math/bits.deBruijn64tab", Rows.laid_math_bits_deBruijn64tab), ("internal/strconv.uint64pow10", Rows.laid_internal_strconv_uint64pow10)]

theorem mixed : Tryz.prog.follows .mixedOrders = true := by kernel_rfl

theorem texts_all : (Tryz.prog.funcs.toList.all (fnOk Tryz.prog)) = true := by kernel_rfl

theorem texts (f : Nat) (fn : Func) (h : Tryz.prog.funcs[f]? = some fn) : fnOk Tryz.prog fn = true :=
  List.all_eq_true.1 texts_all fn (by rw [Array.mem_toList_iff]; exact Array.mem_of_getElem? h)

theorem g0 : Tryz.prog.globalNamed "internal/strconv.uint64pow10" = some 0 := by kernel_rfl
theorem g1 : Tryz.prog.globalNamed "math/bits.deBruijn32tab" = some 1 := by kernel_rfl
theorem g2 : Tryz.prog.globalNamed "math/bits.deBruijn64tab" = some 2 := by kernel_rfl
theorem gs : Tryz.prog.globals.size = 3 := by kernel_rfl

noncomputable def typeOf (g : Nat) : TypeId := ((Tryz.prog.globals[g]?).map (·.type)).getD 0

theorem y0 : (Tryz.prog.globals[0]?).map (·.type) = some (typeOf 0) := by kernel_rfl
theorem y1 : (Tryz.prog.globals[1]?).map (·.type) = some (typeOf 1) := by kernel_rfl
theorem y2 : (Tryz.prog.globals[2]?).map (·.type) = some (typeOf 2) := by kernel_rfl
theorem k0 : tiles Tryz.prog 2 (typeOf 0) = true := by kernel_rfl
theorem k1 : tiles Tryz.prog 2 (typeOf 1) = true := by kernel_rfl
theorem k2 : tiles Tryz.prog 2 (typeOf 2) = true := by kernel_rfl

theorem m0_0 : m0.get 0 = some (.cells 0 (flatW 2 (Rows.laid_internal_strconv_uint64pow10 : DataW Unit)) false) := by kernel_rfl
theorem m0_1 : m0.get 1 = some (.cells 0 (flatW 2 (Rows.laid_math_bits_deBruijn32tab : DataW Unit)) false) := by kernel_rfl
theorem m0_2 : m0.get 2 = some (.cells 0 (flatW 2 (Rows.laid_math_bits_deBruijn64tab : DataW Unit)) false) := by kernel_rfl

theorem m0_top (b : Nat) (h : 3 ≤ b) : m0.get b = none := by
  show T.get _ b = none
  simp only [m0]
  rw [T.get_set _ _ _ _ _ (by decide), if_neg (by omega), T.get_set _ _ _ _ _ (by decide), if_neg (by omega), T.get_set _ _ _ _ _ (by decide), if_neg (by omega)]
  rfl

theorem m0_ok : MemOk m0 := ⟨by decide, fun b h => m0_top b h⟩

theorem m0_still (b : Nat) (x : Blk) (hb : b < m0.next) (h : m0.get b = some x) : x.wrs = false := by
  have hb' : b < 3 := hb
  match b, hb' with
  | 0, _ => rw [m0_0] at h; cases h; rfl
  | 1, _ => rw [m0_1] at h; cases h; rfl
  | 2, _ => rw [m0_2] at h; cases h; rfl

theorem body_is : body3 = .seq (lC body3) (.seq (lC (rC body3)) (.seq (lC (rC (rC body3))) (.seq (lC (rC (rC (rC body3)))) (.seq (lC (rC (rC (rC (rC body3))))) (rC (rC (rC (rC (rC body3))))))))) := by kernel_rfl
theorem body_at : Tryz.f3.body = some body3 := by kernel_rfl
theorem ntmps_ok : Nat.ble Tryz.f3.ntmps 1000000 = true := by kernel_rfl
theorem code_ok : codeOk Tryz.prog Tryz.f3.ntmps body3 = true := by
  have h := texts 3 Tryz.f3 Tryz.func3
  simp only [fnOk, body_at, Bool.and_eq_true] at h
  exact h.2

theorem parts_ok : codeOk Tryz.prog Tryz.f3.ntmps (lC body3) = true ∧ codeOk Tryz.prog Tryz.f3.ntmps (lC (rC body3)) = true ∧ codeOk Tryz.prog Tryz.f3.ntmps (lC (rC (rC body3))) = true ∧ codeOk Tryz.prog Tryz.f3.ntmps (lC (rC (rC (rC body3)))) = true ∧
    codeOk Tryz.prog Tryz.f3.ntmps (lC (rC (rC (rC (rC body3))))) = true ∧ codeOk Tryz.prog Tryz.f3.ntmps (rC (rC (rC (rC (rC body3))))) = true := by
  have h := code_ok
  rw [body_is] at h
  simp only [codeOk, Bool.and_eq_true] at h
  exact ⟨h.1, h.2.1, h.2.2.1, h.2.2.2.1, h.2.2.2.2.1, h.2.2.2.2.2⟩

/-- A part of the text that comes to a state that was written down. -/
theorem stage_to {l : Snap} {c : Code} {s : St} (h : Nat.beq (chk l (runC c s)) 1 = true) (hok : codeOk Tryz.prog Tryz.f3.ntmps c = true) {W : World} {a : Act} {w : World} (hat : At Tryz.prog W Tryz.f3.ntmps s a w) :
    c.wp Tryz.prog (fun ex a' w' => ex = exOf .normal ∧ At Tryz.prog W Tryz.f3.ntmps l.st a' w') a w := by
  obtain ⟨s', hr, h1, h2, h3⟩ := chk_ok h
  refine wp_mono (stage mixed texts ((nrun_ok Tryz.prog 2000).1 _ _ _ hr) hok (Nat.le_of_ble_eq_true ntmps_ok) hat) ?_
  rintro ex a' w' ⟨rfl, hat'⟩
  exact ⟨rfl, hat'.less h1 h2 h3⟩

theorem stage_on {c : Code} {s : St} (h : Nat.beq (normalNo (runC c s)) 1 = true) (hok : codeOk Tryz.prog Tryz.f3.ntmps c = true) {W : World} {a : Act} {w : World} (hat : At Tryz.prog W Tryz.f3.ntmps s a w) :
    c.wp Tryz.prog (fun ex a' w' => ex = exOf .normal ∧ At Tryz.prog W Tryz.f3.ntmps (endOf (runC c s)) a' w') a w :=
  stage mixed texts ((nrun_ok Tryz.prog 2000).1 _ _ _ (normalNo_ok h)) hok (Nat.le_of_ble_eq_true ntmps_ok) hat

/-- THE CALL. -/
theorem call_true (W : World) (hL : laidMet Tryz.prog laidList W) :
    Calls Tryz.prog 3 #[] W fun e w' => e = .returned (.bool true) ∧ w'.os = W.os ∧ w'.tape = W.tape ∧ w'.output = W.output ∧ W.heap.size ≤ w'.heap.size ∧ ∀ i, i < W.heap.size → w'.heap[i]? = W.heap[i]? := by
  have r0 := reads_of hL (n := "internal/strconv.uint64pow10") (.tail _ (.tail _ (.head _)))
  have r1 := reads_of hL (n := "math/bits.deBruijn32tab") (.head _)
  have r2 := reads_of hL (n := "math/bits.deBruijn64tab") (.tail _ (.head _))
  let ρ : Map := fun i => if i < 3 then some ⟨i, 0, szOf W i⟩ else none
  have p0 := brel_flat (ρ := ρ) 2 r0 g0 y0 k0
  have p1 := brel_flat (ρ := ρ) 2 r1 g1 y1 k1
  have p2 := brel_flat (ρ := ρ) 2 r2 g2 y2 k2
  have hdom : ∀ i p, ρ i = some p → i < m0.next ∧ p.cb < W.heap.size := by
    intro i p hp
    match i with
    | 0 => cases hp; exact ⟨by decide, p0.2⟩
    | 1 => cases hp; exact ⟨by decide, p1.2⟩
    | 2 => cases hp; exact ⟨by decide, p2.2⟩
    | i + 3 =>
      simp only [ρ] at hp
      rw [if_neg (by omega)] at hp
      cases hp
  have hinv : Inv ρ m0 W := by
    refine inv_ro (by decide) hdom (fun i x hi h => m0_still i x hi h) fun i p x hp hx => ?_
    match i with
    | 0 => cases hp; rw [m0_0] at hx; cases hx; exact p0.1
    | 1 => cases hp; rw [m0_1] at hx; cases hx; exact p1.1
    | 2 => cases hp; rw [m0_2] at hx; cases hx; exact p2.1
    | i + 3 =>
      simp only [ρ] at hp
      rw [if_neg (by omega)] at hp
      cases hp
  have hglob : Glob Tryz.prog.globals.size ρ := by
    rw [gs]
    intro g hg
    exact ⟨szOf W g, by simp only [ρ]; rw [if_pos hg]⟩
  obtain ⟨s, m', hE, hL'⟩ := ranF_to
  obtain ⟨k1, k2, k3, k4, k5, k6⟩ := parts_ok
  refine calls_of_wp Tryz.func3 body_at ?_
  have hst : StR ρ T.leaf { tmps := #[] ++ Array.replicate (Tryz.f3.ntmps - (#[] : Array Value).size) undef, defers := [] } Tryz.f3.ntmps := by
    refine ⟨fun t => ?_, by simp, rfl⟩
    have e1 : ((T.leaf : T Value).get t).getD undef = undef := rfl
    have e2 : (#[] ++ Array.replicate (Tryz.f3.ntmps - (#[] : Array Value).size) undef).getD t undef = undef := by
      rw [Array.getD_eq_getD_getElem?, Array.getElem?_append, if_neg (by simp), Array.getElem?_replicate]
      split <;> rfl
    rw [e1]
    simp only [e2]
    exact .undef ρ
  have hat0 : At Tryz.prog W Tryz.f3.ntmps ⟨.leaf, m0⟩ { tmps := #[] ++ Array.replicate (Tryz.f3.ntmps - (#[] : Array Value).size) undef, defers := [] } W :=
    ⟨⟨ρ, hglob, hst, hinv, fun b p x hp hx hw => by
      have := m0_still b x (hdom b p hp).1 hx
      rw [this] at hw
      cases hw⟩, m0_ok, rfl, rfl, rfl, Nat.le_refl _, fun _ _ => rfl⟩
  rw [body_is]
  refine wp_mono (Q := fun ex a' w' => ex = exOf .ret ∧ At Tryz.prog W Tryz.f3.ntmps s a' w') ?_ ?_
  · refine at_seq (stage_on ranA k1 hat0) fun a1 w1 hat1 => ?_
    refine at_seq (stage_to ranB k2 hat1) fun a2 w2 hat2 => ?_
    refine at_seq (stage_on ranC k3 hat2) fun a3 w3 hat3 => ?_
    refine at_seq (stage_to ranD k4 hat3) fun a4 w4 hat4 => ?_
    refine at_seq (stage_to ranE k5 hat4) fun a5 w5 hat5 => ?_
    exact stage mixed texts ((nrun_ok Tryz.prog 2000).1 _ _ _ hE) k6 (Nat.le_of_ble_eq_true ntmps_ok) hat5
  · rintro ex a' w' ⟨rfl, hat⟩
    obtain ⟨ρ', _, g1, g2, _⟩ := hat.ex
    obtain ⟨c1, r1, r2⟩ := results_sim g1 g2 hL'
    cases r2
    exact ⟨g1.defers, _, r1, rfl, hat.os, hat.tape, hat.output, hat.size, hat.heap⟩

end Go.Proofs.YtbnllihefecemaaGreatDoor
