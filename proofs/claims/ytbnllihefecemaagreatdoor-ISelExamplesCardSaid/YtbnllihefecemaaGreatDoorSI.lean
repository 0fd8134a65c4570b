/-
  ISelExamples: the call, in every world whose listed variables read as listed.
-/
import Derived.Test.YtbnllihefecemaaGreatDoorAm17
import Derived.Test.YtbnllihefecemaaGreatDoorN5
import Derived.Test.YtbnllihefecemaaGreatDoorRunI
set_option linter.unusedSimpArgs false
set_option linter.unusedVariables false
set_option maxRecDepth 100000
namespace Go.Proofs.YtbnllihefecemaaGreatDoor
open Go Go.AM

def laidList : List (String × DataW Unit) := [("math/bits.deBruijn32tab", Rows.laid_math_bits_deBruijn32tab), ("math/bits.deBruijn64tab", Rows.laid_math_bits_deBruijn64tab), ("internal/strconv.uint64pow10", Rows.laid_internal_strconv_uint64pow10)]

theorem mixed : Tryz.prog.follows .mixedOrders = true := by kernel_rfl

theorem texts_all : (Tryz.prog.funcs.toList.all (fnOk Tryz.prog)) = true := by kernel_rfl

theorem texts (f : Nat) (fn : Func) (h : Tryz.prog.funcs[f]? = some fn) : fnOk Tryz.prog fn = true :=
  List.all_eq_true.1 texts_all fn (by rw [Array.mem_toList_iff]; exact Array.mem_of_getElem? h)

theorem g0 : Tryz.prog.globalNamed "internal/strconv.uint64pow10" = some 0 := by kernel_rfl
theorem g1 : Tryz.prog.globalNamed "math/bits.deBruijn32tab" = some 1 := by kernel_rfl
theorem g2 : Tryz.prog.globalNamed "math/bits.deBruijn64tab" = some 2 := by kernel_rfl
theorem gs : Tryz.prog.globals.size = 3 := by kernel_rfl

noncomputable def typeOf (g : Nat) : TypeId := ((Tryz.prog.globals[g]?).map (·.type)).getD 0

theorem y0 : (Tryz.prog.globals[0]?).map (·.type) = some (typeOf 0) := by kernel_rfl
theorem y1 : (Tryz.prog.globals[1]?).map (·.type) = some (typeOf 1) := by kernel_rfl
theorem y2 : (Tryz.prog.globals[2]?).map (·.type) = some (typeOf 2) := by kernel_rfl
theorem k0 : tiles Tryz.prog 2 (typeOf 0) = true := by kernel_rfl
theorem k1 : tiles Tryz.prog 2 (typeOf 1) = true := by kernel_rfl
theorem k2 : tiles Tryz.prog 2 (typeOf 2) = true := by kernel_rfl

theorem m0_0 : m0.get 0 = some (.cells 0 (flatW 2 (Rows.laid_internal_strconv_uint64pow10 : DataW Unit)) false) := by kernel_rfl
theorem m0_1 : m0.get 1 = some (.cells 0 (flatW 2 (Rows.laid_math_bits_deBruijn32tab : DataW Unit)) false) := by kernel_rfl
theorem m0_2 : m0.get 2 = some (.cells 0 (flatW 2 (Rows.laid_math_bits_deBruijn64tab : DataW Unit)) false) := by kernel_rfl

theorem m0_top (b : Nat) (h : 3 ≤ b) : m0.get b = none := by
  show T.get _ b = none
  simp only [m0]
  rw [T.get_set _ _ _ _ _ (by decide), if_neg (by omega), T.get_set _ _ _ _ _ (by decide), if_neg (by omega), T.get_set _ _ _ _ _ (by decide), if_neg (by omega)]
  rfl

theorem m0_ok : MemOk m0 := ⟨by decide, fun b h => m0_top b h⟩

theorem m0_still (b : Nat) (x : Blk) (hb : b < m0.next) (h : m0.get b = some x) : x.wrs = false := by
  have hb' : b < 3 := hb
  match b, hb' with
  | 0, _ => rw [m0_0] at h; cases h; rfl
  | 1, _ => rw [m0_1] at h; cases h; rfl
  | 2, _ => rw [m0_2] at h; cases h; rfl

/-- THE CALL. -/
theorem call_true (W : World) (hL : laidMet Tryz.prog laidList W) :
    Calls Tryz.prog 4 #[] W fun e w' => e = .returned (.bool true) ∧ w'.os = W.os ∧ w'.tape = W.tape ∧ w'.output = W.output ∧ W.heap.size ≤ w'.heap.size ∧ ∀ i, i < W.heap.size → w'.heap[i]? = W.heap[i]? := by
  have r0 := reads_of hL (n := "internal/strconv.uint64pow10") (.tail _ (.tail _ (.head _)))
  have r1 := reads_of hL (n := "math/bits.deBruijn32tab") (.head _)
  have r2 := reads_of hL (n := "math/bits.deBruijn64tab") (.tail _ (.head _))
  let ρ : Map := fun i => if i < 3 then some ⟨i, 0, szOf W i⟩ else none
  have p0 := brel_flat (ρ := ρ) 2 r0 g0 y0 k0
  have p1 := brel_flat (ρ := ρ) 2 r1 g1 y1 k1
  have p2 := brel_flat (ρ := ρ) 2 r2 g2 y2 k2
  have hdom : ∀ i p, ρ i = some p → i < m0.next ∧ p.cb < W.heap.size := by
    intro i p hp
    match i with
    | 0 => cases hp; exact ⟨by decide, p0.2⟩
    | 1 => cases hp; exact ⟨by decide, p1.2⟩
    | 2 => cases hp; exact ⟨by decide, p2.2⟩
    | i + 3 =>
      simp only [ρ] at hp
      rw [if_neg (by omega)] at hp
      cases hp
  have hinv : Inv ρ m0 W := by
    refine inv_ro (by decide) hdom (fun i x hi h => m0_still i x hi h) fun i p x hp hx => ?_
    match i with
    | 0 => cases hp; rw [m0_0] at hx; cases hx; exact p0.1
    | 1 => cases hp; rw [m0_1] at hx; cases hx; exact p1.1
    | 2 => cases hp; rw [m0_2] at hx; cases hx; exact p2.1
    | i + 3 =>
      simp only [ρ] at hp
      rw [if_neg (by omega)] at hp
      cases hp
  have hglob : Glob Tryz.prog.globals.size ρ := by
    rw [gs]
    intro g hg
    exact ⟨szOf W g, by simp only [ρ]; rw [if_pos hg]⟩
  obtain ⟨m', hrun⟩ := ran_to
  have h := (sim mixed texts 2000).2 4 #[] m0 (.bool true) m' ((nrun_ok Tryz.prog 2000).2 _ _ _ _ hrun) m0_ok ρ W #[] hglob ⟨rfl, fun i x y hx => by simp at hx⟩ hinv
  refine h.mono fun e w' he => ?_
  obtain ⟨c, ρ', rfl, hv, hi', hf⟩ := he
  cases hv
  exact ⟨rfl, below_of_ro hf (fun i p hp => (hdom i p hp).1) fun i x hi hx => m0_still i x hi hx⟩

end Go.Proofs.YtbnllihefecemaaGreatDoor
