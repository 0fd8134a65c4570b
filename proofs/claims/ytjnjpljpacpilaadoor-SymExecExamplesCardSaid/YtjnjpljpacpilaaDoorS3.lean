/-
  SymExecExamples: the call, in every world whose listed variables read as listed.
-/
import Derived.Test.YtjnjpljpacpilaaDoorAm17
import Derived.Test.YtjnjpljpacpilaaDoorRun3
set_option linter.unusedSimpArgs false
set_option linter.unusedVariables false
set_option maxRecDepth 100000
namespace Go.Proofs.YtjnjpljpacpilaaDoor
open Go Go.AM

def laidList : List (String × DataW Unit) := [("fulling/machine.table", Rows.laid_fulling_machine_table), ("math/bits.deBruijn32tab", Rows.laid_math_bits_deBruijn32tab), ("math/bits.deBruijn64tab", Rows.laid_math_bits_deBruijn64tab), ("internal/strconv.uint64pow10", Rows.laid_internal_strconv_uint64pow10)]

theorem mixed : Tryd.prog.follows .mixedOrders = true := by kernel_rfl

theorem texts_all : (Tryd.prog.funcs.toList.all (fnOk Tryd.prog)) = true := by kernel_rfl

theorem texts (f : Nat) (fn : Func) (h : Tryd.prog.funcs[f]? = some fn) : fnOk Tryd.prog fn = true :=
  List.all_eq_true.1 texts_all fn (by rw [Array.mem_toList_iff]; exact Array.mem_of_getElem? h)

theorem g0 : Tryd.prog.globalNamed "fulling/machine.table" = some 0 := by kernel_rfl
theorem g1 : Tryd.prog.globalNamed "internal/strconv.uint64pow10" = some 1 := by kernel_rfl
theorem g2 : Tryd.prog.globalNamed "math/bits.deBruijn32tab" = some 2 := by kernel_rfl
theorem g3 : Tryd.prog.globalNamed "math/bits.deBruijn64tab" = some 3 := by kernel_rfl
theorem gs : Tryd.prog.globals.size = 4 := by kernel_rfl

noncomputable def typeOf (g : Nat) : TypeId := ((Tryd.prog.globals[g]?).map (·.type)).getD 0
noncomputable def elemOf : TypeId :=
  match Tryd.prog.underlying (typeOf 0) with
  | some (.slice e) => e
  | _ => 0

theorem y0 : (Tryd.prog.globals[0]?).map (·.type) = some (typeOf 0) := by kernel_rfl
theorem y1 : (Tryd.prog.globals[1]?).map (·.type) = some (typeOf 1) := by kernel_rfl
theorem y2 : (Tryd.prog.globals[2]?).map (·.type) = some (typeOf 2) := by kernel_rfl
theorem y3 : (Tryd.prog.globals[3]?).map (·.type) = some (typeOf 3) := by kernel_rfl
theorem u0 : Tryd.prog.underlying (typeOf 0) = some (.slice elemOf) := by kernel_rfl
theorem k0 : tiles Tryd.prog 2 elemOf = true := by kernel_rfl
theorem k1 : tiles Tryd.prog 2 (typeOf 1) = true := by kernel_rfl
theorem k2 : tiles Tryd.prog 2 (typeOf 2) = true := by kernel_rfl
theorem k3 : tiles Tryd.prog 2 (typeOf 3) = true := by kernel_rfl
theorem c0 : Tryd.prog.cellsOf elemOf = 7 := by kernel_rfl
theorem table_is : (Rows.laid_fulling_machine_table : DataW Unit) = .slice tableRows [] := by kernel_rfl
theorem table_len : tableRows.length = 37 := by kernel_rfl

theorem m0_0 : m0.get 0 = some (.cells 0 [.slice (some ⟨4, 0, none⟩) 37 7] false) := by kernel_rfl
theorem m0_1 : m0.get 1 = some (.cells 0 (flatW 2 (Rows.laid_internal_strconv_uint64pow10 : DataW Unit)) false) := by kernel_rfl
theorem m0_2 : m0.get 2 = some (.cells 0 (flatW 2 (Rows.laid_math_bits_deBruijn32tab : DataW Unit)) false) := by kernel_rfl
theorem m0_3 : m0.get 3 = some (.cells 0 (flatW 2 (Rows.laid_math_bits_deBruijn64tab : DataW Unit)) false) := by kernel_rfl
theorem m0_4 : m0.get 4 = some (.cells 0 (tableRows.flatMap (flatW 2)) false) := by kernel_rfl

theorem m0_top (b : Nat) (h : 5 ≤ b) : m0.get b = none := by
  show T.get _ b = none
  simp only [m0]
  rw [T.get_set _ _ _ _ _ (by decide), if_neg (by omega), T.get_set _ _ _ _ _ (by decide), if_neg (by omega), T.get_set _ _ _ _ _ (by decide), if_neg (by omega), T.get_set _ _ _ _ _ (by decide), if_neg (by omega), T.get_set _ _ _ _ _ (by decide), if_neg (by omega)]
  rfl

theorem m0_ok : MemOk m0 := ⟨by decide, fun b h => m0_top b h⟩

theorem m0_still (b : Nat) (x : Blk) (hb : b < m0.next) (h : m0.get b = some x) : x.wrs = false := by
  have hb' : b < 5 := hb
  match b, hb' with
  | 0, _ => rw [m0_0] at h; cases h; rfl
  | 1, _ => rw [m0_1] at h; cases h; rfl
  | 2, _ => rw [m0_2] at h; cases h; rfl
  | 3, _ => rw [m0_3] at h; cases h; rfl
  | 4, _ => rw [m0_4] at h; cases h; rfl

/-- THE CALL. -/
theorem call_true (W : World) (hL : laidMet Tryd.prog laidList W) :
    Calls Tryd.prog 3 #[] W fun e w' => e = .returned (.bool true) ∧ w'.os = W.os ∧ w'.tape = W.tape ∧ w'.output = W.output ∧ W.heap.size ≤ w'.heap.size ∧ ∀ i, i < W.heap.size → w'.heap[i]? = W.heap[i]? := by
  have r0 : Reads Tryd.prog W "fulling/machine.table" (.slice tableRows []) := by
    rw [← table_is]
    exact reads_of hL (.head _)
  have r1 := reads_of hL (n := "internal/strconv.uint64pow10") (.tail _ (.tail _ (.tail _ (.head _))))
  have r2 := reads_of hL (n := "math/bits.deBruijn32tab") (.tail _ (.head _))
  have r3 := reads_of hL (n := "math/bits.deBruijn64tab") (.tail _ (.tail _ (.head _)))
  obtain ⟨s0, b, o, hb, hsz, q0, q4⟩ := slice_flat 4 2 r0 g0 y0 u0 k0 c0 (by decide) (by rw [table_len]; decide)
  rw [table_len] at q0
  let ρ : Map := fun i => if i < 4 then some ⟨i, 0, szOf W i⟩ else if i = 4 then some ⟨b, o, szOf W b⟩ else none
  have p1 := brel_flat (ρ := ρ) 2 r1 g1 y1 k1
  have p2 := brel_flat (ρ := ρ) 2 r2 g2 y2 k2
  have p3 := brel_flat (ρ := ρ) 2 r3 g3 y3 k3
  have p0 := q0 ρ rfl
  have p4 := q4 ρ
  have hdom : ∀ i p, ρ i = some p → i < m0.next ∧ p.cb < W.heap.size := by
    intro i p hp
    match i with
    | 0 => cases hp; exact ⟨by decide, s0⟩
    | 1 => cases hp; exact ⟨by decide, p1.2⟩
    | 2 => cases hp; exact ⟨by decide, p2.2⟩
    | 3 => cases hp; exact ⟨by decide, p3.2⟩
    | 4 => cases hp; exact ⟨by decide, hb⟩
    | i + 5 =>
      simp only [ρ] at hp
      rw [if_neg (by omega), if_neg (by omega)] at hp
      cases hp
  have hinv : Inv ρ m0 W := by
    refine inv_ro (by decide) hdom (fun i x hi h => m0_still i x hi h) fun i p x hp hx => ?_
    match i with
    | 0 => cases hp; rw [m0_0] at hx; cases hx; exact p0
    | 1 => cases hp; rw [m0_1] at hx; cases hx; exact p1.1
    | 2 => cases hp; rw [m0_2] at hx; cases hx; exact p2.1
    | 3 => cases hp; rw [m0_3] at hx; cases hx; exact p3.1
    | 4 => cases hp; rw [m0_4] at hx; cases hx; exact p4
    | i + 5 =>
      simp only [ρ] at hp
      rw [if_neg (by omega), if_neg (by omega)] at hp
      cases hp
  have hglob : Glob Tryd.prog.globals.size ρ := by
    rw [gs]
    intro g hg
    exact ⟨szOf W g, by simp only [ρ]; rw [if_pos hg]⟩
  obtain ⟨m', hrun⟩ := ran_to
  have h := (sim mixed texts 100000).2 3 #[] m0 (.bool true) m' hrun m0_ok ρ W #[] hglob ⟨rfl, fun i x y hx => by simp at hx⟩ hinv
  refine h.mono fun e w' he => ?_
  obtain ⟨c, ρ', rfl, hv, hi', hf⟩ := he
  cases hv
  exact ⟨rfl, below_of_ro hf (fun i p hp => (hdom i p hp).1) fun i x hi hx => m0_still i x hi hx⟩

end Go.Proofs.YtjnjpljpacpilaaDoor
