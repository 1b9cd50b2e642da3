/- What the rows of this seat share: the listed tables as cells; a post out of what lay below. -/
import Derived.Test.YtaacejpienbkgaaDoorCheck0
import Derived.Test.YtaacejpienbkgaaDoorCards
import Derived.Test.YtaacejpienbkgaaDoorTie
import Derived.WalkKit
import Derived.ProofKit
import Derived.OpenShut
import Derived.Carry
import Derived.Deep.DeepHandedRow
import Derived.Lib.LaidTab
namespace Go.Proofs.YtaacejpienbkgaaDoor
open Go.ChangeShapes Go.WideShapes Go.ChangeAt Go.RowKit

theorem own : ownKnob Tryd.prog.godebug = none := by kernel_rfl
theorem gLines : Tryd.prog.globalNamed "interleaf/check.lines" = some 3 := by kernel_rfl
theorem gLinesType : (Tryd.prog.globals[3]?).map (·.type) = some 192 := by kernel_rfl
theorem cells192 : Tryd.prog.cellsOf 192 = 16 := by kernel_rfl
theorem cells34 : Tryd.prog.cellsOf 34 = 1 := by kernel_rfl
/-- The table of sums, out of the row's list. -/
theorem lines_of {W : World} {rest : List (String × DataW Unit)} (h : laidMet Tryd.prog (("interleaf/check.lines", Rows.laid_interleaf_check_lines) :: rest) W) : LinesAt W := by
  have ht : Lib.TabIs Tryd.prog W "interleaf/check.lines" .u32 (linesN.map Int.ofNat) :=
    Lib.tabIs_of_head (rest := rest) gLines gLinesType Tryd.underlying192 Tryd.underlying34 cells34 cells192 h
  intro j hj
  rw [ht.cell gLines j (by simp [linesN]; omega)]
  have e : ∀ j, j < 16 → (linesN.map Int.ofNat).getD j 0 = ((linesN.getD j 0 : Nat) : Int) := by decide
  rw [e j hj]
  rfl
theorem Chg.belowW {F : List Nat} {w w' : World} (h : Chg F w w') (hF : F = []) : Below w.heap.size w w' := by subst hF; exact h.below

/-- The row's last step: all that lay there lies there still. -/
theorem post_chg {H : Type} {enc : TypeId × Value → H} {P : Program} {f : Func} {s : ChangeSpec} {apart fresh handsOn again : Bool} {W W' : World} {args : Array Value} {v : Value} {ds gs : List (DataW H)} {before pa pv : List MemPlace}
    (hW : DataW.Whole enc P f.params.toList s.vars apart W args.toList ds gs before)
    (hres : ∀ (b : Nat) (sp : Nat → Bool) (hd : Bool), DataW.TrodAll enc P W' b sp hd f.resultTypes.toList (v.resultList f.resultTypes.size) (s.fn H (ds ++ gs)).results [])
    (hargs : ∀ sp : Nat → Bool, (∀ p ∈ before, sp p.block = true) → DataW.TrodAll enc P W' 0 sp true f.params.toList args.toList (s.fn H (ds ++ gs)).args pa)
    (hvars : ∀ sp : Nat → Bool, (∀ p ∈ before, sp p.block = true) → DataW.TrodVars enc P W' sp s.vars (s.fn H (ds ++ gs)).vars pv)
    (hps : before = pa ++ pv) (hC : Chg [] W W')
    (hok : ∀ (j : Nat) (t : TypeId) (r : Value), f.resultTypes[j]? = some t → (v.resultList f.resultTypes.size)[j]? = some r → Value.okWide P W' .any 0 t r) :
    s.post enc P f apart fresh handsOn again W args v W' := by
  have hb := hC.below
  have lt : ∀ p ∈ before, p.block < W.heap.size := fun p hp => hW.lt p hp
  have old : ∀ p ∈ before, (fun b => decide (b < W.heap.size)) p.block = true := fun p hp => by simpa using lt p hp
  refine ⟨ds, gs, before, [], pa, pv, hW, hres _ _ _, hargs _ old, hvars _ old, World.keptBut_mono (fun p hp => ⟨hp, ?_⟩) (hb.frame (· ∈ before)), fun _ => ⟨hok, _, _, ([] ++ pa) ++ pv, ⟨[] ++ pa, pv, trodAll_append (hargs _ (fun _ _ => rfl)) (hres _ _ _), hvars _ (fun _ _ => rfl), rfl, fun b off hp => ?_, fun ha => ?_⟩, fun p hp _ => ?_⟩⟩
  · rw [hps, List.mem_append] at hp
    exact .inr hp
  · obtain ⟨_, _, _, _, _, hz, _⟩ := hW
    have hin : MemPlace.cell b off ∈ before := by rw [hps]; simpa using hp
    rw [hb.frozen (lt _ hin)]
    exact hz b off hin
  · obtain ⟨_, _, _, _, _, _, hn⟩ := hW
    have h1 := hn ha
    rw [hps] at h1
    simpa using h1
  · rw [hps]; simpa using hp

/-- A settled world in which the table of sums holds what its text lays. -/
noncomputable def sumsWorld (os : Os) : World :=
  { World.holding Tryd.prog os ⟨#[], #[], []⟩ with heap := (World.holding Tryd.prog os ⟨#[], #[], []⟩).heap.modify 3 fun
      | .cells _ t frozen => .cells (linesN.map fun n : Nat => Value.int .u32 (n : Int)).toArray t frozen
      | o => o }

theorem strB (s : ByteArray) : Value.string s = Value.string ⟨s.data.toList.toArray⟩ := by simp
end Go.Proofs.YtaacejpienbkgaaDoor
