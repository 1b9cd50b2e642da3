/- LabelBytes: for every name that may be, key and flag: what stands on the disk is the ref's sector, sealed; the arguments read as they did. Condition: none but the row's own (the listed tables start as the program's text lays them). -/
import Derived.Test.YtaacejpienbkgaaDoorRow1
import Derived.Test.YtaacejpienbkgaaDoorBytesW
namespace Go.Proofs.YtaacejpienbkgaaDoor.labelBytes
open Go.ChangeShapes Go.WideShapes Go.ChangeAt Go.RowKit Go.ChangeMaps

theorem readable : ∀ t ∈ Tryd.f9.params.toList, Tryd.prog.readableRec t = true ∧ t < Tryd.prog.types.size := by
  rw [Tryd.params9]
  intro t ht
  simp at ht
  rcases ht with rfl | rfl | rfl
  all_goals exact ⟨by kernel_rfl, of_decide_eq_true (by kernel_rfl)⟩
set_option maxRecDepth 100000 in
theorem contract (H : Type) (enc : TypeId × Value → H) (W : World) (base : Nat) (args : Array Value) (ds gs : List (DataW H)) (before : List MemPlace)
    (hval : ∀ (j : Nat) t v, Tryd.f9.params[j]? = some t → args[j]? = some v → Value.okWide Tryd.prog W .any base t v)
    (hW : DataW.Whole enc Tryd.prog Tryd.f9.params.toList Rows.labelBytesSpec.vars false W args.toList ds gs before)
    (hsz : (DataW.weightsEach Tryd.prog (Tryd.f9.params.toList ++ (OpenSpec.ofChange Rows.labelBytesSpec).bare.plain.varTypes Tryd.prog) (ds ++ gs)).all (· ≤ reachBytes) = true)
    (hL : laidMetH Tryd.prog Rows.labelBytesRow.laid W) :
    Calls Tryd.prog 9 args W fun e W' => ∃ v, e = .returned v ∧ Rows.labelBytesSpec.post enc Tryd.prog Tryd.f9 false true false false W args v W' := by
  have hW1 := hW
  obtain ⟨p, q, hA0, -, -, -, -⟩ := hW1
  have hA : DataW.TrodAll enc Tryd.prog W 0 (fun _ => true) true Tryd.f9.params.toList args.toList ds p := hA0
  rw [Tryd.params9] at hA hval
  clear hA0
  obtain ⟨v0, vs0, d0, ds0, p0, q0, ha0, rfl, -, h0, r0⟩ := trodAll_cons hA
  obtain ⟨v1, vs1, d1, ds1, p1, q1, ha1, rfl, -, h1, r1⟩ := trodAll_cons r0
  obtain ⟨v2, vs2, d2, ds2, p2, q2, ha2, rfl, -, h2, r2⟩ := trodAll_cons r1
  obtain ⟨rfl, rfl, -⟩ := trodAll_nil r2
  subst ha2
  subst ha1
  obtain rfl : args = #[v0, v1, v2] := by cases args; simp_all
  clear ha0
  have hv0 := hval 0 9 v0 (by simp) (by simp)
  obtain ⟨s0, rfl, rfl, rfl, ws0⟩ := open_string Tryd.underlying9 hv0 h0
  have hs0 : s0.data.toList.length ≤ 140737488355328 := Nat.le_trans (sized_string hsz (j := 0) (t := 9) (by rw [Tryd.params9]; simp) rfl) (by unfold reachBytes; omega)
  have hv1 := hval 1 28 v1 (by simp) (by simp)
  obtain ⟨k1, hk1, rfl⟩ := open_key hv1 h1
  have hv2 := hval 2 4 v2 (by simp) (by simp)
  obtain ⟨x2, rfl, rfl, rfl⟩ := open_bool Tryd.underlying4 hv2 h2
  have walk := bytes_walk s0.data.toList k1 x2 W (lines_of hL) hk1 hs0
  rw [show str s0.data.toList = .string s0 from (strB s0).symm] at walk
  exact law_post rfl rfl rfl readable hW walk

theorem laid_met (os : Os) : laidMet Tryd.prog Rows.labelBytesRow.laid ((sumsWorld os).forCall (fun _ _ => 0) ⟨#[], #[.string ⟨#[]⟩, .agg (vals (zeros 32)).toArray, .bool false], []⟩).memory :=
  laidMet_of_run' 8 (by kernel_rfl) (by kernel_rfl)
theorem reads (os : Os) {H : Type} (enc : TypeId × Value → H) : ∃ places, DataW.whole enc Tryd.prog ((sumsWorld os).forCall (fun _ _ => 0) ⟨#[], #[.string ⟨#[]⟩, .agg (vals (zeros 32)).toArray, .bool false], []⟩).memory Tryd.f9.params.toList Rows.labelBytesSpec.vars false (#[.string ⟨#[]⟩, .agg (vals (zeros 32)).toArray, .bool false] : Array Value).toList 8 = some ([.lit (.string []), .agg (List.replicate 32 (.lit (.int .u8 0))), .lit (.bool false)], [], places) :=
  ⟨[], by kernel_rfl⟩

set_option maxRecDepth 100000 in
theorem lifted (os : Os) (started : os.Started) (H : Type) (enc : TypeId × Value → H) (F : Stop.Interp) :
    ReturnsInHanded {} Tryd.checked os 9 .any ((OpenSpec.ofChange Rows.labelBytesSpec).preRow enc Tryd.prog Tryd.f9 Rows.labelBytesRow.domain false Rows.labelBytesRow.laid) (((OpenSpec.ofChange Rows.labelBytesSpec).at F).post enc Tryd.prog Tryd.f9 false true false false) := by
  obtain ⟨places, hx⟩ := reads os enc
  refine returnsInHanded_of_row (C := Tryd.checked) (s := OpenSpec.ofChange Rows.labelBytesSpec) own started (by kernel_rfl) Tryd.func9
    (witness_row_at (enc := enc) (C := Tryd.checked) false (sumsWorld os) #[.string ⟨#[]⟩, .agg (vals (zeros 32)).toArray, .bool false] rfl (by kernel_rfl) (by kernel_rfl) (by kernel_rfl)
      (OpenSpec.preRow_of_cond 8 hx (by kernel_rfl) (fun k hk => by cases hk) (by kernel_rfl) (laid_met os))) ?_
  intro W base args ds gs before hval hW _ _ hsz hL _ _
  exact contract H enc W base args ds gs before hval hW hsz hL

theorem said : Rows.LabelBytesSaid :=
  OpenClaim.holds_of_cond 9 Tryd.f9 rfl rfl rfl rfl rfl rfl rfl ⟨rfl, rfl, rfl, rfl, rfl⟩ rfl rfl rfl rfl rfl (by kernel_rfl) Tryd.func9 (by kernel_rfl)
    (of_decide_eq_true (by kernel_rfl)) (by unfold Func.isWrapper; first | (rw [if_pos (by decide +kernel)]; kernel_rfl) | (rw [if_neg (by decide +kernel)]; exact ⟨rfl, rfl⟩))
    (fun os started H enc _ F => by rw [OpenClaim.pre_eq_preRow]; exact lifted os started H enc F)

theorem plain (f : FuncId) (fn : Func) (hf : Tryd.pinned.checked.prog.funcNamed "interleaf/interleaflaw08.LabelBytes" = some f) (hfn : Tryd.pinned.checked.prog.funcs[f]? = some fn) :
    false = Tryd.pinned.checked.prog.looks [] ∧ ∀ (j : Nat) t, fn.params[j]? = some t → Tryd.pinned.checked.prog.wantsStandIn t = false := by
  obtain rfl : f = 9 := Option.some.inj ((show Tryd.prog.funcNamed "interleaf/interleaflaw08.LabelBytes" = some 9 by kernel_rfl).symm.trans hf) |>.symm
  obtain rfl : fn = Tryd.f9 := (Option.some.inj (Tryd.func9.symm.trans hfn)).symm
  refine ⟨by kernel_rfl, fun j t ht => ?_⟩
  rw [Tryd.params9] at ht
  have hm := Array.mem_of_getElem? ht
  simp at hm
  rcases hm with rfl | rfl | rfl
  · exact (show Tryd.prog.wantsStandIn 9 = false by kernel_rfl)
  · exact (show Tryd.prog.wantsStandIn 28 = false by kernel_rfl)
  · exact (show Tryd.prog.wantsStandIn 4 = false by kernel_rfl)

theorem card : Rows.LabelBytesCardSaid :=
  Claim7.holds_tied_plain_at .later [] _ _ _ _ said (fun _ h => by cases h) (by kernel_rfl) (fun _ h => by cases h) labelBytes_row_tie rfl ⟨rfl, rfl⟩ (by kernel_rfl) rfl plain (by kernel_rfl)
#print axioms card
end Go.Proofs.YtaacejpienbkgaaDoor.labelBytes
