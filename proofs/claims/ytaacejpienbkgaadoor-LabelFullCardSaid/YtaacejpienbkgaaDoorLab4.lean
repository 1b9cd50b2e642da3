/- label.unpack of noughts, walked. -/
import Derived.Test.YtaacejpienbkgaaDoorLab3
import Derived.Laws.ResultCell
namespace Go.Proofs.YtaacejpienbkgaaDoor
open Go.RowKit

theorem results_cell_row2 {P : Program} {fn : Func} {p u : Tmp} {ty : TypeId} (h : fn.results = #[.cell p ty, .tmp u]) (tmps : Array Value) (w : World) (g : Nat) (t : TypeId) (cs : Array Value) (fr : Nat × Nat) (d : TypeDesc)
    (hp : tmps.getD p undef = .pointer (some ⟨g, 0, none⟩)) (hg : w.heap[g]? = some (.cells cs t fr))
    (hu : P.underlying ty = some d) (hd : (match d with | .struct _ | .array _ _ => true | _ => false) = true) (hi : (P.info? ty).map (·.size) = some cs.size) :
    (results fn tmps).run P w = .ok (.tuple #[.agg cs, tmps.getD u undef]) w := by
  rw [results_cell_tmp h, hp]
  simp [asAddr, run_loadVar_row w g t ty cs fr d hg hu hd hi]

set_option maxRecDepth 100000 in
set_option maxHeartbeats 1000000 in
theorem unpackz_spec (v : Value) (w : World) (hS : SlB w v (zeros 64)) :
    Calls Tryd.prog 72 #[v] w fun e w' => e = .returned (.tuple #[.agg (rcells Rf.none).toArray, .bool true]) ∧ Chg [] w w' := by
  have HS := Lib.hid hS
  clear hS
  go_enter Tryd.func72, Tryd.ntmps72
  go_wp2
  change Code.wp _ _ _ _ (w.alloc (Obj.cells (rcells Rf.none).toArray 48))
  obtain ⟨w1, hw1⟩ : ∃ w1, w1 = w.alloc (Obj.cells (rcells Rf.none).toArray 48) := ⟨_, rfl⟩
  obtain ⟨rb, hrb⟩ : ∃ rb, rb = w.heap.size := ⟨_, rfl⟩
  have hR1 : w1.heap[rb]? = some (Obj.cells (rcells Rf.none).toArray 48 (0, 0)) := by rw [hw1, hrb]; exact heap_alloc_new _ _
  have hC1 : Chg [] w w1 := by rw [hw1]; exact (Chg.refl [] w).alloc _
  rw [← hw1, ← hrb]
  have HC1 := Lib.hid hC1
  have HR1 := Lib.hid hR1
  have Hrb := Lib.hid hrb
  have HS1 := Lib.hid (HS.out.chg hC1 (by simp))
  clear hC1 hR1 hrb hw1
  refine wp_region_keys [(4, fun W => SlB W v (zeros 64))] (by kernel_rfl) ⟨fun _ => HS1.out.chg ((Chg.refl [] w1).drew) (by simp), trivial⟩ ?_
  refine kTake (i := 0) (v := ?_) rfl (by kernel_rfl) (by kernel_rfl) (some 7) rfl (fun _ _ _ h => h) (Or.inl ⟨by rfl, ?_⟩) ?_
  rotate_left 1
  · (intro w; go_simp; try rfl)
  try simp only [Act.put, List.setIfInBounds_toArray, List.set_cons_zero, List.set_cons_succ]
  refine kLoad (i := 1) 4 _ (v := str (zeros 64)) rfl (by kernel_rfl) (by kernel_rfl) (.head _) (some 8) rfl (fun _ _ _ h => h) (yieldsIf_convert_slb (by rfl) (.tmp 7) rfl _ (by rfl) (zeros 64) (fun _ h => h) Tryd.underlying22 Tryd.underlying5 Tryd.underlying9) ?_
  try simp only [Act.put, List.setIfInBounds_toArray, List.set_cons_zero, List.set_cons_succ]
  refine kOnly (i := 2) (oi := { dst := (some 9), op := (Go.Op.makeSlice 22 (Go.Operand.const (Go.Value.int Go.IntKind.i64 64)) (Go.Operand.const (Go.Value.int Go.IntKind.i64 64))), type := 22, pos := "label.go:54", after := #[], guard := none }) (by kernel_rfl) rfl (by rfl) (fun K hK => ?_)
  refine wp_make_bytes 64 64 _ _ rfl (by rfl) (by rfl) Tryd.underlying22 info5 (by decide) (by decide) ?_
  have hC2 : Chg [] w1 (w1.drew.alloc (Obj.cells (vals (zeros 64)).toArray 5)) := ((Chg.refl [] w1).drew).alloc _
  have hz2 : (w1.drew.alloc (Obj.cells (vals (zeros 64)).toArray 5)).heap[w1.heap.size]? = some (Obj.cells (vals (zeros 64)).toArray 5 (0, 0)) := heap_alloc_new w1.drew _
  refine hK _ _ ⟨fun _ => HS1.out.chg hC2 (by simp), trivial⟩ ?_; clear hK K
  try simp only [Act.put, List.setIfInBounds_toArray, List.set_cons_zero, List.set_cons_succ]
  refine kOnly (i := 3) (oi := { dst := (some 10), op := (Go.Op.convert 22 9 (Go.Operand.tmp 9)), type := 9, pos := "label.go:54", after := #[{ on := 2, ground := Go.Ground.data }], guard := none }) (by kernel_rfl) rfl (by rfl) (fun K hK => ?_)
  refine wp_convert_slb (.tmp 9) rfl (.slice (some ⟨w1.heap.size, 0, none⟩) 64 64) (by rfl) (zeros 64) (slb_block hz2 (by simp)) Tryd.underlying22 Tryd.underlying5 Tryd.underlying9 ?_
  refine hK _ _ ⟨fun _ => HS1.out.chg hC2 (by simp), trivial⟩ ?_; clear hK K
  try simp only [Act.put, List.setIfInBounds_toArray, List.set_cons_zero, List.set_cons_succ]
  refine kOnly (i := 4) (oi := { dst := (some 11), op := (Go.Op.binOp Go.BinOp.eql 9 (Go.Operand.tmp 8) (Go.Operand.tmp 10) 9), type := 4, pos := "label.go:54", after := #[{ on := 1, ground := Go.Ground.data }, { on := 3, ground := Go.Ground.data }], guard := none }) (by kernel_rfl) rfl (by rfl) (fun K hK => ?_)
  go_simp; refine hK _ _ ⟨fun h => absurd h (by decide), trivial⟩ ?_; clear hK K
  try simp only [Act.put, List.setIfInBounds_toArray, List.set_cons_zero, List.set_cons_succ]
  refine kDone (by kernel_rfl) ?_
  rw [show ((⟨List.toArray (zeros 64)⟩ : ByteArray).toList == (⟨List.toArray (zeros 64)⟩ : ByteArray).toList) = true from beq_self_eq_true _]
  obtain ⟨w2, hw2⟩ : ∃ w2, w2 = (w1.alloc (Obj.cells (vals (zeros 64)).toArray 5)).drew := ⟨_, rfl⟩
  have hC3 : Chg [] w1 w2 := by rw [hw2]; exact ((Chg.refl [] w1).alloc _).drew
  have hR2 := hC3.heap HR1.out (by simp)
  rw [← hw2]
  have HC3 := Lib.hid hC3
  have HR2 := Lib.hid hR2
  clear hC2 hz2 hw2 hC3 hR2
  go_wp2_with (first | (refine wpList_store_mid rfl 48 (.tmp 2) (.tmp 12) rfl rb 0 (rcells Rf.none).toArray (by rfl) (by rfl) ?th (by rw [size48]; rfl) (all_oneCell_toArray (rcells_one _)) ?_; rotate_left 1))
  case th =>
    intro j hj
    rw [cell_of_row _ _ _ _ _ _ HR2.out]
    refine ⟨?_, frozen_of_row _ _ _ _ _ HR2.out⟩
    rw [Nat.zero_add]
    rw [Array.getElem?_eq_getElem hj]; rfl
  have hR3 : (w2.setCells rb 0 (rcells Rf.none).toArray.toList).heap[rb]? = some (Obj.cells (rcells Rf.none).toArray 48 (0, 0)) := setCells_whole HR2.out _ rfl
  refine bodyPost_ret (results_cell_row2 rfl _ _ rb 48 _ _ _ rfl hR3 Tryd.underlying48 rfl (by rw [size48]; rfl)) rfl ?_
  refine ⟨rfl, (HC1.out.trans HC3.out).step (Chg.setCells _ _ _ (Chg.refl [rb] w2) (.inl (by simp))) (fun x hx => .inr (by simp only [List.mem_singleton] at hx; have h := Hrb.out; omega))⟩

end Go.Proofs.YtaacejpienbkgaaDoor
