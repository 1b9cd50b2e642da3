/- label's Get, walked. -/
import Derived.Test.YtaacejpienbkgaaDoorLab7
namespace Go.Proofs.YtaacejpienbkgaaDoor
open Go.RowKit

def GetPost (t : Tb) (nm : Bytes) (w : World) (e : Ending) (w' : World) : Prop :=
  e = .returned (match t.get nm with | none => .tuple #[.agg (rcells Rf.none).toArray, .int .i64 2] | some r => .tuple #[.agg (rcells r).toArray, .int .i64 0]) ∧ Chg [] w w'

theorem there_row {w : World} {b : Nat} {t : TypeId} {cs : Array Value} (h : w.heap[b]? = some (.cells cs t (0, 0))) : w.there b 0 cs.size := by
  intro j hj
  rw [cell_of_row _ _ _ _ _ _ h, Nat.zero_add]
  exact ⟨by rw [Array.getElem?_eq_getElem hj]; rfl, frozen_of_row _ _ _ _ _ h⟩

set_option maxRecDepth 100000 in
set_option maxHeartbeats 1000000 in
theorem get_spec (tb jb b : Nat) (m : DMem) (t : Tb) (nm : Bytes) (w : World) (h : TbAt w tb jb b m t) :
    Calls Tryd.prog 34 #[.pointer (some ⟨tb, 0, none⟩), str nm] w (GetPost t nm w) := by
  have H := Lib.hid h
  have hC : Chg [] w (w.alloc (.cells (rcells Rf.none).toArray 48)) := (Chg.refl [] w).alloc _
  have hrow : (w.alloc (.cells (rcells Rf.none).toArray 48)).heap[w.heap.size]? = some (.cells (rcells Rf.none).toArray 48 (0, 0)) := heap_alloc_new _ _
  have HR := Lib.hid hrow
  have HC := Lib.hid hC
  have HB := Lib.hid (h.chg0 hC)
  clear h hrow hC
  by_cases hne : nm = []
  · have he : nm.isEmpty = true := by rw [hne]; rfl
    have hg : t.get nm = none := by unfold Tb.get; rw [if_pos (.inl hne)]
    unfold GetPost
    rw [hg]
    clear hne hg
    unfold str
    go_enter Tryd.func34, Tryd.ntmps34
    go_wp2_with (first | (refine wpList_store_mid rfl 48 (.tmp 4) (.tmp 18) rfl w.heap.size 0 (rcells Rf.none).toArray (by rfl) (by rfl) ?th (by rw [size48]; rfl) (all_oneCell_toArray (rcells_one _)) ?_; rotate_left 1))
    case th => exact there_row HR.out
    have hS := setCells_whole HR.out (rcells Rf.none).toArray.toList rfl
    refine bodyPost_ret (results_cell_row2 rfl _ _ w.heap.size 48 _ _ _ rfl hS Tryd.underlying48 rfl (by rw [size48]; rfl)) rfl ?_
    exact ⟨rfl, HC.out.step (Chg.setCells _ _ _ (Chg.refl [w.heap.size] _) (.inl (by simp))) (fun x hx => .inr (by simp only [List.mem_singleton] at hx; omega))⟩
  · have he : nm.isEmpty = false := by cases nm with
      | nil => exact absurd rfl hne
      | cons x y => rfl
    rcases fd_cases t nm with ⟨hf, hno⟩ | ⟨k, hk, hf, hkn⟩
    · have hg : t.get nm = none := by unfold Tb.get; rw [if_pos (.inr (by rw [hf]; omega))]
      unfold GetPost
      rw [hg]
      have Hf := Lib.hid hf
      clear hne hg hf hno
      unfold str
      go_enter Tryd.func34, Tryd.ntmps34
      go_wp2_with (first
        | (go_at_call 63; refine (find_any t _ nm tb jb b m _ (by rfl) HB.out).mono ?_; rintro e w2 ⟨rfl, hC2⟩; rw [Hf.out]; replace HC := Lib.hid (HC.out.trans hC2); replace HR := Lib.hid (hC2.heap HR.out (by simp)); clear hC2)
        | (refine wpList_store_mid rfl 48 (.tmp 4) (.tmp 18) rfl w.heap.size 0 (rcells Rf.none).toArray (by rfl) (by rfl) ?th (by rw [size48]; rfl) (all_oneCell_toArray (rcells_one _)) ?_; rotate_left 1))
      case th => exact there_row HR.out
      have hS := setCells_whole HR.out (rcells Rf.none).toArray.toList rfl
      refine bodyPost_ret (results_cell_row2 rfl _ _ w.heap.size 48 _ _ _ rfl hS Tryd.underlying48 rfl (by rw [size48]; rfl)) rfl ?_
      exact ⟨rfl, HC.out.step (Chg.setCells _ _ _ (Chg.refl [w.heap.size] _) (.inl (by simp))) (fun x hx => .inr (by simp only [List.mem_singleton] at hx; omega))⟩
    · have hg : t.get nm = some t.l[k] := by unfold Tb.get; rw [if_neg (by rw [hf]; simp [hne]), hf, Int.toNat_natCast, List.getD_eq_getElem?_getD, List.getElem?_eq_getElem hk]; rfl
      unfold GetPost
      rw [hg]
      have hk12 : k < 12 := by rw [← H.out.tab.len]; exact hk
      have hk12' : (k : Int) < 12 := by omega
      obtain ⟨r, hr⟩ : ∃ r, r = t.l[k] := ⟨_, rfl⟩
      have hrk : r.key.length = 32 := by rw [hr]; exact (H.out.tab.key _ (List.getElem_mem hk)).1
      have HG : ∀ w', TbAt w' tb jb b m t → w'.rangeAt tb (1 + k * 34) (rcells r) := fun w' h' => by rw [hr]; exact h'.tab.ref k hk
      have HGh := Lib.hid HG
      have Hl := Lib.hid (rcells_length hrk)
      rw [← hr]
      have Hf := Lib.hid hf
      clear hne hg hf hkn hr hrk HG hk
      unfold str
      go_enter Tryd.func34, Tryd.ntmps34
      go_wp2_with (first
        | (go_at_call 63; refine (find_any t _ nm tb jb b m _ (by rfl) HB.out).mono ?_; rintro e w2 ⟨rfl, hC2⟩; rw [Hf.out]; replace HC := Lib.hid (HC.out.trans hC2); replace HR := Lib.hid (hC2.heap HR.out (by simp)); replace HB := Lib.hid (HB.out.chg0 hC2); clear hC2))
      refine wp_region_keys [(8, fun W => W.rangeAt tb (1 + k * 34) (rcells r))] (by kernel_rfl) ⟨fun _ => HGh.out _ (HB.out.chg0 (Chg.refl [] _).drew), trivial⟩ ?_
      refine kTake (i := 0) (v := ?_) rfl (by kernel_rfl) (by kernel_rfl) (some 19) rfl (fun _ _ _ h => h) (Or.inl ⟨by rfl, ?_⟩) ?_
      rotate_left 1
      · (intro w; go_simp; try rfl)
      try simp only [Act.put, List.setIfInBounds_toArray, List.set_cons_zero, List.set_cons_succ]
      refine kTake (i := 1) (v := ?_) rfl (by kernel_rfl) (by kernel_rfl) (some 20) rfl (fun _ _ _ h => h) (Or.inl ⟨by rfl, ?_⟩) ?_
      rotate_left 1
      · (intro w; go_simp; try rfl)
      try simp only [Act.put, List.setIfInBounds_toArray, List.set_cons_zero, List.set_cons_succ]
      refine kTake (i := 2) (v := ?_) rfl (by kernel_rfl) (by kernel_rfl) (some 21) rfl (fun _ _ _ h => h) (Or.inl ⟨by rfl, ?_⟩) ?_
      rotate_left 1
      · (intro w; go_simp; try rfl)
      try simp only [Act.put, List.setIfInBounds_toArray, List.set_cons_zero, List.set_cons_succ]
      refine kTake (i := 4) (v := ?_) rfl (by kernel_rfl) (by kernel_rfl) (some 23) rfl (fun _ _ _ h => h) (Or.inl ⟨by rfl, ?_⟩) ?_
      rotate_left 1
      · (intro w; go_simp; try rfl)
      try simp only [Act.put, List.setIfInBounds_toArray, List.set_cons_zero, List.set_cons_succ]
      refine kTake (i := 5) (v := ?_) rfl (by kernel_rfl) (by kernel_rfl) (some 24) rfl (fun _ _ _ h => h) (Or.inl ⟨by rfl, ?_⟩) ?_
      rotate_left 1
      · (intro w; go_simp; try rfl)
      try simp only [Act.put, List.setIfInBounds_toArray, List.set_cons_zero, List.set_cons_succ]
      refine kOnly (i := 3) (oi := { dst := (some 22), op := (Go.Op.call { callee := (Go.Callee.value (Go.Operand.func 63)), args := #[(Go.Operand.tmp 20), (Go.Operand.tmp 21)], argTypes := #[43, 9] }), type := 3, pos := "label.go:142", after := #[{ on := 1, ground := Go.Ground.data }, { on := 2, ground := Go.Ground.data }], guard := none }) (by kernel_rfl) rfl (by rfl) (fun K hK => ?_)
      go_simp; go_at_call 63; refine (find_any t _ nm tb jb b m _ (by rfl) (HB.out.chg0 (Chg.refl [] _).drew)).mono ?_; rintro e w3 ⟨rfl, hC3⟩; rw [Hf.out]
      replace hC3 := hC3.ofDrew
      replace HC := Lib.hid (HC.out.trans hC3); replace HB := Lib.hid (HB.out.chg0 hC3); replace HR := Lib.hid (hC3.heap HR.out (by simp)); clear hC3
      refine hK _ _ ⟨fun _ => HGh.out _ HB.out, trivial⟩ ?_; clear hK K
      try simp only [Act.put, List.setIfInBounds_toArray, List.set_cons_zero, List.set_cons_succ]
      refine kTake (i := 6) (v := ?_) rfl (by kernel_rfl) (by kernel_rfl) (some 25) rfl (fun _ _ _ h => h) (Or.inl ⟨by rfl, ?_⟩) ?_
      rotate_left 1
      · (intro w; go_simp; try rfl)
      try simp only [Act.put, List.setIfInBounds_toArray, List.set_cons_zero, List.set_cons_succ]
      refine kLoad (i := 7) 8 _ (v := .agg (rcells r).toArray) rfl (by kernel_rfl) (by kernel_rfl) (.head _) (some 26) rfl (fun _ _ _ h => h) (yieldsIf_load_mid (by rfl) 48 (.tmp 25) rfl tb (1 + k * 34) (by rfl) _ _ (fun _ h => h) Tryd.underlying48 rfl (by rw [size48, Hl.out])) ?_
      try simp only [Act.put, List.setIfInBounds_toArray, List.set_cons_zero, List.set_cons_succ]
      refine kOnly (i := 8) (oi := { dst := none, op := (Go.Op.store 48 (Go.Operand.tmp 4) (Go.Operand.tmp 26)), type := 0, pos := "label.go:142", after := #[{ on := 7, ground := Go.Ground.data }, { on := 3, ground := Go.Ground.chain }, { on := 0, ground := Go.Ground.phase }, { on := 1, ground := Go.Ground.phase }, { on := 2, ground := Go.Ground.phase }, { on := 3, ground := Go.Ground.phase }, { on := 4, ground := Go.Ground.phase }, { on := 5, ground := Go.Ground.phase }, { on := 6, ground := Go.Ground.phase }, { on := 7, ground := Go.Ground.phase }], guard := none }) (by kernel_rfl) rfl (by rfl) (fun K hK => ?_)
      refine wp_store_mid 48 (.tmp 4) (.tmp 26) rfl w.heap.size 0 (rcells r).toArray (by rfl) (by rfl) ?th (by rw [size48, List.size_toArray, Hl.out]) (all_oneCell_toArray (rcells_one _)) ?_
      case th => rw [show (rcells r).toArray.size = (rcells Rf.none).toArray.size from by rw [List.size_toArray, Hl.out]; rfl]; exact there_row HR.out
      refine hK _ _ ⟨fun h => absurd h (by decide), trivial⟩ ?_; clear hK K
      refine kTake (i := 9) (v := ?_) rfl (by kernel_rfl) (by kernel_rfl) (some 5) rfl (fun _ _ _ h => h) (Or.inl ⟨by rfl, ?_⟩) ?_
      rotate_left 1
      · (intro w; go_simp; try rfl)
      try simp only [Act.put, List.setIfInBounds_toArray, List.set_cons_zero, List.set_cons_succ]
      refine kDone (by kernel_rfl) ?_
      go_wp2
      have hS := setCells_whole HR.out (rcells r).toArray.toList (by simp [Hl.out]; rfl)
      refine bodyPost_ret (results_cell_row2 rfl _ _ w.heap.size 48 _ _ _ rfl hS Tryd.underlying48 rfl (by rw [size48]; simp [Hl.out])) rfl ?_
      exact ⟨rfl, HC.out.step (Chg.setCells _ _ _ (Chg.refl [w.heap.size] _) (.inl (by simp))) (fun x hx => .inr (by simp only [List.mem_singleton] at hx; omega))⟩

end Go.Proofs.YtaacejpienbkgaaDoor
