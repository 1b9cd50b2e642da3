/- label's Move and Drop, walked. -/
import Derived.Test.YtaacejpienbkgaaDoorLab8
namespace Go.Proofs.YtaacejpienbkgaaDoor
open Go.RowKit

theorem size29 : (Tryd.prog.info? 29).map (·.size) = some 32 := by kernel_rfl
theorem get_some {t : Tb} {nm : Bytes} {r : Rf} (hl : t.l.length = 12) (h : t.get nm = some r) : ∃ (i : Nat) (hi : i < t.l.length), t.fd nm = (i : Int) ∧ r = t.l[i] ∧ i < 12 := by
  unfold Tb.get at h
  rcases fd_cases t nm with ⟨hf, _⟩ | ⟨k, hk, hf, hkn⟩
  · rw [if_pos (.inr (by rw [hf]; omega))] at h; cases h
  · by_cases hn : nm = []
    · rw [if_pos (.inl hn)] at h; cases h
    · rw [if_neg (by rw [hf]; simp [hn]), hf, Int.toNat_natCast, List.getD_eq_getElem?_getD, List.getElem?_eq_getElem hk] at h
      cases h
      exact ⟨k, hk, hf, rfl, by omega⟩
theorem get_none_spec (tb jb b : Nat) (m : DMem) (t : Tb) (nm : Bytes) (w : World) (h : TbAt w tb jb b m t) (hg : t.get nm = none) :
    Calls Tryd.prog 34 #[.pointer (some ⟨tb, 0, none⟩), str nm] w fun e w' => e = .returned (.tuple #[.agg (rcells Rf.none).toArray, .int .i64 2]) ∧ Chg [] w w' := by
  refine (get_spec tb jb b m t nm w h).mono ?_
  rintro e w' ⟨he, hC⟩
  rw [hg] at he
  exact ⟨he, hC⟩
theorem get_some_spec (tb jb b : Nat) (m : DMem) (t : Tb) (nm : Bytes) (r : Rf) (w : World) (h : TbAt w tb jb b m t) (hg : t.get nm = some r) :
    Calls Tryd.prog 34 #[.pointer (some ⟨tb, 0, none⟩), str nm] w fun e w' => e = .returned (.tuple #[.agg (rcells r).toArray, .int .i64 0]) ∧ Chg [] w w' := by
  refine (get_spec tb jb b m t nm w h).mono ?_
  rintro e w' ⟨he, hC⟩
  rw [hg] at he
  exact ⟨he, hC⟩
theorem rcells_33 {r : Rf} (h : r.key.length = 32) : (rcells r)[33]? = some (.bool r.fast) := by
  show (vals r.key ++ [Value.bool r.fast])[32]? = _
  rw [List.getElem?_append_right (by simp [h])]
  simp [h]
theorem rekey {w : World} {rb : Nat} {r : Rf} {k : Bytes} (h : w.heap[rb]? = some (.cells (rcells r).toArray 48 (0, 0))) (hr : r.key.length = 32) (hk : k.length = 32) :
    (w.setCells rb 1 (vals k)).rangeAt rb 0 (rcells ⟨r.name, k, r.fast⟩) := by
  have hl := rcells_length hr
  have hthere : w.there rb 1 (vals k).length := by
    intro j hj
    rw [cell_of_row _ _ _ _ _ _ h]
    refine ⟨?_, frozen_of_row _ _ _ _ _ h⟩
    rw [Array.getElem?_eq_getElem (by simp [hl] at hj ⊢; omega)]; rfl
  have hmid := World.rangeAt_setCells_same w rb 1 (vals k) hthere
  have h0 : w.rangeAt rb 0 [str r.name] := by
    intro j v hv
    rw [cell_of_row _ _ _ _ _ _ h]
    cases j with
    | zero => exact hv
    | succ j => simp at hv
  have h33 : w.rangeAt rb 33 [.bool r.fast] := by
    intro j v hv
    rw [cell_of_row _ _ _ _ _ _ h, List.getElem?_toArray]
    cases j with
    | succ j => simp at hv
    | zero =>
      show (vals r.key ++ [Value.bool r.fast])[32]? = _
      rw [List.getElem?_append_right (by simp [hr])]
      simp only [vals_length, hr]; exact hv
  have h0' := World.rangeAt_setCells_apart h0 rb 1 (vals k) (.inr (.inl (by simp)))
  have h33' := World.rangeAt_setCells_apart h33 rb 1 (vals k) (.inr (.inr (by simp [hk])))
  intro j v hv
  rw [Nat.zero_add]
  cases j with
  | zero => exact h0' 0 v hv
  | succ j =>
    have hv' : (vals k ++ [Value.bool r.fast])[j]? = some v := hv
    by_cases hj : j < 32
    · rw [List.getElem?_append_left (by simp [hk, hj])] at hv'
      have := hmid j v hv'
      rwa [Nat.add_comm] at this
    · rw [List.getElem?_append_right (by simp [hk]; omega)] at hv'
      have hj2 : j - (vals k).length < 1 := (List.getElem?_eq_some_iff.1 hv').1
      simp [hk] at hj2
      obtain rfl : j = 32 := by omega
      simp [hk] at hv'
      exact h33' 0 v (by simp [hv'])

set_option maxRecDepth 100000 in
set_option maxHeartbeats 1000000 in
theorem move_spec (tb jb b : Nat) (m : DMem) (t : Tb) (nm k : Bytes) (w : World) (h : TbAt w tb jb b m t) (hk : k.length = 32) (hw : t.d.wet.length ≤ 900) (hnx : t.next < 999999999999) :
    Calls Tryd.prog 36 #[.pointer (some ⟨tb, 0, none⟩), str nm, .agg (vals k).toArray] w (TPost tb jb b m (t.move nm k) w) := by
  have H := Lib.hid h
  have Hk := Lib.hid hk
  have hC : Chg [] w (w.alloc (.cells (vals k).toArray 29)) := (Chg.refl [] w).alloc _
  have hrow : (w.alloc (.cells (vals k).toArray 29)).rangeAt w.heap.size 0 (vals k) := range_of_row (heap_alloc_new _ _)
  have HR := Lib.hid hrow
  have HC := Lib.hid hC
  have HB := Lib.hid (h.chg0 hC)
  clear h hk hrow hC
  cases hg : t.get nm with
  | none =>
    have hm : t.move nm k = (t, 2) := by unfold Tb.move; rw [hg]
    rw [hm]
    have Hg := Lib.hid hg
    clear hg hm
    go_enter Tryd.func36, Tryd.ntmps36
    go_wp2_with (first
      | (go_at_call 34; refine (get_none_spec tb jb b m t nm _ HB.out Hg.out).mono ?_; rintro e w2 ⟨rfl, hC2⟩; replace HC := Lib.hid (HC.out.trans hC2); clear hC2)
      | (refine wpList_store_new rfl 48 (.tmp 7) (.tmp 13) rfl _ _ rfl 48 _ _ (rcells Rf.none).toArray rfl (by rfl) rfl rfl (by rw [size48]; rfl) (all_oneCell_toArray (rcells_one _)) ?_))
    go_ret
    exact TPost.same 2 H.out (HC.out.alloc _)
  | some r =>
    obtain ⟨i, hi, hf, hri, hi12⟩ := get_some H.out.tab.len hg
    have hrk := H.out.tab.key _ (List.getElem_mem hi)
    rw [← hri] at hrk
    have Hl := Lib.hid (rcells_length hrk.1)
    have Hrk := Lib.hid hrk
    clear hri hrk
    cases hfa : r.fast with
    | true =>
      have hm : t.move nm k = (t, 13) := by unfold Tb.move; rw [hg]; dsimp only; rw [if_pos hfa]
      rw [hm]
      have Hg := Lib.hid hg
      have h33 := rcells_33 Hrk.out.1
      rw [hfa] at h33
      have Hfa := Lib.hid hfa
      clear hg hm hf hfa
      go_enter Tryd.func36, Tryd.ntmps36
      go_wp2_with (first
        | (go_at_call 34; refine (get_some_spec tb jb b m t nm r _ HB.out Hg.out).mono ?_; rintro e w2 ⟨rfl, hC2⟩; replace HC := Lib.hid (HC.out.trans hC2); clear hC2)
        | (refine wpList_store_new rfl 48 (.tmp 7) (.tmp 13) rfl _ _ rfl 48 _ _ (rcells r).toArray rfl (by rfl) rfl (by simp only [List.size_toArray, Hl.out]; rfl) (by rw [size48, List.size_toArray, Hl.out]) (all_oneCell_toArray (rcells_one _)) ?_))
      go_ret
      exact TPost.same 13 H.out (HC.out.alloc _)
    | false =>
      have hm : t.move nm k = t.write i ⟨r.name, k, r.fast⟩ := by unfold Tb.move; rw [hg]; dsimp only; rw [if_neg (by rw [hfa]; decide), hf]; rfl
      rw [hm]
      have Hg := Lib.hid hg
      have h33 := rcells_33 Hrk.out.1
      rw [hfa] at h33
      have Hfa := Lib.hid hfa
      have Hf := Lib.hid hf
      have Hlk : Hid ((vals k).toArray.size = 32) := Lib.hid (by simp [Hk.out])
      have Hlv : Hid ((vals k).length = 32) := Lib.hid (by simp [Hk.out])
      clear hg hm hf hfa
      go_enter Tryd.func36, Tryd.ntmps36
      go_wp2_with (first
        | (go_at_call 34; refine (get_some_spec tb jb b m t nm r _ HB.out Hg.out).mono ?_; rintro e w2 ⟨rfl, hC2⟩; replace HC := Lib.hid (HC.out.trans hC2); replace HR := Lib.hid (hC2.range HR.out (by simp)); replace HB := Lib.hid (HB.out.chg0 hC2); clear hC2)
        | (refine wpList_store_new rfl 48 (.tmp 7) (.tmp 13) rfl _ _ rfl 48 _ _ (rcells r).toArray rfl (by rfl) rfl (by simp only [List.size_toArray, Hl.out]; rfl) (by rw [size48, List.size_toArray, Hl.out]) (all_oneCell_toArray (rcells_one _)) ?_; have hN : (w2.alloc (Obj.cells (rcells r).toArray 48)).heap[w2.heap.size]? = some (Obj.cells (rcells r).toArray 48 (0, 0)) := heap_alloc_new _ _; have HN := Lib.hid hN; have hCN : Chg [] w2 (w2.alloc (Obj.cells (rcells r).toArray 48)) := (Chg.refl [] w2).alloc _; have HCN := Lib.hid hCN; clear hN hCN)
        | (refine wpList_load_mid rfl 29 (.tmp 5) rfl w.heap.size 0 (by rfl) (vals k) _ (HCN.out.range HR.out (by simp)) Tryd.underlying29 rfl (by rw [size29, Hlv.out]) ?_)
        | (refine wpList_store_mid rfl 29 (.tmp 23) (.tmp 22) rfl w2.heap.size 1 (vals k).toArray (by rfl) (by rfl) ?th (by rw [size29, Hlk.out]) (all_vals k) ?_; rotate_left 1))
      case th =>
        intro j hj
        rw [cell_of_row _ _ _ _ _ _ HN.out]
        refine ⟨?_, frozen_of_row _ _ _ _ _ HN.out⟩
        rw [Array.getElem?_eq_getElem (by rw [Hlk.out] at hj; simp only [List.size_toArray, Hl.out]; omega)]; rfl
      obtain ⟨w3, hw3⟩ : ∃ w3, w3 = (w2.alloc (Obj.cells (rcells r).toArray 48)).setCells w2.heap.size 1 (vals k).toArray.toList := ⟨_, rfl⟩
      obtain ⟨rb, hrb⟩ : ∃ rb, rb = w2.heap.size := ⟨_, rfl⟩
      have hX : Chg [rb] (w2.alloc (Obj.cells (rcells r).toArray 48)) w3 := by rw [hw3, hrb]; exact Chg.setCells _ _ _ (Chg.refl _ _) (.inl (by simp))
      have hX2 : Chg [] w2 w3 := HCN.out.step hX (fun x hx => .inr (by simp only [List.mem_singleton] at hx; omega))
      have hNR : w3.rangeAt rb 0 (rcells ⟨r.name, k, r.fast⟩) := by
        rw [hw3, hrb]
        have h := rekey (k := k) HN.out Hrk.out.1 Hk.out
        simpa using h
      have HB3 := Lib.hid (HB.out.chg0 hX2)
      have HC3 := Lib.hid (HC.out.trans hX2)
      have HNR := Lib.hid hNR
      have Hl3 : Hid ((rcells ⟨r.name, k, r.fast⟩).length = 34) := Lib.hid (rcells_length Hk.out)
      clear hX hX2 hNR h33
      rw [← hw3, ← hrb]
      clear hw3 hrb
      refine wp_region_keys [(5, fun W => W.rangeAt rb 0 (rcells ⟨r.name, k, r.fast⟩))] (by kernel_rfl) ⟨fun _ => HNR.out, trivial⟩ ?_
      refine kTake (i := 0) (v := ?_) rfl (by kernel_rfl) (by kernel_rfl) (some 24) rfl (fun _ _ _ h => h) (Or.inl ⟨by rfl, ?_⟩) ?_
      rotate_left 1
      · (intro w; go_simp; try rfl)
      try simp only [Act.put, List.setIfInBounds_toArray, List.set_cons_zero, List.set_cons_succ]
      refine kTake (i := 1) (v := ?_) rfl (by kernel_rfl) (by kernel_rfl) (some 25) rfl (fun _ _ _ h => h) (Or.inl ⟨by rfl, ?_⟩) ?_
      rotate_left 1
      · (intro w; go_simp; try rfl)
      try simp only [Act.put, List.setIfInBounds_toArray, List.set_cons_zero, List.set_cons_succ]
      refine kTake (i := 2) (v := ?_) rfl (by kernel_rfl) (by kernel_rfl) (some 26) rfl (fun _ _ _ h => h) (Or.inl ⟨by rfl, ?_⟩) ?_
      rotate_left 1
      · (intro w; go_simp; try rfl)
      try simp only [Act.put, List.setIfInBounds_toArray, List.set_cons_zero, List.set_cons_succ]
      refine kLoad (i := 4) 5 _ (v := .agg (rcells ⟨r.name, k, r.fast⟩).toArray) rfl (by kernel_rfl) (by kernel_rfl) (.head _) (some 28) rfl (fun _ _ _ h => h) (yieldsIf_load_mid (by rfl) 48 (.tmp 7) rfl rb 0 (by rfl) _ _ (fun _ h => h) Tryd.underlying48 rfl (by rw [size48, Hl3.out])) ?_
      try simp only [Act.put, List.setIfInBounds_toArray, List.set_cons_zero, List.set_cons_succ]
      refine kOnly (i := 3) (oi := { dst := (some 27), op := (Go.Op.call { callee := (Go.Callee.value (Go.Operand.func 63)), args := #[(Go.Operand.tmp 25), (Go.Operand.tmp 26)], argTypes := #[43, 9] }), type := 3, pos := "label.go:127", after := #[{ on := 1, ground := Go.Ground.data }, { on := 2, ground := Go.Ground.data }], guard := none }) (by kernel_rfl) rfl (by rfl) (fun K hK => ?_)
      go_simp; go_at_call 63; refine (find_any t _ nm tb jb b m _ (by rfl) (HB3.out.chg0 (Chg.refl [] _).drew)).mono ?_; rintro e w5 ⟨rfl, hC5⟩; rw [Hf.out]
      replace hC5 := hC5.ofDrew
      replace HC3 := Lib.hid (HC3.out.trans hC5); replace HB3 := Lib.hid (HB3.out.chg0 hC5); replace HNR := Lib.hid (hC5.range HNR.out (by simp)); clear hC5
      refine hK _ _ ⟨fun _ => HNR.out, trivial⟩ ?_; clear hK K
      try simp only [Act.put, List.setIfInBounds_toArray, List.set_cons_zero, List.set_cons_succ]
      refine kOnly (i := 5) (oi := { dst := (some 29), op := (Go.Op.call { callee := (Go.Callee.value (Go.Operand.func 64)), args := #[(Go.Operand.tmp 24), (Go.Operand.tmp 27), (Go.Operand.tmp 28)], argTypes := #[43, 3, 48] }), type := 30, pos := "label.go:127", after := #[{ on := 0, ground := Go.Ground.data }, { on := 3, ground := Go.Ground.data }, { on := 4, ground := Go.Ground.data }, { on := 3, ground := Go.Ground.chain }], guard := none }) (by kernel_rfl) rfl (by rfl) (fun K hK => ?_)
      go_simp; go_at_call 64; refine (twrite_at tb jb b m t i _ ⟨r.name, k, r.fast⟩ _ rfl (HB3.out.chg0 (by first | exact Chg.refl [] _ | exact (Chg.refl [] _).drew)) hi12 Hk.out Hrk.out.2 hw hnx).mono ?_
      rintro e w4 ⟨rfl, m4, hB4, hS4⟩
      have HB4 := Lib.hid hB4
      have HS4 := Lib.hid (TStep.of (by first | exact HC3.out | exact HC3.out.drew) hS4)
      refine hK _ _ ⟨fun h => absurd h (by decide), trivial⟩ ?_; clear hK K hB4 hS4
      try simp only [Act.put, List.setIfInBounds_toArray, List.set_cons_zero, List.set_cons_succ]
      refine kTake (i := 6) (v := ?_) rfl (by kernel_rfl) (by kernel_rfl) (some 6) rfl (fun _ _ _ h => h) (Or.inl ⟨by rfl, ?_⟩) ?_
      rotate_left 1
      · (intro w; go_simp; try rfl)
      try simp only [Act.put, List.setIfInBounds_toArray, List.set_cons_zero, List.set_cons_succ]
      refine kDone (by kernel_rfl) ?_
      go_wp2
      go_ret
      exact ⟨rfl, m4, HB4.out, HS4.out⟩

set_option maxRecDepth 100000 in
set_option maxHeartbeats 1000000 in
theorem drop_spec (tb jb b : Nat) (m : DMem) (t : Tb) (nm : Bytes) (w : World) (h : TbAt w tb jb b m t) (hw : t.d.wet.length ≤ 900) (hnx : t.next < 999999999999) :
    Calls Tryd.prog 37 #[.pointer (some ⟨tb, 0, none⟩), str nm] w (TPost tb jb b m (t.drop nm) w) := by
  have H := Lib.hid h
  have HC : Hid (Chg [] w w) := Lib.hid (Chg.refl [] w)
  have HB := Lib.hid h
  clear h
  cases hg : t.get nm with
  | none =>
    have hm : t.drop nm = (t, 2) := by unfold Tb.drop; rw [hg]
    rw [hm]
    have Hg := Lib.hid hg
    clear hg hm
    go_enter Tryd.func37, Tryd.ntmps37
    go_wp2_with (first
      | (go_at_call 34; refine (get_none_spec tb jb b m t nm _ HB.out Hg.out).mono ?_; rintro e w2 ⟨rfl, hC2⟩; replace HC := Lib.hid (HC.out.trans hC2); clear hC2)
      | (refine wpList_store_new rfl 48 (.tmp 5) (.tmp 11) rfl _ _ rfl 48 _ _ (rcells Rf.none).toArray rfl (by rfl) rfl rfl (by rw [size48]; rfl) (all_oneCell_toArray (rcells_one _)) ?_))
    go_ret
    exact TPost.same 2 H.out (HC.out.alloc _)
  | some r =>
    obtain ⟨i, hi, hf, hri, hi12⟩ := get_some H.out.tab.len hg
    have hrk := H.out.tab.key _ (List.getElem_mem hi)
    rw [← hri] at hrk
    have Hl := Lib.hid (rcells_length hrk.1)
    have Hrk := Lib.hid hrk
    have hm : t.drop nm = t.write i Rf.none := by unfold Tb.drop; rw [hg]; dsimp only; rw [hf]; rfl
    rw [hm]
    have Hg := Lib.hid hg
    have Hf := Lib.hid hf
    clear hg hm hf hri hrk
    go_enter Tryd.func37, Tryd.ntmps37
    go_wp2_with (first
      | (go_at_call 34; refine (get_some_spec tb jb b m t nm r _ HB.out Hg.out).mono ?_; rintro e w2 ⟨rfl, hC2⟩; replace HC := Lib.hid (HC.out.trans hC2); replace HB := Lib.hid (HB.out.chg0 hC2); clear hC2)
      | (refine wpList_store_new rfl 48 (.tmp 5) (.tmp 11) rfl _ _ rfl 48 _ _ (rcells r).toArray rfl (by rfl) rfl (by simp only [List.size_toArray, Hl.out]; rfl) (by rw [size48, List.size_toArray, Hl.out]) (all_oneCell_toArray (rcells_one _)) ?_; have hCN : Chg [] w2 (w2.alloc (Obj.cells (rcells r).toArray 48)) := (Chg.refl [] w2).alloc _; replace HC := Lib.hid (HC.out.trans hCN); replace HB := Lib.hid (HB.out.chg0 hCN); clear hCN)
      | (go_at_call 63; refine (find_any t _ nm tb jb b m _ (by rfl) HB.out).mono ?_; rintro e w3 ⟨rfl, hC3⟩; rw [Hf.out]; replace HC := Lib.hid (HC.out.trans hC3); replace HB := Lib.hid (HB.out.chg0 hC3); clear hC3)
      | (go_at_call 64; refine (twrite_at tb jb b m t i _ Rf.none _ rfl HB.out hi12 rfl (by decide) hw hnx).mono ?_; rintro e w4 ⟨rfl, m4, hB4, hS4⟩; have HB4 := Lib.hid hB4; have HS4 := Lib.hid (TStep.of HC.out hS4); clear hB4 hS4))
    go_ret
    exact ⟨rfl, m4, HB4.out, HS4.out⟩

end Go.Proofs.YtaacejpienbkgaaDoor
