/- The disk's small calls, walked: Sectors, On's kin, act, Arm, Acts. -/
import Derived.Test.YtaacejpienbkgaaDoorDisk0
namespace Go.Proofs.YtaacejpienbkgaaDoor
open Go.RowKit

set_option maxHeartbeats 400000 in
theorem sectors_spec (b : Nat) (m : DMem) (d : Dsk) (w : World) (h : DiskAt w b m d) :
    Calls Tryd.prog 58 #[.pointer (some ⟨b, 0, none⟩)] w fun e w' => e = .returned (.int .i64 d.n) ∧ w = w' := by
  obtain ⟨c0, -, -, -, -⟩ := h.cells
  clear h
  go_enter Tryd.func58, Tryd.ntmps58
  go_wp2
  go_ret
  exact ⟨rfl, rfl⟩

set_option maxHeartbeats 400000 in
theorem acts_spec (b : Nat) (m : DMem) (d : Dsk) (w : World) (h : DiskAt w b m d) :
    Calls Tryd.prog 45 #[.pointer (some ⟨b, 0, none⟩)] w fun e w' => e = .returned (.int .i64 d.acts) ∧ w = w' := by
  obtain ⟨-, -, -, -, c4⟩ := h.cells
  clear h
  go_enter Tryd.func45, Tryd.ntmps45
  go_wp2
  go_ret
  exact ⟨rfl, rfl⟩

def ActPost (b : Nat) (m : DMem) (d : Dsk) (w : World) (e : Ending) (w' : World) : Prop :=
  e = .returned (.bool d.act.2) ∧ DiskAt w' b m d.act.1 ∧ Chg [b] w w'

theorem head_set {w : World} {b i : Nat} {cs : Array Value} {t : TypeId} (v : Value) (h : w.heap[b]? = some (.cells cs t (0, 0))) :
    (w.setCell ⟨b, i, none⟩ v).heap[b]? = some (.cells (cs.setIfInBounds i v) t (0, 0)) := heap_setCell_same w b i cs t v h

set_option maxHeartbeats 400000 in
theorem act_spec (b : Nat) (m : DMem) (d : Dsk) (w : World) (h : DiskAt w b m d) :
    Calls Tryd.prog 65 #[.pointer (some ⟨b, 0, none⟩)] w (ActPost b m d w) := by
  obtain ⟨-, -, c2, c3, c4⟩ := h.cells
  have f2 := h.free 2
  have f3 := h.free 3
  have f4 := h.free 4
  have H := Lib.hid h
  clear h
  by_cases hoff : d.off = true
  · rw [hoff] at c3
    have Ho := Lib.hid hoff
    clear hoff
    go_enter Tryd.func65, Tryd.ntmps65
    go_wp2
    go_ret
    refine ⟨by simp [Dsk.act, Ho.out], ?_, Chg.refl _ _⟩
    have h := H.out
    have e : d.act.1 = d := by simp [Dsk.act, Ho.out]
    rw [e]; exact h
  · have hoff : d.off = false := by simpa using hoff
    rw [hoff] at c3
    have Ho := Lib.hid hoff
    clear hoff
    by_cases hl : d.left = 0
    · have hl' : (d.left == 0) = true := by simp [hl]
      have Hl := Lib.hid hl
      clear hl
      go_enter Tryd.func65, Tryd.ntmps65
      go_wp2
      go_ret
      have h := H.out
      have e : d.act = ({ d with acts := wrap64 (d.acts + 1), off := true }, false) := by simp [Dsk.act, Ho.out, Hl.out]
      unfold ActPost
      rw [e]
      refine ⟨rfl, ?_, ?_⟩
      · refine h.head1 (((Chg.refl _ _).setCell (.inl (by simp)) _).setCell (.inl (by simp)) _) d.left _ _ h.ok.left0 h.ok.left1 ?_
        rw [head_set _ (head_set _ h.head)]
        rfl
      · exact ((Chg.refl _ _).setCell (.inl (by simp)) _).setCell (.inl (by simp)) _
    · have hl' : (d.left == 0) = false := by simp [hl]
      have Hl := Lib.hid hl
      have l0 := H.out.ok.left0
      have l1 := H.out.ok.left1
      clear hl
      have e : d.act = ({ d with acts := wrap64 (d.acts + 1), left := max (d.left - 1) (-1) }, true) := by simp [Dsk.act, Ho.out, Hl.out]
      have He := Lib.hid e
      clear e
      go_enter Tryd.func65, Tryd.ntmps65
      go_wp2
      all_goals
        go_ret
        have h := H.out
        unfold ActPost
        rw [He.out]
        have hC : Chg [b] w (((w.setCell ⟨b, 4, none⟩ (.int .i64 (wrap64 (d.acts + 1)))).setCell ⟨b, 3, none⟩ (.bool false)).setCell ⟨b, 2, none⟩ (.int .i64 (max (d.left - 1) (-1)))) :=
          (((Chg.refl _ _).setCell (.inl (by simp)) _).setCell (.inl (by simp)) _).setCell (.inl (by simp)) _
        have hm : max (d.left - 1) (-1) = -1 ∨ max (d.left - 1) (-1) = d.left - 1 := by omega
        have hD := h.head1 hC (max (d.left - 1) (-1)) (wrap64 (d.acts + 1)) d.off (by omega) (by omega) (by rw [head_set _ (head_set _ (head_set _ h.head)), Ho.out]; rfl)
      · have hx : max (d.left - 1) (-1) = -1 := by omega
        rw [hx] at hD hC ⊢
        exact ⟨rfl, hD, hC⟩
      · have hx : max (d.left - 1) (-1) = d.left - 1 := by omega
        rw [hx] at hD hC ⊢
        exact ⟨rfl, hD, hC⟩

set_option maxHeartbeats 400000 in
theorem act_off_spec (b : Nat) (m : DMem) (d : Dsk) (w : World) (h : DiskAt w b m d) (hoff : d.off = true) :
    Calls Tryd.prog 65 #[.pointer (some ⟨b, 0, none⟩)] w fun e w' => e = .returned (.bool false) ∧ w = w' := by
  obtain ⟨-, -, -, c3, -⟩ := h.cells
  rw [hoff] at c3
  clear h hoff
  go_enter Tryd.func65, Tryd.ntmps65
  go_wp2
  go_ret
  exact ⟨rfl, rfl⟩

set_option maxHeartbeats 400000 in
theorem arm_spec (b : Nat) (m : DMem) (d : Dsk) (n : Int) (w : World) (h : DiskAt w b m d) (hn : n ≤ 9223372036854775807) :
    Calls Tryd.prog 39 #[.pointer (some ⟨b, 0, none⟩), .int .i64 n] w fun e w' => e = .returned (.tuple #[]) ∧ DiskAt w' b m (d.arm n) ∧ Chg [b] w w' := by
  obtain ⟨-, -, c2, -, -⟩ := h.cells
  have f2 := h.free 2
  have H := Lib.hid h
  clear h
  go_enter Tryd.func39, Tryd.ntmps39
  go_wp2
  all_goals
    go_end0
    have h := H.out
    have hC : Chg [b] w (w.setCell ⟨b, 2, none⟩ (.int .i64 (max n (-1)))) := (Chg.refl _ _).setCell (.inl (by simp)) _
    have hD : DiskAt (w.setCell ⟨b, 2, none⟩ (.int .i64 (max n (-1)))) b m (d.arm n) := h.head1 hC (max n (-1)) d.acts d.off (by omega) (by omega) (by rw [head_set _ h.head]; rfl)
  · have hx : max n (-1) = -1 := by omega
    rw [hx] at hD hC
    exact ⟨rfl, hD, hC⟩
  · have hx : max n (-1) = n := by omega
    rw [hx] at hD hC
    exact ⟨rfl, hD, hC⟩

def zcells : Nat → Array Value
  | n => (vals (zeros n)).toArray
theorem info115 : (Tryd.prog.info? 115).map (fun i => (i.zero, i.size, i.bytes)) = some (some (.agg (zcells 64)), 64, 64) := by kernel_rfl

theorem made_zero (k n i : Nat) (hk : 0 < k) (hi : i < n) : (madeCells (zcells k) n)[i]? = some (B 0) := by
  have h1 : i < (madeCells (zcells k) n).size := by simp [madeCells]; omega
  rw [Array.getElem?_eq_getElem h1]
  have h2 : i % k < k := Nat.mod_lt _ hk
  simp [madeCells, zcells, vals, zeros, h2]

set_option maxHeartbeats 400000 in
theorem new_spec (n : Nat) (w : World) (hn : n ≤ 4096) :
    Calls Tryd.prog 35 #[.int .i64 n] w fun e w' => ∃ b m, e = .returned (.pointer (some ⟨b, 0, none⟩)) ∧ DiskAt w' b m (Dsk.new n) ∧ Chg [] w w' ∧ (∀ k, k ∈ m.foot b → w.heap.size ≤ k) := by
  obtain ⟨i0, hi, hz0, hz1, hz2⟩ := info_parts info115
  go_enter Tryd.func35, Tryd.ntmps35
  go_wp2_with (refine wpList_make_full _ rfl (.tmp 5) (.tmp 5) 111 rfl 0 115 i0 (.agg (zcells 64)) 64 Tryd.underlying111 hi hz0 hz1 .i64 .i64 _ _ n rfl rfl rfl rfl (by rw [hz2]; omega) (by unfold maxLen; omega) (by omega) ?_; intro w1 hown hgrow)
  have hlt : w.heap.size < w1.heap.size := (hown.lt _ rfl).2
  have hC : Chg [] w (w1.alloc (.cells #[.slice (some ⟨w.heap.size, 0, none⟩) n n, .slice none 0 0, .int .i64 (-1), .bool false, .int .i64 0] 114)) :=
    ((Chg.refl [] w).grown hgrow (by simp)).alloc _
  obtain ⟨hlen, hrest⟩ := hown
  rcases hrest with ⟨h0, _⟩ | ⟨g, cap, cur, hv, _, hg, _, _, hsz, htake⟩
  · cases h0
  cases hv
  have hcur : cur.toList = (madeCells (zcells 64) (n * 64)).toList := by
    rw [List.take_of_length_le (by simp; omega)] at htake
    exact htake
  have hg2 := Below.heap_alloc w1 (.cells #[.slice (some ⟨w.heap.size, 0, none⟩) n n, .slice none 0 0, .int .i64 (-1), .bool false, .int .i64 0] 114) w.heap.size hlt
  have hg3 := hg2.trans hg
  have hcell : ∀ i, i < n * 64 → cur[i]? = some (B 0) := fun i hi => by
    rw [← Array.getElem?_toList, hcur, Array.getElem?_toList]
    exact made_zero 64 (n * 64) i (by omega) hi
  go_ret
  refine ⟨w1.heap.size, ⟨w.heap.size, .slice none 0 0⟩, rfl, ?_, hC, ?_⟩
  · refine ⟨heap_alloc_new _ _, ?_, fun i hi => ?_, fun i hi => ?_, World.ownsRow_nil _ _ _ _, ?_, by simp [Value.ownBlock], by simp [Value.ownBlock], ?_⟩
    · simp; omega
    · intro j v hv
      have hi' : i < n := hi
      have hj : j < 64 := by
        have := (List.getElem?_eq_some_iff.1 hv).1
        simpa [Dsk.new] using this
      rw [cell_of_row _ _ _ _ _ _ hg3, hcell (i * 64 + j) (by omega)]
      rw [← hv]
      exact (vals_zeros_get hj).symm
    · intro j hj
      have hi' : i < n := hi
      rw [cell_of_row _ _ _ _ _ _ hg3, hcell (i * 64 + j) (by omega)]
      exact ⟨rfl, frozen_of_row _ _ _ _ _ hg3⟩
    · show w1.heap.size ≠ w.heap.size
      omega
    · exact ⟨hn, fun i => by simp [Dsk.new], fun x hx => by simp [Dsk.new] at hx, by simp [Dsk.new], by simp [Dsk.new]⟩
  · intro k hk
    simp [DMem.foot, Value.ownBlock] at hk
    omega

end Go.Proofs.YtaacejpienbkgaaDoor
