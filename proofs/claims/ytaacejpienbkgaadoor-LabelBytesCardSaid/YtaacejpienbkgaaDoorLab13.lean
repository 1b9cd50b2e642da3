/- A nil table's calls; disks that are too small; the law LabelNil, walked. -/
import Derived.Test.YtaacejpienbkgaaDoorLab12
namespace Go.Proofs.YtaacejpienbkgaaDoor
open Go.RowKit

set_option maxRecDepth 100000 in
set_option maxHeartbeats 400000 in
theorem getnil_spec (nm : Bytes) (w : World) : Calls Tryd.prog 34 #[.pointer none, str nm] w fun e w' => e = .returned (.tuple #[.agg (rcells Rf.none).toArray, .int .i64 2]) ∧ Chg [] w w' := by
  have hC : Chg [] w (w.alloc (.cells (rcells Rf.none).toArray 48)) := (Chg.refl [] w).alloc _
  have hrow : (w.alloc (.cells (rcells Rf.none).toArray 48)).heap[w.heap.size]? = some (.cells (rcells Rf.none).toArray 48 (0, 0)) := heap_alloc_new _ _
  have HR := Lib.hid hrow
  have HC := Lib.hid hC
  clear hrow hC
  unfold str
  go_enter Tryd.func34, Tryd.ntmps34
  go_wp2_with (first | (refine wpList_store_mid rfl 48 (.tmp 4) (.tmp 18) rfl w.heap.size 0 (rcells Rf.none).toArray (by rfl) (by rfl) ?th (by rw [size48]; rfl) (all_oneCell_toArray (rcells_one _)) ?_; rotate_left 1))
  case th => exact there_row HR.out
  have hS := setCells_whole HR.out (rcells Rf.none).toArray.toList rfl
  refine bodyPost_ret (results_cell_row2 rfl _ _ w.heap.size 48 _ _ _ rfl hS Tryd.underlying48 rfl (by rw [size48]; rfl)) rfl ?_
  exact ⟨rfl, HC.out.step (Chg.setCells _ _ _ (Chg.refl [w.heap.size] _) (.inl (by simp))) (fun x hx => .inr (by simp only [List.mem_singleton] at hx; omega))⟩

set_option maxRecDepth 100000 in
set_option maxHeartbeats 400000 in
theorem makenil_spec (r : Rf) (w : World) (hk : r.key.length = 32) : Calls Tryd.prog 28 #[.pointer none, .agg (rcells r).toArray] w fun e w' => e = .returned (.int .i64 2) ∧ Chg [] w w' := by
  have Hl := Lib.hid (rcells_length hk)
  have hC : Chg [] w (w.alloc (.cells (rcells r).toArray 48)) := (Chg.refl [] w).alloc _
  have HC := Lib.hid hC
  clear hk hC
  go_enter Tryd.func28, Tryd.ntmps28
  go_wp2
  go_ret
  exact ⟨rfl, HC.out⟩

set_option maxRecDepth 100000 in
set_option maxHeartbeats 400000 in
theorem movenil_spec (nm k : Bytes) (w : World) (hk : k.length = 32) : Calls Tryd.prog 36 #[.pointer none, str nm, .agg (vals k).toArray] w fun e w' => e = .returned (.int .i64 2) ∧ Chg [] w w' := by
  have Hl : Hid ((vals k).length = 32) := Lib.hid (by simp [hk])
  have hC : Chg [] w (w.alloc (.cells (vals k).toArray 29)) := (Chg.refl [] w).alloc _
  have HC := Lib.hid hC
  clear hk hC
  go_enter Tryd.func36, Tryd.ntmps36
  go_wp2_with (first
    | (go_at_call 34; refine (getnil_spec nm _).mono ?_; rintro e w2 ⟨rfl, hC2⟩; replace HC := Lib.hid (HC.out.trans hC2); clear hC2)
    | (refine wpList_store_new rfl 48 (.tmp 7) (.tmp 13) rfl _ _ rfl 48 _ _ (rcells Rf.none).toArray rfl (by rfl) rfl rfl (by rw [size48]; rfl) (all_oneCell_toArray (rcells_one _)) ?_))
  go_ret
  exact ⟨rfl, HC.out.alloc _⟩

set_option maxRecDepth 100000 in
set_option maxHeartbeats 400000 in
theorem dropnil_spec (nm : Bytes) (w : World) : Calls Tryd.prog 37 #[.pointer none, str nm] w fun e w' => e = .returned (.int .i64 2) ∧ Chg [] w w' := by
  go_enter Tryd.func37, Tryd.ntmps37
  go_wp2_with (first
    | (go_at_call 34; refine (getnil_spec nm _).mono ?_; rintro e w2 ⟨rfl, hC2⟩; have HC := Lib.hid hC2; clear hC2)
    | (refine wpList_store_new rfl 48 (.tmp 5) (.tmp 11) rfl _ _ rfl 48 _ _ (rcells Rf.none).toArray rfl (by rfl) rfl rfl (by rw [size48]; rfl) (all_oneCell_toArray (rcells_one _)) ?_))
  go_ret
  exact ⟨rfl, HC.out.alloc _⟩

set_option maxHeartbeats 400000 in
theorem allnil_spec (w : World) : Calls Tryd.prog 33 #[.pointer none] w fun e w' => e = .returned (.slice none 0 0) ∧ w = w' := by
  go_enter Tryd.func33, Tryd.ntmps33
  go_wp2
  go_ret
  exact ⟨rfl, rfl⟩

set_option maxHeartbeats 400000 in
theorem lopen_small (jb b : Nat) (m : DMem) (d : Dsk) (next : Nat) (w : World) (h : JAt w jb b m d next) (hn : d.n ≤ 109) :
    Calls Tryd.prog 32 #[.pointer (some ⟨jb, 0, none⟩)] w fun e w' => e = .returned (.tuple #[.pointer none, .int .i64 1]) ∧ w = w' := by
  have H := Lib.hid h
  clear h
  go_enter Tryd.func32, Tryd.ntmps32
  go_wp2_with (go_at_call 70; refine (jsectors_spec jb b m d next _ H.out).mono ?_; rintro e w' ⟨rfl, hw'⟩; rw [← hw']; clear hw' w')
  go_ret2
  exact ⟨rfl, rfl⟩

theorem new_at (n : Nat) (x : Int) (w : World) (hx : x = (n : Int)) (hn : n ≤ 4096) :
    Calls Tryd.prog 35 #[.int .i64 x] w fun e w' => ∃ b m, e = .returned (.pointer (some ⟨b, 0, none⟩)) ∧ DiskAt w' b m (Dsk.new n) ∧ Chg [] w w' ∧ (∀ k, k ∈ m.foot b → w.heap.size ≤ k) := by
  subst hx; exact new_spec n w hn

theorem size28 : (Tryd.prog.info? 28).map (·.size) = some 32 := by kernel_rfl

/-- A new disk, opened. -/
theorem jopen_new (n b : Nat) (m : DMem) (w w1 : World) (hn : 49 < n) (hD : DiskAt w1 b m (Dsk.new n)) (hC : Chg [] w w1) (hF : ∀ k, k ∈ m.foot b → w.heap.size ≤ k) :
    Calls Tryd.prog 31 #[.pointer (some ⟨b, 0, none⟩)] w1 fun e w' => ∃ jb m2, e = .returned (.tuple #[.pointer (some ⟨jb, 0, none⟩), .int .i64 0]) ∧ JAt w' jb b m2 (Dsk.new n) 1 ∧ Chg [] w w' := by
  refine (jopen_spec b m (Dsk.new n) w1 hD rfl hn (by simp [Dsk.new]) (by rw [jlist_new]; simp) (by rw [jopened_new])).mono ?_
  rintro e w2 ⟨jb, m2, rfl, hJ, hjb, hS⟩
  rw [jopened_new, nextTo_new] at hJ
  exact ⟨jb, m2, rfl, hJ, hC.step hS.1 (fun x hx => .inr (hF x hx))⟩

set_option maxRecDepth 100000 in
set_option maxHeartbeats 2000000 in
theorem nil_walk (xs k : Bytes) (n : Nat) (w : World) (hT : LinesAt w) (hk : k.length = 32) (hn : n < 256) :
    Calls Tryd.prog 7 #[str xs, .agg (vals k).toArray, .int .u8 n] w fun e w' => e = .returned (.bool true) ∧ Chg [] w w' := by
  have HT := Lib.hid hT
  have Hl : Hid ((vals k).length = 32) := Lib.hid (by simp [hk])
  have Hk := Lib.hid hk
  have hC0 : Chg [] w (w.alloc (.cells (vals k).toArray 28)) := (Chg.refl [] w).alloc _
  have HR : Hid ((w.alloc (.cells (vals k).toArray 28)).rangeAt w.heap.size 0 (vals k)) := Lib.hid (range_of_row (heap_alloc_new _ _))
  have HC := Lib.hid hC0
  clear hT hk hC0
  unfold str
  go_enter Tryd.func7, Tryd.ntmps7
  go_wp2_with (first
    | (go_at_call 34; refine (getnil_spec xs _).mono ?_; rintro e w2 ⟨rfl, hC2⟩; replace HC := Lib.hid (HC.out.trans hC2); replace HR := Lib.hid (hC2.range HR.out (by simp)); clear hC2)
    | (refine wpList_store_new rfl 48 (.tmp 8) (.tmp 18) rfl _ _ rfl 48 _ _ (rcells Rf.none).toArray rfl (by rfl) rfl rfl (by rw [size48]; rfl) (all_oneCell_toArray (rcells_one _)) ?_))
  have HCA : Hid (Chg [] w (w2.alloc (Obj.cells (rcells Rf.none).toArray 48))) := Lib.hid (HC.out.alloc _)
  have HRA : Hid ((w2.alloc (Obj.cells (rcells Rf.none).toArray 48)).rangeAt w.heap.size 0 (vals k)) := Lib.hid (((Chg.refl [] w2).alloc _).range HR.out (by simp))
  generalize w2.alloc (Obj.cells (rcells Rf.none).toArray 48) = w3 at HCA HRA ⊢
  obtain ⟨q, hq⟩ : ∃ q, q = 50 + n % 60 := ⟨_, rfl⟩
  have hq1 : 49 < q := by omega
  have hq2 : q ≤ 109 := by omega
  have Hq : Hid ((50 + (n : Int) % 60) = (q : Int)) := Lib.hid (by omega)
  clear hq
  go_wp2_with (first
    | (go_at_call 35; refine (new_at q _ w3 Hq.out (by omega)).mono ?_; rintro e w4 ⟨b, m, rfl, hD, hC, hF⟩; have HD := Lib.hid hD; have HC4 := Lib.hid hC; have HF := Lib.hid hF; clear hD hC hF)
    | (go_at_call 31; refine (jopen_new q b m w3 w4 hq1 HD.out HC4.out HF.out).mono ?_; rintro e w5 ⟨jb, m2, rfl, hJ, hC⟩; have HJ := Lib.hid hJ; have HC5 := Lib.hid hC; clear hJ hC)
    | (go_at_call 32; refine (lopen_small jb b m2 _ 1 w5 HJ.out hq2).mono ?_; rintro e w6 ⟨rfl, rfl⟩; have HC6 := Lib.hid (HCA.out.trans HC5.out); have HR6 := Lib.hid (HC5.out.range HRA.out (by simp)))
    | (go_at_call 24; refine (awake_spec _ (HT.out.chg HC6.out (by simp))).mono ?_; rintro e w7 ⟨rfl, hC⟩; have HC7 := Lib.hid (HC6.out.trans hC); have HR7 := Lib.hid (hC.range HR6.out (by simp)); clear hC)
    | (go_at_call 28; refine (makenil_spec ⟨xs, zeros 32, false⟩ _ rfl).mono ?_; rintro e w8 ⟨rfl, hC⟩; have HC8 := Lib.hid (HC7.out.trans hC); have HR8 := Lib.hid (hC.range HR7.out (by simp)); clear hC)
    | (refine wpList_load_midG (by rfl) 28 (.tmp 4) rfl w.heap.size 0 (by rfl) (vals k) _ HR8.out Tryd.underlying28 rfl (by rw [size28, Hl.out]) ?_)
    | (go_at_call 36; refine (movenil_spec xs k _ Hk.out).mono ?_; rintro e w9 ⟨rfl, hC⟩; have HC9 := Lib.hid (HC8.out.trans hC); clear hC)
    | (go_at_call 37; refine (dropnil_spec xs _).mono ?_; rintro e w10 ⟨rfl, hC⟩; have HC10 := Lib.hid (HC9.out.trans hC); clear hC)
    | (go_at_call 33; refine (allnil_spec _).mono ?_; rintro e w11 ⟨rfl, rfl⟩))
  go_ret
  exact ⟨rfl, HC10.out⟩

end Go.Proofs.YtaacejpienbkgaaDoor
