/- The disk's Read, walked. -/
import Derived.Test.YtaacejpienbkgaaDoorDisk3
namespace Go.Proofs.YtaacejpienbkgaaDoor
open Go.RowKit

theorem curOf_append (l1 l2 : List (Nat × Bytes)) : ∀ (safe : Nat → Bytes), Dsk.curOf safe (l1 ++ l2) = Dsk.curOf (Dsk.curOf safe l1) l2 := by
  induction l1 with
  | nil => intro safe; funext j; simp [Dsk.curOf]
  | cons x r ih =>
    obtain ⟨a, p⟩ := x
    intro safe
    funext j
    simp only [List.cons_append, Dsk.curOf, ih]
theorem curOf_snoc (l : List (Nat × Bytes)) (x : Nat × Bytes) (safe : Nat → Bytes) (j : Nat) : Dsk.curOf safe (l ++ [x]) j = if j = x.1 then x.2 else Dsk.curOf safe l j := by
  rw [curOf_append]; rfl
/-- What a sector holds behind the first k writes. -/
def curTo (d : Dsk) (k i : Nat) : Bytes := Dsk.curOf d.safe (d.wet.take k) i
theorem curTo_zero (d : Dsk) (i : Nat) : curTo d 0 i = d.safe i := by simp [curTo, Dsk.curOf]
theorem curTo_succ (d : Dsk) (k i : Nat) (hk : k < d.wet.length) : curTo d (k + 1) i = if i = d.wet[k].1 then d.wet[k].2 else curTo d k i := by
  unfold curTo
  rw [List.take_succ_eq_append_getElem hk, curOf_snoc]
theorem curTo_all (d : Dsk) (k i : Nat) (hk : d.wet.length ≤ k) : curTo d k i = d.cur i := by
  unfold curTo Dsk.cur; rw [List.take_of_length_le hk]
theorem curTo_len (d : Dsk) (h : d.Ok) (i : Nat) : ∀ k, (curTo d k i).length = 64
  | 0 => by rw [curTo_zero]; exact h.safe i
  | k + 1 => by
    by_cases hk : k < d.wet.length
    · rw [curTo_succ d k i hk]
      split
      · exact (h.wet _ (List.getElem_mem hk)).2
      · exact curTo_len d h i k
    · have e : curTo d (k + 1) i = curTo d k i := by rw [curTo_all d (k + 1) i (by omega), curTo_all d k i (by omega)]
      rw [e]; exact curTo_len d h i k
theorem cur_len (d : Dsk) (h : d.Ok) (i : Nat) : (d.cur i).length = 64 := by rw [← curTo_all d d.wet.length i (Nat.le_refl _)]; exact curTo_len d h i _

set_option maxHeartbeats 400000 in
theorem read_off_spec (b : Nat) (m : DMem) (d : Dsk) (i : Nat) (w : World) (h : DiskAt w b m d) (hi : i < d.n) (hoff : d.off = true) :
    Calls Tryd.prog 20 #[.pointer (some ⟨b, 0, none⟩), .int .i64 i] w fun e w' => e = .returned (.tuple #[.slice none 0 0, .int .i64 9]) ∧ w = w' := by
  obtain ⟨-, -, -, c3, -⟩ := h.cells
  rw [hoff] at c3
  have H := Lib.hid h
  have hn := h.ok.n
  clear h hoff
  go_enter Tryd.func20, Tryd.ntmps20
  go_wp2_with (go_at_call 58; refine (sectors_spec b m d _ H.out).mono ?_; rintro e w' ⟨rfl, rfl⟩)
  go_ret2
  exact ⟨rfl, rfl⟩

theorem all_vals (xs : Bytes) : (vals xs).toArray.all (·.oneCell') = true := all_oneCell_toArray (oneCell_vals xs)

def ReadPost (s : Bytes) (w : World) (e : Ending) (w' : World) : Prop :=
  ∃ g, w.heap.size ≤ g ∧ e = .returned (.tuple #[.slice (some ⟨g, 0, none⟩) 64 64, .int .i64 0]) ∧ w'.heap[g]? = some (.cells (vals s).toArray 115 (0, 0)) ∧ Chg [] w w'

set_option maxRecDepth 100000 in
set_option maxHeartbeats 1000000 in
theorem read_on_spec (b : Nat) (m : DMem) (d : Dsk) (i : Nat) (w : World) (h : DiskAt w b m d) (hi : i < d.n) (hoff : d.off = false) (hwl : d.wet.length < 1000000) :
    Calls Tryd.prog 20 #[.pointer (some ⟨b, 0, none⟩), .int .i64 i] w (ReadPost (d.cur i) w) := by
  obtain ⟨ao, cap, hwv, hwr⟩ := h.wetv
  obtain ⟨c0, c1, -, c3, -⟩ := h.cells
  rw [hoff] at c3
  rw [hwv] at c1
  have hlen0 : (d.safe i).length = 64 := h.ok.safe i
  have hr0 := h.safe i hi
  have hs64 : (vals (d.safe i)).toArray.size = 64 := by rw [List.size_toArray, vals_length, hlen0]
  have Hs64 := Lib.hid hs64
  have Hlen0 := Lib.hid hlen0
  have H := Lib.hid h
  have Hwr := Lib.hid hwr
  have Hwv := Lib.hid hwv
  have Hr0 := Lib.hid hr0
  have hn := h.ok.n
  have hbl := h.blt
  clear h hoff hwr hwv hr0 hs64 hlen0
  go_enter Tryd.func20, Tryd.ntmps20
  go_wp2_with (first | (go_at_call 58; refine (sectors_spec b m d _ H.out).mono ?_; rintro e w' ⟨rfl, rfl⟩) | (refine wpList_load_mid rfl 115 (.tmp 28) rfl m.bs (i * 64) (by rfl) (vals (d.safe i)) _ Hr0.out Tryd.underlying115 rfl (by rw [size115, vals_length, Hlen0.out]) ?_) | (refine wpList_store_new rfl 115 (.tmp 6) (.tmp 29) rfl _ _ rfl 115 _ _ (vals (d.safe i)).toArray rfl (by rfl) rfl (by rw [Hs64.out]; rfl) (by rw [size115, Hs64.out]) (all_vals _) ?_))
  obtain ⟨sb, hsb⟩ : ∃ sb, sb = w.heap.size := ⟨_, rfl⟩
  have Hsb := Lib.hid hsb
  have hblk : (w.alloc (.cells (vals (d.safe i)).toArray 115)).heap[sb]? = some (.cells (vals (d.safe i)).toArray 115 (0, 0)) := by rw [hsb]; exact heap_alloc_new _ _
  have Hblk := Lib.hid hblk
  rw [← hsb]
  clear hsb hblk
  go_loopw [8, 35] (fun _ x wr => ∃ k : Nat, k ≤ d.wet.length ∧ x = .int .i64 k ∧ wr.heap[sb]? = some (.cells (vals (curTo d k i)).toArray 115 (0, 0)) ∧ Chg [] w wr) (fun _ x _ => d.wet.length - (intOf x).toNat)
  case atStart => exact ⟨0, Nat.zero_le _, rfl, by rw [curTo_zero]; exact Hblk.out, (Chg.refl [] w).alloc _⟩
  case round =>
    obtain ⟨k, hk, rfl, hblk, hCk⟩ := hrel
    have Hb := Lib.hid hblk
    have HCk := Lib.hid hCk
    clear hblk hCk
    by_cases hlt : k < d.wet.length
    · obtain ⟨g, rfl, hrg⟩ := Hwr.out (by omega)
      have hp64 : d.wet[k].2.length = 64 := (H.out.ok.wet _ (List.getElem_mem hlt)).2
      have hrk : wr.rangeAt g (k * 65) (wcell d.wet[k]) := HCk.out.range (hrg k hlt) (by simp)
      have hl65 : (wcell d.wet[k]).length = 65 := by simp [wcell, hp64]
      have Hrk := Lib.hid hrk
      clear hrk hrg
      have hs64 : (vals d.wet[k].2).toArray.size = 64 := by rw [List.size_toArray, vals_length, hp64]
      have hc64 : (curTo d k i).length = 64 := curTo_len d H.out.ok i k
      have Hs2 := Lib.hid hs64
      have Hc2 := Lib.hid hc64
      have hsw : sb < wr.heap.size := heap_lt Hb.out
      clear hs64 hc64
      go_wp2_with (first | (refine wpList_load_mid rfl 117 (.tmp 37) rfl g (k * 65) (by rfl) (wcell d.wet[k]) _ Hrk.out Tryd.underlying117 rfl (by rw [size117, hl65]) ?_) | (refine wpList_store_new rfl 117 (.tmp 8) (.tmp 38) rfl _ _ rfl 117 _ _ (.int .i64 (d.wet[k].1 : Int) :: vals d.wet[k].2).toArray rfl (by rfl) rfl (by rw [Tryd.zeroCells117_size, List.size_toArray]; exact hl65.symm) (by rw [size117, List.size_toArray]; exact congrArg some hl65.symm) (all_wcell _ _) ?_) | (refine wpList_load_mid rfl 115 (.tmp 43) rfl wr.heap.size 1 (by rfl) (vals d.wet[k].2) _ ?hra Tryd.underlying115 rfl (by rw [size115, vals_length, hp64]) ?_; rotate_left 1) | (refine wpList_store_mid rfl 115 (.tmp 6) (.tmp 44) rfl sb 0 (vals d.wet[k].2).toArray (by rfl) (by rfl) ?hth (by rw [size115, Hs2.out]) (all_vals _) ?_; rotate_left 1))
      case hra =>
        intro j v hv
        rw [cell_of_row _ _ _ _ _ _ (heap_alloc_new _ _), Nat.add_comm]
        simpa using hv
      case hth =>
        intro j hj
        rw [Hs2.out] at hj
        rw [World.cell?_alloc_lt _ _ _ hsw, World.frozen?_alloc_past _ _ _ hsw, cell_of_row _ _ _ _ _ _ Hb.out]
        refine ⟨?_, frozen_of_row _ _ _ _ _ Hb.out⟩
        simp
        rw [Hc2.out]; omega
      · have hC1 : Chg [] w (wr.alloc (.cells (.int .i64 (d.wet[k].1 : Int) :: vals d.wet[k].2).toArray 117)) := HCk.out.alloc _
        have hb1 : (wr.alloc (.cells (.int .i64 (d.wet[k].1 : Int) :: vals d.wet[k].2).toArray 117)).heap[sb]? = some (.cells (vals (curTo d k i)).toArray 115 (0, 0)) := (Below.heap_alloc _ _ _ hsw).trans Hb.out
        go_roundw
        case rel =>
          have he : i = d.wet[k].1 := by
            have h : ((d.wet[k].1 : Int) == (i : Int)) = true := by assumption
            have := eq_of_beq h
            omega
          refine ⟨k + 1, by omega, by go_num, ?_, Chg.setCells _ _ _ hC1 (.inr (by rw [Hsb.out]; exact Nat.le_refl _))⟩
          rw [curTo_succ d k i hlt, if_pos he]
          exact setCells_whole hb1 _ (by rw [List.size_toArray, vals_length, vals_length, hp64, Hc2.out])
        case measure => simp [intOf]; omega
      · have hC1 : Chg [] w (wr.alloc (.cells (.int .i64 (d.wet[k].1 : Int) :: vals d.wet[k].2).toArray 117)) := HCk.out.alloc _
        have hb1 : (wr.alloc (.cells (.int .i64 (d.wet[k].1 : Int) :: vals d.wet[k].2).toArray 117)).heap[sb]? = some (.cells (vals (curTo d k i)).toArray 115 (0, 0)) := (Below.heap_alloc _ _ _ hsw).trans Hb.out
        go_roundw
        case rel =>
          have he : ¬ i = d.wet[k].1 := by
            have h : ((d.wet[k].1 : Int) == (i : Int)) = false := by assumption
            have := ne_of_beq_false h
            omega
          refine ⟨k + 1, by omega, by go_num, ?_, hC1⟩
          rw [curTo_succ d k i hlt, if_neg he]
          exact hb1
        case measure => simp [intOf]; omega
    · go_wp2
      go_ret2
      refine ⟨sb, by rw [Hsb.out]; exact Nat.le_refl _, rfl, ?_, HCk.out⟩
      rw [← curTo_all d k i (by omega)]
      exact Hb.out

/-- Read: a sector, as it was written last. -/
theorem read_spec (b : Nat) (m : DMem) (d : Dsk) (i : Nat) (w : World) (h : DiskAt w b m d) (hi : i < d.n) (hwl : d.wet.length < 1000000) :
    Calls Tryd.prog 20 #[.pointer (some ⟨b, 0, none⟩), .int .i64 i] w fun e w' =>
      (d.off = true ∧ e = .returned (.tuple #[.slice none 0 0, .int .i64 9]) ∧ w = w') ∨ (d.off = false ∧ ReadPost (d.cur i) w e w') := by
  cases hoff : d.off with
  | true => exact (read_off_spec b m d i w h hi hoff).mono fun _ _ h => .inl ⟨rfl, h⟩
  | false => exact (read_on_spec b m d i w h hi hoff hwl).mono fun _ _ h => .inr ⟨rfl, h⟩

end Go.Proofs.YtaacejpienbkgaaDoor
