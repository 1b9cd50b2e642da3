/- The disk's keep, Flush and Crash, walked. -/
import Derived.Test.YtaacejpienbkgaaDoorDisk2
namespace Go.Proofs.YtaacejpienbkgaaDoor
open Go.RowKit

theorem keepOf_append (wants : Nat → Bool) (l1 l2 : List (Nat × Bytes)) : ∀ (k : Nat) (safe : Nat → Bytes), Dsk.keepOf safe wants k (l1 ++ l2) = Dsk.keepOf (Dsk.keepOf safe wants k l1) wants (k + l1.length) l2 := by
  induction l1 with
  | nil => intro k safe; simp [Dsk.keepOf]
  | cons x r ih =>
    obtain ⟨a, p⟩ := x
    intro k safe
    funext j
    simp only [List.cons_append, Dsk.keepOf, ih, List.length_cons]
    rw [show k + 1 + r.length = k + (r.length + 1) by omega]

/-- What is safe behind the first k writes. -/
def kept (d : Dsk) (wants : Nat → Bool) (k : Nat) : Nat → Bytes := Dsk.keepOf d.safe wants 0 (d.wet.take k)
theorem kept_zero (d : Dsk) (wants : Nat → Bool) : kept d wants 0 = d.safe := by unfold kept; funext j; simp [Dsk.keepOf]
theorem kept_succ (d : Dsk) (wants : Nat → Bool) (k : Nat) (hk : k < d.wet.length) :
    kept d wants (k + 1) = if wants k then (fun j => if j = d.wet[k].1 then d.wet[k].2 else kept d wants k j) else kept d wants k := by
  unfold kept
  rw [List.take_succ_eq_append_getElem hk, keepOf_append]
  funext j
  have e : (d.wet.take k).length = k := by simp; omega
  rw [e, Nat.zero_add]
  cases h : wants k <;> simp [Dsk.keepOf, h]
theorem kept_all (d : Dsk) (wants : Nat → Bool) (k : Nat) (hk : d.wet.length ≤ k) : kept d wants k = Dsk.keepOf d.safe wants 0 d.wet := by
  unfold kept; rw [List.take_of_length_le hk]
theorem kept_len (d : Dsk) (wants : Nat → Bool) (h : d.Ok) : ∀ (k : Nat) (j : Nat), (kept d wants k j).length = 64
  | 0, j => by rw [kept_zero]; exact h.safe j
  | k + 1, j => by
    by_cases hk : k < d.wet.length
    · rw [kept_succ d wants k hk]
      split
      · dsimp only
        split
        · exact (h.wet _ (List.getElem_mem hk)).2
        · exact kept_len d wants h k j
      · exact kept_len d wants h k j
    · have e : kept d wants (k + 1) = kept d wants k := by rw [kept_all d wants (k + 1) (by omega), kept_all d wants k (by omega)]
      rw [e]; exact kept_len d wants h k j

/-- One sector that is safe is another one. -/
theorem DiskAt.safe1 {w : World} {b : Nat} {m : DMem} {d : Dsk} (h : DiskAt w b m d) (a : Nat) (ha : a < d.n) (p : Bytes) (hp : p.length = 64) :
    DiskAt (w.setCells m.bs (a * 64) (vals p)) b m { d with safe := fun j => if j = a then p else d.safe j } ∧ Chg [m.bs] w (w.setCells m.bs (a * 64) (vals p)) := by
  have hC : Chg [m.bs] w (w.setCells m.bs (a * 64) (vals p)) := Chg.setCells _ _ _ (Chg.refl _ _) (.inl (by simp))
  refine ⟨⟨?_, ?_, fun i hi => ?_, fun i hi => ?_, ?_, h.ap1, h.ap2, h.ap3, ?_⟩, hC⟩
  · exact hC.heap h.head (by simpa using h.ap1)
  · exact Nat.lt_of_lt_of_le h.bslt hC.size
  · show World.rangeAt _ _ _ (vals (if i = a then p else d.safe i))
    by_cases hia : i = a
    · subst hia
      rw [if_pos rfl]
      exact World.rangeAt_setCells_same w m.bs (i * 64) (vals p) (by rw [vals_length, hp]; exact h.there i hi)
    · rw [if_neg hia]
      exact World.rangeAt_setCells_apart (h.safe i hi) m.bs (a * 64) (vals p) (.inr (by have := h.ok.safe i; rw [vals_length, vals_length, hp, this]; omega))
  · exact World.there_setCells (h.there i hi) _ _ _
  · refine hC.owns h.wet (fun k hk e => ?_)
    simp at e; subst e; exact h.ap3 hk
  · exact ⟨h.ok.n, fun i => by dsimp only; split; exact hp; exact h.ok.safe i, h.ok.wet, h.ok.left0, h.ok.left1⟩

theorem wcells_get (l : List (Nat × Bytes)) (hl : ∀ x ∈ l, x.2.length = 64) : ∀ (k j : Nat) (hk : k < l.length), j < 65 → (wcells l)[k * 65 + j]? = (wcell l[k])[j]? := by
  induction l with
  | nil => intro k j hk _; simp at hk
  | cons x r ih =>
    intro k j hk hj
    have hx : (wcell x).length = 65 := by simp [wcell, hl x (by simp)]
    have e : wcells (x :: r) = wcell x ++ wcells r := by simp [wcells]
    rw [e]
    cases k with
    | zero =>
      rw [Nat.zero_mul, Nat.zero_add, List.getElem?_append_left (by omega)]
      rfl
    | succ k =>
      rw [List.getElem?_append_right (by omega), hx, show (k + 1) * 65 + j - 65 = k * 65 + j by omega]
      exact ih (fun y hy => hl y (by simp [hy])) k j (by simpa using hk) hj

/-- The slice of what isn't safe. -/
theorem DiskAt.wetv {w : World} {b : Nat} {m : DMem} {d : Dsk} (h : DiskAt w b m d) : ∃ ao cap, m.wv = .slice ao d.wet.length cap ∧
    (0 < d.wet.length → ∃ g, ao = some ⟨g, 0, none⟩ ∧ ∀ k (hk : k < d.wet.length), w.rangeAt g (k * 65) (wcell d.wet[k])) := by
  rcases h.wet.2 with ⟨h1, h2⟩ | ⟨g, cap, cur, hv, _, hg, hn, _, hs, ht⟩
  · exact ⟨none, 0, by rw [h1, h2], fun h => by omega⟩
  · refine ⟨some ⟨g, 0, none⟩, cap, hv, fun _ => ⟨g, rfl, fun k hk j v hj => ?_⟩⟩
    have hlen : (wcell d.wet[k]).length = 65 := by simp [wcell, (h.ok.wet _ (List.getElem_mem hk)).2]
    have hj' : j < 65 := by rw [← hlen]; exact (List.getElem?_eq_some_iff.1 hj).1
    have := World.ownsRow.cells h.wet (g := g) (by rw [hv]; rfl) (k * 65 + j) v (by rw [wcells_get _ (fun x hx => (h.ok.wet x hx).2) k j hk hj']; exact hj)
    rwa [Addr.add_mid, Nat.zero_add] at this

theorem DiskAt.drewD {w : World} {b : Nat} {m : DMem} {d : Dsk} (h : DiskAt w b m d) : DiskAt w.drew b m d := h.chg ((Chg.refl [] w).drew) (by simp)
theorem DiskAt.upd {w : World} {b : Nat} {m : DMem} {d d' : Dsk} (h : DiskAt w b m d') (e : d' = d) : DiskAt w b m d := e ▸ h
/-- What isn't safe is lost. -/
theorem DiskAt.dry {w : World} {b : Nat} {m : DMem} {d : Dsk} (h : DiskAt w b m d) :
    DiskAt (w.setCell ⟨b, 1, none⟩ (.slice none 0 0)) b ⟨m.bs, .slice none 0 0⟩ { d with wet := [] } ∧ DStep b w m (w.setCell ⟨b, 1, none⟩ (.slice none 0 0)) ⟨m.bs, .slice none 0 0⟩ := by
  have hC : Chg [b] w (w.setCell ⟨b, 1, none⟩ (.slice none 0 0)) := (Chg.refl _ _).setCell (.inl (by simp)) _
  have hns : m.bs ∉ [b] := by simpa using h.ap1.symm
  refine ⟨⟨?_, ?_, fun i hi => ?_, fun i hi => ?_, World.ownsRow_nil _ _ _ _, h.ap1, by simp [Value.ownBlock], by simp [Value.ownBlock], ?_⟩, ?_, ?_⟩
  · rw [head_set _ h.head]; simp [dhead]
  · exact Nat.lt_of_lt_of_le h.bslt hC.size
  · exact hC.range (h.safe i hi) hns
  · exact hC.thereAt h.bslt (h.there i hi) hns
  · exact ⟨h.ok.n, h.ok.safe, fun x hx => by simp at hx, h.ok.left0, h.ok.left1⟩
  · exact hC.mono (fun k hk => by simp at hk; simp [DMem.foot, hk])
  · intro k hk; simp [DMem.foot, Value.ownBlock] at hk ⊢
    rcases hk with rfl | rfl
    · exact .inl (.inl rfl)
    · exact .inl (.inr (.inl rfl))

theorem flush1_any (k : Int) (w : World) : Calls Tryd.prog 67 #[.int .i64 k] w fun e w' => e = .returned (.bool true) ∧ w = w' := by
  go_enter Tryd.func67, Tryd.ntmps67
  go_wp2
  go_ret
  exact ⟨rfl, rfl⟩

set_option maxRecDepth 100000 in
set_option maxHeartbeats 1000000 in
theorem keep67_spec (b : Nat) (m : DMem) (d : Dsk) (w : World) (h : DiskAt w b m d) (wants : Nat → Bool) (hpred : ∀ (W : World) (k : Nat), k < d.wet.length → Chg (m.foot b) w W → Calls Tryd.prog 67 #[.int .i64 k] W (fun e w' => e = .returned (.bool (wants k)) ∧ Chg [] W w')) (hwl : d.wet.length < 1000000) :
    Calls Tryd.prog 66 #[.pointer (some ⟨b, 0, none⟩), .func (.func 67) #[] #[]] w fun e w' => e = .returned (.tuple #[]) ∧ ∃ m', DiskAt w' b m' (d.keep wants) ∧ DStep b w m w' m' := by
  obtain ⟨ao, cap, hwv, hwr⟩ := h.wetv
  have c1 := h.cells.2.1
  rw [hwv] at c1
  have H := Lib.hid h
  have Hwv := Lib.hid hwv
  have Hwr := Lib.hid hwr
  have HP := Lib.hid hpred
  have hdn := h.ok.n
  clear h hwv hwr hpred
  go_enter Tryd.func66, Tryd.ntmps66
  go_wp2
  go_loopw [5, 4, 11] (fun _ _ i wr => ∃ k : Nat, k ≤ d.wet.length ∧ i = .int .i64 k ∧ DiskAt wr b m { d with safe := kept d wants k } ∧ Chg (m.foot b) w wr) (fun _ _ i _ => d.wet.length - (intOf i).toNat)
  case atStart => exact ⟨0, Nat.zero_le _, rfl, by rw [kept_zero]; exact H.out, Chg.refl _ _⟩
  case round =>
    obtain ⟨k, hk, rfl, hDk, hCk⟩ := hrel
    by_cases hlt : k < d.wet.length
    · obtain ⟨g, rfl, hrg⟩ := Hwr.out (by omega)
      have hp64 : d.wet[k].2.length = 64 := (H.out.ok.wet _ (List.getElem_mem hlt)).2
      have ha : d.wet[k].1 < d.n := (H.out.ok.wet _ (List.getElem_mem hlt)).1
      have hrk : wr.rangeAt g (k * 65) (wcell d.wet[k]) := by
        obtain ⟨ao', cap', hwv', hwr'⟩ := hDk.wetv
        rw [Hwv.out] at hwv'
        cases hwv'
        obtain ⟨g', hg', hr'⟩ := hwr' (by show 0 < d.wet.length; omega)
        cases hg'
        exact hr' k hlt
      have hl65 : (wcell d.wet[k]).length = 65 := by simp [wcell, hp64]
      have HDk := Lib.hid hDk
      have HCk := Lib.hid hCk
      have Hrk := Lib.hid hrk
      clear hDk hCk hrk hrg
      cases hwk : wants k with
      | true =>
        have Hwk := Lib.hid hwk
        clear hwk
        go_wp2_with (first | (refine wpList_load_mid rfl 117 (.tmp 14) rfl g (k * 65) (by rfl) (wcell d.wet[k]) _ Hrk.out Tryd.underlying117 rfl (by rw [size117, hl65]) ?_) | (refine wpList_store_new rfl 117 (.tmp 5) (.tmp 15) rfl _ _ rfl 117 _ _ (wcell d.wet[k]).toArray rfl (by rfl) rfl (by rw [Tryd.zeroCells117_size, List.size_toArray, hl65]) (by rw [size117, List.size_toArray, hl65]) (all_wcell _ _) ?_) | (go_at_call 67; refine (HP.out _ k hlt ?hcw).mono ?_; rotate_left 1; rintro e w1 ⟨he, hCw⟩; rw [Hwk.out] at he; subst he))
        case hcw => exact HCk.out.alloc _
        have hC0 : Chg [] wr w1 := ((Chg.refl [] wr).alloc _).trans hCw
        have HD1 : Hid (DiskAt w1 b m { d with safe := kept d wants k }) := Lib.hid (HDk.out.chg hC0 (by simp))
        have hblt : b < wr.heap.size := HDk.out.blt
        have hnew : w1.heap[wr.heap.size]? = some (.cells (wcell d.wet[k]).toArray 117 (0, 0)) := hCw.heap (heap_alloc_new _ _) (by simp)
        have Hnew := Lib.hid hnew
        have HC0 := Lib.hid hC0
        clear hnew hC0 hCw
        have c0 := HD1.out.cells.1
        obtain ⟨nb, hnb⟩ : ∃ nb, nb = wr.heap.size := ⟨_, rfl⟩
        rw [← hnb]
        have n0 : w1.cell? ⟨nb, 0, none⟩ = some (.int .i64 (d.wet[k].1 : Int)) := by rw [hnb, cell_of_row _ _ _ _ _ _ Hnew.out]; rfl
        have n1 : w1.rangeAt nb 1 (vals d.wet[k].2) := by
          intro j v hv
          rw [hnb, cell_of_row _ _ _ _ _ _ Hnew.out, Nat.add_comm]
          simpa [wcell] using hv
        clear hnb
        refine wp_region_keys [(9, fun W => W.cell? ⟨b, 0, none⟩ = some (.slice (some ⟨m.bs, 0, none⟩) d.n d.n)), (9, fun W => W.cell? ⟨nb, 0, none⟩ = some (.int .i64 (d.wet[k].1 : Int))), (9, fun W => W.rangeAt nb 1 (vals d.wet[k].2))] (by kernel_rfl) ⟨fun _ => c0, fun _ => n0, fun _ => n1, trivial⟩ ?_
        refine kTake (i := 0) (v := ?_) rfl (by kernel_rfl) (by kernel_rfl) (some 19) rfl (fun _ _ _ h => h) (Or.inl ⟨by rfl, ?_⟩) ?_
        rotate_left 1
        · (intro w; go_simp; try rfl)
        simp only [Act.put, List.setIfInBounds_toArray, List.set_cons_zero, List.set_cons_succ]
        refine kTake (i := 1) (v := ?_) rfl (by kernel_rfl) (by kernel_rfl) (some 20) rfl (fun _ _ _ h => h) (Or.inl ⟨by rfl, ?_⟩) ?_
        rotate_left 1
        · (intro w; go_simp; try rfl)
        simp only [Act.put, List.setIfInBounds_toArray, List.set_cons_zero, List.set_cons_succ]
        refine kTake (i := 2) (v := ?_) rfl (by kernel_rfl) (by kernel_rfl) (some 21) rfl (fun _ _ _ h => h) (Or.inl ⟨by rfl, ?_⟩) ?_
        rotate_left 1
        · (intro w; go_simp; try rfl)
        simp only [Act.put, List.setIfInBounds_toArray, List.set_cons_zero, List.set_cons_succ]
        refine kLoad (i := 3) 9 _ (v := ?_) rfl (by kernel_rfl) (by kernel_rfl) (.head _) (some 22) rfl (fun _ _ _ h => h) (Or.inl ⟨by rfl, ?_⟩) ?_
        rotate_left 1
        · (intro w hT; go_simp; try rfl)
        simp only [Act.put, List.setIfInBounds_toArray, List.set_cons_zero, List.set_cons_succ]
        refine kTake (i := 4) (v := ?_) rfl (by kernel_rfl) (by kernel_rfl) (some 23) rfl (fun _ _ _ h => h) (Or.inl ⟨by rfl, ?_⟩) ?_
        rotate_left 1
        · (intro w; go_simp; try rfl)
        simp only [Act.put, List.setIfInBounds_toArray, List.set_cons_zero, List.set_cons_succ]
        refine kLoad (i := 5) 9 _ (v := ?_) rfl (by kernel_rfl) (by kernel_rfl) (.tail _ (.head _)) (some 24) rfl (fun _ _ _ h => h) (Or.inl ⟨by rfl, ?_⟩) ?_
        rotate_left 1
        · (intro w hT; go_simp; try rfl)
        simp only [Act.put, List.setIfInBounds_toArray, List.set_cons_zero, List.set_cons_succ]
        refine kTake (i := 6) (v := ?_) rfl (by kernel_rfl) (by kernel_rfl) (some 25) rfl (fun _ _ _ h => h) (Or.inl ⟨by rfl, ?_⟩) ?_
        rotate_left 1
        · (intro w; go_simp; try rfl)
        simp only [Act.put, List.setIfInBounds_toArray, List.set_cons_zero, List.set_cons_succ]
        refine kLoad (i := 7) 9 _ (v := .agg (vals d.wet[k].2).toArray) rfl (by kernel_rfl) (by kernel_rfl) (.tail _ (.tail _ (.head _))) (some 26) rfl (fun _ _ _ h => h) (yieldsIf_load_mid (by rfl) 115 (.tmp 25) rfl nb 1 (by rfl) _ _ (fun _ h => h) Tryd.underlying115 rfl (by rw [size115, vals_length, hp64])) ?_
        simp only [Act.put, List.setIfInBounds_toArray, List.set_cons_zero, List.set_cons_succ]
        refine kTake (i := 8) (v := ?_) rfl (by kernel_rfl) (by kernel_rfl) (some 27) rfl (fun _ _ _ h => h) (Or.inl ⟨by rfl, ?_⟩) ?_
        rotate_left 1
        · (intro w; go_simp; try rfl)
        simp only [Act.put, List.setIfInBounds_toArray, List.set_cons_zero, List.set_cons_succ]
        refine kOnly (i := 9) (oi := { dst := none, op := (Go.Op.store 115 (Go.Operand.tmp 27) (Go.Operand.tmp 26)), type := 0, pos := "disk.go:116", after := #[{ on := 8, ground := Go.Ground.data }, { on := 7, ground := Go.Ground.data }, { on := 0, ground := Go.Ground.phase }, { on := 1, ground := Go.Ground.phase }, { on := 2, ground := Go.Ground.phase }, { on := 3, ground := Go.Ground.phase }, { on := 4, ground := Go.Ground.phase }, { on := 5, ground := Go.Ground.phase }, { on := 6, ground := Go.Ground.phase }, { on := 7, ground := Go.Ground.phase }], guard := none }) (by kernel_rfl) rfl (by rfl) (fun K hK => ?_)
        refine wp_store_mid 115 (.tmp 27) (.tmp 26) rfl m.bs (d.wet[k].1 * 64) _ (by rfl) (by rfl) ?there (by rw [size115, List.size_toArray, vals_length, hp64]) (all_oneCell_toArray (oneCell_vals _)) ?_
        case there => rw [List.size_toArray, vals_length, hp64]; exact (World.there_drew _ _ _ _).2 (HD1.out.there _ ha)
        refine hK _ _ ⟨fun h => absurd h (by decide), fun h => absurd h (by decide), fun h => absurd h (by decide), trivial⟩ ?_; clear hK K
        refine kDone (by kernel_rfl) ?_
        go_wp2
        go_roundw
        case rel =>
          have hs1 := HD1.out.drewD.safe1 d.wet[k].1 ha d.wet[k].2 hp64
          refine ⟨k + 1, by omega, by go_num, ?_, ?_⟩
          · refine hs1.1.upd ?_
            rw [kept_succ d wants k hlt, Hwk.out]
            rfl
          · exact (((HCk.out.then0 HC0.out).drew).step hs1.2 (fun x hx => .inl (by simp at hx; simp [DMem.foot, hx])))
        case measure => simp [intOf]; omega
      | false =>
        have Hwk := Lib.hid hwk
        clear hwk
        go_wp2_with (first | (refine wpList_load_mid rfl 117 (.tmp 14) rfl g (k * 65) (by rfl) (wcell d.wet[k]) _ Hrk.out Tryd.underlying117 rfl (by rw [size117, hl65]) ?_) | (refine wpList_store_new rfl 117 (.tmp 5) (.tmp 15) rfl _ _ rfl 117 _ _ (wcell d.wet[k]).toArray rfl (by rfl) rfl (by rw [Tryd.zeroCells117_size, List.size_toArray, hl65]) (by rw [size117, List.size_toArray, hl65]) (all_wcell _ _) ?_) | (go_at_call 67; refine (HP.out _ k hlt ?hcw).mono ?_; rotate_left 1; rintro e w1 ⟨he, hCw⟩; rw [Hwk.out] at he; subst he))
        case hcw => exact HCk.out.alloc _
        have hC0 : Chg [] wr w1 := ((Chg.refl [] wr).alloc _).trans hCw
        have HD1 : Hid (DiskAt w1 b m { d with safe := kept d wants k }) := Lib.hid (HDk.out.chg hC0 (by simp))
        have hblt : b < wr.heap.size := HDk.out.blt
        have hnew : w1.heap[wr.heap.size]? = some (.cells (wcell d.wet[k]).toArray 117 (0, 0)) := hCw.heap (heap_alloc_new _ _) (by simp)
        have Hnew := Lib.hid hnew
        have HC0 := Lib.hid hC0
        clear hnew hC0 hCw
        go_roundw
        case rel =>
          refine ⟨k + 1, by omega, by go_num, ?_, HCk.out.then0 HC0.out⟩
          refine HD1.out.upd ?_
          rw [kept_succ d wants k hlt, Hwk.out]
          rfl
        case measure => simp [intOf]; omega
    · have c1' := hDk.cells.2.1
      have f1' := hDk.free 1
      have HDk := Lib.hid hDk
      have HCk := Lib.hid hCk
      clear hDk hCk
      go_wp2
      go_end0
      have e : d.keep wants = { d with safe := kept d wants k, wet := [] } := by unfold Dsk.keep; rw [kept_all d wants k (by omega)]
      obtain ⟨hD, hS⟩ := HDk.out.dry
      exact ⟨rfl, _, by rw [e]; exact hD, DStep.trans (w1 := wr) (m1 := m) ⟨HCk.out, fun _ h => .inl h⟩ hS⟩

set_option maxRecDepth 100000 in
set_option maxHeartbeats 1000000 in
theorem keep76_spec (b : Nat) (m : DMem) (d : Dsk) (w : World) (h : DiskAt w b m d) (wants : Nat → Bool) (mb : Nat) (hpred : ∀ (W : World) (k : Nat), k < d.wet.length → Chg (m.foot b) w W → Calls Tryd.prog 76 #[.int .i64 k, .pointer (some ⟨mb, 0, none⟩)] W (fun e w' => e = .returned (.bool (wants k)) ∧ Chg [] W w')) (hwl : d.wet.length < 1000000) :
    Calls Tryd.prog 66 #[.pointer (some ⟨b, 0, none⟩), .func (.func 76) #[] #[.pointer (some ⟨mb, 0, none⟩)]] w fun e w' => e = .returned (.tuple #[]) ∧ ∃ m', DiskAt w' b m' (d.keep wants) ∧ DStep b w m w' m' := by
  obtain ⟨ao, cap, hwv, hwr⟩ := h.wetv
  have c1 := h.cells.2.1
  rw [hwv] at c1
  have H := Lib.hid h
  have Hwv := Lib.hid hwv
  have Hwr := Lib.hid hwr
  have HP := Lib.hid hpred
  have hdn := h.ok.n
  clear h hwv hwr hpred
  go_enter Tryd.func66, Tryd.ntmps66
  go_wp2
  go_loopw [5, 4, 11] (fun _ _ i wr => ∃ k : Nat, k ≤ d.wet.length ∧ i = .int .i64 k ∧ DiskAt wr b m { d with safe := kept d wants k } ∧ Chg (m.foot b) w wr) (fun _ _ i _ => d.wet.length - (intOf i).toNat)
  case atStart => exact ⟨0, Nat.zero_le _, rfl, by rw [kept_zero]; exact H.out, Chg.refl _ _⟩
  case round =>
    obtain ⟨k, hk, rfl, hDk, hCk⟩ := hrel
    by_cases hlt : k < d.wet.length
    · obtain ⟨g, rfl, hrg⟩ := Hwr.out (by omega)
      have hp64 : d.wet[k].2.length = 64 := (H.out.ok.wet _ (List.getElem_mem hlt)).2
      have ha : d.wet[k].1 < d.n := (H.out.ok.wet _ (List.getElem_mem hlt)).1
      have hrk : wr.rangeAt g (k * 65) (wcell d.wet[k]) := by
        obtain ⟨ao', cap', hwv', hwr'⟩ := hDk.wetv
        rw [Hwv.out] at hwv'
        cases hwv'
        obtain ⟨g', hg', hr'⟩ := hwr' (by show 0 < d.wet.length; omega)
        cases hg'
        exact hr' k hlt
      have hl65 : (wcell d.wet[k]).length = 65 := by simp [wcell, hp64]
      have HDk := Lib.hid hDk
      have HCk := Lib.hid hCk
      have Hrk := Lib.hid hrk
      clear hDk hCk hrk hrg
      cases hwk : wants k with
      | true =>
        have Hwk := Lib.hid hwk
        clear hwk
        go_wp2_with (first | (refine wpList_load_mid rfl 117 (.tmp 14) rfl g (k * 65) (by rfl) (wcell d.wet[k]) _ Hrk.out Tryd.underlying117 rfl (by rw [size117, hl65]) ?_) | (refine wpList_store_new rfl 117 (.tmp 5) (.tmp 15) rfl _ _ rfl 117 _ _ (wcell d.wet[k]).toArray rfl (by rfl) rfl (by rw [Tryd.zeroCells117_size, List.size_toArray, hl65]) (by rw [size117, List.size_toArray, hl65]) (all_wcell _ _) ?_) | (go_at_call 76; refine (HP.out _ k hlt ?hcw).mono ?_; rotate_left 1; rintro e w1 ⟨he, hCw⟩; rw [Hwk.out] at he; subst he))
        case hcw => exact HCk.out.alloc _
        have hC0 : Chg [] wr w1 := ((Chg.refl [] wr).alloc _).trans hCw
        have HD1 : Hid (DiskAt w1 b m { d with safe := kept d wants k }) := Lib.hid (HDk.out.chg hC0 (by simp))
        have hblt : b < wr.heap.size := HDk.out.blt
        have hnew : w1.heap[wr.heap.size]? = some (.cells (wcell d.wet[k]).toArray 117 (0, 0)) := hCw.heap (heap_alloc_new _ _) (by simp)
        have Hnew := Lib.hid hnew
        have HC0 := Lib.hid hC0
        clear hnew hC0 hCw
        have c0 := HD1.out.cells.1
        obtain ⟨nb, hnb⟩ : ∃ nb, nb = wr.heap.size := ⟨_, rfl⟩
        rw [← hnb]
        have n0 : w1.cell? ⟨nb, 0, none⟩ = some (.int .i64 (d.wet[k].1 : Int)) := by rw [hnb, cell_of_row _ _ _ _ _ _ Hnew.out]; rfl
        have n1 : w1.rangeAt nb 1 (vals d.wet[k].2) := by
          intro j v hv
          rw [hnb, cell_of_row _ _ _ _ _ _ Hnew.out, Nat.add_comm]
          simpa [wcell] using hv
        clear hnb
        refine wp_region_keys [(9, fun W => W.cell? ⟨b, 0, none⟩ = some (.slice (some ⟨m.bs, 0, none⟩) d.n d.n)), (9, fun W => W.cell? ⟨nb, 0, none⟩ = some (.int .i64 (d.wet[k].1 : Int))), (9, fun W => W.rangeAt nb 1 (vals d.wet[k].2))] (by kernel_rfl) ⟨fun _ => c0, fun _ => n0, fun _ => n1, trivial⟩ ?_
        refine kTake (i := 0) (v := ?_) rfl (by kernel_rfl) (by kernel_rfl) (some 19) rfl (fun _ _ _ h => h) (Or.inl ⟨by rfl, ?_⟩) ?_
        rotate_left 1
        · (intro w; go_simp; try rfl)
        simp only [Act.put, List.setIfInBounds_toArray, List.set_cons_zero, List.set_cons_succ]
        refine kTake (i := 1) (v := ?_) rfl (by kernel_rfl) (by kernel_rfl) (some 20) rfl (fun _ _ _ h => h) (Or.inl ⟨by rfl, ?_⟩) ?_
        rotate_left 1
        · (intro w; go_simp; try rfl)
        simp only [Act.put, List.setIfInBounds_toArray, List.set_cons_zero, List.set_cons_succ]
        refine kTake (i := 2) (v := ?_) rfl (by kernel_rfl) (by kernel_rfl) (some 21) rfl (fun _ _ _ h => h) (Or.inl ⟨by rfl, ?_⟩) ?_
        rotate_left 1
        · (intro w; go_simp; try rfl)
        simp only [Act.put, List.setIfInBounds_toArray, List.set_cons_zero, List.set_cons_succ]
        refine kLoad (i := 3) 9 _ (v := ?_) rfl (by kernel_rfl) (by kernel_rfl) (.head _) (some 22) rfl (fun _ _ _ h => h) (Or.inl ⟨by rfl, ?_⟩) ?_
        rotate_left 1
        · (intro w hT; go_simp; try rfl)
        simp only [Act.put, List.setIfInBounds_toArray, List.set_cons_zero, List.set_cons_succ]
        refine kTake (i := 4) (v := ?_) rfl (by kernel_rfl) (by kernel_rfl) (some 23) rfl (fun _ _ _ h => h) (Or.inl ⟨by rfl, ?_⟩) ?_
        rotate_left 1
        · (intro w; go_simp; try rfl)
        simp only [Act.put, List.setIfInBounds_toArray, List.set_cons_zero, List.set_cons_succ]
        refine kLoad (i := 5) 9 _ (v := ?_) rfl (by kernel_rfl) (by kernel_rfl) (.tail _ (.head _)) (some 24) rfl (fun _ _ _ h => h) (Or.inl ⟨by rfl, ?_⟩) ?_
        rotate_left 1
        · (intro w hT; go_simp; try rfl)
        simp only [Act.put, List.setIfInBounds_toArray, List.set_cons_zero, List.set_cons_succ]
        refine kTake (i := 6) (v := ?_) rfl (by kernel_rfl) (by kernel_rfl) (some 25) rfl (fun _ _ _ h => h) (Or.inl ⟨by rfl, ?_⟩) ?_
        rotate_left 1
        · (intro w; go_simp; try rfl)
        simp only [Act.put, List.setIfInBounds_toArray, List.set_cons_zero, List.set_cons_succ]
        refine kLoad (i := 7) 9 _ (v := .agg (vals d.wet[k].2).toArray) rfl (by kernel_rfl) (by kernel_rfl) (.tail _ (.tail _ (.head _))) (some 26) rfl (fun _ _ _ h => h) (yieldsIf_load_mid (by rfl) 115 (.tmp 25) rfl nb 1 (by rfl) _ _ (fun _ h => h) Tryd.underlying115 rfl (by rw [size115, vals_length, hp64])) ?_
        simp only [Act.put, List.setIfInBounds_toArray, List.set_cons_zero, List.set_cons_succ]
        refine kTake (i := 8) (v := ?_) rfl (by kernel_rfl) (by kernel_rfl) (some 27) rfl (fun _ _ _ h => h) (Or.inl ⟨by rfl, ?_⟩) ?_
        rotate_left 1
        · (intro w; go_simp; try rfl)
        simp only [Act.put, List.setIfInBounds_toArray, List.set_cons_zero, List.set_cons_succ]
        refine kOnly (i := 9) (oi := { dst := none, op := (Go.Op.store 115 (Go.Operand.tmp 27) (Go.Operand.tmp 26)), type := 0, pos := "disk.go:116", after := #[{ on := 8, ground := Go.Ground.data }, { on := 7, ground := Go.Ground.data }, { on := 0, ground := Go.Ground.phase }, { on := 1, ground := Go.Ground.phase }, { on := 2, ground := Go.Ground.phase }, { on := 3, ground := Go.Ground.phase }, { on := 4, ground := Go.Ground.phase }, { on := 5, ground := Go.Ground.phase }, { on := 6, ground := Go.Ground.phase }, { on := 7, ground := Go.Ground.phase }], guard := none }) (by kernel_rfl) rfl (by rfl) (fun K hK => ?_)
        refine wp_store_mid 115 (.tmp 27) (.tmp 26) rfl m.bs (d.wet[k].1 * 64) _ (by rfl) (by rfl) ?there (by rw [size115, List.size_toArray, vals_length, hp64]) (all_oneCell_toArray (oneCell_vals _)) ?_
        case there => rw [List.size_toArray, vals_length, hp64]; exact (World.there_drew _ _ _ _).2 (HD1.out.there _ ha)
        refine hK _ _ ⟨fun h => absurd h (by decide), fun h => absurd h (by decide), fun h => absurd h (by decide), trivial⟩ ?_; clear hK K
        refine kDone (by kernel_rfl) ?_
        go_wp2
        go_roundw
        case rel =>
          have hs1 := HD1.out.drewD.safe1 d.wet[k].1 ha d.wet[k].2 hp64
          refine ⟨k + 1, by omega, by go_num, ?_, ?_⟩
          · refine hs1.1.upd ?_
            rw [kept_succ d wants k hlt, Hwk.out]
            rfl
          · exact (((HCk.out.then0 HC0.out).drew).step hs1.2 (fun x hx => .inl (by simp at hx; simp [DMem.foot, hx])))
        case measure => simp [intOf]; omega
      | false =>
        have Hwk := Lib.hid hwk
        clear hwk
        go_wp2_with (first | (refine wpList_load_mid rfl 117 (.tmp 14) rfl g (k * 65) (by rfl) (wcell d.wet[k]) _ Hrk.out Tryd.underlying117 rfl (by rw [size117, hl65]) ?_) | (refine wpList_store_new rfl 117 (.tmp 5) (.tmp 15) rfl _ _ rfl 117 _ _ (wcell d.wet[k]).toArray rfl (by rfl) rfl (by rw [Tryd.zeroCells117_size, List.size_toArray, hl65]) (by rw [size117, List.size_toArray, hl65]) (all_wcell _ _) ?_) | (go_at_call 76; refine (HP.out _ k hlt ?hcw).mono ?_; rotate_left 1; rintro e w1 ⟨he, hCw⟩; rw [Hwk.out] at he; subst he))
        case hcw => exact HCk.out.alloc _
        have hC0 : Chg [] wr w1 := ((Chg.refl [] wr).alloc _).trans hCw
        have HD1 : Hid (DiskAt w1 b m { d with safe := kept d wants k }) := Lib.hid (HDk.out.chg hC0 (by simp))
        have hblt : b < wr.heap.size := HDk.out.blt
        have hnew : w1.heap[wr.heap.size]? = some (.cells (wcell d.wet[k]).toArray 117 (0, 0)) := hCw.heap (heap_alloc_new _ _) (by simp)
        have Hnew := Lib.hid hnew
        have HC0 := Lib.hid hC0
        clear hnew hC0 hCw
        go_roundw
        case rel =>
          refine ⟨k + 1, by omega, by go_num, ?_, HCk.out.then0 HC0.out⟩
          refine HD1.out.upd ?_
          rw [kept_succ d wants k hlt, Hwk.out]
          rfl
        case measure => simp [intOf]; omega
    · have c1' := hDk.cells.2.1
      have f1' := hDk.free 1
      have HDk := Lib.hid hDk
      have HCk := Lib.hid hCk
      clear hDk hCk
      go_wp2
      go_end0
      have e : d.keep wants = { d with safe := kept d wants k, wet := [] } := by unfold Dsk.keep; rw [kept_all d wants k (by omega)]
      obtain ⟨hD, hS⟩ := HDk.out.dry
      exact ⟨rfl, _, by rw [e]; exact hD, DStep.trans (w1 := wr) (m1 := m) ⟨HCk.out, fun _ h => .inl h⟩ hS⟩

theorem flush1_keep (d : Dsk) (F : List Nat) (w : World) : ∀ (W : World) (k : Nat), k < d.wet.length → Chg F w W → Calls Tryd.prog 67 #[.int .i64 k] W (fun e w' => e = .returned (.bool ((fun _ => true : Nat → Bool) k)) ∧ Chg [] W w') :=
  fun W k _ _ => (flush1_any k W).mono fun _ _ ⟨he, hw⟩ => ⟨he, hw ▸ Chg.refl _ _⟩

def FlushPost (b : Nat) (m : DMem) (d : Dsk) (w : World) (e : Ending) (w' : World) : Prop :=
  e = .returned (.int .i64 d.flush.2) ∧ ∃ m', DiskAt w' b m' d.flush.1 ∧ DStep b w m w' m'

set_option maxHeartbeats 400000 in
theorem flush_spec (b : Nat) (m : DMem) (d : Dsk) (w : World) (h : DiskAt w b m d) (hwl : d.wet.length < 1000000) :
    Calls Tryd.prog 30 #[.pointer (some ⟨b, 0, none⟩)] w (FlushPost b m d w) := by
  have H := Lib.hid h
  clear h
  have hwl' : d.act.1.wet.length < 1000000 := by rw [act_wet]; exact hwl
  have Hwl := Lib.hid hwl'
  clear hwl hwl'
  cases hact : d.act.2 with
  | true =>
    have Hact := Lib.hid hact
    clear hact
    go_enter Tryd.func30, Tryd.ntmps30
    go_wp2_with (first | (go_at_call 65; refine (act_spec b m d _ H.out).mono ?_; rintro e w1 ⟨he, hD1, hC1⟩; rw [Hact.out] at he; subst he) | (go_at_call 66; refine (keep67_spec b m d.act.1 _ hD1 (fun _ => true) (flush1_keep _ _ _) Hwl.out).mono ?_; rintro e w2 ⟨rfl, m2, hD2, hS2⟩))
    go_ret
    have e : d.flush = (d.act.1.keep (fun _ => true), 0) := by simp [Dsk.flush, Hact.out]
    unfold FlushPost
    rw [e]
    exact ⟨rfl, m2, hD2, DStep.trans (w1 := w1) (m1 := m) ⟨hC1.mono (fun k hk => by simp at hk; simp [DMem.foot, hk]), fun _ h => .inl h⟩ hS2⟩
  | false =>
    have Hact := Lib.hid hact
    clear hact
    go_enter Tryd.func30, Tryd.ntmps30
    go_wp2_with (first | (go_at_call 65; refine (act_spec b m d _ H.out).mono ?_; rintro e w1 ⟨he, hD1, hC1⟩; rw [Hact.out] at he; subst he))
    go_ret
    have e : d.flush = (d.act.1, 9) := by simp [Dsk.flush, Hact.out]
    unfold FlushPost
    rw [e]
    exact ⟨rfl, m, hD1, hC1.mono (fun k hk => by simp at hk; simp [DMem.foot, hk]), fun _ h => .inl h⟩

end Go.Proofs.YtaacejpienbkgaaDoor
