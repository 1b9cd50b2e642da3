/- label's Make, walked. -/
import Derived.Test.YtaacejpienbkgaaDoorLab6
namespace Go.Proofs.YtaacejpienbkgaaDoor
open Go.RowKit

theorem findN_cases (nm : Bytes) : ∀ (l : List Rf) (j : Nat), findN nm l j = -1 ∧ (∀ r ∈ l, r.name ≠ nm) ∨ ∃ (k : Nat) (hk : k < l.length), findN nm l j = ((j + k : Nat) : Int) ∧ l[k].name = nm ∧ ∀ i (hi : i < k), (l[i]'(by omega)).name ≠ nm
  | [], j => .inl ⟨rfl, by simp⟩
  | x :: r, j => by
    unfold findN
    by_cases hx : x.name = nm
    · rw [if_pos hx]
      exact .inr ⟨0, by simp, by simp, hx, fun i hi => by omega⟩
    · rw [if_neg hx]
      rcases findN_cases nm r (j + 1) with ⟨h1, h2⟩ | ⟨k, hk, h1, h2, h3⟩
      · exact .inl ⟨h1, fun y hy => by
          rcases List.mem_cons.1 hy with rfl | hy
          · exact hx
          · exact h2 y hy⟩
      · refine .inr ⟨k + 1, by simpa using hk, by rw [h1]; congr 1; omega, h2, fun i hi => ?_⟩
        cases i with
        | zero => exact hx
        | succ i => exact h3 i (by omega)
theorem fd_cases (t : Tb) (nm : Bytes) : t.fd nm = -1 ∧ (∀ r ∈ t.l, r.name ≠ nm) ∨ ∃ (k : Nat) (hk : k < t.l.length), t.fd nm = (k : Int) ∧ t.l[k].name = nm := by
  rcases findN_cases nm t.l 0 with h | ⟨k, hk, h1, h2, _⟩
  · exact .inl h
  · exact .inr ⟨k, hk, by rw [Tb.fd, h1, Nat.zero_add], h2⟩
theorem find_any (t : Tb) (v : Value) (nm : Bytes) (tb jb b : Nat) (m : DMem) (w : World) (hv : v = str nm) (h : TbAt w tb jb b m t) :
    Calls Tryd.prog 63 #[.pointer (some ⟨tb, 0, none⟩), v] w fun e w' => e = .returned (.int .i64 (t.fd nm)) ∧ Chg [] w w' := by
  subst hv; exact find_spec t.l nm tb jb w h.tab
theorem twrite_at (tb jb b : Nat) (m : DMem) (t : Tb) (i : Nat) (x : Int) (r : Rf) (w : World) (hx : x = (i : Int)) (h : TbAt w tb jb b m t) (hi : i < 12) (hk : r.key.length = 32) (hnm : r.name.length ≤ 12) (hw : t.d.wet.length ≤ 900) (hnx : t.next < 999999999999) :
    Calls Tryd.prog 64 #[.pointer (some ⟨tb, 0, none⟩), .int .i64 x, .agg (rcells r).toArray] w (TPost tb jb b m (t.write i r) w) := by
  subst hx; exact twrite_spec tb jb b m t i r w h hi hk hnm hw hnx
theorem right_len {xs : Bytes} (h : rightB xs = true) : xs ≠ [] ∧ xs.length ≤ 12 := by
  unfold rightB at h
  simp only [Bool.and_eq_true, decide_eq_true_eq] at h
  exact h.1

theorem TPost.of {tb jb b : Nat} {m : DMem} {r : Tb × Int} {w w1 : World} {e : Ending} {w' : World} (hC : Chg [] w w1) (h : TPost tb jb b m r w1 e w') : TPost tb jb b m r w e w' :=
  ⟨h.1, h.2.elim fun m' hm => ⟨m', hm.1, TStep.of hC hm.2⟩⟩
theorem TPost.same {tb jb b : Nat} {m : DMem} {t : Tb} {w w' : World} (c : Int) (h : TbAt w tb jb b m t) (hC : Chg [] w w') : TPost tb jb b m (t, c) w (.returned (.int .i64 c)) w' :=
  ⟨rfl, m, h.chg0 hC, (TStep.refl tb jb b w m).then hC⟩

set_option maxRecDepth 100000 in
set_option maxHeartbeats 1000000 in
theorem make_spec (tb jb b : Nat) (m : DMem) (t : Tb) (r : Rf) (w : World) (h : TbAt w tb jb b m t) (hk : r.key.length = 32) (hw : t.d.wet.length ≤ 900) (hnx : t.next < 999999999999) :
    Calls Tryd.prog 28 #[.pointer (some ⟨tb, 0, none⟩), .agg (rcells r).toArray] w (TPost tb jb b m (t.make r) w) := by
  have H := Lib.hid h
  have Hk := Lib.hid hk
  have h00 : (rcells r)[0]? = some (.string ⟨r.name.toArray⟩) := rfl
  have hC : Chg [] w (w.alloc (.cells (rcells r).toArray 48)) := (Chg.refl [] w).alloc _
  have hrow : (w.alloc (.cells (rcells r).toArray 48)).rangeAt w.heap.size 0 (rcells r) := range_of_row (heap_alloc_new _ _)
  have HR := Lib.hid hrow
  have HC := Lib.hid hC
  have HB := Lib.hid (h.chg0 hC)
  have c0 : (w.alloc (.cells (rcells r).toArray 48)).cell? ⟨w.heap.size, 0, none⟩ = some (.string ⟨r.name.toArray⟩) := hrow 0 _ rfl
  have Hl := Lib.hid (rcells_length hk)
  clear h hk hrow hC
  cases hr : rightB r.name with
  | false =>
    have hm : t.make r = (t, 1) := by unfold Tb.make; rw [if_pos hr]
    rw [hm]
    have Hr := Lib.hid hr
    clear hr hm
    go_enter Tryd.func28, Tryd.ntmps28
    go_wp2_with (first
      | (go_at_call 25; refine (right_spec r.name _).mono ?_; rintro e w1 ⟨rfl, hC1⟩; rw [Hr.out]; replace HC := Lib.hid (HC.out.trans hC1); replace HB := Lib.hid (HB.out.chg0 hC1); clear hC1))
    go_ret
    exact TPost.same 1 H.out HC.out
  | true =>
    obtain ⟨hne, hnm⟩ := right_len hr
    have Hr := Lib.hid hr
    have Hne := Lib.hid hne
    clear hne
    rcases fd_cases t r.name with ⟨hf, hno⟩ | ⟨k, hk, hf, hkn⟩
    rotate_left 1
    · have hm : t.make r = (t, 3) := by unfold Tb.make; rw [if_neg (by rw [hr]; decide), if_pos (by rw [hf]; omega)]
      rw [hm]
      have Hf := Lib.hid hf
      clear hr hm hf hkn
      go_enter Tryd.func28, Tryd.ntmps28
      go_wp2_with (first
        | (go_at_call 25; refine (right_spec r.name _).mono ?_; rintro e w1 ⟨rfl, hC1⟩; rw [Hr.out]; replace HC := Lib.hid (HC.out.trans hC1); replace HB := Lib.hid (HB.out.chg0 hC1); replace c0 := hC1.cell c0 (by simp); clear hC1)
        | (go_at_call 63; refine (find_any t _ r.name tb jb b m _ (by rfl) HB.out).mono ?_; rintro e w2 ⟨rfl, hC2⟩; rw [Hf.out]; replace HC := Lib.hid (HC.out.trans hC2); clear hC2))
      go_ret
      exact TPost.same 3 H.out HC.out
    · have Hno := Lib.hid hno
      clear hno
      rcases fd_cases t [] with ⟨hg, hno2⟩ | ⟨k, hk, hg, hkn⟩
      · have hm : t.make r = (t, 4) := by unfold Tb.make; rw [if_neg (by rw [hr]; decide), if_neg (by rw [hf]; omega), if_pos (by rw [hg]; omega)]
        rw [hm]
        have Hf := Lib.hid hf
        have Hg := Lib.hid hg
        clear hr hm hf hg hno2
        go_enter Tryd.func28, Tryd.ntmps28
        go_wp2_with (first
          | (go_at_call 25; refine (right_spec r.name _).mono ?_; rintro e w1 ⟨rfl, hC1⟩; rw [Hr.out]; replace HC := Lib.hid (HC.out.trans hC1); replace HB := Lib.hid (HB.out.chg0 hC1); replace c0 := hC1.cell c0 (by simp); clear hC1)
          | (go_at_call 63; refine (find_any t _ _ tb jb b m _ (by rfl) HB.out).mono ?_; rintro e w2 ⟨rfl, hC2⟩; (first | rw [Hf.out] | rw [Hg.out]); replace HC := Lib.hid (HC.out.trans hC2); replace HB := Lib.hid (HB.out.chg0 hC2); replace c0 := hC2.cell c0 (by simp); clear hC2))
        go_ret
        exact TPost.same 4 H.out HC.out
      · have hm : t.make r = t.write k r := by unfold Tb.make; rw [if_neg (by rw [hr]; decide), if_neg (by rw [hf]; omega), if_neg (by rw [hg]; omega), hg]; rfl
        rw [hm]
        have hk12 : k < 12 := by rw [← H.out.tab.len]; exact hk
        have Hf := Lib.hid hf
        have Hg := Lib.hid hg
        clear hr hm hf hg hkn hk
        go_enter Tryd.func28, Tryd.ntmps28
        go_wp2_with (first
          | (go_at_call 25; refine (right_spec r.name _).mono ?_; rintro e w1 ⟨rfl, hC1⟩; rw [Hr.out]; replace HC := Lib.hid (HC.out.trans hC1); replace HB := Lib.hid (HB.out.chg0 hC1); replace c0 := hC1.cell c0 (by simp); replace HR := Lib.hid (hC1.range HR.out (by simp)); clear hC1)
          | (go_at_call 63; refine (find_any t _ _ tb jb b m _ (by rfl) HB.out).mono ?_; rintro e w2 ⟨rfl, hC2⟩; (first | rw [Hf.out] | rw [Hg.out]); replace HC := Lib.hid (HC.out.trans hC2); replace HB := Lib.hid (HB.out.chg0 hC2); replace c0 := hC2.cell c0 (by simp); replace HR := Lib.hid (hC2.range HR.out (by simp)); clear hC2))
        refine wp_region_keys [(4, fun W => W.rangeAt w.heap.size 0 (rcells r))] (by kernel_rfl) ⟨fun _ => HR.out, trivial⟩ ?_
        refine kTake (i := 0) (v := ?_) rfl (by kernel_rfl) (by kernel_rfl) (some 23) rfl (fun _ _ _ h => h) (Or.inl ⟨by rfl, ?_⟩) ?_
        rotate_left 1
        · (intro w; go_simp; try rfl)
        try simp only [Act.put, List.setIfInBounds_toArray, List.set_cons_zero, List.set_cons_succ]
        refine kTake (i := 1) (v := ?_) rfl (by kernel_rfl) (by kernel_rfl) (some 24) rfl (fun _ _ _ h => h) (Or.inl ⟨by rfl, ?_⟩) ?_
        rotate_left 1
        · (intro w; go_simp; try rfl)
        try simp only [Act.put, List.setIfInBounds_toArray, List.set_cons_zero, List.set_cons_succ]
        refine kLoad (i := 3) 4 _ (v := .agg (rcells r).toArray) rfl (by kernel_rfl) (by kernel_rfl) (.head _) (some 26) rfl (fun _ _ _ h => h) (yieldsIf_load_mid (by rfl) 48 (.tmp 3) rfl w.heap.size 0 (by rfl) _ _ (fun _ h => h) Tryd.underlying48 rfl (by rw [size48, Hl.out])) ?_
        try simp only [Act.put, List.setIfInBounds_toArray, List.set_cons_zero, List.set_cons_succ]
        refine kOnly (i := 2) (oi := { dst := (some 25), op := (Go.Op.call { callee := (Go.Callee.value (Go.Operand.func 63)), args := #[(Go.Operand.tmp 24), (Go.Operand.const (Go.Value.string { data := #[] }))], argTypes := #[43, 9] }), type := 3, pos := "label.go:115", after := #[{ on := 1, ground := Go.Ground.data }], guard := none }) (by kernel_rfl) rfl (by rfl) (fun K hK => ?_)
        go_simp; go_at_call 63; refine (find_any t _ _ tb jb b m _ (by rfl) (HB.out.chg0 (Chg.refl [] _).drew)).mono ?_; rintro e w3 ⟨rfl, hC3⟩; rw [Hg.out]
        replace hC3 := hC3.ofDrew
        replace HC := Lib.hid (HC.out.trans hC3); replace HB := Lib.hid (HB.out.chg0 hC3); replace HR := Lib.hid (hC3.range HR.out (by simp)); clear hC3
        refine hK _ _ ⟨fun _ => HR.out, trivial⟩ ?_; clear hK K
        try simp only [Act.put, List.setIfInBounds_toArray, List.set_cons_zero, List.set_cons_succ]
        refine kOnly (i := 4) (oi := { dst := (some 27), op := (Go.Op.call { callee := (Go.Callee.value (Go.Operand.func 64)), args := #[(Go.Operand.tmp 23), (Go.Operand.tmp 25), (Go.Operand.tmp 26)], argTypes := #[43, 3, 48] }), type := 30, pos := "label.go:115", after := #[{ on := 0, ground := Go.Ground.data }, { on := 2, ground := Go.Ground.data }, { on := 3, ground := Go.Ground.data }, { on := 2, ground := Go.Ground.chain }], guard := none }) (by kernel_rfl) rfl (by rfl) (fun K hK => ?_)
        go_simp; go_at_call 64; refine (twrite_at tb jb b m t k _ r _ rfl (HB.out.chg0 (by first | exact Chg.refl [] _ | exact (Chg.refl [] _).drew)) hk12 Hk.out hnm hw hnx).mono ?_
        rintro e w4 ⟨rfl, m4, hB4, hS4⟩
        have HB4 := Lib.hid hB4
        have HS4 := Lib.hid (TStep.of (by first | exact HC.out | exact HC.out.drew) hS4)
        refine hK _ _ ⟨fun h => absurd h (by decide), trivial⟩ ?_; clear hK K hB4 hS4
        try simp only [Act.put, List.setIfInBounds_toArray, List.set_cons_zero, List.set_cons_succ]
        refine kTake (i := 5) (v := ?_) rfl (by kernel_rfl) (by kernel_rfl) (some 4) rfl (fun _ _ _ h => h) (Or.inl ⟨by rfl, ?_⟩) ?_
        rotate_left 1
        · (intro w; go_simp; try rfl)
        try simp only [Act.put, List.setIfInBounds_toArray, List.set_cons_zero, List.set_cons_succ]
        refine kDone (by kernel_rfl) ?_
        go_wp2
        go_ret
        exact ⟨rfl, m4, HB4.out, HS4.out⟩

end Go.Proofs.YtaacejpienbkgaaDoor
