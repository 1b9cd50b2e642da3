/- label.pack, walked. -/
import Derived.Test.YtaacejpienbkgaaDoorLaws2
namespace Go.Proofs.YtaacejpienbkgaaDoor
open Go.RowKit

def hdr (r : Rf) : Bytes := [1, if r.fast then 1 else 0, by8 r.name.length]
def packP (r : Rf) : Bytes := hdr r ++ r.name ++ zeros (12 - r.name.length) ++ r.key
/-- A ref's sector. -/
def packB (r : Rf) : Bytes := if r.name = [] then [] else sealed (packP r)
theorem packP_length {r : Rf} (hk : r.key.length = 32) (hn : r.name.length ≤ 12) : (packP r).length = 47 := by simp [packP, hdr, hk]; omega

theorem own_ne {w : World} {base q : Nat} {v : Value} {xs : Bytes} {cs : Array Value} (h : OwnB w base v xs) (hq : w.heap[q]? = some (Obj.cells cs 48 (0, 0))) : v.ownBlock ≠ some q := by
  intro hp
  rcases h.2 with ⟨rfl, _⟩ | ⟨g, cap, cur, rfl, _, hg, _⟩
  · simp [Value.ownBlock] at hp
  · simp only [Value.ownBlock, Option.some.injEq] at hp
    subst hp
    rw [hq] at hg; cases hg

def PackPost (r : Rf) (w : World) (e : Ending) (w' : World) : Prop :=
  ∃ v, e = .returned v ∧ SlB w' v (packB r) ∧ Chg [] w w' ∧ ∀ k, v.ownBlock = some k → w.heap.size ≤ k

set_option maxRecDepth 100000 in
set_option maxHeartbeats 1000000 in
theorem pack_spec (r : Rf) (w : World) (hT : LinesAt w) (hk : r.key.length = 32) (hn : r.name.length ≤ 12) :
    Calls Tryd.prog 94 #[.agg (rcells r).toArray] w (PackPost r w) := by
  have HT := Lib.hid hT
  obtain ⟨pb, hpb⟩ : ∃ pb, pb = w.heap.size := ⟨_, rfl⟩
  obtain ⟨w1, hw1⟩ : ∃ w1, w1 = w.alloc (.cells (rcells r).toArray 48) := ⟨_, rfl⟩
  have hrow : w1.heap[pb]? = some (.cells (rcells r).toArray 48 (0, 0)) := by rw [hw1, hpb]; exact heap_alloc_new _ _
  have hl := rcells_length hk
  have hC1 : Chg [] w w1 := by rw [hw1]; exact (Chg.refl [] w).alloc _
  have c0 : w1.cell? ⟨pb, 0, none⟩ = some (str r.name) := by rw [cell_of_row _ _ _ _ _ _ hrow]; rfl
  have c33 : w1.cell? ⟨pb, 33, none⟩ = some (.bool r.fast) := by
    rw [cell_of_row _ _ _ _ _ _ hrow, List.getElem?_toArray]
    show (vals r.key ++ [Value.bool r.fast])[32]? = _
    rw [List.getElem?_append_right (by simp [hk])]
    simp [hk]
  have hkr : w1.rangeAt pb 1 (vals r.key) := by
    intro j v hv
    rw [cell_of_row _ _ _ _ _ _ hrow, List.getElem?_toArray, Nat.add_comm, show (rcells r)[j + 1]? = (vals r.key ++ [Value.bool r.fast])[j]? from rfl]
    have hj := (List.getElem?_eq_some_iff.1 hv).1
    rw [List.getElem?_append_left hj]; exact hv
  have hplt : pb < w1.heap.size := heap_lt hrow
  have h33 : (rcells r)[33]? = some (.bool r.fast) := by
    rw [cell_of_row _ _ _ _ _ _ hrow, List.getElem?_toArray] at c33
    exact c33
  have h00 : (rcells r)[0]? = some (.string ⟨r.name.toArray⟩) := rfl
  have hT1 : LinesAt w1 := HT.out.chg hC1 (by simp)
  unfold str at c0
  have HT1 := Lib.hid hT1
  have Hrow := Lib.hid hrow
  have HC1 := Lib.hid hC1
  have Hkr := Lib.hid hkr
  have Hk := Lib.hid hk
  have Hl := Lib.hid hl
  clear hT hrow hC1 hkr hk hl hT1
  have Hpb := Lib.hid hpb
  have Hw1 := Lib.hid hw1
  by_cases hne : r.name = []
  · have he : r.name.isEmpty = true := by rw [hne]; rfl
    have hp : packB r = [] := by rw [packB, if_pos hne]
    have Hp := Lib.hid hp
    clear hne hp
    rw [hw1, hpb] at c0
    clear hw1 hpb
    go_enter Tryd.func94, Tryd.ntmps94
    go_wp2
    go_ret
    refine ⟨.slice none 0 0, rfl, by rw [Hp.out]; exact SlB.nil _, by rw [← Hw1.out]; exact HC1.out, fun k hk => by simp [Value.ownBlock] at hk⟩
  · have he : r.name.isEmpty = false := by cases h : r.name with
      | nil => exact absurd h hne
      | cons x y => rfl
    have hp : packB r = sealed (packP r) := by rw [packB, if_neg hne]
    have Hp := Lib.hid hp
    clear hne hp
    cases hf : r.fast with
    | true =>
      rw [hf] at c33 h33
      rw [hw1] at c0 c33
      rw [hpb] at c0 c33
      clear hw1 hpb
      go_enter Tryd.func94, Tryd.ntmps94
      have hh : vals (hdr r) = [Value.int IntKind.u8 1, Value.int IntKind.u8 1, Value.int IntKind.u8 (r.name.length : Int)] := by
        rw [hdr, hf]
        simp only [vals, List.map_cons, List.map_nil, B_by8]
        rw [show ((r.name.length : Int) % 256) = (r.name.length : Int) by omega]
        rfl
      have hB0 : ((w.alloc (Obj.cells (rcells r).toArray 48)).alloc (Obj.cells #[Value.int IntKind.u8 1, Value.int IntKind.u8 1, Value.int IntKind.u8 (r.name.length : Int)] 5)).heap[w.heap.size + 1]? = some (Obj.cells #[Value.int IntKind.u8 1, Value.int IntKind.u8 1, Value.int IntKind.u8 (r.name.length : Int)] 5 (0, 0)) := by
        rw [show w.heap.size + 1 = (w.alloc (Obj.cells (rcells r).toArray 48)).heap.size by simp, heap_alloc_new]
      have hB : ((w.alloc (Obj.cells (rcells r).toArray 48)).alloc (Obj.cells #[Value.int IntKind.u8 1, Value.int IntKind.u8 1, Value.int IntKind.u8 (r.name.length : Int)] 5)).heap[w.heap.size + 1]? = some (Obj.cells (vals (hdr r)).toArray 5 (0, 0)) := hB0.trans (by rw [hh])
      have hC2 : Chg [] w ((w.alloc (Obj.cells (rcells r).toArray 48)).alloc (Obj.cells #[Value.int IntKind.u8 1, Value.int IntKind.u8 1, Value.int IntKind.u8 (r.name.length : Int)] 5)) := (((Chg.refl [] w).alloc _).alloc _)
      have hR : ((w.alloc (Obj.cells (rcells r).toArray 48)).alloc (Obj.cells #[Value.int IntKind.u8 1, Value.int IntKind.u8 1, Value.int IntKind.u8 (r.name.length : Int)] 5)).heap[w.heap.size]? = some (Obj.cells (rcells r).toArray 48 (0, 0)) := by
        have h1 := Hrow.out
        rw [Hw1.out, Hpb.out] at h1
        have hCx : Chg [w.heap.size + 1] (w.alloc (Obj.cells (rcells r).toArray 48)) ((w.alloc (Obj.cells (rcells r).toArray 48)).alloc (Obj.cells #[Value.int IntKind.u8 1, Value.int IntKind.u8 1, Value.int IntKind.u8 (r.name.length : Int)] 5)) := ((Chg.refl _ _).alloc _)
        exact hCx.heap h1 (by simp)
      go_wp2
      generalize ((w.alloc (Obj.cells (rcells r).toArray 48)).alloc (Obj.cells #[Value.int IntKind.u8 1, Value.int IntKind.u8 1, Value.int IntKind.u8 (r.name.length : Int)] 5)) = w2 at hB hC2 hR ⊢
      obtain ⟨hb, hhb⟩ : ∃ hb, hb = w.heap.size + 1 := ⟨_, rfl⟩
      obtain ⟨qb, hqb⟩ : ∃ qb, qb = w.heap.size := ⟨_, rfl⟩
      rw [← hhb] at hB ⊢
      rw [← hqb] at hR ⊢
      have hO : OwnB w2 w.heap.size (.slice (some ⟨hb, 0, none⟩) 3 3) (hdr r) := ⟨by simp [hdr], .inr ⟨hb, 3, _, rfl, by omega, hB, by simp [hdr], by simp [maxLen], by simp [hdr], List.take_of_length_le (by simp [hdr])⟩⟩
      have HR := Lib.hid hR
      have n0 : w2.cell? ⟨qb, 0, none⟩ = some (.string ⟨r.name.toArray⟩) := by rw [cell_of_row _ _ _ _ _ _ hR]; exact h00
      have hkr2 : w2.rangeAt qb 1 (vals r.key) := by
        intro j v hv
        have h1 := Hkr.out j v hv
        rw [cell_of_row _ _ _ _ _ _ Hrow.out] at h1
        rw [cell_of_row _ _ _ _ _ _ hR]; exact h1
      have hqlt : qb < w2.heap.size := heap_lt hR
      have HO := Lib.hid hO
      have HC2 := Lib.hid hC2
      have HT2 := Lib.hid (HT.out.chg hC2 (by simp))
      have Hkr2 := Lib.hid hkr2
      have Hqb := Lib.hid hqb
      have Hhb := Lib.hid hhb
      clear hB hC2 hR hB0 hh c0 c33 h33 h00 hhb hO hkr2 hqb
      refine wp_region_keys [(3, fun W => W.cell? ⟨qb, 0, none⟩ = some (.string ⟨r.name.toArray⟩)), (8, fun W => W.cell? ⟨qb, 0, none⟩ = some (.string ⟨r.name.toArray⟩))] (by kernel_rfl) ⟨fun _ => n0, fun _ => n0, trivial⟩ ?_
      refine kTake (i := 0) (v := ?_) rfl (by kernel_rfl) (by kernel_rfl) (some 16) rfl (fun _ _ _ h => h) (Or.inl ⟨by rfl, ?_⟩) ?_
      rotate_left 1
      · (intro w; go_simp; try rfl)
      try simp only [Act.put, List.setIfInBounds_toArray, List.set_cons_zero, List.set_cons_succ]
      refine kTake (i := 1) (v := ?_) rfl (by kernel_rfl) (by kernel_rfl) (some 17) rfl (fun _ _ _ h => h) (Or.inl ⟨by rfl, ?_⟩) ?_
      rotate_left 1
      · (intro w; go_simp; try rfl)
      try simp only [Act.put, List.setIfInBounds_toArray, List.set_cons_zero, List.set_cons_succ]
      refine kLoad (i := 2) 3 _ (v := ?_) rfl (by kernel_rfl) (by kernel_rfl) (.head _) (some 18) rfl (fun _ _ _ h => h) (Or.inl ⟨by rfl, ?_⟩) ?_
      rotate_left 1
      · (intro w hT; go_simp; try rfl)
      try simp only [Act.put, List.setIfInBounds_toArray, List.set_cons_zero, List.set_cons_succ]
      refine kTake (i := 4) (v := ?_) rfl (by kernel_rfl) (by kernel_rfl) (some 20) rfl (fun _ _ _ h => h) (Or.inl ⟨by rfl, ?_⟩) ?_
      rotate_left 1
      · (intro w; go_simp; try rfl)
      try simp only [Act.put, List.setIfInBounds_toArray, List.set_cons_zero, List.set_cons_succ]
      refine kLoad (i := 5) 8 _ (v := ?_) rfl (by kernel_rfl) (by kernel_rfl) (.tail _ (.head _)) (some 21) rfl (fun _ _ _ h => h) (Or.inl ⟨by rfl, ?_⟩) ?_
      rotate_left 1
      · (intro w hT; go_simp; try rfl)
      try simp only [Act.put, List.setIfInBounds_toArray, List.set_cons_zero, List.set_cons_succ]
      refine kTake (i := 6) (v := ?_) rfl (by kernel_rfl) (by kernel_rfl) (some 22) rfl (fun _ _ _ h => h) (Or.inl ⟨by rfl, ?_⟩) ?_
      rotate_left 1
      · (intro w; go_simp; try rfl)
      try simp only [Act.put, List.setIfInBounds_toArray, List.set_cons_zero, List.set_cons_succ]
      refine kTake (i := 7) (v := ?_) rfl (by kernel_rfl) (by kernel_rfl) (some 23) rfl (fun _ _ _ h => h) (Or.inl ⟨by rfl, ?_⟩) ?_
      rotate_left 1
      · (intro w; go_simp; try rfl)
      try simp only [Act.put, List.setIfInBounds_toArray, List.set_cons_zero, List.set_cons_succ]
      refine kOnly (i := 3) (oi := { dst := (some 19), op := (Go.Op.call { callee := (Go.Callee.builtin Go.Builtin.append), args := #[(Go.Operand.tmp 16), (Go.Operand.tmp 18)], argTypes := #[22, 9] }), type := 22, pos := "label.go:49", after := #[{ on := 0, ground := Go.Ground.data }, { on := 2, ground := Go.Ground.data }], guard := none }) (by kernel_rfl) rfl (by rfl) (fun K hK => ?_)
      refine wp_append_str (.tmp 16) (.tmp 18) rfl Tryd.underlying22 Tryd.underlying9 info5 w.heap.size (.slice (some ⟨hb, 0, none⟩) 3 3) (hdr r) r.name (by rfl) (by rfl) HO.out.drew HC2.out.size (by simp [hdr]; omega) ?_; intro v3 w3 hO3 hG3
      have hC3 : Chg [hb] w2 w3 := (Chg.refl [hb] w2).drew.grown hG3 (fun x hx => .inl (by simp [Value.ownBlock] at hx; simp [hx]))
      refine hK _ _ ⟨fun h => absurd h (by decide), fun _ => hC3.cell n0 (by simp only [List.mem_singleton]; intro h; have h1 := Hhb.out; have h2 := Hqb.out; omega), trivial⟩ ?_; clear hK K
      try simp only [Act.put, List.setIfInBounds_toArray, List.set_cons_zero, List.set_cons_succ]
      refine kOnly (i := 8) (oi := { dst := (some 24), op := (Go.Op.call { callee := (Go.Callee.builtin Go.Builtin.append), args := #[(Go.Operand.tmp 19), (Go.Operand.tmp 23)], argTypes := #[22, 3] }), type := 22, pos := "label.go:49", after := #[{ on := 3, ground := Go.Ground.data }, { on := 7, ground := Go.Ground.data }, { on := 3, ground := Go.Ground.chain }], guard := none }) (by kernel_rfl) rfl (by rfl) (fun K hK => ?_)
      refine wp_append_zeros (.tmp 19) (.tmp 23) rfl Tryd.underlying22 Tryd.underlying3 Tryd.underlying9 info5 w.heap.size v3 (hdr r ++ r.name) (12 - r.name.length) (by rfl) (show Value.int .i64 (IntKind.i64.wrap (12 - (r.name.length : Int))) = Value.int .i64 ((12 - r.name.length : Nat) : Int) from by rw [wrapI _ (by omega) (by omega)]; congr 1; omega) hO3 (Nat.le_trans HC2.out.size hC3.size) (by simp [hdr]; omega) ?_; intro v4 w4 hO4 hG4
      have hR3 := hC3.heap HR.out (by simp only [List.mem_singleton]; intro h; have h1 := Hhb.out; have h2 := Hqb.out; omega)
      have hR4 := (hG4.block qb (heap_lt hR3) (Ne.symm (own_ne hO3 hR3))).trans hR3
      have hC4 : Chg [] w w4 := (HC2.out.step hC3 (fun x hx => .inr (by simp only [List.mem_singleton] at hx; have h1 := Hhb.out; omega))).grown hG4 (fun x hx => .inr (hO3.lt x hx).1)
      refine hK _ _ ⟨fun h => absurd h (by decide), fun h => absurd h (by decide), trivial⟩ ?_; clear hK K
      try simp only [Act.put, List.setIfInBounds_toArray, List.set_cons_zero, List.set_cons_succ]
      refine kTake (i := 9) (v := ?_) rfl (by kernel_rfl) (by kernel_rfl) (some 3) rfl (fun _ _ _ h => h) (Or.inl ⟨by rfl, ?_⟩) ?_
      rotate_left 1
      · (intro w; go_simp; try rfl)
      try simp only [Act.put, List.setIfInBounds_toArray, List.set_cons_zero, List.set_cons_succ]
      refine kDone (by kernel_rfl) ?_
      have HO4 := Lib.hid hO4
      have HC4 := Lib.hid hC4
      have hS4 : SlB w4 (.slice (some ⟨qb, 1, none⟩) 32 32) r.key := by
        refine .inr ⟨qb, 1, 32, by rw [Hk.out], by rw [Hk.out]; decide, fun j v hv => ?_, heap_lt hR4⟩
        have h1 := Hkr2.out j v hv
        rw [cell_of_row _ _ _ _ _ _ HR.out] at h1
        rw [cell_of_row _ _ _ _ _ _ hR4]; exact h1
      have HS4 := Lib.hid hS4
      have HT4 := Lib.hid (HT.out.chg hC4 (by simp))
      clear hO4 hC4 hS4 hR3 hR4 hO3 hG3 hC3 hG4
      have hP : packP r = (hdr r ++ r.name ++ zeros (12 - r.name.length)) ++ r.key := rfl
      have HP := Lib.hid hP
      clear hP
      go_wp2_with (first
        | (refine wpList_append_bytes rfl (.tmp 25) (.tmp 27) rfl Tryd.underlying22 info5 w.heap.size v4 (.slice (some ⟨qb, 1, none⟩) 32 32) (hdr r ++ r.name ++ zeros (12 - r.name.length)) r.key (by rfl) (by rfl) HO4.out HS4.out HC4.out.size (by rw [Hk.out]; simp [hdr]; omega) ?_; intro v5 w5 hO5 hG5 hN5 hF5; have hC5 : Chg [] w w5 := HC4.out.grown hG5 (fun x hx => .inr (HO4.out.lt x hx).1); rw [← HP.out] at hO5; have HO5 := Lib.hid hO5; have HC5 := Lib.hid hC5; have HT5 := Lib.hid (HT.out.chg hC5 (by simp)); clear hO5 hG5 hN5 hF5 hC5)
        | (go_at_call 89; refine (sealed_spec (packP r) v5 w5 HT5.out HO5.out.slb (by rw [packP_length Hk.out hn]; decide) HO5.out.slb.shape).mono ?_; rintro e w6 ⟨g6, rfl, hg6, hC6, hge6⟩))
      go_ret
      refine ⟨.slice (some ⟨g6, 0, none⟩) 64 64, rfl, ?_, HC5.out.trans hC6, fun k hk => ?_⟩
      · rw [Hp.out]
        exact slb_block hg6 (sealed_length (by rw [packP_length Hk.out hn]; decide))
      · simp only [Value.ownBlock, Option.some.injEq] at hk
        have h1 := HC5.out.size
        omega
    | false =>
      rw [hf] at c33 h33
      rw [hw1] at c0 c33
      rw [hpb] at c0 c33
      clear hw1 hpb
      go_enter Tryd.func94, Tryd.ntmps94
      have hh : vals (hdr r) = [Value.int IntKind.u8 1, Value.int IntKind.u8 0, Value.int IntKind.u8 (r.name.length : Int)] := by
        rw [hdr, hf]
        simp only [vals, List.map_cons, List.map_nil, B_by8]
        rw [show ((r.name.length : Int) % 256) = (r.name.length : Int) by omega]
        rfl
      have hB0 : ((w.alloc (Obj.cells (rcells r).toArray 48)).alloc (Obj.cells #[Value.int IntKind.u8 1, Value.int IntKind.u8 0, Value.int IntKind.u8 (r.name.length : Int)] 5)).heap[w.heap.size + 1]? = some (Obj.cells #[Value.int IntKind.u8 1, Value.int IntKind.u8 0, Value.int IntKind.u8 (r.name.length : Int)] 5 (0, 0)) := by
        rw [show w.heap.size + 1 = (w.alloc (Obj.cells (rcells r).toArray 48)).heap.size by simp, heap_alloc_new]
      have hB : (((w.alloc (Obj.cells (rcells r).toArray 48)).alloc (Obj.cells #[Value.int IntKind.u8 1, Value.int IntKind.u8 0, Value.int IntKind.u8 (r.name.length : Int)] 5))).heap[w.heap.size + 1]? = some (Obj.cells (vals (hdr r)).toArray 5 (0, 0)) := hB0.trans (by rw [hh])
      have hC2 : Chg [] w (((w.alloc (Obj.cells (rcells r).toArray 48)).alloc (Obj.cells #[Value.int IntKind.u8 1, Value.int IntKind.u8 0, Value.int IntKind.u8 (r.name.length : Int)] 5))) := (((Chg.refl [] w).alloc _).alloc _)
      have hR : (((w.alloc (Obj.cells (rcells r).toArray 48)).alloc (Obj.cells #[Value.int IntKind.u8 1, Value.int IntKind.u8 0, Value.int IntKind.u8 (r.name.length : Int)] 5))).heap[w.heap.size]? = some (Obj.cells (rcells r).toArray 48 (0, 0)) := by
        have h1 := Hrow.out
        rw [Hw1.out, Hpb.out] at h1
        have hCx : Chg [w.heap.size + 1] (w.alloc (Obj.cells (rcells r).toArray 48)) (((w.alloc (Obj.cells (rcells r).toArray 48)).alloc (Obj.cells #[Value.int IntKind.u8 1, Value.int IntKind.u8 0, Value.int IntKind.u8 (r.name.length : Int)] 5))) := ((Chg.refl _ _).alloc _)
        exact hCx.heap h1 (by simp)
      go_wp2
      generalize (((w.alloc (Obj.cells (rcells r).toArray 48)).alloc (Obj.cells #[Value.int IntKind.u8 1, Value.int IntKind.u8 0, Value.int IntKind.u8 (r.name.length : Int)] 5))) = w2 at hB hC2 hR ⊢
      obtain ⟨hb, hhb⟩ : ∃ hb, hb = w.heap.size + 1 := ⟨_, rfl⟩
      obtain ⟨qb, hqb⟩ : ∃ qb, qb = w.heap.size := ⟨_, rfl⟩
      rw [← hhb] at hB ⊢
      rw [← hqb] at hR ⊢
      have hO : OwnB w2 w.heap.size (.slice (some ⟨hb, 0, none⟩) 3 3) (hdr r) := ⟨by simp [hdr], .inr ⟨hb, 3, _, rfl, by omega, hB, by simp [hdr], by simp [maxLen], by simp [hdr], List.take_of_length_le (by simp [hdr])⟩⟩
      have HR := Lib.hid hR
      have n0 : w2.cell? ⟨qb, 0, none⟩ = some (.string ⟨r.name.toArray⟩) := by rw [cell_of_row _ _ _ _ _ _ hR]; exact h00
      have hkr2 : w2.rangeAt qb 1 (vals r.key) := by
        intro j v hv
        have h1 := Hkr.out j v hv
        rw [cell_of_row _ _ _ _ _ _ Hrow.out] at h1
        rw [cell_of_row _ _ _ _ _ _ hR]; exact h1
      have hqlt : qb < w2.heap.size := heap_lt hR
      have HO := Lib.hid hO
      have HC2 := Lib.hid hC2
      have HT2 := Lib.hid (HT.out.chg hC2 (by simp))
      have Hkr2 := Lib.hid hkr2
      have Hqb := Lib.hid hqb
      have Hhb := Lib.hid hhb
      clear hB hC2 hR hB0 hh c0 c33 h33 h00 hhb hO hkr2 hqb
      refine wp_region_keys [(3, fun W => W.cell? ⟨qb, 0, none⟩ = some (.string ⟨r.name.toArray⟩)), (8, fun W => W.cell? ⟨qb, 0, none⟩ = some (.string ⟨r.name.toArray⟩))] (by kernel_rfl) ⟨fun _ => n0, fun _ => n0, trivial⟩ ?_
      refine kTake (i := 0) (v := ?_) rfl (by kernel_rfl) (by kernel_rfl) (some 16) rfl (fun _ _ _ h => h) (Or.inl ⟨by rfl, ?_⟩) ?_
      rotate_left 1
      · (intro w; go_simp; try rfl)
      try simp only [Act.put, List.setIfInBounds_toArray, List.set_cons_zero, List.set_cons_succ]
      refine kTake (i := 1) (v := ?_) rfl (by kernel_rfl) (by kernel_rfl) (some 17) rfl (fun _ _ _ h => h) (Or.inl ⟨by rfl, ?_⟩) ?_
      rotate_left 1
      · (intro w; go_simp; try rfl)
      try simp only [Act.put, List.setIfInBounds_toArray, List.set_cons_zero, List.set_cons_succ]
      refine kLoad (i := 2) 3 _ (v := ?_) rfl (by kernel_rfl) (by kernel_rfl) (.head _) (some 18) rfl (fun _ _ _ h => h) (Or.inl ⟨by rfl, ?_⟩) ?_
      rotate_left 1
      · (intro w hT; go_simp; try rfl)
      try simp only [Act.put, List.setIfInBounds_toArray, List.set_cons_zero, List.set_cons_succ]
      refine kTake (i := 4) (v := ?_) rfl (by kernel_rfl) (by kernel_rfl) (some 20) rfl (fun _ _ _ h => h) (Or.inl ⟨by rfl, ?_⟩) ?_
      rotate_left 1
      · (intro w; go_simp; try rfl)
      try simp only [Act.put, List.setIfInBounds_toArray, List.set_cons_zero, List.set_cons_succ]
      refine kLoad (i := 5) 8 _ (v := ?_) rfl (by kernel_rfl) (by kernel_rfl) (.tail _ (.head _)) (some 21) rfl (fun _ _ _ h => h) (Or.inl ⟨by rfl, ?_⟩) ?_
      rotate_left 1
      · (intro w hT; go_simp; try rfl)
      try simp only [Act.put, List.setIfInBounds_toArray, List.set_cons_zero, List.set_cons_succ]
      refine kTake (i := 6) (v := ?_) rfl (by kernel_rfl) (by kernel_rfl) (some 22) rfl (fun _ _ _ h => h) (Or.inl ⟨by rfl, ?_⟩) ?_
      rotate_left 1
      · (intro w; go_simp; try rfl)
      try simp only [Act.put, List.setIfInBounds_toArray, List.set_cons_zero, List.set_cons_succ]
      refine kTake (i := 7) (v := ?_) rfl (by kernel_rfl) (by kernel_rfl) (some 23) rfl (fun _ _ _ h => h) (Or.inl ⟨by rfl, ?_⟩) ?_
      rotate_left 1
      · (intro w; go_simp; try rfl)
      try simp only [Act.put, List.setIfInBounds_toArray, List.set_cons_zero, List.set_cons_succ]
      refine kOnly (i := 3) (oi := { dst := (some 19), op := (Go.Op.call { callee := (Go.Callee.builtin Go.Builtin.append), args := #[(Go.Operand.tmp 16), (Go.Operand.tmp 18)], argTypes := #[22, 9] }), type := 22, pos := "label.go:49", after := #[{ on := 0, ground := Go.Ground.data }, { on := 2, ground := Go.Ground.data }], guard := none }) (by kernel_rfl) rfl (by rfl) (fun K hK => ?_)
      refine wp_append_str (.tmp 16) (.tmp 18) rfl Tryd.underlying22 Tryd.underlying9 info5 w.heap.size (.slice (some ⟨hb, 0, none⟩) 3 3) (hdr r) r.name (by rfl) (by rfl) HO.out.drew HC2.out.size (by simp [hdr]; omega) ?_; intro v3 w3 hO3 hG3
      have hC3 : Chg [hb] w2 w3 := (Chg.refl [hb] w2).drew.grown hG3 (fun x hx => .inl (by simp [Value.ownBlock] at hx; simp [hx]))
      refine hK _ _ ⟨fun h => absurd h (by decide), fun _ => hC3.cell n0 (by simp only [List.mem_singleton]; intro h; have h1 := Hhb.out; have h2 := Hqb.out; omega), trivial⟩ ?_; clear hK K
      try simp only [Act.put, List.setIfInBounds_toArray, List.set_cons_zero, List.set_cons_succ]
      refine kOnly (i := 8) (oi := { dst := (some 24), op := (Go.Op.call { callee := (Go.Callee.builtin Go.Builtin.append), args := #[(Go.Operand.tmp 19), (Go.Operand.tmp 23)], argTypes := #[22, 3] }), type := 22, pos := "label.go:49", after := #[{ on := 3, ground := Go.Ground.data }, { on := 7, ground := Go.Ground.data }, { on := 3, ground := Go.Ground.chain }], guard := none }) (by kernel_rfl) rfl (by rfl) (fun K hK => ?_)
      refine wp_append_zeros (.tmp 19) (.tmp 23) rfl Tryd.underlying22 Tryd.underlying3 Tryd.underlying9 info5 w.heap.size v3 (hdr r ++ r.name) (12 - r.name.length) (by rfl) (show Value.int .i64 (IntKind.i64.wrap (12 - (r.name.length : Int))) = Value.int .i64 ((12 - r.name.length : Nat) : Int) from by rw [wrapI _ (by omega) (by omega)]; congr 1; omega) hO3 (Nat.le_trans HC2.out.size hC3.size) (by simp [hdr]; omega) ?_; intro v4 w4 hO4 hG4
      have hR3 := hC3.heap HR.out (by simp only [List.mem_singleton]; intro h; have h1 := Hhb.out; have h2 := Hqb.out; omega)
      have hR4 := (hG4.block qb (heap_lt hR3) (Ne.symm (own_ne hO3 hR3))).trans hR3
      have hC4 : Chg [] w w4 := (HC2.out.step hC3 (fun x hx => .inr (by simp only [List.mem_singleton] at hx; have h1 := Hhb.out; omega))).grown hG4 (fun x hx => .inr (hO3.lt x hx).1)
      refine hK _ _ ⟨fun h => absurd h (by decide), fun h => absurd h (by decide), trivial⟩ ?_; clear hK K
      try simp only [Act.put, List.setIfInBounds_toArray, List.set_cons_zero, List.set_cons_succ]
      refine kTake (i := 9) (v := ?_) rfl (by kernel_rfl) (by kernel_rfl) (some 3) rfl (fun _ _ _ h => h) (Or.inl ⟨by rfl, ?_⟩) ?_
      rotate_left 1
      · (intro w; go_simp; try rfl)
      try simp only [Act.put, List.setIfInBounds_toArray, List.set_cons_zero, List.set_cons_succ]
      refine kDone (by kernel_rfl) ?_
      have HO4 := Lib.hid hO4
      have HC4 := Lib.hid hC4
      have hS4 : SlB w4 (.slice (some ⟨qb, 1, none⟩) 32 32) r.key := by
        refine .inr ⟨qb, 1, 32, by rw [Hk.out], by rw [Hk.out]; decide, fun j v hv => ?_, heap_lt hR4⟩
        have h1 := Hkr2.out j v hv
        rw [cell_of_row _ _ _ _ _ _ HR.out] at h1
        rw [cell_of_row _ _ _ _ _ _ hR4]; exact h1
      have HS4 := Lib.hid hS4
      have HT4 := Lib.hid (HT.out.chg hC4 (by simp))
      clear hO4 hC4 hS4 hR3 hR4 hO3 hG3 hC3 hG4
      have hP : packP r = (hdr r ++ r.name ++ zeros (12 - r.name.length)) ++ r.key := rfl
      have HP := Lib.hid hP
      clear hP
      go_wp2_with (first
        | (refine wpList_append_bytes rfl (.tmp 25) (.tmp 27) rfl Tryd.underlying22 info5 w.heap.size v4 (.slice (some ⟨qb, 1, none⟩) 32 32) (hdr r ++ r.name ++ zeros (12 - r.name.length)) r.key (by rfl) (by rfl) HO4.out HS4.out HC4.out.size (by rw [Hk.out]; simp [hdr]; omega) ?_; intro v5 w5 hO5 hG5 hN5 hF5; have hC5 : Chg [] w w5 := HC4.out.grown hG5 (fun x hx => .inr (HO4.out.lt x hx).1); rw [← HP.out] at hO5; have HO5 := Lib.hid hO5; have HC5 := Lib.hid hC5; have HT5 := Lib.hid (HT.out.chg hC5 (by simp)); clear hO5 hG5 hN5 hF5 hC5)
        | (go_at_call 89; refine (sealed_spec (packP r) v5 w5 HT5.out HO5.out.slb (by rw [packP_length Hk.out hn]; decide) HO5.out.slb.shape).mono ?_; rintro e w6 ⟨g6, rfl, hg6, hC6, hge6⟩))
      go_ret
      refine ⟨.slice (some ⟨g6, 0, none⟩) 64 64, rfl, ?_, HC5.out.trans hC6, fun k hk => ?_⟩
      · rw [Hp.out]
        exact slb_block hg6 (sealed_length (by rw [packP_length Hk.out hn]; decide))
      · simp only [Value.ownBlock, Option.some.injEq] at hk
        have h1 := HC5.out.size
        omega

end Go.Proofs.YtaacejpienbkgaaDoor
