/- The journal's lay, walked. -/
import Derived.Test.YtaacejpienbkgaaDoorJrn0
namespace Go.Proofs.YtaacejpienbkgaaDoor
open Go.RowKit

theorem wrapI (x : Int) (h0 : 0 ≤ x) (h1 : x < 9223372036854775808) : IntKind.i64.wrap x = x := by rw [IntKind.wrap_i64]; omega
theorem under175 : Tryd.prog.underlying 175 = some (.array 2 22) := by kernel_rfl
theorem run_index_pair {w : World} (x y : Value) (i : Nat) (hi : i < 2) :
    (Instr.index 175 (.agg #[x, y]) (.int .i64 i)).run Tryd.prog w = .ok (if i = 0 then x else y) w := by
  rcases (show i = 0 ∨ i = 1 by omega) with rfl | rfl
  · simp [Instr.index, run_underlying under175, asIntOf, go_sem]
  · simp [Instr.index, run_underlying under175, asIntOf, go_sem]
section
variable {o : Oper} {a : Act} {w : World} {Q : Exit → Act → World → Prop} {ops : Array Oper} {rest : List Oper}
theorem wpList_index_pair (hgd : o.guard = none) (x y : Operand) (ho : o.op = .index 175 x y) (u v r : Value) (i : Nat) (hi : i < 2) (hx : a.eval x = .agg #[u, v]) (hy : a.eval y = .int .i64 i) (hr : (if i = 0 then u else v) = r)
    (h : wpList Tryd.prog ops Q rest (a.put o.dst r) w) : wpList Tryd.prog ops Q (o :: rest) a w :=
  wpList_plain hgd fun _ hK => by
    subst hr
    unfold Oper.wp execOp
    simp only [ho, hx, hy, Sem.run_bind, run_index_pair u v i hi, Result.andThen_ok, Sem.run_pure]
    exact hK _ _ h
end

def lay2 (next i : Nat) (x : Nat × Bytes) : List (Nat × Bytes) :=
  [(1 + 2 * i, four next ++ four x.1 ++ (padTo 64 x.2).take 32), (2 + 2 * i, four next ++ four x.1 ++ (padTo 64 x.2).drop 32)]
def laidFrom (next : Nat) : Nat → List (Nat × Bytes) → List (Nat × Bytes)
  | _, [] => []
  | i, x :: r => lay2 next i x ++ laidFrom next (i + 1) r
/-- What stands in the journal ahead of some writes. -/
def laid (next : Nat) (l : List (Nat × Bytes)) : List (Nat × Bytes) := laidFrom next 0 l ++ [(0, four next ++ four l.length)]
theorem laidFrom_append (next : Nat) (l1 l2 : List (Nat × Bytes)) : ∀ i, laidFrom next i (l1 ++ l2) = laidFrom next i l1 ++ laidFrom next (i + l1.length) l2 := by
  induction l1 with
  | nil => intro i; simp [laidFrom]
  | cons x r ih =>
    intro i
    simp only [List.cons_append, laidFrom, ih, List.append_assoc, List.length_cons]
    rw [show i + 1 + r.length = i + (r.length + 1) by omega]
theorem laidFrom_length (next : Nat) : ∀ (l : List (Nat × Bytes)) (i : Nat), (laidFrom next i l).length = 2 * l.length
  | [], _ => rfl
  | x :: r, i => by simp only [laidFrom, List.length_append, laidFrom_length next r, lay2, List.length_cons, List.length_nil]; omega
theorem laid_to (next : Nat) (l : List (Nat × Bytes)) (k : Nat) (hk : k < l.length) : laidFrom next 0 (l.take (k + 1)) = laidFrom next 0 (l.take k) ++ lay2 next k l[k] := by
  have e : (l.take k).length = k := by simp; omega
  rw [List.take_succ_eq_append_getElem hk, laidFrom_append, e, Nat.zero_add]
  simp [laidFrom]
theorem laid_rest (next : Nat) (l : List (Nat × Bytes)) (k : Nat) : ∃ r, laid next l = laidFrom next 0 (l.take k) ++ r := by
  refine ⟨laidFrom next (0 + (l.take k).length) (l.drop k) ++ [(0, four next ++ four l.length)], ?_⟩
  rw [← List.append_assoc, ← laidFrom_append, List.take_append_drop, laid]

def LayRel (jb b : Nat) (m : DMem) (d : Dsk) (next : Nat) (l : List (Nat × Bytes)) (w : World) (x : Value) (wr : World) : Prop :=
  ∃ k : Nat, k ≤ l.length ∧ x = .int .i64 k ∧ (writes d (laidFrom next 0 (l.take k))).2 = 0 ∧ ∃ m', JAt wr jb b m' (writes d (laidFrom next 0 (l.take k))).1 next ∧ DStep b w m wr m'

/-- Between the two writes for one page. -/
def LayIn (jb b : Nat) (m : DMem) (d : Dsk) (next k : Nat) (p : Nat × Bytes) (w : World) (x : Value) (wr : World) : Prop :=
  ∃ j : Nat, j ≤ 2 ∧ x = .int .i64 j ∧ (writes d ((lay2 next k p).take j)).2 = 0 ∧ ∃ m', JAt wr jb b m' (writes d ((lay2 next k p).take j)).1 next ∧ DStep b w m wr m'

set_option maxRecDepth 100000 in
set_option maxHeartbeats 1000000 in
theorem lay_spec (jb b : Nat) (m : DMem) (d : Dsk) (next : Nat) (l : List (Nat × Bytes)) (sp : Option Addr) (cap : Nat) (w : World) (h : JAt w jb b m d next)
    (hl : PgsAt (jb :: m.foot b) w sp l) (hll : l.length ≤ 24) (hat : ∀ x ∈ l, x.1 < 4096 ∧ x.2.length ≤ 64) (hn : 49 < d.n) (hwl : d.wet.length ≤ 1000) :
    Calls Tryd.prog 87 #[.pointer (some ⟨jb, 0, none⟩), .slice sp l.length cap] w (JPost jb b m next (commit d (laid next l)) w) := by
  have H := Lib.hid h
  have HL := Lib.hid hl
  have HA := Lib.hid hat
  clear h hl hat
  go_enter Tryd.func87, Tryd.ntmps87
  go_wp2
  go_loopw [15] (fun x wr => LayRel jb b m d next l w x wr) (fun x _ => l.length - (intOf x).toNat)
  case atStart => exact ⟨0, Nat.zero_le _, rfl, rfl, m, H.out, DStep.refl _ _ _⟩
  case round =>
    obtain ⟨k, hk, rfl, he0, mk, hJk, hSk⟩ := hrel
    by_cases hlt : k < l.length
    · obtain ⟨g, pv, rfl, hgF, hrg0, hpS0, hpF⟩ := HL.out k hlt
      have hrg := hSk.1.range hrg0 (fun hg => hgF (List.mem_cons_of_mem _ hg))
      have hpS := hpS0.chg hSk.1 (fun j hj hg => hpF j hj (List.mem_cons_of_mem _ hg))
      clear hrg0 hpS0
      have hA := HA.out l[k] (List.getElem_mem hlt)
      obtain ⟨ps, pc, rfl⟩ := hpS.shape
      obtain ⟨dk, hdk⟩ : ∃ dk, dk = (writes d (laidFrom next 0 (l.take k))).1 := ⟨_, rfl⟩
      rw [← hdk] at hJk
      have hdn : dk.n = d.n := by rw [hdk, writes_n]
      have hdw : dk.wet.length < 900000 := by
        have := writes_wet (laidFrom next 0 (l.take k)) d
        rw [hdk]
        rw [laidFrom_length] at this
        simp only [List.length_take] at this ⊢
        omega
      have hto : ∀ r, writes d (laidFrom next 0 (l.take k) ++ r) = writes dk r := by intro r; rw [writes_append, if_pos he0, hdk]
      have hnext : writes d (laidFrom next 0 (l.take (k + 1))) = writes dk (lay2 next k l[k]) := by rw [laid_to next l k hlt, hto]
      have hall : ∀ a r, lay2 next k l[k] = a ++ r → (writes dk a).2 ≠ 0 → commit d (laid next l) = writes dk a := by
        intro a r ha hne
        obtain ⟨r2, hr2⟩ := laid_rest next l (k + 1)
        rw [laid_to next l k hlt, ha, List.append_assoc, List.append_assoc, ← List.append_assoc] at hr2
        have e : writes d (laidFrom next 0 (l.take k) ++ a) = writes dk a := hto a
        rw [← e] at hne ⊢
        unfold commit
        rw [hr2, writes_stop _ _ _ hne, if_neg hne]
      obtain ⟨at_, hat_⟩ : ∃ a, a = l[k].1 := ⟨_, rfl⟩
      obtain ⟨pb, hpb⟩ : ∃ p, p = l[k].2 := ⟨_, rfl⟩
      have hlk : l[k] = (at_, pb) := by rw [hat_, hpb]
      rw [hlk] at hnext hall hA
      rw [← hat_] at hrg
      rw [← hpb] at hpS hpF hrg
      obtain ⟨hA1, hA2⟩ := hA
      dsimp only at hA1 hA2
      rw [← hdn] at hn
      have hn4 := hJk.disk.ok.n
      have HJk := Lib.hid hJk
      have HSk := Lib.hid hSk
      have Hrg := Lib.hid hrg
      have HpS := Lib.hid hpS
      have Hnext := Lib.hid hnext
      have Hall := Lib.hid hall
      clear hJk hSk hrg hpS hpF hnext hall hdk hat_ hpb he0 hgF hdn hlk hto
      go_wp2_with (first | (refine wpList_load_mid rfl 109 (.tmp 18) rfl g (k * 2) (by rfl) [.int .i64 (at_ : Int), .slice ps pb.length pc] _ Hrg.out Tryd.underlying109 rfl size109 ?_) | (refine wpList_store_new rfl 109 (.tmp 6) (.tmp 19) rfl _ _ rfl 109 _ _ #[.int .i64 (at_ : Int), .slice ps pb.length pc] rfl (by rfl) rfl rfl size109 rfl ?_) | (refine wpList_make_bytes rfl 64 64 _ _ rfl (by rfl) (by rfl) Tryd.underlying22 info5 (by decide) (by decide) ?_) | (refine wpList_copy_bytes rfl (.tmp 21) (.tmp 23) rfl Tryd.underlying22 size5 (wr.heap.size + 1) 0 64 64 (.slice ps pb.length pc) (by rfl) (by rfl) pb ?s1 hA2 [] (vals (zeros pb.length)) (vals (zeros (64 - pb.length))) 5 ?s2 rfl (by simp) ?_; rotate_left 2; intro w2 hg2 hC2))
      case s1 => exact HpS.out.chg (((Chg.refl [] wr).alloc _).alloc _) (by simp)
      case s2 => rw [show wr.heap.size + 1 = (wr.alloc (Obj.cells #[Value.int IntKind.i64 ↑at_, Value.slice ps (List.length pb) pc] 109)).heap.size by simp, heap_alloc_new, List.nil_append, ← vals_split hA2]
      obtain ⟨nb, hnb⟩ : ∃ nb, nb = wr.heap.size := ⟨_, rfl⟩
      obtain ⟨sb, hsb⟩ : ∃ sb, sb = wr.heap.size + 1 := ⟨_, rfl⟩
      have hbs : w2.heap[sb]? = some (.cells (vals (padTo 64 pb)).toArray 5 (0, 0)) := by
        rw [hsb, hg2, List.nil_append, padTo, vals_append]
      have hCa : Chg [] wr ((wr.alloc (Obj.cells #[Value.int IntKind.i64 ↑at_, Value.slice ps (List.length pb) pc] 109)).alloc (Obj.cells (vals (zeros 64)).toArray 5)) := ((Chg.refl [] wr).alloc _).alloc _
      have hn1 : ((wr.alloc (Obj.cells #[Value.int IntKind.i64 ↑at_, Value.slice ps (List.length pb) pc] 109)).alloc (Obj.cells (vals (zeros 64)).toArray 5)).heap[nb]? = some (.cells #[Value.int IntKind.i64 ↑at_, Value.slice ps (List.length pb) pc] 109 (0, 0)) := by
        rw [hnb, Below.heap_alloc _ _ _ (by simp), heap_alloc_new]
      have hn2 := hC2.heap hn1 (by simp; omega)
      have hC02 : Chg [] wr w2 := hCa.step hC2 (fun x hx => .inr (by simp at hx; omega))
      have n0 : w2.cell? ⟨nb, 0, none⟩ = some (.int .i64 (at_ : Int)) := by rw [cell_of_row _ _ _ _ _ _ hn2]; rfl
      have hJ2 : JAt w2 jb b mk dk next := HJk.out.chg hC02 (by simp) (by simp)
      have hbn : ∀ k, k ∈ mk.foot b → k ≠ sb ∧ k ≠ nb := fun k hk => by have := HJk.out.disk.footlt k hk; omega
      rw [← hsb, ← hnb]
      simp only [Act.put, List.setIfInBounds_toArray, List.set_cons_zero, List.set_cons_succ]
      have HC02 := Lib.hid hC02
      have HJ2 := Lib.hid hJ2
      have Hbs := Lib.hid hbs
      have Hn0 := Lib.hid n0
      have Hbn := Lib.hid hbn
      have HS2 := Lib.hid (HSk.out.then hC02)
      clear hC02 hJ2 hbs n0 hbn hn1 hn2 hCa hC2 hg2 hnb hsb HC02 HJk HSk Hrg HpS
      go_quiet (fail)
      go_wp2
      go_loopw [30] (fun x wi => LayIn jb b mk dk next k (at_, pb) w2 x wi) (fun x _ => 2 - (intOf x).toNat)
      case atStart => exact ⟨0, by omega, rfl, rfl, mk, HJ2.out.chg ((Chg.refl [] w2).drewN nq) (by simp) (by simp), (DStep.refl b w2 mk).then ((Chg.refl [] w2).drewN nq)⟩
      case round =>
        obtain ⟨j, hj, rfl, hj0, mj, hJj, hSj⟩ := hrel
        have bj := hSj.1.heap Hbs.out (fun hk => (Hbn.out _ hk).1 rfl)
        have nj := hSj.1.cell Hn0.out (fun hk => (Hbn.out _ hk).2 rfl)
        obtain ⟨dj, hdj⟩ : ∃ dj, dj = (writes dk ((lay2 next k (at_, pb)).take j)).1 := ⟨_, rfl⟩
        have hdjn : dj.n = dk.n := by rw [hdj, writes_n]
        have hdjw : dj.wet.length < 1000000 := by
          have := writes_wet ((lay2 next k (at_, pb)).take j) dk
          rw [List.length_take] at this
          rw [hdj]
          omega
        rw [← hdj] at hJj
        rw [← hdjn] at hn hn4
        have jj := hJj.cells.2
        have j0 := hJj.cells.1
        have hbase : ∀ k, k ∈ mj.foot b → k < wr.heap.size := hJj.disk.footlt
        have Hdj := Lib.hid hdj
        have Hj0 := Lib.hid hj0
        clear hdj hj0
        have HJj := Lib.hid hJj
        have HSj := Lib.hid hSj
        have Hbj := Lib.hid bj
        have Hbase := Lib.hid hbase
        clear hJj hSj bj hbase
        rcases (show j = 0 ∨ j = 1 ∨ j = 2 by omega) with rfl | rfl | rfl
        · go_wp2_with (refine wpList_index_pair rfl (.tmp 29) (.tmp 30) rfl (.slice (some ⟨sb, 0, none⟩) 32 64) (.slice (some ⟨sb, 32, none⟩) 32 32) (.slice (some ⟨sb, 0, none⟩) 32 64) 0 (by decide) (by rfl) (by rfl) rfl ?_)
          refine wp_region_keys [(4, fun W => W.cell? ⟨jb, 1, none⟩ = some (.int .i64 (next : Int))), (7, fun W => W.cell? ⟨nb, 0, none⟩ = some (.int .i64 (at_ : Int)))] (by kernel_rfl) ⟨fun _ => jj, fun _ => nj, trivial⟩ ?_
          refine kTake (i := 0) (v := ?_) rfl (by kernel_rfl) (by kernel_rfl) (some 34) rfl (fun _ _ _ h => h) (Or.inl ⟨by rfl, ?_⟩) ?_
          rotate_left 1
          · (intro w; go_simp; try rfl)
          try simp only [Act.put, List.setIfInBounds_toArray, List.set_cons_zero, List.set_cons_succ]
          refine kTake (i := 1) (v := ?_) rfl (by kernel_rfl) (by kernel_rfl) (some 35) rfl (fun _ _ _ h => h) (Or.inl ⟨by rfl, ?_⟩) ?_
          rotate_left 1
          · (intro w; go_simp; try rfl)
          try simp only [Act.put, List.setIfInBounds_toArray, List.set_cons_zero, List.set_cons_succ]
          refine kTake (i := 2) (v := ?_) rfl (by kernel_rfl) (by kernel_rfl) (some 36) rfl (fun _ _ _ h => h) (Or.inl ⟨by rfl, ?_⟩) ?_
          rotate_left 1
          · (intro w; go_simp; try rfl)
          try simp only [Act.put, List.setIfInBounds_toArray, List.set_cons_zero, List.set_cons_succ]
          refine kLoad (i := 3) 4 _ (v := ?_) rfl (by kernel_rfl) (by kernel_rfl) (.head _) (some 37) rfl (fun _ _ _ h => h) (Or.inl ⟨by rfl, ?_⟩) ?_
          rotate_left 1
          · (intro w hT; go_simp; try rfl)
          try simp only [Act.put, List.setIfInBounds_toArray, List.set_cons_zero, List.set_cons_succ]
          refine kTake (i := 5) (v := ?_) rfl (by kernel_rfl) (by kernel_rfl) (some 39) rfl (fun _ _ _ h => h) (Or.inl ⟨by rfl, ?_⟩) ?_
          rotate_left 1
          · (intro w; go_simp; try rfl)
          try simp only [Act.put, List.setIfInBounds_toArray, List.set_cons_zero, List.set_cons_succ]
          refine kLoad (i := 6) 7 _ (v := ?_) rfl (by kernel_rfl) (by kernel_rfl) (.tail _ (.head _)) (some 40) rfl (fun _ _ _ h => h) (Or.inl ⟨by rfl, ?_⟩) ?_
          rotate_left 1
          · (intro w hT; go_simp; try rfl)
          try simp only [Act.put, List.setIfInBounds_toArray, List.set_cons_zero, List.set_cons_succ]
          refine kOnly (i := 4) (oi := { dst := (some 38), op := (Go.Op.call { callee := (Go.Callee.value (Go.Operand.func 90)), args := #[(Go.Operand.tmp 37)], argTypes := #[3] }), type := 22, pos := "journal.go:129", after := #[{ on := 3, ground := Go.Ground.data }], guard := none }) (by kernel_rfl) rfl (by rfl) (fun K hK => ?_)
          go_simp; go_at_call 90; refine (four_spec next wr.drew wr.heap.size (Nat.le_refl _)).mono ?_; rintro e w5 ⟨g5, rfl, hO5, hC5, hg5⟩
          refine hK _ _ ⟨fun h => absurd h (by decide), fun _ => hC5.cell (show wr.drew.cell? _ = _ from nj) (by simp), trivial⟩ ?_; clear hK K
          try simp only [Act.put, List.setIfInBounds_toArray, List.set_cons_zero, List.set_cons_succ]
          refine kOnly (i := 7) (oi := { dst := (some 41), op := (Go.Op.call { callee := (Go.Callee.value (Go.Operand.func 90)), args := #[(Go.Operand.tmp 40)], argTypes := #[3] }), type := 22, pos := "journal.go:129", after := #[{ on := 6, ground := Go.Ground.data }, { on := 4, ground := Go.Ground.chain }], guard := none }) (by kernel_rfl) rfl (by rfl) (fun K hK => ?_)
          go_simp; go_at_call 90; refine (four_spec at_ w5 wr.heap.size (show wr.drew.heap.size ≤ _ from hC5.size)).mono ?_; rintro e w6 ⟨g6, rfl, hO6, hC6, hg6⟩
          refine hK _ _ ⟨fun h => absurd h (by decide), fun h => absurd h (by decide), trivial⟩ ?_; clear hK K
          have hO5' := hC6.owns hO5 (by simp)
          try simp only [Act.put, List.setIfInBounds_toArray, List.set_cons_zero, List.set_cons_succ]
          refine kOnly (i := 8) (oi := { dst := (some 42), op := (Go.Op.call { callee := (Go.Callee.builtin Go.Builtin.append), args := #[(Go.Operand.tmp 38), (Go.Operand.tmp 41)], argTypes := #[22, 22] }), type := 22, pos := "journal.go:129", after := #[{ on := 4, ground := Go.Ground.data }, { on := 7, ground := Go.Ground.data }, { on := 7, ground := Go.Ground.chain }], guard := none }) (by kernel_rfl) rfl (by rfl) (fun K hK => ?_)
          refine wp_append_bytes (.tmp 38) (.tmp 41) rfl Tryd.underlying22 info5 wr.heap.size (.slice (some ⟨g5, 0, none⟩) 4 4) (.slice (some ⟨g6, 0, none⟩) 4 4) (four next) (four at_) (by rfl) (by rfl) hO5' hO6.slb (Nat.le_trans (show wr.drew.heap.size ≤ _ from hC5.size) hC6.size) (by simp) ?_; intro v8 w8 hO8 hG8 hN8 hF8
          refine hK _ _ ⟨fun h => absurd h (by decide), fun h => absurd h (by decide), trivial⟩ ?_; clear hK K
          have hC8 : Chg [] wr w8 := ((Chg.ofDrew hC5).trans hC6).grown hG8 (fun k hk => .inr (by simp [Value.ownBlock] at hk; rw [← hk]; exact hg5))
          try simp only [Act.put, List.setIfInBounds_toArray, List.set_cons_zero, List.set_cons_succ]
          refine kTake (i := 9) (v := ?_) rfl (by kernel_rfl) (by kernel_rfl) (some 10) rfl (fun _ _ _ h => h) (Or.inl ⟨by rfl, ?_⟩) ?_
          rotate_left 1
          · (intro w; go_simp; try rfl)
          try simp only [Act.put, List.setIfInBounds_toArray, List.set_cons_zero, List.set_cons_succ]
          refine kDone (by kernel_rfl) ?_
          have HO8 := Lib.hid hO8
          have HC8 := Lib.hid hC8
          have hL8 : wr.heap.size ≤ w8.drew.heap.size := hC8.size
          have HL8 := Lib.hid hL8
          have j8 : w8.drew.cell? ⟨jb, 0, none⟩ = some (.pointer (some ⟨b, 0, none⟩)) := hC8.cell j0 (by simp)
          have HO8d := Lib.hid (hC8.drew.step (Chg.refl [] w8.drew) (fun x hx => by cases hx) |> fun _ => (Chg.refl [] w8).drew.owns hO8 (by simp))
          have hsl : SlB w8.drew (.slice (some ⟨sb, 0, none⟩) 32 64) ((padTo 64 pb).take 32) := by
            refine .inr ⟨sb, 0, 64, by simp [padTo_length hA2], by simp [padTo_length hA2], ?_, heap_lt (hC8.drew.heap Hbj.out (by simp))⟩
            intro q v hv
            rw [cell_of_row _ _ _ _ _ _ (hC8.drew.heap Hbj.out (by simp))]
            rw [← vals_take, List.getElem?_take] at hv
            rw [List.getElem?_toArray]
            split at hv
            · rwa [Nat.zero_add]
            · cases hv
          have Hsl := Lib.hid hsl
          clear hO8 hC8 hO5 hO5' hO6 hG8 hN8 hF8 hC5 hC6 hg5 hg6 hL8 hsl
          go_wp2
          refine wp_region_keys [(12, fun W => W.cell? ⟨jb, 0, none⟩ = some (.pointer (some ⟨b, 0, none⟩)))] (by kernel_rfl) ⟨fun _ => j8, trivial⟩ ?_
          refine kTake (i := 0) (v := ?_) rfl (by kernel_rfl) (by kernel_rfl) (some 43) rfl (fun _ _ _ h => h) (Or.inl ⟨by rfl, ?_⟩) ?_
          rotate_left 1
          · (intro w; go_simp; try rfl)
          try simp only [Act.put, List.setIfInBounds_toArray, List.set_cons_zero, List.set_cons_succ]
          refine kTake (i := 1) (v := ?_) rfl (by kernel_rfl) (by kernel_rfl) (some 44) rfl (fun _ _ _ h => h) (Or.inl ⟨by rfl, ?_⟩) ?_
          rotate_left 1
          · (intro w; go_simp; try rfl)
          try simp only [Act.put, List.setIfInBounds_toArray, List.set_cons_zero, List.set_cons_succ]
          refine kTake (i := 2) (v := ?_) rfl (by kernel_rfl) (by kernel_rfl) (some 45) rfl (fun _ _ _ h => h) (Or.inl ⟨by rfl, ?_⟩) ?_
          rotate_left 1
          · (intro w; go_simp; try rfl)
          try simp only [Act.put, List.setIfInBounds_toArray, List.set_cons_zero, List.set_cons_succ]
          refine kLoad (i := 3) 12 _ (v := ?_) rfl (by kernel_rfl) (by kernel_rfl) (.head _) (some 46) rfl (fun _ _ _ h => h) (Or.inl ⟨by rfl, ?_⟩) ?_
          rotate_left 1
          · (intro w hT; go_simp; try rfl)
          try simp only [Act.put, List.setIfInBounds_toArray, List.set_cons_zero, List.set_cons_succ]
          refine kTake (i := 4) (v := ?_) rfl (by kernel_rfl) (by kernel_rfl) (some 47) rfl (fun _ _ _ h => h) (Or.inl ⟨by rfl, ?_⟩) ?_
          rotate_left 1
          · (intro w; go_simp; try rfl)
          try simp only [Act.put, List.setIfInBounds_toArray, List.set_cons_zero, List.set_cons_succ]
          refine kTake (i := 5) (v := ?_) rfl (by kernel_rfl) (by kernel_rfl) (some 48) rfl (fun _ _ _ h => h) (Or.inl ⟨by rfl, ?_⟩) ?_
          rotate_left 1
          · (intro w; go_simp; try rfl)
          try simp only [Act.put, List.setIfInBounds_toArray, List.set_cons_zero, List.set_cons_succ]
          refine kTake (i := 6) (v := ?_) rfl (by kernel_rfl) (by kernel_rfl) (some 49) rfl (fun _ _ _ h => h) (Or.inl ⟨by rfl, ?_⟩) ?_
          rotate_left 1
          · (intro w; go_simp; try rfl)
          try simp only [Act.put, List.setIfInBounds_toArray, List.set_cons_zero, List.set_cons_succ]
          refine kTake (i := 7) (v := ?_) rfl (by kernel_rfl) (by kernel_rfl) (some 50) rfl (fun _ _ _ h => h) (Or.inl ⟨by rfl, ?_⟩) ?_
          rotate_left 1
          · (intro w; go_simp; try rfl)
          try simp only [Act.put, List.setIfInBounds_toArray, List.set_cons_zero, List.set_cons_succ]
          refine kTake (i := 8) (v := ?_) rfl (by kernel_rfl) (by kernel_rfl) (some 51) rfl (fun _ _ _ h => h) (Or.inl ⟨by rfl, ?_⟩) ?_
          rotate_left 1
          · (intro w; go_simp; try rfl)
          try simp only [Act.put, List.setIfInBounds_toArray, List.set_cons_zero, List.set_cons_succ]
          refine kTake (i := 9) (v := ?_) rfl (by kernel_rfl) (by kernel_rfl) (some 52) rfl (fun _ _ _ h => h) (Or.inl ⟨by rfl, ?_⟩) ?_
          rotate_left 1
          · (intro w; go_simp; try rfl)
          try simp only [Act.put, List.setIfInBounds_toArray, List.set_cons_zero, List.set_cons_succ]
          refine kTake (i := 10) (v := ?_) rfl (by kernel_rfl) (by kernel_rfl) (some 53) rfl (fun _ _ _ h => h) (Or.inl ⟨by rfl, ?_⟩) ?_
          rotate_left 1
          · (intro w; go_simp; try rfl)
          try simp only [Act.put, List.setIfInBounds_toArray, List.set_cons_zero, List.set_cons_succ]
          refine kOnly (i := 11) (oi := { dst := (some 54), op := (Go.Op.call { callee := (Go.Callee.builtin Go.Builtin.append), args := #[(Go.Operand.tmp 52), (Go.Operand.tmp 53)], argTypes := #[22, 22] }), type := 22, pos := "journal.go:130", after := #[{ on := 9, ground := Go.Ground.data }, { on := 10, ground := Go.Ground.data }], guard := none }) (by kernel_rfl) rfl (by rfl) (fun K hK => ?_)
          refine wp_append_bytes (.tmp 52) (.tmp 53) rfl Tryd.underlying22 info5 wr.heap.size v8 (.slice (some ⟨sb, 0, none⟩) 32 64) (four next ++ four at_) ((padTo 64 pb).take 32) (by rfl) (by rfl) HO8d.out Hsl.out HL8.out (by simp [padTo_length hA2]) ?_; intro v9 w9 hO9 hG9 hN9 hF9
          have hC9 : Chg [] wr w9 := HC8.out.drew.grown hG9 (fun k hk => .inr (HO8.out.lt k hk).1)
          refine hK _ _ ⟨fun _ => hC9.cell j0 (by simp), trivial⟩ ?_; clear hK K
          obtain ⟨s9, c9, rfl⟩ := hO9.slb.shape
          have hl9 : (four (next : Int) ++ four (at_ : Int) ++ ((padTo 64 pb).take 32)).length = 40 := by simp [padTo_length hA2]
          obtain ⟨p9, hp9⟩ : ∃ p, p = (four (next : Int) ++ four (at_ : Int) ++ ((padTo 64 pb).take 32)) := ⟨_, rfl⟩
          rw [← hp9] at hO9 hl9 ⊢
          have Hl9 := Lib.hid hl9
          clear hl9
          have hJ9 : JAt w9 jb b mj dj next := HJj.out.chg hC9 (by simp) (by simp)
          have hF9' : ∀ a, s9 = some a → a.block ∉ mj.foot b := fun a ha hin => by
            have h1 := (hO9.lt a.block (by rw [ha]; rfl)).1
            have h2 := Hbase.out _ hin
            omega
          have hnx : writes dk ((lay2 next k (at_, pb)).take 1) = dj.write (1 + 2 * k) p9 := by
            rw [Hdj.out, ← writes_snoc _ (1 + 2 * k, p9) dk Hj0.out, hp9]; rfl
          have hS9 := HSj.out.then hC9
          have Hnx := Lib.hid hnx
          clear hnx hp9
          try simp only [Act.put, List.setIfInBounds_toArray, List.set_cons_zero, List.set_cons_succ]
          refine kOnly (i := 12) (oi := { dst := (some 55), op := (Go.Op.call { callee := (Go.Callee.value (Go.Operand.func 29)), args := #[(Go.Operand.tmp 46), (Go.Operand.tmp 51), (Go.Operand.tmp 54)], argTypes := #[24, 3, 22] }), type := 30, pos := "journal.go:130", after := #[{ on := 3, ground := Go.Ground.data }, { on := 8, ground := Go.Ground.data }, { on := 11, ground := Go.Ground.data }, { on := 11, ground := Go.Ground.chain }], guard := none }) (by kernel_rfl) rfl (by rfl) (fun K hK => ?_)
          go_simp; go_at_call 29; refine (write_at b mj dj (1 + 2 * k) _ s9 c9 p9 w9 (by rw [wrapI (2 * (k : Int)) (by omega) (by omega), wrapI (1 + 2 * (k : Int)) (by omega) (by omega), wrapI _ (by omega) (by omega)]; omega) hJ9.disk (by omega) (by rw [Hl9.out]; decide) hO9.slb hF9' hdjw).mono ?_; rintro e w10 ⟨rfl, m10, hD10, hS10⟩
          refine hK _ _ ⟨fun h => absurd h (by decide), trivial⟩ ?_; clear hK K
          try simp only [Act.put, List.setIfInBounds_toArray, List.set_cons_zero, List.set_cons_succ]
          refine kTake (i := 13) (v := ?_) rfl (by kernel_rfl) (by kernel_rfl) (some 11) rfl (fun _ _ _ h => h) (Or.inl ⟨by rfl, ?_⟩) ?_
          rotate_left 1
          · (intro w; go_simp; try rfl)
          try simp only [Act.put, List.setIfInBounds_toArray, List.set_cons_zero, List.set_cons_succ]
          refine kDone (by kernel_rfl) ?_
          have hJ10 := hJ9.step hD10 hS10
          have hS10' := hS9.trans hS10
          have HJ10 := Lib.hid hJ10
          have HS10 := Lib.hid hS10'
          clear hJ10 hS10' hD10 hS10 hJ9 hF9' hO9 hC9 hG9 hN9 hF9 hS9
          rcases write_err dj (1 + 2 * k) p9 with he | he
          · rw [he]
            go_wp2
            go_roundw
            case rel => exact ⟨1, by omega, by go_num, by rw [Hnx.out]; exact he, m10, by rw [Hnx.out]; exact HJ10.out, HS10.out⟩
            case measure => simp [intOf]
          · rw [he]
            go_wp2
            go_ret
            unfold JPost
            have hx := Hall.out ((lay2 next k (at_, pb)).take 1) ((lay2 next k (at_, pb)).drop 1) (List.take_append_drop _ _).symm (by rw [Hnx.out, he]; decide)
            rw [hx, Hnx.out]
            exact ⟨by rw [he]; rfl, m10, HJ10.out, HS2.out.trans HS10.out⟩
        · go_wp2_with (refine wpList_index_pair rfl (.tmp 29) (.tmp 30) rfl (.slice (some ⟨sb, 0, none⟩) 32 64) (.slice (some ⟨sb, 32, none⟩) 32 32) (.slice (some ⟨sb, 32, none⟩) 32 32) 1 (by decide) (by rfl) (by rfl) rfl ?_)
          refine wp_region_keys [(4, fun W => W.cell? ⟨jb, 1, none⟩ = some (.int .i64 (next : Int))), (7, fun W => W.cell? ⟨nb, 0, none⟩ = some (.int .i64 (at_ : Int)))] (by kernel_rfl) ⟨fun _ => jj, fun _ => nj, trivial⟩ ?_
          refine kTake (i := 0) (v := ?_) rfl (by kernel_rfl) (by kernel_rfl) (some 34) rfl (fun _ _ _ h => h) (Or.inl ⟨by rfl, ?_⟩) ?_
          rotate_left 1
          · (intro w; go_simp; try rfl)
          try simp only [Act.put, List.setIfInBounds_toArray, List.set_cons_zero, List.set_cons_succ]
          refine kTake (i := 1) (v := ?_) rfl (by kernel_rfl) (by kernel_rfl) (some 35) rfl (fun _ _ _ h => h) (Or.inl ⟨by rfl, ?_⟩) ?_
          rotate_left 1
          · (intro w; go_simp; try rfl)
          try simp only [Act.put, List.setIfInBounds_toArray, List.set_cons_zero, List.set_cons_succ]
          refine kTake (i := 2) (v := ?_) rfl (by kernel_rfl) (by kernel_rfl) (some 36) rfl (fun _ _ _ h => h) (Or.inl ⟨by rfl, ?_⟩) ?_
          rotate_left 1
          · (intro w; go_simp; try rfl)
          try simp only [Act.put, List.setIfInBounds_toArray, List.set_cons_zero, List.set_cons_succ]
          refine kLoad (i := 3) 4 _ (v := ?_) rfl (by kernel_rfl) (by kernel_rfl) (.head _) (some 37) rfl (fun _ _ _ h => h) (Or.inl ⟨by rfl, ?_⟩) ?_
          rotate_left 1
          · (intro w hT; go_simp; try rfl)
          try simp only [Act.put, List.setIfInBounds_toArray, List.set_cons_zero, List.set_cons_succ]
          refine kTake (i := 5) (v := ?_) rfl (by kernel_rfl) (by kernel_rfl) (some 39) rfl (fun _ _ _ h => h) (Or.inl ⟨by rfl, ?_⟩) ?_
          rotate_left 1
          · (intro w; go_simp; try rfl)
          try simp only [Act.put, List.setIfInBounds_toArray, List.set_cons_zero, List.set_cons_succ]
          refine kLoad (i := 6) 7 _ (v := ?_) rfl (by kernel_rfl) (by kernel_rfl) (.tail _ (.head _)) (some 40) rfl (fun _ _ _ h => h) (Or.inl ⟨by rfl, ?_⟩) ?_
          rotate_left 1
          · (intro w hT; go_simp; try rfl)
          try simp only [Act.put, List.setIfInBounds_toArray, List.set_cons_zero, List.set_cons_succ]
          refine kOnly (i := 4) (oi := { dst := (some 38), op := (Go.Op.call { callee := (Go.Callee.value (Go.Operand.func 90)), args := #[(Go.Operand.tmp 37)], argTypes := #[3] }), type := 22, pos := "journal.go:129", after := #[{ on := 3, ground := Go.Ground.data }], guard := none }) (by kernel_rfl) rfl (by rfl) (fun K hK => ?_)
          go_simp; go_at_call 90; refine (four_spec next wr.drew wr.heap.size (Nat.le_refl _)).mono ?_; rintro e w5 ⟨g5, rfl, hO5, hC5, hg5⟩
          refine hK _ _ ⟨fun h => absurd h (by decide), fun _ => hC5.cell (show wr.drew.cell? _ = _ from nj) (by simp), trivial⟩ ?_; clear hK K
          try simp only [Act.put, List.setIfInBounds_toArray, List.set_cons_zero, List.set_cons_succ]
          refine kOnly (i := 7) (oi := { dst := (some 41), op := (Go.Op.call { callee := (Go.Callee.value (Go.Operand.func 90)), args := #[(Go.Operand.tmp 40)], argTypes := #[3] }), type := 22, pos := "journal.go:129", after := #[{ on := 6, ground := Go.Ground.data }, { on := 4, ground := Go.Ground.chain }], guard := none }) (by kernel_rfl) rfl (by rfl) (fun K hK => ?_)
          go_simp; go_at_call 90; refine (four_spec at_ w5 wr.heap.size (show wr.drew.heap.size ≤ _ from hC5.size)).mono ?_; rintro e w6 ⟨g6, rfl, hO6, hC6, hg6⟩
          refine hK _ _ ⟨fun h => absurd h (by decide), fun h => absurd h (by decide), trivial⟩ ?_; clear hK K
          have hO5' := hC6.owns hO5 (by simp)
          try simp only [Act.put, List.setIfInBounds_toArray, List.set_cons_zero, List.set_cons_succ]
          refine kOnly (i := 8) (oi := { dst := (some 42), op := (Go.Op.call { callee := (Go.Callee.builtin Go.Builtin.append), args := #[(Go.Operand.tmp 38), (Go.Operand.tmp 41)], argTypes := #[22, 22] }), type := 22, pos := "journal.go:129", after := #[{ on := 4, ground := Go.Ground.data }, { on := 7, ground := Go.Ground.data }, { on := 7, ground := Go.Ground.chain }], guard := none }) (by kernel_rfl) rfl (by rfl) (fun K hK => ?_)
          refine wp_append_bytes (.tmp 38) (.tmp 41) rfl Tryd.underlying22 info5 wr.heap.size (.slice (some ⟨g5, 0, none⟩) 4 4) (.slice (some ⟨g6, 0, none⟩) 4 4) (four next) (four at_) (by rfl) (by rfl) hO5' hO6.slb (Nat.le_trans (show wr.drew.heap.size ≤ _ from hC5.size) hC6.size) (by simp) ?_; intro v8 w8 hO8 hG8 hN8 hF8
          refine hK _ _ ⟨fun h => absurd h (by decide), fun h => absurd h (by decide), trivial⟩ ?_; clear hK K
          have hC8 : Chg [] wr w8 := ((Chg.ofDrew hC5).trans hC6).grown hG8 (fun k hk => .inr (by simp [Value.ownBlock] at hk; rw [← hk]; exact hg5))
          try simp only [Act.put, List.setIfInBounds_toArray, List.set_cons_zero, List.set_cons_succ]
          refine kTake (i := 9) (v := ?_) rfl (by kernel_rfl) (by kernel_rfl) (some 10) rfl (fun _ _ _ h => h) (Or.inl ⟨by rfl, ?_⟩) ?_
          rotate_left 1
          · (intro w; go_simp; try rfl)
          try simp only [Act.put, List.setIfInBounds_toArray, List.set_cons_zero, List.set_cons_succ]
          refine kDone (by kernel_rfl) ?_
          have HO8 := Lib.hid hO8
          have HC8 := Lib.hid hC8
          have hL8 : wr.heap.size ≤ w8.drew.heap.size := hC8.size
          have HL8 := Lib.hid hL8
          have j8 : w8.drew.cell? ⟨jb, 0, none⟩ = some (.pointer (some ⟨b, 0, none⟩)) := hC8.cell j0 (by simp)
          have HO8d := Lib.hid (hC8.drew.step (Chg.refl [] w8.drew) (fun x hx => by cases hx) |> fun _ => (Chg.refl [] w8).drew.owns hO8 (by simp))
          have hsl : SlB w8.drew (.slice (some ⟨sb, 32, none⟩) 32 32) ((padTo 64 pb).drop 32) := by
            refine .inr ⟨sb, 32, 32, by simp [padTo_length hA2], by simp [padTo_length hA2], ?_, heap_lt (hC8.drew.heap Hbj.out (by simp))⟩
            intro q v hv
            rw [cell_of_row _ _ _ _ _ _ (hC8.drew.heap Hbj.out (by simp))]
            rw [← vals_drop, List.getElem?_drop] at hv
            rw [List.getElem?_toArray]
            exact hv
          have Hsl := Lib.hid hsl
          clear hO8 hC8 hO5 hO5' hO6 hG8 hN8 hF8 hC5 hC6 hg5 hg6 hL8 hsl
          go_wp2
          refine wp_region_keys [(12, fun W => W.cell? ⟨jb, 0, none⟩ = some (.pointer (some ⟨b, 0, none⟩)))] (by kernel_rfl) ⟨fun _ => j8, trivial⟩ ?_
          refine kTake (i := 0) (v := ?_) rfl (by kernel_rfl) (by kernel_rfl) (some 43) rfl (fun _ _ _ h => h) (Or.inl ⟨by rfl, ?_⟩) ?_
          rotate_left 1
          · (intro w; go_simp; try rfl)
          try simp only [Act.put, List.setIfInBounds_toArray, List.set_cons_zero, List.set_cons_succ]
          refine kTake (i := 1) (v := ?_) rfl (by kernel_rfl) (by kernel_rfl) (some 44) rfl (fun _ _ _ h => h) (Or.inl ⟨by rfl, ?_⟩) ?_
          rotate_left 1
          · (intro w; go_simp; try rfl)
          try simp only [Act.put, List.setIfInBounds_toArray, List.set_cons_zero, List.set_cons_succ]
          refine kTake (i := 2) (v := ?_) rfl (by kernel_rfl) (by kernel_rfl) (some 45) rfl (fun _ _ _ h => h) (Or.inl ⟨by rfl, ?_⟩) ?_
          rotate_left 1
          · (intro w; go_simp; try rfl)
          try simp only [Act.put, List.setIfInBounds_toArray, List.set_cons_zero, List.set_cons_succ]
          refine kLoad (i := 3) 12 _ (v := ?_) rfl (by kernel_rfl) (by kernel_rfl) (.head _) (some 46) rfl (fun _ _ _ h => h) (Or.inl ⟨by rfl, ?_⟩) ?_
          rotate_left 1
          · (intro w hT; go_simp; try rfl)
          try simp only [Act.put, List.setIfInBounds_toArray, List.set_cons_zero, List.set_cons_succ]
          refine kTake (i := 4) (v := ?_) rfl (by kernel_rfl) (by kernel_rfl) (some 47) rfl (fun _ _ _ h => h) (Or.inl ⟨by rfl, ?_⟩) ?_
          rotate_left 1
          · (intro w; go_simp; try rfl)
          try simp only [Act.put, List.setIfInBounds_toArray, List.set_cons_zero, List.set_cons_succ]
          refine kTake (i := 5) (v := ?_) rfl (by kernel_rfl) (by kernel_rfl) (some 48) rfl (fun _ _ _ h => h) (Or.inl ⟨by rfl, ?_⟩) ?_
          rotate_left 1
          · (intro w; go_simp; try rfl)
          try simp only [Act.put, List.setIfInBounds_toArray, List.set_cons_zero, List.set_cons_succ]
          refine kTake (i := 6) (v := ?_) rfl (by kernel_rfl) (by kernel_rfl) (some 49) rfl (fun _ _ _ h => h) (Or.inl ⟨by rfl, ?_⟩) ?_
          rotate_left 1
          · (intro w; go_simp; try rfl)
          try simp only [Act.put, List.setIfInBounds_toArray, List.set_cons_zero, List.set_cons_succ]
          refine kTake (i := 7) (v := ?_) rfl (by kernel_rfl) (by kernel_rfl) (some 50) rfl (fun _ _ _ h => h) (Or.inl ⟨by rfl, ?_⟩) ?_
          rotate_left 1
          · (intro w; go_simp; try rfl)
          try simp only [Act.put, List.setIfInBounds_toArray, List.set_cons_zero, List.set_cons_succ]
          refine kTake (i := 8) (v := ?_) rfl (by kernel_rfl) (by kernel_rfl) (some 51) rfl (fun _ _ _ h => h) (Or.inl ⟨by rfl, ?_⟩) ?_
          rotate_left 1
          · (intro w; go_simp; try rfl)
          try simp only [Act.put, List.setIfInBounds_toArray, List.set_cons_zero, List.set_cons_succ]
          refine kTake (i := 9) (v := ?_) rfl (by kernel_rfl) (by kernel_rfl) (some 52) rfl (fun _ _ _ h => h) (Or.inl ⟨by rfl, ?_⟩) ?_
          rotate_left 1
          · (intro w; go_simp; try rfl)
          try simp only [Act.put, List.setIfInBounds_toArray, List.set_cons_zero, List.set_cons_succ]
          refine kTake (i := 10) (v := ?_) rfl (by kernel_rfl) (by kernel_rfl) (some 53) rfl (fun _ _ _ h => h) (Or.inl ⟨by rfl, ?_⟩) ?_
          rotate_left 1
          · (intro w; go_simp; try rfl)
          try simp only [Act.put, List.setIfInBounds_toArray, List.set_cons_zero, List.set_cons_succ]
          refine kOnly (i := 11) (oi := { dst := (some 54), op := (Go.Op.call { callee := (Go.Callee.builtin Go.Builtin.append), args := #[(Go.Operand.tmp 52), (Go.Operand.tmp 53)], argTypes := #[22, 22] }), type := 22, pos := "journal.go:130", after := #[{ on := 9, ground := Go.Ground.data }, { on := 10, ground := Go.Ground.data }], guard := none }) (by kernel_rfl) rfl (by rfl) (fun K hK => ?_)
          refine wp_append_bytes (.tmp 52) (.tmp 53) rfl Tryd.underlying22 info5 wr.heap.size v8 (.slice (some ⟨sb, 32, none⟩) 32 32) (four next ++ four at_) ((padTo 64 pb).drop 32) (by rfl) (by rfl) HO8d.out Hsl.out HL8.out (by simp [padTo_length hA2]) ?_; intro v9 w9 hO9 hG9 hN9 hF9
          have hC9 : Chg [] wr w9 := HC8.out.drew.grown hG9 (fun k hk => .inr (HO8.out.lt k hk).1)
          refine hK _ _ ⟨fun _ => hC9.cell j0 (by simp), trivial⟩ ?_; clear hK K
          obtain ⟨s9, c9, rfl⟩ := hO9.slb.shape
          have hl9 : (four (next : Int) ++ four (at_ : Int) ++ ((padTo 64 pb).drop 32)).length = 40 := by simp [padTo_length hA2]
          obtain ⟨p9, hp9⟩ : ∃ p, p = (four (next : Int) ++ four (at_ : Int) ++ ((padTo 64 pb).drop 32)) := ⟨_, rfl⟩
          rw [← hp9] at hO9 hl9 ⊢
          have Hl9 := Lib.hid hl9
          clear hl9
          have hJ9 : JAt w9 jb b mj dj next := HJj.out.chg hC9 (by simp) (by simp)
          have hF9' : ∀ a, s9 = some a → a.block ∉ mj.foot b := fun a ha hin => by
            have h1 := (hO9.lt a.block (by rw [ha]; rfl)).1
            have h2 := Hbase.out _ hin
            omega
          have hnx : writes dk ((lay2 next k (at_, pb)).take 2) = dj.write (2 + 2 * k) p9 := by
            rw [Hdj.out, ← writes_snoc _ (2 + 2 * k, p9) dk Hj0.out, hp9]; rfl
          have hS9 := HSj.out.then hC9
          have Hnx := Lib.hid hnx
          clear hnx hp9
          try simp only [Act.put, List.setIfInBounds_toArray, List.set_cons_zero, List.set_cons_succ]
          refine kOnly (i := 12) (oi := { dst := (some 55), op := (Go.Op.call { callee := (Go.Callee.value (Go.Operand.func 29)), args := #[(Go.Operand.tmp 46), (Go.Operand.tmp 51), (Go.Operand.tmp 54)], argTypes := #[24, 3, 22] }), type := 30, pos := "journal.go:130", after := #[{ on := 3, ground := Go.Ground.data }, { on := 8, ground := Go.Ground.data }, { on := 11, ground := Go.Ground.data }, { on := 11, ground := Go.Ground.chain }], guard := none }) (by kernel_rfl) rfl (by rfl) (fun K hK => ?_)
          go_simp; go_at_call 29; refine (write_at b mj dj (2 + 2 * k) _ s9 c9 p9 w9 (by rw [wrapI (2 * (k : Int)) (by omega) (by omega), wrapI (1 + 2 * (k : Int)) (by omega) (by omega), wrapI _ (by omega) (by omega)]; omega) hJ9.disk (by omega) (by rw [Hl9.out]; decide) hO9.slb hF9' hdjw).mono ?_; rintro e w10 ⟨rfl, m10, hD10, hS10⟩
          refine hK _ _ ⟨fun h => absurd h (by decide), trivial⟩ ?_; clear hK K
          try simp only [Act.put, List.setIfInBounds_toArray, List.set_cons_zero, List.set_cons_succ]
          refine kTake (i := 13) (v := ?_) rfl (by kernel_rfl) (by kernel_rfl) (some 11) rfl (fun _ _ _ h => h) (Or.inl ⟨by rfl, ?_⟩) ?_
          rotate_left 1
          · (intro w; go_simp; try rfl)
          try simp only [Act.put, List.setIfInBounds_toArray, List.set_cons_zero, List.set_cons_succ]
          refine kDone (by kernel_rfl) ?_
          have hJ10 := hJ9.step hD10 hS10
          have hS10' := hS9.trans hS10
          have HJ10 := Lib.hid hJ10
          have HS10 := Lib.hid hS10'
          clear hJ10 hS10' hD10 hS10 hJ9 hF9' hO9 hC9 hG9 hN9 hF9 hS9
          rcases write_err dj (2 + 2 * k) p9 with he | he
          · rw [he]
            go_wp2
            go_roundw
            case rel => exact ⟨2, by omega, by go_num, by rw [Hnx.out]; exact he, m10, by rw [Hnx.out]; exact HJ10.out, HS10.out⟩
            case measure => simp [intOf]
          · rw [he]
            go_wp2
            go_ret
            unfold JPost
            have hx := Hall.out ((lay2 next k (at_, pb)).take 2) ((lay2 next k (at_, pb)).drop 2) (List.take_append_drop _ _).symm (by rw [Hnx.out, he]; decide)
            rw [hx, Hnx.out]
            exact ⟨by rw [he]; rfl, m10, HJ10.out, HS2.out.trans HS10.out⟩
        · have he : (writes dk (lay2 next k (at_, pb))).2 = 0 := Hj0.out
          have hd : dj = (writes dk (lay2 next k (at_, pb))).1 := Hdj.out
          go_wp2
          go_roundw
          case rel => exact ⟨k + 1, by omega, by go_num, by rw [Hnext.out]; exact he, mj, by rw [Hnext.out, ← hd]; exact HJj.out, HS2.out.trans HSj.out⟩
          case measure => simp [intOf]; omega
    · have hke : l.take k = l := List.take_of_length_le (by omega)
      rw [hke] at he0 hJk
      have j0 := hJk.cells.1
      have jj := hJk.cells.2
      obtain ⟨dk, hdk⟩ : ∃ dk, dk = (writes d (laidFrom next 0 l)).1 := ⟨_, rfl⟩
      have hdn : dk.n = d.n := by rw [hdk, writes_n]
      have hdw : dk.wet.length < 900000 := by
        have := writes_wet (laidFrom next 0 l) d
        rw [hdk]
        rw [laidFrom_length] at this
        omega
      rw [← hdk] at hJk
      rw [← hdn] at hn
      have Hdk := Lib.hid hdk
      have HJk := Lib.hid hJk
      have HSk := Lib.hid hSk
      have He0 := Lib.hid he0
      clear hdk hdn hJk hSk he0 hke
      go_wp2
      refine wp_region_keys [(13, fun W => W.cell? ⟨jb, 0, none⟩ = some (.pointer (some ⟨b, 0, none⟩))), (8, fun W => W.cell? ⟨jb, 1, none⟩ = some (.int .i64 (next : Int)))] (by kernel_rfl) ⟨fun _ => j0, fun _ => jj, trivial⟩ ?_
      refine kTake (i := 0) (v := ?_) rfl (by kernel_rfl) (by kernel_rfl) (some 61) rfl (fun _ _ _ h => h) (Or.inl ⟨by rfl, ?_⟩) ?_
      rotate_left 1
      · (intro w; go_simp; try rfl)
      try simp only [Act.put, List.setIfInBounds_toArray, List.set_cons_zero, List.set_cons_succ]
      refine kTake (i := 1) (v := ?_) rfl (by kernel_rfl) (by kernel_rfl) (some 62) rfl (fun _ _ _ h => h) (Or.inl ⟨by rfl, ?_⟩) ?_
      rotate_left 1
      · (intro w; go_simp; try rfl)
      try simp only [Act.put, List.setIfInBounds_toArray, List.set_cons_zero, List.set_cons_succ]
      refine kTake (i := 2) (v := ?_) rfl (by kernel_rfl) (by kernel_rfl) (some 63) rfl (fun _ _ _ h => h) (Or.inl ⟨by rfl, ?_⟩) ?_
      rotate_left 1
      · (intro w; go_simp; try rfl)
      try simp only [Act.put, List.setIfInBounds_toArray, List.set_cons_zero, List.set_cons_succ]
      refine kLoad (i := 3) 13 _ (v := ?_) rfl (by kernel_rfl) (by kernel_rfl) (.head _) (some 64) rfl (fun _ _ _ h => h) (Or.inl ⟨by rfl, ?_⟩) ?_
      rotate_left 1
      · (intro w hT; go_simp; try rfl)
      try simp only [Act.put, List.setIfInBounds_toArray, List.set_cons_zero, List.set_cons_succ]
      refine kTake (i := 4) (v := ?_) rfl (by kernel_rfl) (by kernel_rfl) (some 65) rfl (fun _ _ _ h => h) (Or.inl ⟨by rfl, ?_⟩) ?_
      rotate_left 1
      · (intro w; go_simp; try rfl)
      try simp only [Act.put, List.setIfInBounds_toArray, List.set_cons_zero, List.set_cons_succ]
      refine kTake (i := 5) (v := ?_) rfl (by kernel_rfl) (by kernel_rfl) (some 66) rfl (fun _ _ _ h => h) (Or.inl ⟨by rfl, ?_⟩) ?_
      rotate_left 1
      · (intro w; go_simp; try rfl)
      try simp only [Act.put, List.setIfInBounds_toArray, List.set_cons_zero, List.set_cons_succ]
      refine kTake (i := 6) (v := ?_) rfl (by kernel_rfl) (by kernel_rfl) (some 67) rfl (fun _ _ _ h => h) (Or.inl ⟨by rfl, ?_⟩) ?_
      rotate_left 1
      · (intro w; go_simp; try rfl)
      try simp only [Act.put, List.setIfInBounds_toArray, List.set_cons_zero, List.set_cons_succ]
      refine kLoad (i := 7) 8 _ (v := ?_) rfl (by kernel_rfl) (by kernel_rfl) (.tail _ (.head _)) (some 68) rfl (fun _ _ _ h => h) (Or.inl ⟨by rfl, ?_⟩) ?_
      rotate_left 1
      · (intro w hT; go_simp; try rfl)
      try simp only [Act.put, List.setIfInBounds_toArray, List.set_cons_zero, List.set_cons_succ]
      refine kTake (i := 9) (v := ?_) rfl (by kernel_rfl) (by kernel_rfl) (some 70) rfl (fun _ _ _ h => h) (Or.inl ⟨by rfl, ?_⟩) ?_
      rotate_left 1
      · (intro w; go_simp; try rfl)
      try simp only [Act.put, List.setIfInBounds_toArray, List.set_cons_zero, List.set_cons_succ]
      refine kTake (i := 10) (v := ?_) rfl (by kernel_rfl) (by kernel_rfl) (some 71) rfl (fun _ _ _ h => h) (Or.inl ⟨by rfl, ?_⟩) ?_
      rotate_left 1
      · (intro w; go_simp; try rfl)
      try simp only [Act.put, List.setIfInBounds_toArray, List.set_cons_zero, List.set_cons_succ]
      refine kOnly (i := 8) (oi := { dst := (some 69), op := (Go.Op.call { callee := (Go.Callee.value (Go.Operand.func 90)), args := #[(Go.Operand.tmp 68)], argTypes := #[3] }), type := 22, pos := "journal.go:135", after := #[{ on := 7, ground := Go.Ground.data }], guard := none }) (by kernel_rfl) rfl (by rfl) (fun K hK => ?_)
      go_simp; go_at_call 90; refine (four_spec next wr.drew wr.heap.size (Nat.le_refl _)).mono ?_; rintro e w5 ⟨g5, rfl, hO5, hC5, hg5⟩
      refine hK _ _ ⟨fun _ => hC5.cell (show wr.drew.cell? _ = _ from j0) (by simp), fun h => absurd h (by decide), trivial⟩ ?_; clear hK K
      try simp only [Act.put, List.setIfInBounds_toArray, List.set_cons_zero, List.set_cons_succ]
      refine kOnly (i := 11) (oi := { dst := (some 72), op := (Go.Op.call { callee := (Go.Callee.value (Go.Operand.func 90)), args := #[(Go.Operand.tmp 71)], argTypes := #[3] }), type := 22, pos := "journal.go:135", after := #[{ on := 10, ground := Go.Ground.data }, { on := 8, ground := Go.Ground.chain }], guard := none }) (by kernel_rfl) rfl (by rfl) (fun K hK => ?_)
      go_simp; go_at_call 90; refine (four_spec l.length w5 wr.heap.size (show wr.drew.heap.size ≤ _ from hC5.size)).mono ?_; rintro e w6 ⟨g6, rfl, hO6, hC6, hg6⟩
      have hO5' := hC6.owns hO5 (by simp)
      have hC6' := (Chg.ofDrew hC5).trans hC6
      refine hK _ _ ⟨fun _ => hC6'.cell j0 (by simp), fun h => absurd h (by decide), trivial⟩ ?_; clear hK K
      try simp only [Act.put, List.setIfInBounds_toArray, List.set_cons_zero, List.set_cons_succ]
      refine kOnly (i := 12) (oi := { dst := (some 73), op := (Go.Op.call { callee := (Go.Callee.builtin Go.Builtin.append), args := #[(Go.Operand.tmp 69), (Go.Operand.tmp 72)], argTypes := #[22, 22] }), type := 22, pos := "journal.go:135", after := #[{ on := 8, ground := Go.Ground.data }, { on := 11, ground := Go.Ground.data }, { on := 11, ground := Go.Ground.chain }], guard := none }) (by kernel_rfl) rfl (by rfl) (fun K hK => ?_)
      refine wp_append_bytes (.tmp 69) (.tmp 72) rfl Tryd.underlying22 info5 wr.heap.size (.slice (some ⟨g5, 0, none⟩) 4 4) (.slice (some ⟨g6, 0, none⟩) 4 4) (four next) (four l.length) (by rfl) (by rfl) hO5' hO6.slb hC6'.size (by simp) ?_; intro v9 w9 hO9 hG9 hN9 hF9
      have hC9 : Chg [] wr w9 := hC6'.grown hG9 (fun k hk => .inr (by simp [Value.ownBlock] at hk; rw [← hk]; exact hg5))
      refine hK _ _ ⟨fun _ => hC9.cell j0 (by simp), fun h => absurd h (by decide), trivial⟩ ?_; clear hK K
      obtain ⟨s9, c9, rfl⟩ := hO9.slb.shape
      have hl9 : (four (next : Int) ++ four (l.length : Int)).length = 8 := by simp
      obtain ⟨p9, hp9⟩ : ∃ p, p = (four (next : Int) ++ four (l.length : Int)) := ⟨_, rfl⟩
      rw [← hp9] at hO9 hl9 ⊢
      have Hl9 := Lib.hid hl9
      have hJ9 : JAt w9 jb b mk dk next := HJk.out.chg hC9 (by simp) (by simp)
      have hF9' : ∀ a, s9 = some a → a.block ∉ mk.foot b := fun a ha hin => by
        have h1 := (hO9.lt a.block (by rw [ha]; rfl)).1
        have h2 := HJk.out.disk.footlt _ hin
        omega
      have hnx : writes d (laid next l) = dk.write 0 p9 := by
        rw [laid, Hdk.out, ← writes_snoc _ (0, p9) d He0.out, hp9]
      have hS9 := HSk.out.then hC9
      have Hnx := Lib.hid hnx
      clear hnx hp9 hl9
      try simp only [Act.put, List.setIfInBounds_toArray, List.set_cons_zero, List.set_cons_succ]
      refine kOnly (i := 13) (oi := { dst := (some 74), op := (Go.Op.call { callee := (Go.Callee.value (Go.Operand.func 29)), args := #[(Go.Operand.tmp 64), (Go.Operand.const (Go.Value.int Go.IntKind.i64 0)), (Go.Operand.tmp 73)], argTypes := #[24, 3, 22] }), type := 30, pos := "journal.go:135", after := #[{ on := 3, ground := Go.Ground.data }, { on := 12, ground := Go.Ground.data }, { on := 12, ground := Go.Ground.chain }], guard := none }) (by kernel_rfl) rfl (by rfl) (fun K hK => ?_)
      go_simp; go_at_call 29; refine (write_at b mk dk 0 _ s9 c9 p9 w9 rfl hJ9.disk (by omega) (by rw [Hl9.out]; decide) hO9.slb hF9' (by omega)).mono ?_; rintro e w10 ⟨rfl, m10, hD10, hS10⟩
      refine hK _ _ ⟨fun h => absurd h (by decide), fun h => absurd h (by decide), trivial⟩ ?_; clear hK K
      try simp only [Act.put, List.setIfInBounds_toArray, List.set_cons_zero, List.set_cons_succ]
      refine kTake (i := 14) (v := ?_) rfl (by kernel_rfl) (by kernel_rfl) (some 12) rfl (fun _ _ _ h => h) (Or.inl ⟨by rfl, ?_⟩) ?_
      rotate_left 1
      · (intro w; go_simp; try rfl)
      try simp only [Act.put, List.setIfInBounds_toArray, List.set_cons_zero, List.set_cons_succ]
      refine kDone (by kernel_rfl) ?_
      have hJ10 := hJ9.step hD10 hS10
      have hS10' := hS9.trans hS10
      have HJ10 := Lib.hid hJ10
      have HS10 := Lib.hid hS10'
      have hdw' := write_wet dk 0 p9
      clear hJ10 hS10' hD10 hS10 hJ9 hF9' hO9 hC9 hG9 hN9 hF9 hS9 hO5 hO6 hO5' hC5 hC6 hC6' hg5 hg6
      have j1 := HJ10.out.cells.1
      rcases write_err dk 0 p9 with he | he
      · have hcm : commit d (laid next l) = (dk.write 0 p9).1.flush := by rw [commit, Hnx.out, if_pos he]
        have Hcm := Lib.hid hcm
        clear hcm
        rw [he]
        go_wp2_with (go_at_call 30; refine (flush_spec b m10 _ w10 HJ10.out.disk (by omega)).mono ?_; rintro e w' ⟨rfl, m2, hD2, hS2⟩)
        go_ret
        unfold JPost
        rw [Hcm.out]
        exact ⟨rfl, m2, HJ10.out.step hD2 hS2, HS10.out.trans hS2⟩
      · have hcm : commit d (laid next l) = dk.write 0 p9 := by rw [commit, Hnx.out, if_neg (by rw [he]; decide)]
        have Hcm := Lib.hid hcm
        clear hcm
        rw [he]
        go_wp2
        go_ret
        unfold JPost
        rw [Hcm.out]
        exact ⟨by rw [he]; rfl, m10, HJ10.out, HS10.out⟩

end Go.Proofs.YtaacejpienbkgaaDoor
