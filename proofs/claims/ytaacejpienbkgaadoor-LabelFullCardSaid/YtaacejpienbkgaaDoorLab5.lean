/- label.Open of a fresh disk, walked. -/
import Derived.Test.YtaacejpienbkgaaDoorLab4
namespace Go.Proofs.YtaacejpienbkgaaDoor
open Go.RowKit

/-- A table's cells. -/
def tcells (jb : Nat) (l : List Rf) : Array Value := (.pointer (some ⟨jb, 0, none⟩) :: l.flatMap rcells).toArray
def noRefs : List Rf := List.replicate 12 Rf.none

theorem set_replicate (r : Rf) : ∀ (n k : Nat), (List.replicate n r).set k r = List.replicate n r
  | 0, _ => rfl
  | n + 1, 0 => rfl
  | n + 1, k + 1 => by rw [List.replicate_succ, List.set_cons_succ, set_replicate r n k]
theorem noRefs_set (k : Nat) : noRefs.set k Rf.none = noRefs := set_replicate _ _ _
theorem run_build134 (w : World) (jb : Nat) : (Instr.build 134 #[(0, .pointer (some ⟨jb, 0, none⟩))]).run Tryd.prog w = .ok (.agg (tcells jb noRefs)) w := by
  kernel_rfl

section
variable {o : Oper} {a : Act} {w : World} {Q : Exit → Act → World → Prop} {ops : Array Oper} {rest : List Oper}
theorem wpList_build134 (hgd : o.guard = none) (x : Operand) (ho : o.op = .build 134 #[(0, x)]) (jb : Nat) (hx : a.eval x = .pointer (some ⟨jb, 0, none⟩))
    (h : wpList Tryd.prog ops Q rest (a.put o.dst (.agg (tcells jb noRefs))) w) : wpList Tryd.prog ops Q (o :: rest) a w :=
  wpList_plain hgd fun _ hK => by
    have hr := run_build134 w jb
    unfold Oper.wp execOp
    simp only [ho, List.map_toArray, List.map_cons, List.map_nil, hx, Sem.run_bind, hr, Result.andThen_ok, Sem.run_pure]
    exact hK _ _ h
end

theorem jread_at (jb b : Nat) (m : DMem) (d : Dsk) (next : Nat) (i : Nat) (x : Int) (w : World) (hx : x = (i : Int)) (h : JAt w jb b m d next) (hi : 49 + i < d.n) (hoff : d.off = false) (hwl : d.wet.length < 1000000) :
    Calls Tryd.prog 71 #[.pointer (some ⟨jb, 0, none⟩), .int .i64 x] w (ReadPost (d.cur (49 + i)) w) := by
  subst hx
  refine (jread_spec jb b m d next i w h hi hwl).mono ?_
  rintro e w' (⟨ho, _⟩ | ⟨_, hp⟩)
  · rw [hoff] at ho; cases ho
  · exact hp

def OpRel (tb jb : Nat) (w : World) (x : Value) (wr : World) : Prop := ∃ k : Nat, k ≤ 12 ∧ x = .int .i64 k ∧ TAt wr tb jb noRefs ∧ Chg [] w wr

set_option maxRecDepth 100000 in
set_option maxHeartbeats 1000000 in
theorem lopenz_spec (jb b : Nat) (m : DMem) (d : Dsk) (next : Nat) (w : World) (h : JAt w jb b m d next) (hn : 109 < d.n) (hoff : d.off = false) (hwl : d.wet.length < 1000000) (hz : ∀ i, i < 12 → d.cur (97 + i) = zeros 64) :
    Calls Tryd.prog 32 #[.pointer (some ⟨jb, 0, none⟩)] w fun e w' => ∃ tb, e = .returned (.tuple #[.pointer (some ⟨tb, 0, none⟩), .int .i64 0]) ∧ TAt w' tb jb noRefs ∧ Chg [] w w' ∧ w.heap.size ≤ tb := by
  have H := Lib.hid h
  have Hoff := Lib.hid hoff
  have Hz := Lib.hid hz
  have hn4 := h.disk.ok.n
  have hT0 : TAt (w.alloc (.cells (tcells jb noRefs) 134)) w.heap.size jb noRefs := TAt.of_row (heap_alloc_new _ _) rfl (fun r hr => by rw [List.eq_of_mem_replicate hr]; exact ⟨rfl, by decide⟩)
  have HT0 := Lib.hid hT0
  have HC0 : Hid (Chg [] w (w.alloc (.cells (tcells jb noRefs) 134))) := Lib.hid ((Chg.refl [] w).alloc _)
  clear h hoff hz hT0
  go_enter Tryd.func32, Tryd.ntmps32
  go_wp2_with (first
    | (go_at_call 70; refine (jsectors_spec jb b m d next _ H.out).mono ?_; rintro e w' ⟨rfl, hw'⟩; rw [← hw']; clear hw' w')
    | (refine wpList_build134 rfl (.tmp 13) rfl jb (by rfl) ?_))
  obtain ⟨tb, htb⟩ : ∃ tb, tb = w.heap.size := ⟨_, rfl⟩
  rw [← htb] at HT0 ⊢
  have Htb := Lib.hid htb
  clear htb
  go_loopw [16] (fun x wr => OpRel tb jb w x wr) (fun x _ => 12 - (intOf x).toNat)
  case atStart => exact ⟨0, by omega, rfl, HT0.out, HC0.out⟩
  case round =>
    obtain ⟨k, hk, rfl, hT, hC⟩ := hrel
    have HT := Lib.hid hT
    have HC := Lib.hid hC
    have HJ := Lib.hid (H.out.chg hC (by simp) (by simp))
    clear hT hC
    by_cases hlt : k < 12
    · have hzk : d.cur (49 + (48 + k)) = zeros 64 := by rw [show 49 + (48 + k) = 97 + k by omega]; exact Hz.out k hlt
      have h00 : (rcells Rf.none)[0]? = some (.string ⟨#[]⟩) := rfl
      have Hzk := Lib.hid hzk
      clear hzk
      go_wp2_with (first
        | (go_at_call 71; refine (jread_at jb b m d next (48 + k) _ wr (by omega) HJ.out (by omega) Hoff.out hwl).mono ?_; rintro e w1 ⟨g, hg0, rfl, hg, hC1⟩; rw [Hzk.out] at hg; have Hg := Lib.hid hg; have HC1 := Lib.hid hC1; clear hg hC1 hg0)
        | (go_at_call 72; refine (unpackz_spec _ w1 (slb_block Hg.out (by simp))).mono ?_; rintro e w2 ⟨rfl, hC2⟩; have HC2 := Lib.hid hC2; clear hC2)
        | (refine wpList_store_new rfl 48 (.tmp 8) (.tmp 32) rfl _ _ rfl 48 _ _ (rcells Rf.none).toArray rfl (by rfl) rfl rfl (by rw [size48]; rfl) (all_oneCell_toArray (rcells_one _)) ?_))
      obtain ⟨w3, hw3⟩ : ∃ w3, w3 = w2.alloc (Obj.cells (rcells Rf.none).toArray 48) := ⟨_, rfl⟩
      obtain ⟨rb, hrb⟩ : ∃ rb, rb = w2.heap.size := ⟨_, rfl⟩
      have hrow : w3.heap[rb]? = some (Obj.cells (rcells Rf.none).toArray 48 (0, 0)) := by rw [hw3, hrb]; exact heap_alloc_new _ _
      have hr0 : w3.rangeAt rb 0 (rcells Rf.none) := range_of_row hrow
      have hC3 : Chg [] wr w3 := by rw [hw3]; exact (HC1.out.trans HC2.out).alloc _
      have hT3 := HT.out.chg hC3 (by simp)
      have hC3w : Chg [] w w3 := HC.out.trans hC3
      rw [← hw3, ← hrb]
      have HT3 := Lib.hid hT3
      have HC3 := Lib.hid hC3w
      clear hw3 hrb hrow hC3 hT3 hC3w h00
      refine wp_region_keys [(6, fun W => W.rangeAt rb 0 (rcells Rf.none))] (by kernel_rfl) ⟨fun _ => hr0, trivial⟩ ?_
      refine kTake (i := 0) (v := ?_) rfl (by kernel_rfl) (by kernel_rfl) (some 48) rfl (fun _ _ _ h => h) (Or.inl ⟨by rfl, ?_⟩) ?_
      rotate_left 1
      · (intro w; go_simp; try rfl)
      try simp only [Act.put, List.setIfInBounds_toArray, List.set_cons_zero, List.set_cons_succ]
      refine kTake (i := 1) (v := ?_) rfl (by kernel_rfl) (by kernel_rfl) (some 49) rfl (fun _ _ _ h => h) (Or.inl ⟨by rfl, ?_⟩) ?_
      rotate_left 1
      · (intro w; go_simp; try rfl)
      try simp only [Act.put, List.setIfInBounds_toArray, List.set_cons_zero, List.set_cons_succ]
      refine kLoad (i := 2) 6 _ (v := .agg (rcells Rf.none).toArray) rfl (by kernel_rfl) (by kernel_rfl) (.head _) (some 50) rfl (fun _ _ _ h => h) (yieldsIf_load_mid (by rfl) 48 (.tmp 8) rfl rb 0 (by rfl) _ _ (fun _ h => h) Tryd.underlying48 rfl (by rw [size48]; rfl)) ?_
      try simp only [Act.put, List.setIfInBounds_toArray, List.set_cons_zero, List.set_cons_succ]
      refine kTake (i := 3) (v := ?_) rfl (by kernel_rfl) (by kernel_rfl) (some 51) rfl (fun _ _ _ h => h) (Or.inl ⟨by rfl, ?_⟩) ?_
      rotate_left 1
      · (intro w; go_simp; try rfl)
      try simp only [Act.put, List.setIfInBounds_toArray, List.set_cons_zero, List.set_cons_succ]
      refine kTake (i := 4) (v := ?_) rfl (by kernel_rfl) (by kernel_rfl) (some 52) rfl (fun _ _ _ h => h) (Or.inl ⟨by rfl, ?_⟩) ?_
      rotate_left 1
      · (intro w; go_simp; try rfl)
      try simp only [Act.put, List.setIfInBounds_toArray, List.set_cons_zero, List.set_cons_succ]
      refine kTake (i := 5) (v := ?_) rfl (by kernel_rfl) (by kernel_rfl) (some 53) rfl (fun _ _ _ h => h) (Or.inl ⟨by rfl, ?_⟩) ?_
      rotate_left 1
      · (intro w; go_simp; try rfl)
      try simp only [Act.put, List.setIfInBounds_toArray, List.set_cons_zero, List.set_cons_succ]
      refine kOnly (i := 6) (oi := { dst := none, op := (Go.Op.store 48 (Go.Operand.tmp 53) (Go.Operand.tmp 50)), type := 0, pos := "label.go:84", after := #[{ on := 5, ground := Go.Ground.data }, { on := 2, ground := Go.Ground.data }, { on := 0, ground := Go.Ground.phase }, { on := 1, ground := Go.Ground.phase }, { on := 2, ground := Go.Ground.phase }], guard := none }) (by kernel_rfl) rfl (by rfl) (fun K hK => ?_)
      refine wp_store_mid 48 (.tmp 53) (.tmp 50) rfl tb (1 + k * 34) (rcells Rf.none).toArray (by rfl) (by rfl) ?th (by rw [size48]; rfl) (all_oneCell_toArray (rcells_one _)) ?_
      case th => exact (World.there_drew _ _ _ _).2 (HT3.out.there k hlt)
      refine hK _ _ ⟨fun h => absurd h (by decide), trivial⟩ ?_; clear hK K
      refine kDone (by kernel_rfl) ?_
      go_wp2
      go_roundw
      case rel =>
        have hp := (HT3.out.chg (Chg.refl [] w3).drew (by simp)).put k hlt Rf.none ⟨rfl, by decide⟩
        rw [noRefs_set] at hp
        exact ⟨k + 1, by omega, by go_num, hp.1, HC3.out.drew.step hp.2 (fun x hx => .inr (by simp only [List.mem_singleton] at hx; have h := Htb.out; omega))⟩
      case measure => simp [intOf]; omega
    · go_wp2
      go_ret2
      exact ⟨tb, rfl, HT.out, HC.out, by rw [Htb.out]; exact Nat.le_refl _⟩

end Go.Proofs.YtaacejpienbkgaaDoor
