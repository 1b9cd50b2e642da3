/- The journal as a plain Lean value, how it lies in memory; Sectors, Read, apply, walked. -/
import Derived.Test.YtaacejpienbkgaaDoorDisk5
import Derived.Test.YtaacejpienbkgaaDoorCheck0
namespace Go.Proofs.YtaacejpienbkgaaDoor
open Go.RowKit

/-- Writes, one behind the other, till one goes wrong. -/
def writes (d : Dsk) : List (Nat × Bytes) → Dsk × Int
  | [] => (d, 0)
  | x :: r => if (d.write x.1 x.2).2 = 0 then writes (d.write x.1 x.2).1 r else d.write x.1 x.2
theorem writes_append (a b : List (Nat × Bytes)) : ∀ (d : Dsk), writes d (a ++ b) = if (writes d a).2 = 0 then writes (writes d a).1 b else writes d a := by
  induction a with
  | nil => intro d; simp [writes]
  | cons x r ih =>
    intro d
    simp only [List.cons_append, writes]
    split
    · exact ih _
    · rename_i h; first | rfl | rw [if_neg h]
theorem writes_snoc (a : List (Nat × Bytes)) (x : Nat × Bytes) (d : Dsk) (h : (writes d a).2 = 0) : writes d (a ++ [x]) = (writes d a).1.write x.1 x.2 := by
  rw [writes_append, if_pos h]
  simp only [writes]
  split
  · rename_i h2
    exact Prod.ext rfl h2.symm
  · rfl
theorem writes_stop (a b : List (Nat × Bytes)) (d : Dsk) (h : (writes d a).2 ≠ 0) : writes d (a ++ b) = writes d a := by rw [writes_append, if_neg h]
/-- Writes, and they are safe. -/
def commit (d : Dsk) (l : List (Nat × Bytes)) : Dsk × Int := if (writes d l).2 = 0 then (writes d l).1.flush else writes d l

theorem write_err (d : Dsk) (i : Nat) (p : Bytes) : (d.write i p).2 = 0 ∨ (d.write i p).2 = 9 := by
  unfold Dsk.write; split
  · exact .inr rfl
  · dsimp only; split
    · exact .inl rfl
    · exact .inr rfl
@[simp] theorem write_n (d : Dsk) (i : Nat) (p : Bytes) : (d.write i p).1.n = d.n := by unfold Dsk.write; split <;> simp
theorem write_wet (d : Dsk) (i : Nat) (p : Bytes) : (d.write i p).1.wet.length ≤ d.wet.length + 1 := by unfold Dsk.write; split <;> simp
@[simp] theorem writes_n : ∀ (l : List (Nat × Bytes)) (d : Dsk), (writes d l).1.n = d.n
  | [], _ => rfl
  | x :: r, d => by
    unfold writes
    split
    · rw [writes_n r, write_n]
    · exact write_n _ _ _
theorem writes_wet : ∀ (l : List (Nat × Bytes)) (d : Dsk), (writes d l).1.wet.length ≤ d.wet.length + l.length
  | [], _ => by simp [writes]
  | x :: r, d => by
    have h1 := write_wet d x.1 x.2
    unfold writes
    split
    · have := writes_wet r (d.write x.1 x.2).1
      simp only [List.length_cons]
      omega
    · simp only [List.length_cons]
      omega

/-- What a value points to lies in no block of F. -/
def SlOff (F : List Nat) (v : Value) : Prop := ∀ k, v.ownBlock = some k → k ∉ F

/-- A journal lies at jb: its disk, the next number. -/
structure JAt (w : World) (jb b : Nat) (m : DMem) (d : Dsk) (next : Nat) : Prop where
  head : w.heap[jb]? = some (.cells #[.pointer (some ⟨b, 0, none⟩), .int .i64 next] 129 (0, 0))
  disk : DiskAt w b m d
  ap : jb ∉ m.foot b
theorem JAt.jlt {w : World} {jb b : Nat} {m : DMem} {d : Dsk} {next : Nat} (h : JAt w jb b m d next) : jb < w.heap.size := heap_lt h.head
theorem JAt.step {w w' : World} {jb b : Nat} {m m' : DMem} {d d' : Dsk} {next : Nat} (h : JAt w jb b m d next) (hD : DiskAt w' b m' d') (hS : DStep b w m w' m') : JAt w' jb b m' d' next where
  head := hS.1.heap h.head h.ap
  disk := hD
  ap := fun hk => by
    rcases hS.2 _ hk with h1 | h1
    · exact h.ap h1
    · have := h.jlt; omega
theorem JAt.chg {F : List Nat} {w w' : World} {jb b : Nat} {m : DMem} {d : Dsk} {next : Nat} (h : JAt w jb b m d next) (hC : Chg F w w') (hj : jb ∉ F) (hn : ∀ k, k ∈ m.foot b → k ∉ F) : JAt w' jb b m d next :=
  ⟨hC.heap h.head hj, h.disk.chg hC hn, h.ap⟩
theorem JAt.cells {w : World} {jb b : Nat} {m : DMem} {d : Dsk} {next : Nat} (h : JAt w jb b m d next) :
    w.cell? ⟨jb, 0, none⟩ = some (.pointer (some ⟨b, 0, none⟩)) ∧ w.cell? ⟨jb, 1, none⟩ = some (.int .i64 next) := by
  refine ⟨?_, ?_⟩ <;> rw [cell_of_row w jb _ _ _ _ h.head] <;> rfl

/-- Pages, in a slice: their places, their bytes; none of it in a block of F. -/
def PgsAt (F : List Nat) (w : World) (sp : Option Addr) (l : List (Nat × Bytes)) : Prop :=
  ∀ (k : Nat) (hk : k < l.length), ∃ g pv, sp = some ⟨g, 0, none⟩ ∧ g ∉ F ∧ w.rangeAt g (k * 2) [.int .i64 (l[k].1 : Int), pv] ∧ SlB w pv l[k].2 ∧ SlOff F pv
theorem PgsAt.chg {F G : List Nat} {w w' : World} {sp : Option Addr} {l : List (Nat × Bytes)} (h : PgsAt F w sp l) (hC : Chg G w w') (hG : ∀ k, k ∈ G → k ∈ F) : PgsAt F w' sp l := by
  intro k hk
  obtain ⟨g, pv, h1, h2, h3, h4, h5⟩ := h k hk
  exact ⟨g, pv, h1, h2, hC.range h3 (fun hg => h2 (hG _ hg)), h4.chg hC (fun j hj hg => h5 j hj (hG _ hg)), h5⟩
theorem PgsAt.off {F G : List Nat} {w : World} {sp : Option Addr} {l : List (Nat × Bytes)} (h : PgsAt F w sp l) (hG : ∀ k, k ∈ G → k ∈ F ∨ w.heap.size ≤ k) : PgsAt G w sp l := by
  intro k hk
  obtain ⟨g, pv, h1, h2, h3, h4, h5⟩ := h k hk
  refine ⟨g, pv, h1, fun hg => ?_, h3, h4, fun j hj hg => ?_⟩
  · rcases hG _ hg with h | h
    · exact h2 h
    · have := range_lt h3 (by simp); omega
  · rcases hG _ hg with h | h
    · exact h5 j hj h
    · have := h4.lt j hj; omega
theorem SlB.shape {w : World} {v : Value} {xs : Bytes} (h : SlB w v xs) : ∃ sp cap, v = .slice sp xs.length cap := by
  rcases h with ⟨rfl, rfl⟩ | ⟨b, o, cap, rfl, _⟩
  · exact ⟨_, _, rfl⟩
  · exact ⟨_, _, rfl⟩

theorem read_at (b : Nat) (m : DMem) (d : Dsk) (i : Nat) (x : Int) (w : World) (hx : x = (i : Int)) (h : DiskAt w b m d) (hi : i < d.n) (hwl : d.wet.length < 1000000) :
    Calls Tryd.prog 20 #[.pointer (some ⟨b, 0, none⟩), .int .i64 x] w fun e w' =>
      (d.off = true ∧ e = .returned (.tuple #[.slice none 0 0, .int .i64 9]) ∧ w = w') ∨ (d.off = false ∧ ReadPost (d.cur i) w e w') := by
  subst hx; exact read_spec b m d i w h hi hwl
theorem write_at (b : Nat) (m : DMem) (d : Dsk) (i : Nat) (x : Int) (sp : Option Addr) (cap : Nat) (p : Bytes) (w : World) (hx : x = (i : Int)) (h : DiskAt w b m d) (hi : i < d.n) (hp : p.length ≤ 64)
    (hr : SlB w (.slice sp p.length cap) p) (hne : ∀ a, sp = some a → a.block ∉ m.foot b) (hwl : d.wet.length < 1000000) :
    Calls Tryd.prog 29 #[.pointer (some ⟨b, 0, none⟩), .int .i64 x, .slice sp p.length cap] w (WritePost b m d i p w) := by
  subst hx; exact write_spec b m d i sp cap p w h hi hp hr hne hwl

set_option maxHeartbeats 400000 in
theorem jsectors_spec (jb b : Nat) (m : DMem) (d : Dsk) (next : Nat) (w : World) (h : JAt w jb b m d next) :
    Calls Tryd.prog 70 #[.pointer (some ⟨jb, 0, none⟩)] w fun e w' => e = .returned (.int .i64 ((d.n : Int) - 49)) ∧ w = w' := by
  obtain ⟨c0, -⟩ := h.cells
  have H := Lib.hid h
  have hn := h.disk.ok.n
  clear h
  go_enter Tryd.func70, Tryd.ntmps70
  go_wp2_with (go_at_call 58; refine (sectors_spec b m d _ H.out.disk).mono ?_; rintro e w' ⟨rfl, rfl⟩)
  go_ret
  exact ⟨rfl, rfl⟩

set_option maxHeartbeats 400000 in
theorem jread_spec (jb b : Nat) (m : DMem) (d : Dsk) (next : Nat) (i : Nat) (w : World) (h : JAt w jb b m d next) (hi : 49 + i < d.n) (hwl : d.wet.length < 1000000) :
    Calls Tryd.prog 71 #[.pointer (some ⟨jb, 0, none⟩), .int .i64 i] w fun e w' =>
      (d.off = true ∧ e = .returned (.tuple #[.slice none 0 0, .int .i64 9]) ∧ w = w') ∨ (d.off = false ∧ ReadPost (d.cur (49 + i)) w e w') := by
  obtain ⟨c0, -⟩ := h.cells
  have H := Lib.hid h
  have hn := h.disk.ok.n
  clear h
  go_enter Tryd.func71, Tryd.ntmps71
  go_wp2_with (first | (go_at_call 70; refine (jsectors_spec jb b m d next _ H.out).mono ?_; rintro e w' ⟨rfl, rfl⟩) | (go_at_call 20; refine (read_at b m d (49 + i) _ _ (by omega) H.out.disk hi hwl).mono ?_; rintro e w' (⟨ho, rfl, rfl⟩ | ⟨ho, g, hg, rfl, hb, hC⟩)))
  · go_ret2
    exact .inl ⟨ho, rfl, rfl⟩
  · go_ret2
    exact .inr ⟨ho, g, hg, rfl, hb, hC⟩

theorem size109 : (Tryd.prog.info? 109).map (·.size) = some 2 := by kernel_rfl

/-- What a call of the journal's leaves: an error, the disk, the journal as it was but for it. -/
def JPost (jb b : Nat) (m : DMem) (next : Nat) (r : Dsk × Int) (w : World) (e : Ending) (w' : World) : Prop :=
  e = .returned (.int .i64 r.2) ∧ ∃ m', JAt w' jb b m' r.1 next ∧ DStep b w m w' m'

def behind (l : List (Nat × Bytes)) : List (Nat × Bytes) := l.map fun x => (49 + x.1, x.2)

def AppRel (jb b : Nat) (m : DMem) (d : Dsk) (next : Nat) (l : List (Nat × Bytes)) (w : World) (x : Value) (wr : World) : Prop :=
  ∃ k : Nat, k ≤ l.length ∧ x = .int .i64 k ∧ (writes d (behind (l.take k))).2 = 0 ∧ ∃ m', JAt wr jb b m' (writes d (behind (l.take k))).1 next ∧ DStep b w m wr m'

set_option maxRecDepth 100000 in
set_option maxHeartbeats 1000000 in
theorem apply_spec (jb b : Nat) (m : DMem) (d : Dsk) (next : Nat) (l : List (Nat × Bytes)) (sp : Option Addr) (cap : Nat) (w : World) (h : JAt w jb b m d next)
    (hl : PgsAt (jb :: m.foot b) w sp l) (hll : l.length ≤ 1000) (hat : ∀ x ∈ l, 49 + x.1 < d.n ∧ x.2.length ≤ 64) (hwl : d.wet.length ≤ 1000) :
    Calls Tryd.prog 69 #[.pointer (some ⟨jb, 0, none⟩), .slice sp l.length cap] w (JPost jb b m next (commit d (behind l)) w) := by
  have H := Lib.hid h
  have HL := Lib.hid hl
  have HA := Lib.hid hat
  clear h hl hat
  go_enter Tryd.func69, Tryd.ntmps69
  go_wp2
  go_loopw [10] (fun x wr => AppRel jb b m d next l w x wr) (fun x _ => l.length - (intOf x).toNat)
  case atStart => exact ⟨0, Nat.zero_le _, rfl, rfl, m, H.out, DStep.refl _ _ _⟩
  case round =>
    obtain ⟨k, hk, rfl, he0, mk, hJk, hSk⟩ := hrel
    by_cases hlt : k < l.length
    · obtain ⟨g, pv, rfl, hgF, hrg0, hpS0, hpF⟩ := HL.out k hlt
      have hrg := hSk.1.range hrg0 (fun hg => hgF (List.mem_cons_of_mem _ hg))
      have hpS := hpS0.chg hSk.1 (fun j hj hg => hpF j hj (List.mem_cons_of_mem _ hg))
      have hplt := hpS0.lt
      clear hrg0 hpS0
      have hA := HA.out l[k] (List.getElem_mem hlt)
      obtain ⟨ps, pc, rfl⟩ := hpS.shape
      obtain ⟨dk, hdk⟩ : ∃ dk, dk = (writes d (behind (l.take k))).1 := ⟨_, rfl⟩
      rw [← hdk] at hJk
      have hdn : dk.n = d.n := by rw [hdk, writes_n]
      have hdw : dk.wet.length < 1000000 := by
        have := writes_wet (behind (l.take k)) d
        rw [hdk]
        simp only [behind, List.length_map, List.length_take] at this ⊢
        omega
      have hnext : writes d (behind (l.take (k + 1))) = dk.write (49 + l[k].1) l[k].2 := by
        rw [hdk, ← writes_snoc _ (49 + l[k].1, l[k].2) d he0]
        congr 1
        rw [List.take_succ_eq_append_getElem hlt, behind, behind, List.map_append]
        rfl
      have hall : (dk.write (49 + l[k].1) l[k].2).2 ≠ 0 → commit d (behind l) = dk.write (49 + l[k].1) l[k].2 := by
        intro hne
        rw [← hnext] at hne ⊢
        have : behind l = behind (l.take (k + 1)) ++ behind (l.drop (k + 1)) := by rw [behind, behind, behind, ← List.map_append, List.take_append_drop]
        unfold commit
        rw [this, writes_stop _ _ _ hne, if_neg hne]
      obtain ⟨at_, hat_⟩ : ∃ a, a = l[k].1 := ⟨_, rfl⟩
      obtain ⟨pb, hpb⟩ : ∃ p, p = l[k].2 := ⟨_, rfl⟩
      rw [← hat_, ← hpb] at hnext hall hA
      rw [← hat_] at hrg
      rw [← hpb] at hpS hpF hrg hplt
      obtain ⟨hA1, hA2⟩ := hA
      rw [← hdn] at hA1
      have hn4 := hJk.disk.ok.n
      have hpl : pb.length = l[k].2.length := by rw [hpb]
      have Hplt := Lib.hid hplt
      have HJk := Lib.hid hJk
      have HSk := Lib.hid hSk
      have Hrg := Lib.hid hrg
      have HpS := Lib.hid hpS
      have HpF := Lib.hid hpF
      have Hnext := Lib.hid hnext
      have Hall := Lib.hid hall
      clear hJk hSk hrg hpS hpF hnext hall hdk hat_ hpb he0 hgF hpl hdn hplt
      go_wp2_with (first | (refine wpList_load_mid rfl 109 (.tmp 12) rfl g (k * 2) (by rfl) [.int .i64 (at_ : Int), .slice ps pb.length pc] _ Hrg.out Tryd.underlying109 rfl size109 ?_) | (refine wpList_store_new rfl 109 (.tmp 6) (.tmp 13) rfl _ _ rfl 109 _ _ #[.int .i64 (at_ : Int), .slice ps pb.length pc] rfl (by rfl) rfl rfl size109 rfl ?_))
      obtain ⟨nb, hnb⟩ : ∃ nb, nb = wr.heap.size := ⟨_, rfl⟩
      have hnew : (wr.alloc (.cells #[.int .i64 (at_ : Int), .slice ps pb.length pc] 109)).heap[nb]? = some (.cells #[.int .i64 (at_ : Int), .slice ps pb.length pc] 109 (0, 0)) := by rw [hnb]; exact heap_alloc_new _ _
      have hC1 : Chg [] wr (wr.alloc (.cells #[.int .i64 (at_ : Int), .slice ps pb.length pc] 109)) := (Chg.refl _ _).alloc _
      rw [← hnb]
      generalize (wr.alloc (.cells #[.int .i64 (at_ : Int), .slice ps pb.length pc] 109)) = w1 at hnew hC1 ⊢
      have n0 : w1.cell? ⟨nb, 0, none⟩ = some (.int .i64 (at_ : Int)) := by rw [cell_of_row _ _ _ _ _ _ hnew]; rfl
      have n1 : w1.cell? ⟨nb, 1, none⟩ = some (.slice ps pb.length pc) := by rw [cell_of_row _ _ _ _ _ _ hnew]; rfl
      have hJ1 : JAt w1 jb b mk dk next := HJk.out.chg hC1 (by simp) (by simp)
      have j0 := hJ1.cells.1
      have hS1 : SlB w1 (.slice ps pb.length pc) pb := HpS.out.chg hC1 (by simp)
      have hF1 : ∀ a, ps = some a → a.block ∉ mk.foot b := by
        intro a ha hin
        have hb : (Value.slice ps pb.length pc).ownBlock = some a.block := by rw [ha]; rfl
        rcases HSk.out.2 _ hin with h1 | h1
        · exact HpF.out _ hb (List.mem_cons_of_mem _ h1)
        · have := Hplt.out _ hb
          omega
      have HJ1 := Lib.hid hJ1
      have HS1 := Lib.hid hS1
      have HF1 := Lib.hid hF1
      have HC1 := Lib.hid hC1
      clear hJ1 hS1 hF1 hC1 hnew hnb
      refine wp_region_keys [(9, fun W => W.cell? ⟨jb, 0, none⟩ = some (.pointer (some ⟨b, 0, none⟩))), (9, fun W => W.cell? ⟨nb, 0, none⟩ = some (.int .i64 (at_ : Int))), (9, fun W => W.cell? ⟨nb, 1, none⟩ = some (.slice ps pb.length pc))] (by kernel_rfl) ⟨fun _ => j0, fun _ => n0, fun _ => n1, trivial⟩ ?_
      refine kTake (i := 0) (v := ?_) rfl (by kernel_rfl) (by kernel_rfl) (some 14) rfl (fun _ _ _ h => h) (Or.inl ⟨by rfl, ?_⟩) ?_
      rotate_left 1
      · (intro w; go_simp; try rfl)
      try simp only [Act.put, List.setIfInBounds_toArray, List.set_cons_zero, List.set_cons_succ]
      refine kTake (i := 1) (v := ?_) rfl (by kernel_rfl) (by kernel_rfl) (some 15) rfl (fun _ _ _ h => h) (Or.inl ⟨by rfl, ?_⟩) ?_
      rotate_left 1
      · (intro w; go_simp; try rfl)
      try simp only [Act.put, List.setIfInBounds_toArray, List.set_cons_zero, List.set_cons_succ]
      refine kTake (i := 2) (v := ?_) rfl (by kernel_rfl) (by kernel_rfl) (some 16) rfl (fun _ _ _ h => h) (Or.inl ⟨by rfl, ?_⟩) ?_
      rotate_left 1
      · (intro w; go_simp; try rfl)
      try simp only [Act.put, List.setIfInBounds_toArray, List.set_cons_zero, List.set_cons_succ]
      refine kLoad (i := 3) 9 _ (v := ?_) rfl (by kernel_rfl) (by kernel_rfl) (.head _) (some 17) rfl (fun _ _ _ h => h) (Or.inl ⟨by rfl, ?_⟩) ?_
      rotate_left 1
      · (intro w hT; go_simp; try rfl)
      try simp only [Act.put, List.setIfInBounds_toArray, List.set_cons_zero, List.set_cons_succ]
      refine kTake (i := 4) (v := ?_) rfl (by kernel_rfl) (by kernel_rfl) (some 18) rfl (fun _ _ _ h => h) (Or.inl ⟨by rfl, ?_⟩) ?_
      rotate_left 1
      · (intro w; go_simp; try rfl)
      try simp only [Act.put, List.setIfInBounds_toArray, List.set_cons_zero, List.set_cons_succ]
      refine kLoad (i := 5) 9 _ (v := ?_) rfl (by kernel_rfl) (by kernel_rfl) (.tail _ (.head _)) (some 19) rfl (fun _ _ _ h => h) (Or.inl ⟨by rfl, ?_⟩) ?_
      rotate_left 1
      · (intro w hT; go_simp; try rfl)
      try simp only [Act.put, List.setIfInBounds_toArray, List.set_cons_zero, List.set_cons_succ]
      refine kTake (i := 6) (v := ?_) rfl (by kernel_rfl) (by kernel_rfl) (some 20) rfl (fun _ _ _ h => h) (Or.inl ⟨by rfl, ?_⟩) ?_
      rotate_left 1
      · (intro w; go_simp; try rfl)
      try simp only [Act.put, List.setIfInBounds_toArray, List.set_cons_zero, List.set_cons_succ]
      refine kTake (i := 7) (v := ?_) rfl (by kernel_rfl) (by kernel_rfl) (some 21) rfl (fun _ _ _ h => h) (Or.inl ⟨by rfl, ?_⟩) ?_
      rotate_left 1
      · (intro w; go_simp; try rfl)
      try simp only [Act.put, List.setIfInBounds_toArray, List.set_cons_zero, List.set_cons_succ]
      refine kLoad (i := 8) 9 _ (v := ?_) rfl (by kernel_rfl) (by kernel_rfl) (.tail _ (.tail _ (.head _))) (some 22) rfl (fun _ _ _ h => h) (Or.inl ⟨by rfl, ?_⟩) ?_
      rotate_left 1
      · (intro w hT; go_simp; try rfl)
      try simp only [Act.put, List.setIfInBounds_toArray, List.set_cons_zero, List.set_cons_succ]
      refine kOnly (i := 9) (oi := { dst := (some 23), op := (Go.Op.call { callee := (Go.Callee.value (Go.Operand.func 29)), args := #[(Go.Operand.tmp 17), (Go.Operand.tmp 20), (Go.Operand.tmp 22)], argTypes := #[24, 3, 22] }), type := 30, pos := "journal.go:77", after := #[{ on := 3, ground := Go.Ground.data }, { on := 6, ground := Go.Ground.data }, { on := 8, ground := Go.Ground.data }], guard := none }) (by kernel_rfl) rfl (by rfl) (fun K hK => ?_)
      go_simp; go_at_call 29; refine (write_at b mk dk (49 + at_) _ ps pc pb w1.drew (by rw [IntKind.wrap_i64]; omega) (HJ1.out.disk.chg (Chg.refl [] w1).drew (by simp)) hA1 hA2 (HS1.out.chg (Chg.refl [] w1).drew (by simp)) HF1.out hdw).mono ?_; rintro e w2 ⟨rfl, m2, hD2, hS2⟩
      refine hK _ _ ⟨fun h => absurd h (by decide), fun h => absurd h (by decide), fun h => absurd h (by decide), trivial⟩ ?_; clear hK K
      try simp only [Act.put, List.setIfInBounds_toArray, List.set_cons_zero, List.set_cons_succ]
      refine kTake (i := 10) (v := ?_) rfl (by kernel_rfl) (by kernel_rfl) (some 7) rfl (fun _ _ _ h => h) (Or.inl ⟨by rfl, ?_⟩) ?_
      rotate_left 1
      · (intro w; go_simp; try rfl)
      try simp only [Act.put, List.setIfInBounds_toArray, List.set_cons_zero, List.set_cons_succ]
      refine kDone (by kernel_rfl) ?_
      have hJ2 : JAt w2 jb b m2 (dk.write (49 + at_) pb).1 next := (HJ1.out.chg (Chg.refl [] w1).drew (by simp) (by simp)).step hD2 hS2
      have hS3 : DStep b w m w2 m2 := (HSk.out.then (HC1.out.drew)).trans hS2
      have HJ2 := Lib.hid hJ2
      have HS3 := Lib.hid hS3
      clear hJ2 hS3 hD2 hS2
      rcases write_err dk (49 + at_) pb with he | he
      · have h0 := Hnext.out
        rw [he]
        go_wp2
        go_roundw
        case rel => exact ⟨k + 1, by omega, by go_num, by rw [h0]; exact he, m2, by rw [h0]; exact HJ2.out, HS3.out⟩
        case measure => simp [intOf]; omega
      · rw [he]
        go_wp2
        go_ret
        unfold JPost
        rw [Hall.out (by rw [he]; decide)]
        exact ⟨by rw [he]; rfl, m2, HJ2.out, HS3.out⟩
    · have hke : l.take k = l := List.take_of_length_le (by omega)
      rw [hke] at he0 hJk
      have j0 := hJk.cells.1
      have hdw : (writes d (behind l)).1.wet.length < 1000000 := by
        have := writes_wet (behind l) d
        simp only [behind, List.length_map] at this ⊢
        omega
      have hcm : commit d (behind l) = (writes d (behind l)).1.flush := by rw [commit, if_pos he0]
      have Hcm := Lib.hid hcm
      have HJk := Lib.hid hJk
      have HSk := Lib.hid hSk
      clear hJk hSk he0 hcm
      go_wp2_with (go_at_call 30; refine (flush_spec b mk _ wr HJk.out.disk hdw).mono ?_; rintro e w' ⟨rfl, m2, hD2, hS2⟩)
      go_ret
      unfold JPost
      rw [Hcm.out]
      exact ⟨rfl, m2, HJk.out.step hD2 hS2, HSk.out.trans hS2⟩

end Go.Proofs.YtaacejpienbkgaaDoor
