/- The disk's Write, walked. -/
import Derived.Test.YtaacejpienbkgaaDoorDisk1
import Derived.Test.YtaacejpienbkgaaDoorLaws
import Derived.Test.YtaacejpienbkgaaDoorDraw
namespace Go.Proofs.YtaacejpienbkgaaDoor
open Go.RowKit

theorem zc117 : Tryd.zeroCells117 = (wcell (0, zeros 64)).toArray := by kernel_rfl
theorem info117 : (Tryd.prog.info? 117).map (fun i => (i.zero, i.size, i.bytes)) = some (some (.agg (wcell (0, zeros 64)).toArray), 65, 72) := by kernel_rfl
theorem size117 : (Tryd.prog.info? 117).map (·.size) = some 65 := by kernel_rfl
theorem size115 : (Tryd.prog.info? 115).map (·.size) = some 64 := by kernel_rfl
theorem size5 : (Tryd.prog.info? 5).map (·.size) = some 1 := by kernel_rfl
theorem set117 (i : Int) : Tryd.zeroCells117.setIfInBounds 0 (.int .i64 i) = (.int .i64 i :: vals (zeros 64)).toArray := by
  rw [zc117]; simp [wcell]
theorem all_wcell (i : Int) (xs : Bytes) : (Value.int .i64 i :: vals xs).toArray.all (·.oneCell') = true :=
  all_oneCell_toArray (by
    intro v hv
    rcases List.mem_cons.1 hv with rfl | hv
    · rfl
    · exact oneCell_vals xs v hv)

/-- A step of a disk: what has turned is its own, and what is its own was, or is new. -/
def DStep (b : Nat) (w : World) (m : DMem) (w' : World) (m' : DMem) : Prop := Chg (m.foot b) w w' ∧ ∀ k, k ∈ m'.foot b → k ∈ m.foot b ∨ w.heap.size ≤ k
theorem DStep.refl (b : Nat) (w : World) (m : DMem) : DStep b w m w m := ⟨Chg.refl _ _, fun _ h => .inl h⟩
theorem DStep.trans {b : Nat} {w w1 w2 : World} {m m1 m2 : DMem} (h : DStep b w m w1 m1) (k : DStep b w1 m1 w2 m2) : DStep b w m w2 m2 :=
  ⟨h.1.step k.1 h.2, fun x hx => by
    rcases k.2 x hx with h1 | h1
    · exact h.2 x h1
    · exact .inr (Nat.le_trans h.1.size h1)⟩
theorem DStep.then {b : Nat} {w w1 w2 : World} {m m1 : DMem} (h : DStep b w m w1 m1) (k : Chg [] w1 w2) : DStep b w m w2 m1 := ⟨h.1.then0 k, h.2⟩
theorem DStep.of {b : Nat} {w w1 w2 : World} {m m1 : DMem} (k : Chg [] w w1) (h : DStep b w1 m w2 m1) : DStep b w m w2 m1 :=
  ⟨(Chg.mono k (by simp)).trans h.1 , fun x hx => (h.2 x hx).imp id (Nat.le_trans k.size)⟩

theorem zeros_split {n k : Nat} (h : k ≤ n) : zeros n = zeros k ++ zeros (n - k) := by
  simp only [zeros, List.replicate_append_replicate]
  congr 1
  omega
theorem wcells_snoc (l : List (Nat × Bytes)) (x : Nat × Bytes) : wcells (l ++ [x]) = wcells l ++ wcell x := by simp [wcells]

/-- One more write that isn't safe. -/
theorem DiskAt.wet1 {w w3 : World} {b : Nat} {m : DMem} {d : Dsk} (h : DiskAt w b m d) (hC : Chg m.wv.ownBlock.toList w w3) (x : Nat × Bytes) (hx : x.1 < d.n ∧ x.2.length = 64) (g cap n1 : Nat) (hn1 : n1 = d.wet.length + 1)
    (ho : w3.ownsRow 0 117 65 (.slice (some ⟨g, 0, none⟩) n1 cap) (d.wet.length + 1) (wcells d.wet ++ wcell x)) (hf : FreshOr w m.wv (.slice (some ⟨g, 0, none⟩) n1 cap)) :
    DiskAt (w3.setCell ⟨b, 1, none⟩ (.slice (some ⟨g, 0, none⟩) n1 cap)) b ⟨m.bs, .slice (some ⟨g, 0, none⟩) n1 cap⟩ { d with wet := d.wet ++ [x] } ∧
    DStep b w m (w3.setCell ⟨b, 1, none⟩ (.slice (some ⟨g, 0, none⟩) n1 cap)) ⟨m.bs, .slice (some ⟨g, 0, none⟩) n1 cap⟩ := by
  have hnb : b ∉ m.wv.ownBlock.toList := by simpa using fun h' => h.ap2 h'
  have hns : m.bs ∉ m.wv.ownBlock.toList := by simpa using fun h' => h.ap3 h'
  have hg : g ≠ b ∧ g ≠ m.bs := by
    rcases hf with hf | hf
    · constructor
      · rintro rfl; exact h.ap2 (by rw [← hf]; rfl)
      · rintro rfl; exact h.ap3 (by rw [← hf]; rfl)
    · have := hf g rfl
      have h1 := h.blt
      have h2 := h.bslt
      omega
  have hb3 : w3.heap[b]? = some (.cells (dhead m d) 114 (0, 0)) := hC.heap h.head hnb
  have hC1 : Chg [b] w3 (w3.setCell ⟨b, 1, none⟩ (.slice (some ⟨g, 0, none⟩) n1 cap)) := (Chg.refl _ _).setCell (.inl (by simp)) _
  have hns1 : m.bs ∉ [b] := by simpa using h.ap1.symm
  subst hn1
  refine ⟨⟨?_, ?_, fun i hi => ?_, fun i hi => ?_, ?_, h.ap1, ?_, ?_, ?_⟩, ?_, ?_⟩
  · rw [head_set _ hb3]; simp [dhead]
  · exact Nat.lt_of_lt_of_le h.bslt (Nat.le_trans hC.size hC1.size)
  · exact hC1.range (hC.range (h.safe i hi) hns) hns1
  · exact hC1.thereAt (Nat.lt_of_lt_of_le h.bslt hC.size) (hC.thereAt h.bslt (h.there i hi) hns) hns1
  · refine hC1.owns ?_ (fun k hk => ?_)
    · rw [wcells_snoc, List.length_append]; exact ho
    · simp [Value.ownBlock] at hk; subst hk; simpa using hg.1
  · simpa [Value.ownBlock] using hg.1
  · simpa [Value.ownBlock] using hg.2
  · exact ⟨h.ok.n, h.ok.safe, fun y hy => by
      rcases List.mem_append.1 hy with hy | hy
      · exact h.ok.wet y hy
      · rw [List.mem_singleton.1 hy]; exact hx, h.ok.left0, h.ok.left1⟩
  · refine Chg.setCell (p := ⟨b, 1, none⟩) (hC.mono (fun k hk => by simp [DMem.foot] at hk ⊢; exact .inr (.inr hk))) (.inl (by simp [DMem.foot])) _
  · intro k hk
    simp only [DMem.foot, List.mem_cons, Option.mem_toList] at hk ⊢
    rcases hk with rfl | rfl | hk
    · exact .inl (.inl rfl)
    · exact .inl (.inr (.inl rfl))
    · rcases hf with hf | hf
      · exact .inl (.inr (.inr (by rw [← hf]; exact hk)))
      · exact .inr (hf _ hk)

def WritePost (b : Nat) (m : DMem) (d : Dsk) (i : Nat) (p : Bytes) (w : World) (e : Ending) (w' : World) : Prop :=
  e = .returned (.int .i64 (d.write i p).2) ∧ ∃ m', DiskAt w' b m' (d.write i p).1 ∧ DStep b w m w' m'

theorem write_on {d : Dsk} {i : Nat} {p : Bytes} (h : d.off = false) : d.write i p = ({ d.act.1 with wet := d.act.1.wet ++ [(i, padTo 64 p)] }, if d.act.2 then 0 else 9) := by
  simp [Dsk.write, h]

set_option maxRecDepth 100000 in
set_option maxHeartbeats 400000 in
theorem write_on_spec (b : Nat) (m : DMem) (d : Dsk) (i : Nat) (sp : Option Addr) (cap : Nat) (p : Bytes) (w : World) (h : DiskAt w b m d) (hi : i < d.n) (hp : p.length ≤ 64)
    (hoff : d.off = false) (hr : SlB w (.slice sp p.length cap) p) (hne : ∀ a, sp = some a → a.block ∉ m.foot b) (hwl : d.wet.length < 1000000) :
    Calls Tryd.prog 29 #[.pointer (some ⟨b, 0, none⟩), .int .i64 i, .slice sp p.length cap] w (WritePost b m d i p w) := by
  obtain ⟨-, -, -, c3, -⟩ := h.cells
  rw [hoff] at c3
  have H := Lib.hid h
  have Hoff := Lib.hid hoff
  have Hr := Lib.hid hr
  have hn := h.ok.n
  clear h hoff hr
  go_enter Tryd.func29, Tryd.ntmps29
  go_wp2_with (first | (go_at_call 58; refine (sectors_spec b m d _ H.out).mono ?_; rintro e w' ⟨rfl, rfl⟩) | (go_at_call 65; refine (act_spec b m d _ H.out).mono ?_; rintro e w1 ⟨rfl, hD1, hC1⟩) | (refine wpList_store_new rfl 117 (.tmp 9) (.tmp 32) rfl _ _ rfl 117 _ _ (.int .i64 i :: vals (zeros 64)).toArray rfl rfl (set117 i) (by rw [Tryd.zeroCells117_size]; simp) size117 (all_wcell _ _) ?_) | (refine wpList_copy_bytes rfl (.tmp 34) (.tmp 35) rfl Tryd.underlying22 size5 w1.heap.size 1 64 64 (.slice sp p.length cap) (by rfl) (by rfl) p ?s1 hp [.int .i64 i] (vals (zeros p.length)) (vals (zeros (64 - p.length))) 117 ?s2 rfl (by simp) ?_; rotate_left 2; intro w2 hg2 hC2))
  case s1 =>
    refine (Hr.out.chg hC1 ?_).chg ((Chg.refl [] _).alloc _) (by simp)
    intro k hk
    have : k ∉ m.foot b := by
      cases sp with
      | none => simp [Value.ownBlock] at hk
      | some a => simp [Value.ownBlock] at hk; subst hk; exact hne a rfl
    intro hx
    exact this (by simp at hx; simp [DMem.foot, hx])
  case s2 =>
    rw [heap_alloc_new]
    congr 3
    simp only [List.cons_append, List.nil_append]
    rw [← vals_append, ← zeros_split hp]
  simp only [Act.put, List.setIfInBounds_toArray, List.set_cons_zero, List.set_cons_succ]
  have hlt1 := hD1.blt
  have hgl : w1.heap.size < w2.heap.size := heap_lt hg2
  have hC2' : Chg [] w1 w2 := (((Chg.refl [] w1).alloc _).step hC2 (fun x hx => .inr (by simp at hx; omega)))
  have hD2 : DiskAt w2 b m d.act.1 := hD1.chg hC2' (by simp)
  have c1 := hD2.cells.2.1
  have f1 := hD2.free 1
  have hR2 : w2.rangeAt w1.heap.size 0 (wcell (i, padTo 64 p)) := by
    intro j v hv
    rw [Nat.zero_add, cell_of_row _ _ _ _ _ _ hg2]
    simpa [wcell, padTo] using hv
  have hlen : (wcell (i, padTo 64 p)).length = 65 := by simp [wcell, padTo_length hp]
  obtain ⟨i0, hi0, hz0, hz1, hz2⟩ := info_parts info117
  have HD2 := Lib.hid hD2
  have Hwet := Lib.hid hD2.wet
  have hwn : d.act.1.wet.length = d.wet.length := by rw [act_wet]
  have Hwn := Lib.hid hwn
  clear hwn hD2
  refine wp_region_keys [(7, fun W => W.cell? ⟨b, 1, none⟩ = some m.wv), (6, fun W => W.rangeAt w1.heap.size 0 (wcell (i, padTo 64 p)))] (by kernel_rfl) ⟨fun _ => c1, fun _ => hR2, trivial⟩ ?_
  refine kTake (i := 0) (v := ?_) rfl (by kernel_rfl) (by kernel_rfl) (some 37) rfl (fun _ _ _ h => h) (Or.inl ⟨by rfl, ?_⟩) ?_
  rotate_left 1
  · (intro w; go_simp; try rfl)
  simp only [Act.put, List.setIfInBounds_toArray, List.set_cons_zero, List.set_cons_succ]
  refine kTake (i := 1) (v := ?_) rfl (by kernel_rfl) (by kernel_rfl) (some 38) rfl (fun _ _ _ h => h) (Or.inl ⟨by rfl, ?_⟩) ?_
  rotate_left 1
  · (intro w; go_simp; try rfl)
  simp only [Act.put, List.setIfInBounds_toArray, List.set_cons_zero, List.set_cons_succ]
  refine kTake (i := 2) (v := ?_) rfl (by kernel_rfl) (by kernel_rfl) (some 39) rfl (fun _ _ _ h => h) (Or.inl ⟨by rfl, ?_⟩) ?_
  rotate_left 1
  · (intro w; go_simp; try rfl)
  simp only [Act.put, List.setIfInBounds_toArray, List.set_cons_zero, List.set_cons_succ]
  refine kTake (i := 3) (v := ?_) rfl (by kernel_rfl) (by kernel_rfl) (some 40) rfl (fun _ _ _ h => h) (Or.inl ⟨by rfl, ?_⟩) ?_
  rotate_left 1
  · (intro w; go_simp; try rfl)
  simp only [Act.put, List.setIfInBounds_toArray, List.set_cons_zero, List.set_cons_succ]
  refine kLoad (i := 4) 7 _ (v := ?_) rfl (by kernel_rfl) (by kernel_rfl) (.head _) (some 41) rfl (fun _ _ _ h => h) (Or.inl ⟨by rfl, ?_⟩) ?_
  rotate_left 1
  · (intro w hT; go_simp; try rfl)
  simp only [Act.put, List.setIfInBounds_toArray, List.set_cons_zero, List.set_cons_succ]
  refine kLoad (i := 5) 6 _ (v := .agg (wcell (i, padTo 64 p)).toArray) rfl (by kernel_rfl) (by kernel_rfl) (.tail _ (.head _)) (some 42) rfl (fun _ _ _ h => h) (yieldsIf_load_mid (by rfl) 117 (.tmp 9) rfl w1.heap.size 0 (by rfl) _ _ (fun _ h => h) Tryd.underlying117 rfl (by rw [size117, hlen])) ?_
  simp only [Act.put, List.setIfInBounds_toArray, List.set_cons_zero, List.set_cons_succ]
  refine kOnly (i := 6) (oi := { dst := (some 43), op := (Go.Op.buildSlice 112 1 #[(0, (Go.Operand.tmp 42))]), type := 112, pos := "disk.go:92", after := #[{ on := 5, ground := Go.Ground.data }], guard := none }) (by kernel_rfl) rfl (by rfl) (fun K hK => ?_)
  refine wp_buildSlice_one 112 (.tmp 42) rfl 117 i0 _ _ (by rfl) Tryd.underlying112 hi0 hz0 (by rw [hz1, List.size_toArray, hlen]) (by simp [hlen]; simp [wcell]) (by simp [hlen]) (by simp [hlen]) ?_
  refine hK _ _ ⟨fun _ => ?_, fun h => absurd h (by decide), trivial⟩ ?_; clear hK K
  · show (w2.drew.alloc _).cell? _ = _
    rw [World.cell?_alloc_lt _ _ _ (by simp; omega)]; exact c1
  simp only [Act.put, List.setIfInBounds_toArray, List.set_cons_zero, List.set_cons_succ]
  refine kOnly (i := 7) (oi := { dst := (some 44), op := (Go.Op.call { callee := (Go.Callee.builtin Go.Builtin.append), args := #[(Go.Operand.tmp 41), (Go.Operand.tmp 43)], argTypes := #[112, 112] }), type := 112, pos := "disk.go:92", after := #[{ on := 4, ground := Go.Ground.data }, { on := 6, ground := Go.Ground.data }], guard := none }) (by kernel_rfl) rfl (by rfl) (fun K hK => ?_)
  refine wp_append_own2 _ (.tmp 41) (.tmp 43) 112 rfl 0 117 i0 _ 65 72 Tryd.underlying112 hi0 hz0 hz1 hz2 (by rw [show (Value.agg (wcell (0, zeros 64)).toArray).cells = (wcell (0, zeros 64)).toArray from rfl]; simp [wcell]) (by decide) m.wv _ _ (by rfl) ((Hwet.out : w2.drew.ownsRow _ _ _ _ _ _).alloc _) ⟨w2.heap.size, 0, none⟩ 1 1 (wcell (i, padTo 64 p)) (by rfl) (by rw [hlen]) (fun j u hu => by rw [Addr.add_mid, Nat.zero_add]; exact (cell_of_row _ _ _ _ _ _ (heap_alloc_new w2.drew _)).trans (by simpa using hu)) (fun u hu => by rcases List.mem_cons.1 hu with rfl | hu; rfl; exact oneCell_vals _ u hu) (by rw [Hwn.out]; unfold maxLen; omega) (by rw [Hwn.out]; omega) (by omega) ?_
  intro wv3 w3 hown3 hgr3 hnil3 hfr3
  refine hK _ _ ⟨fun h => absurd h (by decide), fun h => absurd h (by decide), trivial⟩ ?_; clear hK K
  have hC3 : Chg m.wv.ownBlock.toList w2 w3 := (((Chg.refl _ w2).drew).alloc _).grown hgr3 (fun k hk => .inl (by simp [hk]))
  have hnb : b ∉ m.wv.ownBlock.toList := by simpa using fun h => HD2.out.ap2 h
  have c3' := hC3.cell c1 hnb
  have f3' : w3.frozen? ⟨b, 1, none⟩ = false := (hC3.frozen (by simp; omega) hnb).trans f1
  obtain ⟨g3, cap3, rfl⟩ : ∃ g cap, wv3 = .slice (some ⟨g, 0, none⟩) (d.act.1.wet.length + 1) cap := by
    rcases hown3.2 with ⟨_, h⟩ | ⟨g, cap', _, h, _⟩
    · omega
    · exact ⟨g, cap', h⟩
  have Hown3 := Lib.hid hown3
  have Hfr3 := Lib.hid hfr3
  have Hgr3 := Lib.hid hgr3
  clear hown3 hfr3 hgr3 hnil3
  simp only [Act.put, List.setIfInBounds_toArray, List.set_cons_zero, List.set_cons_succ]
  refine kTake (i := 8) (v := ?_) rfl (by kernel_rfl) (by kernel_rfl) (some 45) rfl (fun _ _ _ h => h) (Or.inl ⟨by rfl, ?_⟩) ?_
  rotate_left 1
  · (intro w; go_simp; try rfl)
  simp only [Act.put, List.setIfInBounds_toArray, List.set_cons_zero, List.set_cons_succ]
  refine kTake (i := 9) (v := ?_) rfl (by kernel_rfl) (by kernel_rfl) (some 46) rfl (fun _ _ _ h => h) (Or.inl ⟨by rfl, ?_⟩) ?_
  rotate_left 1
  · (intro w; go_simp; try rfl)
  simp only [Act.put, List.setIfInBounds_toArray, List.set_cons_zero, List.set_cons_succ]
  refine kOnly (i := 10) (oi := { dst := none, op := (Go.Op.store 112 (Go.Operand.tmp 46) (Go.Operand.tmp 44)), type := 0, pos := "disk.go:92", after := #[{ on := 9, ground := Go.Ground.data }, { on := 7, ground := Go.Ground.data }, { on := 7, ground := Go.Ground.chain }, { on := 0, ground := Go.Ground.phase }, { on := 1, ground := Go.Ground.phase }, { on := 2, ground := Go.Ground.phase }, { on := 3, ground := Go.Ground.phase }, { on := 4, ground := Go.Ground.phase }, { on := 5, ground := Go.Ground.phase }, { on := 6, ground := Go.Ground.phase }, { on := 7, ground := Go.Ground.phase }], guard := none }) (by kernel_rfl) rfl (by rfl) (fun K hK => ?_)
  go_simp
  refine hK _ _ ⟨fun h => absurd h (by decide), fun h => absurd h (by decide), trivial⟩ ?_; clear hK K
  refine kDone (by kernel_rfl) ?_
  go_wp2
  all_goals
    go_ret
    have hi' : i < d.act.1.n := by rw [act_n]; exact hi
    obtain ⟨hD4, hS4⟩ := HD2.out.wet1 hC3 (i, padTo 64 p) ⟨hi', padTo_length hp⟩ g3 cap3 (d.wet.length + 1) (by rw [act_wet]) (by have := Hown3.out; rw [act_wet] at this ⊢; exact this) (by have := Hfr3.out; rw [act_wet] at this; exact this.le (by simp))
    have hx : Chg [b] w w2 := hC1.then0 hC2'
    have hfin : DStep b w m (w3.setCell ⟨b, 1, none⟩ (.slice (some ⟨g3, 0, none⟩) (d.wet.length + 1) cap3)) ⟨m.bs, .slice (some ⟨g3, 0, none⟩) (d.wet.length + 1) cap3⟩ :=
      DStep.trans (w1 := w2) (m1 := m) ⟨hx.mono (fun k hk => by simp at hk; simp [DMem.foot, hk]), fun _ h => .inl h⟩ hS4
    unfold WritePost
    rw [write_on Hoff.out]
    refine ⟨?_, _, hD4, hfin⟩
    first
      | (have e : d.act.2 = true := by simpa using ‹(!d.act.2) = false›
         rw [e]; rfl)
      | (have e : d.act.2 = false := by simpa using ‹(!d.act.2) = true›
         rw [e]; rfl)

set_option maxHeartbeats 400000 in
theorem write_off_spec (b : Nat) (m : DMem) (d : Dsk) (i : Nat) (sp : Option Addr) (cap : Nat) (p : Bytes) (w : World) (h : DiskAt w b m d) (hi : i < d.n) (hp : p.length ≤ 64) (hoff : d.off = true) :
    Calls Tryd.prog 29 #[.pointer (some ⟨b, 0, none⟩), .int .i64 i, .slice sp p.length cap] w (WritePost b m d i p w) := by
  obtain ⟨-, -, -, c3, -⟩ := h.cells
  rw [hoff] at c3
  have H := Lib.hid h
  have Hoff := Lib.hid hoff
  have hn := h.ok.n
  clear h hoff
  go_enter Tryd.func29, Tryd.ntmps29
  go_wp2_with (first | (go_at_call 58; refine (sectors_spec b m d _ H.out).mono ?_; rintro e w' ⟨rfl, rfl⟩) | (go_at_call 65; refine (act_off_spec b m d _ H.out Hoff.out).mono ?_; rintro e w1 ⟨rfl, rfl⟩))
  go_ret
  have e : d.write i p = (d, 9) := by simp [Dsk.write, Hoff.out]
  unfold WritePost
  rw [e]
  exact ⟨rfl, m, H.out, DStep.refl _ _ _⟩

theorem write_spec (b : Nat) (m : DMem) (d : Dsk) (i : Nat) (sp : Option Addr) (cap : Nat) (p : Bytes) (w : World) (h : DiskAt w b m d) (hi : i < d.n) (hp : p.length ≤ 64)
    (hr : SlB w (.slice sp p.length cap) p) (hne : ∀ a, sp = some a → a.block ∉ m.foot b) (hwl : d.wet.length < 1000000) :
    Calls Tryd.prog 29 #[.pointer (some ⟨b, 0, none⟩), .int .i64 i, .slice sp p.length cap] w (WritePost b m d i p w) := by
  cases hoff : d.off with
  | true => exact write_off_spec b m d i sp cap p w h hi hp hoff
  | false => exact write_on_spec b m d i sp cap p w h hi hp hoff hr hne hwl

end Go.Proofs.YtaacejpienbkgaaDoor
