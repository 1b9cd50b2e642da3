/- label's tables as plain values with their journal; a ref is written; walked. -/
import Derived.Test.YtaacejpienbkgaaDoorLab5
namespace Go.Proofs.YtaacejpienbkgaaDoor
open Go.RowKit

/-- A table, and its journal's disk. -/
structure Tb where
  d : Dsk
  next : Nat
  l : List Rf
namespace Tb
def fd (t : Tb) (nm : Bytes) : Int := findN nm t.l 0
def pgs (i : Nat) (r : Rf) : List (Nat × Bytes) := [(48 + i, packB r)]
def write (t : Tb) (i : Nat) (r : Rf) : Tb × Int :=
  (⟨(jwrite t.d t.next (pgs i r)).1, jnext t.d t.next (pgs i r), if (jwrite t.d t.next (pgs i r)).2 = 0 then t.l.set i r else t.l⟩, (jwrite t.d t.next (pgs i r)).2)
def make (t : Tb) (r : Rf) : Tb × Int :=
  if rightB r.name = false then (t, 1) else if 0 ≤ t.fd r.name then (t, 3) else if t.fd [] < 0 then (t, 4) else t.write (t.fd []).toNat r
def get (t : Tb) (nm : Bytes) : Option Rf := if nm = [] ∨ t.fd nm < 0 then none else some (t.l.getD (t.fd nm).toNat Rf.none)
def move (t : Tb) (nm k : Bytes) : Tb × Int :=
  match t.get nm with
  | none => (t, 2)
  | some r => if r.fast then (t, 13) else t.write (t.fd nm).toNat ⟨r.name, k, r.fast⟩
def drop (t : Tb) (nm : Bytes) : Tb × Int :=
  match t.get nm with
  | none => (t, 2)
  | some _ => t.write (t.fd nm).toNat Rf.none
end Tb

/-- A table lies in memory with its journal, and the table of sums. -/
structure TbAt (w : World) (tb jb b : Nat) (m : DMem) (t : Tb) : Prop where
  j : JAt w jb b m t.d t.next
  tab : TAt w tb jb t.l
  lines : LinesAt w
  tap : tb ∉ jb :: m.foot b
  lap : 3 ∉ tb :: jb :: m.foot b
  n : 109 < t.d.n
  wet : t.d.wet.length ≤ 1000
  next : t.next < 1000000000000

theorem TbAt.chg {F : List Nat} {w w' : World} {tb jb b : Nat} {m : DMem} {t : Tb} (h : TbAt w tb jb b m t) (hC : Chg F w w') (hn : ∀ k, k ∈ 3 :: tb :: jb :: m.foot b → k ∉ F) : TbAt w' tb jb b m t :=
  ⟨h.j.chg hC (hn _ (by simp)) (fun k hk => hn k (by simp [hk])), h.tab.chg hC (hn _ (by simp)), h.lines.chg hC (hn _ (by simp)), h.tap, h.lap, h.n, h.wet, h.next⟩
theorem TbAt.chg0 {w w' : World} {tb jb b : Nat} {m : DMem} {t : Tb} (h : TbAt w tb jb b m t) (hC : Chg [] w w') : TbAt w' tb jb b m t := h.chg hC (by simp)

/-- A step of a table: what has turned is its own; what is its own was, or is new. -/
def TStep (tb jb b : Nat) (w : World) (m : DMem) (w' : World) (m' : DMem) : Prop := Chg (tb :: jb :: m.foot b) w w' ∧ ∀ k, k ∈ m'.foot b → k ∈ m.foot b ∨ w.heap.size ≤ k
theorem TStep.refl (tb jb b : Nat) (w : World) (m : DMem) : TStep tb jb b w m w m := ⟨Chg.refl _ _, fun _ h => .inl h⟩
theorem TStep.trans {tb jb b : Nat} {w w1 w2 : World} {m m1 m2 : DMem} (h : TStep tb jb b w m w1 m1) (k : TStep tb jb b w1 m1 w2 m2) : TStep tb jb b w m w2 m2 :=
  ⟨h.1.step k.1 (fun x hx => by
    rcases List.mem_cons.1 hx with rfl | hx
    · exact .inl (by simp)
    · rcases List.mem_cons.1 hx with rfl | hx
      · exact .inl (by simp)
      · exact (h.2 x hx).imp (fun h => List.mem_cons_of_mem _ (List.mem_cons_of_mem _ h)) id), fun x hx => by
    rcases k.2 x hx with h1 | h1
    · exact h.2 x h1
    · exact .inr (Nat.le_trans h.1.size h1)⟩
theorem TStep.then {tb jb b : Nat} {w w1 w2 : World} {m m1 : DMem} (h : TStep tb jb b w m w1 m1) (k : Chg [] w1 w2) : TStep tb jb b w m w2 m1 := ⟨h.1.then0 k, h.2⟩
theorem TStep.of {tb jb b : Nat} {w w1 w2 : World} {m m1 : DMem} (k : Chg [] w w1) (h : TStep tb jb b w1 m w2 m1) : TStep tb jb b w m w2 m1 :=
  ⟨(Chg.mono k (by simp)).trans h.1, fun x hx => (h.2 x hx).imp id (Nat.le_trans k.size)⟩

def TPost (tb jb b : Nat) (m : DMem) (r : Tb × Int) (w : World) (e : Ending) (w' : World) : Prop :=
  e = .returned (.int .i64 r.2) ∧ ∃ m', TbAt w' tb jb b m' r.1 ∧ TStep tb jb b w m w' m'

theorem jnext_le (d : Dsk) (next : Nat) (l : List (Nat × Bytes)) : jnext d next l ≤ next + 1 := by unfold jnext; split <;> omega
theorem jwrite_n (d : Dsk) (next : Nat) (l : List (Nat × Bytes)) : (jwrite d next l).1.n = d.n := by unfold jwrite; split <;> simp
theorem flush_wet (d : Dsk) : d.flush.1.wet.length ≤ d.wet.length := by
  unfold Dsk.flush; split
  · simp [Dsk.keep]
  · simp
theorem commit_wet (d : Dsk) (l : List (Nat × Bytes)) : (commit d l).1.wet.length ≤ d.wet.length + l.length := by
  unfold commit
  have h := writes_wet l d
  split
  · exact Nat.le_trans (flush_wet _) h
  · exact h
theorem jwrite_wet (d : Dsk) (next : Nat) (l : List (Nat × Bytes)) : (jwrite d next l).1.wet.length ≤ d.wet.length + 2 * l.length + 1 := by
  have hL : (laid next l).length = 2 * l.length + 1 := by simp [laid, laidFrom_length]
  have h1 := commit_wet d (laid next l)
  unfold jwrite
  split
  · rename_i h
    have h2 := commit_wet (commit d (laid next l)).1 (behind l)
    rw [commit_dry _ _ h] at h2
    have e : (behind l).length = l.length := by simp [behind]
    simp only [List.length_nil] at h2
    omega
  · omega
theorem jwrite_dry (d : Dsk) (next : Nat) (l : List (Nat × Bytes)) (h : (jwrite d next l).2 = 0) : (jwrite d next l).1.wet = [] := by
  unfold jwrite at h ⊢
  split at h
  · rename_i h1
    rw [if_pos h1]
    exact commit_dry _ _ h
  · rename_i h1; exact absurd h h1
theorem jwrite_err (d : Dsk) (next : Nat) (l : List (Nat × Bytes)) : (jwrite d next l).2 = 0 ∨ (jwrite d next l).2 = 9 := by unfold jwrite; split <;> exact commit_err _ _
theorem packB_length {r : Rf} (hk : r.key.length = 32) (hn : r.name.length ≤ 12) : (packB r).length ≤ 64 := by
  unfold packB; split
  · simp
  · rw [sealed_length (by rw [packP_length hk hn]; decide)]; decide

theorem pgs_at {F : List Nat} {w : World} {g : Nat} {pv : Value} {i : Nat} {p : Bytes} {x : Int} (hx : x = (i : Int)) (hg : w.heap[g]? = some (.cells #[.int .i64 x, pv] 109 (0, 0))) (hF : g ∉ F) (hS : SlB w pv p) (hO : SlOff F pv) : PgsAt F w (some ⟨g, 0, none⟩) [(i, p)] := by
  subst hx
  intro k hk
  obtain rfl : k = 0 := by simpa using hk
  refine ⟨g, pv, rfl, hF, ?_, hS, hO⟩
  exact range_of_row (xs := [.int .i64 (i : Int), pv]) hg

theorem lawrap (k : Nat) (h : k < 12) : IntKind.i64.wrap (48 + (k : Int)) = ((48 + k : Nat) : Int) := by rw [wrapI _ (by omega) (by omega)]; omega

theorem run_build109 (w : World) (x : Int) (sp : Option Addr) (n c : Nat) : (Instr.build 109 #[(0, .int .i64 x), (1, .slice sp n c)]).run Tryd.prog w = .ok (.agg #[.int .i64 x, .slice sp n c]) w := by
  kernel_rfl

theorem twrite_t {w : World} {tb jb b : Nat} {m m' : DMem} {t : Tb} {w' : World} {i : Nat} {r : Rf} (h : TbAt w tb jb b m t) (hb : t.next < 999999999999) (hJ : JAt w' jb b m' (t.write i r).1.d (t.write i r).1.next) (hT : TAt w' tb jb (t.write i r).1.l) (hC : Chg (tb :: jb :: m.foot b) w w')
    (hf : ∀ k, k ∈ m'.foot b → k ∈ m.foot b ∨ w.heap.size ≤ k) (hwet : t.d.wet.length ≤ 900) : TbAt w' tb jb b m' (t.write i r).1 := by
  have hlt := h.tab.lt
  have hjl := h.j.jlt
  have h3 : 3 < w.heap.size := World.block_lt_of_cell? w _ (h.lines 0 (by decide))
  refine ⟨hJ, hT, h.lines.chg hC h.lap, fun hk => ?_, fun hk => ?_, ?_, ?_, ?_⟩
  · rcases List.mem_cons.1 hk with e | hk
    · exact h.tap (by rw [e]; simp)
    · rcases hf _ hk with h1 | h1
      · exact h.tap (List.mem_cons_of_mem _ h1)
      · omega
  · have h0 := h.lap
    simp only [List.mem_cons, not_or] at h0 hk
    rcases hk with e | e | hk
    · exact h0.1 e
    · exact h0.2.1 e
    · rcases hf _ hk with h1 | h1
      · exact h0.2.2 h1
      · omega
  · show 109 < (jwrite _ _ _).1.n
    rw [jwrite_n]; exact h.n
  · have h1 := jwrite_wet t.d t.next (Tb.pgs i r)
    show (jwrite _ _ _).1.wet.length ≤ 1000
    simp only [Tb.pgs, List.length_cons, List.length_nil] at h1 ⊢
    omega
  · have h1 := jnext_le t.d t.next (Tb.pgs i r)
    show jnext _ _ _ < _
    omega

set_option maxRecDepth 100000 in
set_option maxHeartbeats 1000000 in
theorem twrite_spec (tb jb b : Nat) (m : DMem) (t : Tb) (i : Nat) (r : Rf) (w : World) (h : TbAt w tb jb b m t) (hi : i < 12) (hk : r.key.length = 32) (hnm : r.name.length ≤ 12) (hw : t.d.wet.length ≤ 900) (hnx : t.next < 999999999999) :
    Calls Tryd.prog 64 #[.pointer (some ⟨tb, 0, none⟩), .int .i64 i, .agg (rcells r).toArray] w (TPost tb jb b m (t.write i r) w) := by
  have H := Lib.hid h
  have Hk := Lib.hid hk
  have Hwr := Lib.hid (lawrap i hi)
  obtain ⟨j0, hj0, hjz0, hjz1, hjz2⟩ := info_parts info109
  obtain ⟨rb, hrb⟩ : ∃ rb, rb = w.heap.size := ⟨_, rfl⟩
  obtain ⟨w1, hw1⟩ : ∃ w1, w1 = w.alloc (.cells (rcells r).toArray 48) := ⟨_, rfl⟩
  have hrow : w1.heap[rb]? = some (.cells (rcells r).toArray 48 (0, 0)) := by rw [hw1, hrb]; exact heap_alloc_new _ _
  have hC1 : Chg [] w w1 := by rw [hw1]; exact (Chg.refl [] w).alloc _
  have Hrow := Lib.hid hrow
  have HC1 := Lib.hid hC1
  have Hrb := Lib.hid hrb
  have Hl := Lib.hid (rcells_length hk)
  clear h hk hrow hC1
  go_enter Tryd.func64, Tryd.ntmps64
  go_wp2
  rw [← hw1, ← hrb]
  clear hw1 hrb
  have hT1 := H.out.chg0 HC1.out
  have hj1 : w1.cell? ⟨tb, 0, none⟩ = some (.pointer (some ⟨jb, 0, none⟩)) := hT1.tab.head 0 _ rfl
  have hr1 : w1.rangeAt rb 0 (rcells r) := range_of_row Hrow.out
  have Hj1 := Lib.hid hj1
  have Hr1 := Lib.hid hr1
  clear hT1 hj1 hr1
  refine wp_region_keys [(10, fun W => W.cell? ⟨tb, 0, none⟩ = some (.pointer (some ⟨jb, 0, none⟩))), (7, fun W => W.rangeAt rb 0 (rcells r))] (by kernel_rfl) ⟨fun _ => Hj1.out, fun _ => Hr1.out, trivial⟩ ?_
  refine kTake (i := 0) (v := ?_) rfl (by kernel_rfl) (by kernel_rfl) (some 8) rfl (fun _ _ _ h => h) (Or.inl ⟨by rfl, ?_⟩) ?_
  rotate_left 1
  · (intro w; go_simp; try rfl)
  try simp only [Act.put, List.setIfInBounds_toArray, List.set_cons_zero, List.set_cons_succ]
  refine kTake (i := 1) (v := ?_) rfl (by kernel_rfl) (by kernel_rfl) (some 9) rfl (fun _ _ _ h => h) (Or.inl ⟨by rfl, ?_⟩) ?_
  rotate_left 1
  · (intro w; go_simp; try rfl)
  try simp only [Act.put, List.setIfInBounds_toArray, List.set_cons_zero, List.set_cons_succ]
  refine kTake (i := 2) (v := ?_) rfl (by kernel_rfl) (by kernel_rfl) (some 10) rfl (fun _ _ _ h => h) (Or.inl ⟨by rfl, ?_⟩) ?_
  rotate_left 1
  · (intro w; go_simp; try rfl)
  try simp only [Act.put, List.setIfInBounds_toArray, List.set_cons_zero, List.set_cons_succ]
  refine kLoad (i := 3) 10 _ (v := ?_) rfl (by kernel_rfl) (by kernel_rfl) (.head _) (some 11) rfl (fun _ _ _ h => h) (Or.inl ⟨by rfl, ?_⟩) ?_
  rotate_left 1
  · (intro w hT; go_simp; try rfl)
  try simp only [Act.put, List.setIfInBounds_toArray, List.set_cons_zero, List.set_cons_succ]
  refine kTake (i := 4) (v := ?_) rfl (by kernel_rfl) (by kernel_rfl) (some 12) rfl (fun _ _ _ h => h) (Or.inl ⟨by rfl, ?_⟩) ?_
  rotate_left 1
  · (intro w; go_simp; try rfl)
  try simp only [Act.put, List.setIfInBounds_toArray, List.set_cons_zero, List.set_cons_succ]
  refine kTake (i := 5) (v := ?_) rfl (by kernel_rfl) (by kernel_rfl) (some 13) rfl (fun _ _ _ h => h) (Or.inl ⟨by rfl, ?_⟩) ?_
  rotate_left 1
  · (intro w; go_simp; try rfl)
  try simp only [Act.put, List.setIfInBounds_toArray, List.set_cons_zero, List.set_cons_succ]
  refine kLoad (i := 6) 7 _ (v := .agg (rcells r).toArray) rfl (by kernel_rfl) (by kernel_rfl) (.tail _ (.head _)) (some 14) rfl (fun _ _ _ h => h) (yieldsIf_load_mid (by rfl) 48 (.tmp 5) rfl rb 0 (by rfl) _ _ (fun _ h => h) Tryd.underlying48 rfl (by rw [size48, Hl.out])) ?_
  try simp only [Act.put, List.setIfInBounds_toArray, List.set_cons_zero, List.set_cons_succ]
  refine kOnly (i := 7) (oi := { dst := (some 15), op := (Go.Op.call { callee := (Go.Callee.value (Go.Operand.func 94)), args := #[(Go.Operand.tmp 14)], argTypes := #[48] }), type := 22, pos := "label.go:96", after := #[{ on := 6, ground := Go.Ground.data }], guard := none }) (by kernel_rfl) rfl (by rfl) (fun K hK => ?_)
  go_simp; go_at_call 94; refine (pack_spec r _ (H.out.lines.chg HC1.out.drew (by simp)) Hk.out hnm).mono ?_; rintro e w2 ⟨pv, rfl, hS2, hC2, hF2⟩
  have hCw2 : Chg [] w w2 := HC1.out.drew.trans hC2
  obtain ⟨sp, c, rfl⟩ := hS2.shape
  obtain ⟨pn, hpn⟩ : ∃ n, n = (packB r).length := ⟨_, rfl⟩
  rw [← hpn] at hS2 hF2
  have Hpn := Lib.hid hpn
  have HS2 := Lib.hid hS2
  have HCw2 := Lib.hid hCw2
  have HC1r : Hid (Chg [] w1 w2) := Lib.hid hC2.ofDrew
  have HF2 : Hid (SlOff (tb :: jb :: m.foot b) (.slice sp pn c)) := Lib.hid fun k hk hin => by
    have h1 := hF2 k hk
    have h2 := HC1.out.drew.size
    have h3 : k < w.heap.size := by
      rcases List.mem_cons.1 hin with rfl | hin
      · exact H.out.tab.lt
      · rcases List.mem_cons.1 hin with rfl | hin
        · exact H.out.j.jlt
        · exact H.out.j.disk.footlt k hin
    omega
  rw [← hpn]
  refine hK _ _ ⟨fun _ => hC2.cell (HC1.out.drew.cell (H.out.tab.head 0 _ rfl) (by simp)) (by simp), fun h => absurd h (by decide), trivial⟩ ?_; clear hK K
  clear hpn hS2 hCw2 hF2 hC2
  try simp only [Act.put, List.setIfInBounds_toArray, List.set_cons_zero, List.set_cons_succ]
  refine kTake (i := 8) (v := .agg #[.int .i64 (IntKind.i64.wrap (48 + (i : Int))), .slice sp pn c]) rfl (by kernel_rfl) (by kernel_rfl) (some 16) rfl (fun _ _ _ h => h) (Or.inl ⟨by rfl, fun W => by have h := run_build109 W (IntKind.i64.wrap (48 + (i : Int))) sp pn c; go_simp⟩) ?_
  try simp only [Act.put, List.setIfInBounds_toArray, List.set_cons_zero, List.set_cons_succ]
  refine kOnly (i := 9) (oi := { dst := (some 17), op := (Go.Op.buildSlice 105 1 #[(0, (Go.Operand.tmp 16))]), type := 105, pos := "label.go:96", after := #[{ on := 8, ground := Go.Ground.data }], guard := none }) (by kernel_rfl) rfl (by rfl) (fun K hK => ?_)
  refine wp_buildSlice_one 105 (.tmp 16) rfl 109 j0 _ #[.int .i64 (IntKind.i64.wrap (48 + (i : Int))), .slice sp pn c] (by rfl) Tryd.underlying105 hj0 hjz0 hjz1 rfl (by simp) (by simp) ?_
  have hCw3 : Chg [] w2 (w2.alloc (Obj.cells #[.int .i64 (IntKind.i64.wrap (48 + (i : Int))), .slice sp pn c] 109)) := (Chg.refl _ _).alloc _
  have hP3 : PgsAt (tb :: jb :: m.foot b) (w2.alloc (Obj.cells #[.int .i64 (IntKind.i64.wrap (48 + (i : Int))), .slice sp pn c] 109)) (some ⟨w2.heap.size, 0, none⟩) (Tb.pgs i r) := by
    refine pgs_at Hwr.out (heap_alloc_new _ _) (fun hin => ?_) (HS2.out.chg hCw3 (by simp)) HF2.out
    have h2 := HCw2.out.size
    have h3 : w2.heap.size < w.heap.size := by
      rcases List.mem_cons.1 hin with e | hin
      · rw [e]; exact H.out.tab.lt
      · rcases List.mem_cons.1 hin with e | hin
        · rw [e]; exact H.out.j.jlt
        · exact H.out.j.disk.footlt _ hin
    omega
  have HCw3 := Lib.hid (HCw2.out.trans hCw3)
  have Hcw3r := Lib.hid (HC1r.out.trans hCw3)
  have HP3 := Lib.hid hP3
  refine hK _ _ ⟨fun _ => hCw3.cell (HCw2.out.cell (H.out.tab.head 0 _ rfl) (by simp)) (by simp), fun h => absurd h (by decide), trivial⟩ ?_; clear hK K hCw3 hP3
  generalize (w2.alloc (Obj.cells #[.int .i64 (IntKind.i64.wrap (48 + (i : Int))), .slice sp pn c] 109)) = w3 at HCw3 Hcw3r HP3 ⊢
  try simp only [Act.put, List.setIfInBounds_toArray, List.set_cons_zero, List.set_cons_succ]
  refine kOnly (i := 10) (oi := { dst := (some 18), op := (Go.Op.call { callee := (Go.Callee.value (Go.Operand.func 54)), args := #[(Go.Operand.tmp 11), (Go.Operand.tmp 17)], argTypes := #[51, 105] }), type := 30, pos := "label.go:96", after := #[{ on := 3, ground := Go.Ground.data }, { on := 9, ground := Go.Ground.data }, { on := 7, ground := Go.Ground.chain }], guard := none }) (by kernel_rfl) rfl (by rfl) (fun K hK => ?_)
  go_simp; go_at_call 54; refine (jwrite_spec jb b m t.d t.next (Tb.pgs i r) _ 1 _ (H.out.chg0 HCw3.out).j (HP3.out.off (fun k hk => .inl (List.mem_cons_of_mem _ hk))) (by simp [Tb.pgs]) (by simp [Tb.pgs]) (fun x hx => by simp only [Tb.pgs, List.mem_singleton] at hx; subst hx; exact ⟨by have h := H.out.n; show 49 + (48 + i) < _; omega, packB_length Hk.out hnm⟩) (by omega) (by omega)).mono ?_; rintro e w4 ⟨rfl, m4, hJ4, hC4, hf4⟩
  have HJ4 := Lib.hid hJ4
  have HC4 := Lib.hid hC4
  have Hf4 := Lib.hid hf4
  refine hK _ _ ⟨fun h => absurd h (by decide), fun h => absurd h (by decide), trivial⟩ ?_; clear hK K hJ4 hC4 hf4
  try simp only [Act.put, List.setIfInBounds_toArray, List.set_cons_zero, List.set_cons_succ]
  refine kTake (i := 11) (v := ?_) rfl (by kernel_rfl) (by kernel_rfl) (some 7) rfl (fun _ _ _ h => h) (Or.inl ⟨by rfl, ?_⟩) ?_
  rotate_left 1
  · (intro w; go_simp; try rfl)
  try simp only [Act.put, List.setIfInBounds_toArray, List.set_cons_zero, List.set_cons_succ]
  refine kDone (by kernel_rfl) ?_
  have hC04 : Chg (tb :: jb :: m.foot b) w w4 := (HCw3.out.mono (by simp)).step HC4.out (fun x hx => .inl (List.mem_cons_of_mem _ hx))
  have hf04 : ∀ k, k ∈ m4.foot b → k ∈ m.foot b ∨ w.heap.size ≤ k := fun k hk => (Hf4.out k hk).imp id (Nat.le_trans HCw3.out.size)
  have hT4 : TAt w4 tb jb t.l := (H.out.tab.chg HCw3.out (by simp)).chg HC4.out H.out.tap
  have hr4 : w4.rangeAt rb 0 (rcells r) := by
    refine HC4.out.range (Hcw3r.out.range (range_of_row Hrow.out) (by simp)) (fun hin => ?_)
    have h1 := Hrb.out
    rcases List.mem_cons.1 hin with e | hin
    · have := H.out.j.jlt; omega
    · have := H.out.j.disk.footlt _ hin; omega
  have HC04 := Lib.hid hC04
  have Hf04 := Lib.hid hf04
  have HT4 := Lib.hid hT4
  have Hr4 := Lib.hid hr4
  clear hC04 hf04 hT4 hr4
  rcases jwrite_err t.d t.next (Tb.pgs i r) with he | he
  · rw [he]
    have htw : t.write i r = (⟨(jwrite t.d t.next (Tb.pgs i r)).1, jnext t.d t.next (Tb.pgs i r), t.l.set i r⟩, 0) := by unfold Tb.write; rw [he, if_pos rfl]
    have Htw := Lib.hid htw
    have hib : (i : Int) < 12 := by omega
    clear he htw
    go_wp2
    refine wp_region_keys [(6, fun W => W.rangeAt rb 0 (rcells r))] (by kernel_rfl) ⟨fun _ => Hr4.out, trivial⟩ ?_
    refine kTake (i := 0) (v := ?_) rfl (by kernel_rfl) (by kernel_rfl) (some 22) rfl (fun _ _ _ h => h) (Or.inl ⟨by rfl, ?_⟩) ?_
    rotate_left 1
    · (intro w; go_simp; try rfl)
    try simp only [Act.put, List.setIfInBounds_toArray, List.set_cons_zero, List.set_cons_succ]
    refine kTake (i := 1) (v := ?_) rfl (by kernel_rfl) (by kernel_rfl) (some 23) rfl (fun _ _ _ h => h) (Or.inl ⟨by rfl, ?_⟩) ?_
    rotate_left 1
    · (intro w; go_simp; try rfl)
    try simp only [Act.put, List.setIfInBounds_toArray, List.set_cons_zero, List.set_cons_succ]
    refine kLoad (i := 2) 6 _ (v := .agg (rcells r).toArray) rfl (by kernel_rfl) (by kernel_rfl) (.head _) (some 24) rfl (fun _ _ _ h => h) (yieldsIf_load_mid (by rfl) 48 (.tmp 5) rfl rb 0 (by rfl) _ _ (fun _ h => h) Tryd.underlying48 rfl (by rw [size48, Hl.out])) ?_
    try simp only [Act.put, List.setIfInBounds_toArray, List.set_cons_zero, List.set_cons_succ]
    refine kTake (i := 3) (v := ?_) rfl (by kernel_rfl) (by kernel_rfl) (some 25) rfl (fun _ _ _ h => h) (Or.inl ⟨by rfl, ?_⟩) ?_
    rotate_left 1
    · (intro w; go_simp; try rfl)
    try simp only [Act.put, List.setIfInBounds_toArray, List.set_cons_zero, List.set_cons_succ]
    refine kTake (i := 4) (v := ?_) rfl (by kernel_rfl) (by kernel_rfl) (some 26) rfl (fun _ _ _ h => h) (Or.inl ⟨by rfl, ?_⟩) ?_
    rotate_left 1
    · (intro w; go_simp; try rfl)
    try simp only [Act.put, List.setIfInBounds_toArray, List.set_cons_zero, List.set_cons_succ]
    refine kTake (i := 5) (v := ?_) rfl (by kernel_rfl) (by kernel_rfl) (some 27) rfl (fun _ _ _ h => h) (Or.inl ⟨by rfl, ?_⟩) ?_
    rotate_left 1
    · (intro w; go_simp; try rfl)
    try simp only [Act.put, List.setIfInBounds_toArray, List.set_cons_zero, List.set_cons_succ]
    refine kOnly (i := 6) (oi := { dst := none, op := (Go.Op.store 48 (Go.Operand.tmp 27) (Go.Operand.tmp 24)), type := 0, pos := "label.go:99", after := #[{ on := 5, ground := Go.Ground.data }, { on := 2, ground := Go.Ground.data }, { on := 0, ground := Go.Ground.phase }, { on := 1, ground := Go.Ground.phase }, { on := 2, ground := Go.Ground.phase }], guard := none }) (by kernel_rfl) rfl (by rfl) (fun K hK => ?_)
    refine wp_store_mid 48 (.tmp 27) (.tmp 24) rfl tb (1 + i * 34) (rcells r).toArray (by rfl) (by rfl) ?th (by rw [size48, List.size_toArray, Hl.out]) (all_oneCell_toArray (rcells_one _)) ?_
    case th => rw [List.size_toArray, Hl.out]; exact (World.there_drew _ _ _ _).2 (HT4.out.there i hi)
    refine hK _ _ ⟨fun h => absurd h (by decide), trivial⟩ ?_; clear hK K
    refine kDone (by kernel_rfl) ?_
    go_wp2
    go_ret
    have hp := (HT4.out.chg (Chg.refl [] w4).drew (by simp)).put i hi r ⟨Hk.out, hnm⟩
    have hC5 := HC04.out.drew.step hp.2 (fun x hx => .inl (by simp at hx; simp [hx]))
    have hCs : Chg [tb] w4 (w4.drew.setCells tb (1 + i * 34) (rcells r)) := (Chg.refl [tb] w4).drew.trans hp.2
    refine ⟨by rw [Htw.out] <;> rfl, m4, twrite_t H.out hnx ?_ ?_ hC5 Hf04.out hw, hC5, Hf04.out⟩
    · rw [Htw.out]
      refine HJ4.out.chg hCs (fun hin => ?_) (fun k hk hin => ?_)
      · simp only [List.mem_singleton] at hin
        exact H.out.tap (by rw [hin]; simp)
      · simp only [List.mem_singleton] at hin
        subst hin
        rcases Hf04.out _ hk with h1 | h1
        · exact H.out.tap (List.mem_cons_of_mem _ h1)
        · have := H.out.tab.lt; omega
    · rw [Htw.out]; exact hp.1
  · rw [he]
    have htw : t.write i r = (⟨(jwrite t.d t.next (Tb.pgs i r)).1, jnext t.d t.next (Tb.pgs i r), t.l⟩, 9) := by unfold Tb.write; rw [he, if_neg (by decide)]
    have Htw := Lib.hid htw
    clear he htw
    go_wp2
    go_ret
    refine ⟨by rw [Htw.out] <;> rfl, m4, twrite_t H.out hnx ?_ ?_ HC04.out Hf04.out hw, HC04.out, Hf04.out⟩
    · rw [Htw.out]; exact HJ4.out
    · rw [Htw.out]; exact HT4.out

end Go.Proofs.YtaacejpienbkgaaDoor
