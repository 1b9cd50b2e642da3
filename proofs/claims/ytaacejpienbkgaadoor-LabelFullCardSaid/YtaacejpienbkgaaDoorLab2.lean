/- label's refs and tables in memory; find; walked. -/
import Derived.Test.YtaacejpienbkgaaDoorLab1
namespace Go.Proofs.YtaacejpienbkgaaDoor
open Go.RowKit

/-- A ref. -/
structure Rf where
  name : Bytes
  key : Bytes
  fast : Bool
deriving DecidableEq
def Rf.none : Rf := ⟨[], zeros 32, false⟩
/-- A ref's cells. -/
def rcells (r : Rf) : List Value := str r.name :: (vals r.key ++ [.bool r.fast])
theorem rcells_length {r : Rf} (h : r.key.length = 32) : (rcells r).length = 34 := by simp [rcells, h]
theorem rcells_one (r : Rf) : ∀ u ∈ rcells r, u.oneCell' = true := by
  intro u hu
  simp only [rcells, List.mem_cons, List.mem_append, List.mem_nil_iff, or_false] at hu
  rcases hu with rfl | hu | rfl
  · rfl
  · exact oneCell_vals _ u hu
  · rfl
theorem size48 : (Tryd.prog.info? 48).map (·.size) = some 34 := by kernel_rfl

set_option maxRecDepth 100000 in
set_option maxHeartbeats 400000 in
theorem find1_spec (r : Rf) (nm : Bytes) (pb : Nat) (w : World) (hk : r.key.length = 32) (hc : w.cell? ⟨pb, 0, none⟩ = some (str nm)) :
    Calls Tryd.prog 93 #[.agg (rcells r).toArray, .pointer (some ⟨pb, 0, none⟩)] w fun e w' => e = .returned (.bool (decide (r.name = nm))) ∧ Chg [] w w' := by
  have hl := rcells_length hk
  have hc1 : (w.alloc (.cells (rcells r).toArray 48)).cell? ⟨pb, 0, none⟩ = some (str nm) := ((Chg.refl [] w).alloc _).cell hc (by simp)
  have hc2 : (w.alloc (.cells (rcells r).toArray 48)).cell? ⟨w.heap.size, 0, none⟩ = some (str r.name) := by rw [cell_of_row _ _ _ _ _ _ (heap_alloc_new _ _)]; rfl
  unfold str at hc1 hc2
  have Hc := Lib.hid hc
  have Hl := Lib.hid hl
  have hC : Chg [] w (w.alloc (.cells (rcells r).toArray 48)) := (Chg.refl [] w).alloc _
  have HC := Lib.hid hC
  clear hc hl hC
  go_enter Tryd.func93, Tryd.ntmps93
  go_wp2
  go_ret
  refine ⟨?_, HC.out⟩
  show Ending.returned (.bool (r.name == nm)) = _
  refine congrArg (fun b => Ending.returned (Value.bool b)) ?_
  rw [Bool.eq_iff_iff]
  simp

theorem refs_get : ∀ (l : List Rf) (_ : ∀ r, r ∈ l → r.key.length = 32) (k j : Nat) (h : k < l.length), j < 34 → (l.flatMap rcells)[k * 34 + j]? = (rcells l[k])[j]? := by
  intro l
  induction l with
  | nil => intro _ k j h; cases h
  | cons x r ih =>
    intro hk k j h hj
    have hx := rcells_length (hk x (by simp))
    rw [List.flatMap_cons]
    cases k with
    | zero => rw [Nat.zero_mul, Nat.zero_add, List.getElem?_append_left (by omega)]; rfl
    | succ k =>
      rw [List.getElem?_append_right (by omega), hx, show (k + 1) * 34 + j - 34 = k * 34 + j by omega]
      exact ih (fun y hy => hk y (by simp [hy])) k j (by simpa using h) hj

/-- A table lies at tb: its journal, its refs. -/
structure TAt (w : World) (tb jb : Nat) (l : List Rf) : Prop where
  head : w.rangeAt tb 0 [.pointer (some ⟨jb, 0, none⟩)]
  ref : ∀ (k : Nat) (hk : k < l.length), w.rangeAt tb (1 + k * 34) (rcells l[k])
  there : ∀ (k : Nat), k < 12 → w.there tb (1 + k * 34) 34
  lt : tb < w.heap.size
  len : l.length = 12
  key : ∀ r, r ∈ l → r.key.length = 32 ∧ r.name.length ≤ 12

theorem TAt.chg {F : List Nat} {w w' : World} {tb jb : Nat} {l : List Rf} (h : TAt w tb jb l) (hC : Chg F w w') (hn : tb ∉ F) : TAt w' tb jb l :=
  ⟨hC.range h.head hn, fun k hk => hC.range (h.ref k hk) hn, fun k hk => hC.thereAt h.lt (h.there k hk) hn, Nat.lt_of_lt_of_le h.lt hC.size, h.len, h.key⟩
/-- From a block known whole. -/
theorem TAt.of_row {w : World} {tb jb : Nat} {l : List Rf} (h : w.heap[tb]? = some (.cells (.pointer (some ⟨jb, 0, none⟩) :: l.flatMap rcells).toArray 134 (0, 0))) (hl : l.length = 12) (hk : ∀ r, r ∈ l → r.key.length = 32 ∧ r.name.length ≤ 12) : TAt w tb jb l := by
  have get : ∀ k j, k < l.length → j < 34 → (w.cell? ⟨tb, 1 + k * 34 + j, none⟩ = (l.flatMap rcells)[k * 34 + j]?) := by
    intro k j _ _
    rw [cell_of_row _ _ _ _ _ _ h, List.getElem?_toArray, show 1 + k * 34 + j = (k * 34 + j) + 1 by omega, List.getElem?_cons_succ]
  refine ⟨?_, fun k hk' => ?_, fun k hk' => ?_, heap_lt h, hl, hk⟩
  · intro j v hv
    rw [cell_of_row _ _ _ _ _ _ h]
    cases j with
    | zero => exact hv
    | succ j => simp at hv
  · intro j v hv
    have hj : j < 34 := by
      have := (List.getElem?_eq_some_iff.1 hv).1
      rwa [rcells_length (hk _ (List.getElem_mem hk')).1] at this
    rw [get k j hk' hj, refs_get l (fun r hr => (hk r hr).1) k j hk' hj]
    exact hv
  · intro j hj
    refine ⟨?_, frozen_of_row _ _ _ _ _ h⟩
    rw [get k j (by omega) hj, refs_get l (fun r hr => (hk r hr).1) k j (by omega) hj, List.getElem?_eq_getElem (by rw [rcells_length (hk _ (List.getElem_mem _)).1]; exact hj)]
    rfl
/-- One ref is another one. -/
theorem TAt.put {w : World} {tb jb : Nat} {l : List Rf} (h : TAt w tb jb l) (k : Nat) (hk : k < 12) (r : Rf) (hr : r.key.length = 32 ∧ r.name.length ≤ 12) :
    TAt (w.setCells tb (1 + k * 34) (rcells r)) tb jb (l.set k r) ∧ Chg [tb] w (w.setCells tb (1 + k * 34) (rcells r)) := by
  have hC : Chg [tb] w (w.setCells tb (1 + k * 34) (rcells r)) := Chg.setCells _ _ _ (Chg.refl _ _) (.inl (by simp))
  have hrl := rcells_length hr.1
  refine ⟨⟨?_, fun i hi => ?_, fun i hi => World.there_setCells (h.there i hi) _ _ _, Nat.lt_of_lt_of_le h.lt hC.size, by simp [h.len], fun x hx => ?_⟩, hC⟩
  · exact World.rangeAt_setCells_apart h.head tb (1 + k * 34) (rcells r) (.inr (.inl (by simp)))
  · have hi' : i < l.length := by simpa using hi
    by_cases hik : i = k
    · subst hik
      rw [List.getElem_set_self]
      exact World.rangeAt_setCells_same w tb (1 + i * 34) (rcells r) (by rw [hrl]; exact h.there i hk)
    · rw [List.getElem_set_ne (Ne.symm hik)]
      refine World.rangeAt_setCells_apart (h.ref i hi') tb (1 + k * 34) (rcells r) (.inr ?_)
      have hil := rcells_length (h.key _ (List.getElem_mem hi')).1
      rw [hil, hrl]
      omega
  · rcases List.mem_or_eq_of_mem_set hx with h1 | h1
    · exact h.key x h1
    · rw [h1]; exact hr

/-- The place of a name; below 0: it isn't there. -/
def findN (nm : Bytes) : List Rf → Nat → Int
  | [], _ => -1
  | r :: l, k => if r.name = nm then (k : Int) else findN nm l (k + 1)

theorem findN_to (nm : Bytes) : ∀ (l : List Rf) (k j : Nat) (hk : k < l.length), (∀ i (hi : i < k), (l[i]'(by omega)).name ≠ nm) → l[k].name = nm → findN nm l j = ((j + k : Nat) : Int) := by
  intro l
  induction l with
  | nil => intro k j hk; cases hk
  | cons x r ih =>
    intro k j hk hn he
    cases k with
    | zero =>
      unfold findN
      rw [if_pos (show x.name = nm from he)]; rfl
    | succ k =>
      unfold findN
      rw [if_neg (show ¬ x.name = nm from hn 0 (by omega)), ih k (j + 1) (by simpa using hk) (fun i hi => hn (i + 1) (by omega)) he]
      omega
theorem findN_no (nm : Bytes) : ∀ (l : List Rf) (j : Nat), (∀ i (hi : i < l.length), l[i].name ≠ nm) → findN nm l j = -1
  | [], _, _ => rfl
  | x :: r, j, h => by
    unfold findN
    rw [if_neg (show ¬ x.name = nm from h 0 (by simp)), findN_no nm r (j + 1) (fun i hi => h (i + 1) (by simpa using hi))]

def IxRel (l : List Rf) (nm : Bytes) (w : World) (x : Value) (wr : World) : Prop :=
  ∃ k : Nat, k ≤ l.length ∧ x = .int .i64 k ∧ (∀ i (hi : i < k) (hl : i < l.length), l[i].name ≠ nm) ∧ Chg [] w wr

set_option maxRecDepth 100000 in
set_option maxHeartbeats 400000 in
theorem index_spec (l : List Rf) (nm : Bytes) (tb jb pb : Nat) (w : World) (h : TAt w tb jb l) (hc : w.cell? ⟨pb, 0, none⟩ = some (str nm)) :
    Calls Tryd.prog 92 #[.slice (some ⟨tb, 1, none⟩) 12 12, .func (Fn.func 93) #[] #[.pointer (some ⟨pb, 0, none⟩)]] w fun e w' => e = .returned (.int .i64 (findN nm l 0)) ∧ Chg [] w w' := by
  have H := Lib.hid h
  have Hc := Lib.hid hc
  have hlen := h.len
  clear h hc
  go_enter Tryd.func92, Tryd.ntmps92
  go_wp2
  go_loopw [8] (fun x wr => IxRel l nm w x wr) (fun x _ => 12 - (intOf x).toNat)
  case atStart => exact ⟨0, Nat.zero_le _, rfl, fun i hi => by omega, Chg.refl _ _⟩
  case round =>
    obtain ⟨k, hk, rfl, hno, hC⟩ := hrel
    by_cases hlt : k < l.length
    · have hr := (H.out.chg hC (by simp)).ref k hlt
      have hkl := (H.out.key l[k] (List.getElem_mem hlt)).1
      have hcw := hC.cell Hc.out (by simp)
      obtain ⟨r, hrr⟩ : ∃ r, r = l[k] := ⟨_, rfl⟩
      rw [← hrr] at hr hkl
      have hl34 := rcells_length hkl
      have Hr := Lib.hid hr
      have Hkl := Lib.hid hkl
      have Hcw := Lib.hid hcw
      have Hl34 := Lib.hid hl34
      have HC := Lib.hid hC
      have Hno := Lib.hid hno
      have Hrr := Lib.hid hrr
      have Hlen := Lib.hid hlen
      have hk12 : k < 12 := by omega
      clear hr hkl hcw hl34 hC hno hrr
      by_cases hnm : r.name = nm
      · have hd : decide (r.name = nm) = true := decide_eq_true hnm
        have Hnm := Lib.hid hnm
        have Hd := Lib.hid hd
        clear hnm hd
        go_wp2_with (first
          | (refine wpList_load_mid rfl 48 (.tmp 14) rfl tb (1 + k * 34) (by rfl) (rcells r) _ Hr.out Tryd.underlying48 rfl (by rw [size48, Hl34.out]) ?_)
          | (go_at_call 93; refine (find1_spec r nm pb _ Hkl.out Hcw.out).mono ?_; rintro e w1 ⟨rfl, hC1⟩; rw [Hd.out]; have HC1 := Lib.hid hC1; clear hC1))
        go_ret
        refine ⟨?_, HC.out.trans HC1.out⟩
        rw [findN_to nm l k 0 hlt (fun i hi => Hno.out i hi (by omega)) (by rw [← Hrr.out]; exact Hnm.out), Nat.zero_add]
        rfl
      · have hd : decide (r.name = nm) = false := decide_eq_false hnm
        have Hnm := Lib.hid hnm
        have Hd := Lib.hid hd
        clear hnm hd
        go_wp2_with (first
          | (refine wpList_load_mid rfl 48 (.tmp 14) rfl tb (1 + k * 34) (by rfl) (rcells r) _ Hr.out Tryd.underlying48 rfl (by rw [size48, Hl34.out]) ?_)
          | (go_at_call 93; refine (find1_spec r nm pb _ Hkl.out Hcw.out).mono ?_; rintro e w1 ⟨rfl, hC1⟩; rw [Hd.out]; have HC1 := Lib.hid hC1; clear hC1))
        go_roundw
        case rel => exact ⟨k + 1, by omega, by go_num, fun i hi hl => by
          by_cases hik : i < k
          · exact Hno.out i hik hl
          · have e : i = k := by omega
            subst e
            rw [← Hrr.out]; exact Hnm.out, HC.out.trans HC1.out⟩
        case measure => simp [intOf]; omega
    · have hk12 : ¬ k < 12 := by omega
      have HC := Lib.hid hC
      have hfn : findN nm l 0 = -1 := findN_no nm l 0 (fun i hi => hno i (by omega) hi)
      have Hfn := Lib.hid hfn
      clear hC hno hfn
      go_wp2
      go_ret
      exact ⟨by rw [Hfn.out]; rfl, HC.out⟩

set_option maxRecDepth 100000 in
set_option maxHeartbeats 400000 in
theorem find_spec (l : List Rf) (nm : Bytes) (tb jb : Nat) (w : World) (h : TAt w tb jb l) :
    Calls Tryd.prog 63 #[.pointer (some ⟨tb, 0, none⟩), str nm] w fun e w' => e = .returned (.int .i64 (findN nm l 0)) ∧ Chg [] w w' := by
  have H := Lib.hid h
  have hC : Chg [] w (w.alloc (.cells #[str nm] 9)) := (Chg.refl [] w).alloc _
  have HC := Lib.hid hC
  have hcell : (w.alloc (.cells #[str nm] 9)).cell? ⟨w.heap.size, 0, none⟩ = some (str nm) := by rw [cell_of_row _ _ _ _ _ _ (heap_alloc_new _ _)]; rfl
  have Hcell := Lib.hid hcell
  clear h hC hcell
  unfold str
  go_enter Tryd.func63, Tryd.ntmps63
  go_wp2_with (first | (go_at_call 92; refine (index_spec l nm tb jb w.heap.size (w.alloc (.cells #[str nm] 9)) (H.out.chg HC.out (by simp)) Hcell.out).mono ?_; rintro e w1 ⟨rfl, hC1⟩; have HC1 := Lib.hid hC1; clear hC1))
  go_ret
  exact ⟨rfl, HC.out.trans HC1.out⟩

end Go.Proofs.YtaacejpienbkgaaDoor
