/- The journal in plain words: what a write leaves on a disk that doesn't stop; what is told when it is opened. -/
import Derived.Test.YtaacejpienbkgaaDoorJrn4
namespace Go.Proofs.YtaacejpienbkgaaDoor
open Go.RowKit

/-- A disk that does not stop. -/
structure Free (d : Dsk) : Prop where
  off : d.off = false
  left : d.left = -1

def padl (l : List (Nat × Bytes)) : List (Nat × Bytes) := l.map fun x => (x.1, padTo 64 x.2)
@[simp] theorem padl_length (l : List (Nat × Bytes)) : (padl l).length = l.length := by simp [padl]
theorem padl_keys (l : List (Nat × Bytes)) : (padl l).map (·.1) = l.map (·.1) := by simp [padl, Function.comp_def]
theorem padTo_self {n : Nat} {p : Bytes} (h : p.length = n) : padTo n p = p := by simp [padTo, h, zeros]
theorem padTo_padTo {n : Nat} {p : Bytes} (h : p.length ≤ n) : padTo n (padTo n p) = padTo n p := padTo_self (padTo_length h)

theorem free_act {d : Dsk} (h : Free d) : ∃ a, d.act = ({ d with acts := a }, true) := by
  refine ⟨wrap64 (d.acts + 1), ?_⟩
  have h1 := h.off
  have h2 := h.left
  unfold Dsk.act
  rw [if_neg (by simp [h1]), if_neg (by rw [h2]; decide)]
  have e : max (d.left - 1) (-1) = d.left := by rw [h2]; decide
  rw [e]
theorem free_write {d : Dsk} (h : Free d) (i : Nat) (p : Bytes) : ∃ a, d.write i p = ({ d with acts := a, wet := d.wet ++ [(i, padTo 64 p)] }, 0) := by
  obtain ⟨a, ha⟩ := free_act h
  refine ⟨a, ?_⟩
  unfold Dsk.write
  rw [if_neg (by simp [h.off]), ha]
  rfl
theorem free_writes : ∀ (l : List (Nat × Bytes)) (d : Dsk), Free d → ∃ a, writes d l = ({ d with acts := a, wet := d.wet ++ padl l }, 0)
  | [], d, _ => ⟨d.acts, by simp [writes, padl]⟩
  | x :: r, d, h => by
    obtain ⟨a, ha⟩ := free_write h x.1 x.2
    have h1 : Free { d with acts := a, wet := d.wet ++ [(x.1, padTo 64 x.2)] } := ⟨h.off, h.left⟩
    obtain ⟨a', ha'⟩ := free_writes r _ h1
    refine ⟨a', ?_⟩
    rw [writes, ha, if_pos rfl]
    dsimp only at ha' ⊢
    rw [ha']
    simp [padl]
theorem keepOf_true : ∀ (l : List (Nat × Bytes)) (k : Nat) (f : Nat → Bytes), Dsk.keepOf f (fun _ => true) k l = Dsk.curOf f l
  | [], _, f => by funext j; simp [Dsk.keepOf, Dsk.curOf]
  | (a, p) :: l, k, f => by
    funext j
    simp only [Dsk.keepOf, Dsk.curOf, if_true]
    rw [keepOf_true l (k + 1)]
theorem free_commit {d : Dsk} (h : Free d) (l : List (Nat × Bytes)) : ∃ a, commit d l = ({ d with acts := a, safe := Dsk.curOf d.cur (padl l), wet := [] }, 0) := by
  obtain ⟨a, ha⟩ := free_writes l d h
  have h1 : Free { d with acts := a, wet := d.wet ++ padl l } := ⟨h.off, h.left⟩
  obtain ⟨a', ha'⟩ := free_act h1
  refine ⟨a', ?_⟩
  unfold commit
  rw [ha, if_pos rfl]
  dsimp only at ha' ⊢
  unfold Dsk.flush
  rw [ha', if_pos rfl]
  unfold Dsk.keep Dsk.cur
  dsimp only
  rw [keepOf_true, curOf_append]
theorem free_jwrite {d : Dsk} (h : Free d) (next : Nat) (l : List (Nat × Bytes)) :
    (∃ a, jwrite d next l = ({ d with acts := a, safe := Dsk.curOf (Dsk.curOf d.cur (padl (laid next l))) (padl (behind l)), wet := [] }, 0)) ∧ jnext d next l = next + 1 := by
  obtain ⟨a, ha⟩ := free_commit h (laid next l)
  have h1 : Free { d with acts := a, safe := Dsk.curOf d.cur (padl (laid next l)), wet := [] } := ⟨h.off, h.left⟩
  obtain ⟨a', ha'⟩ := free_commit h1 (behind l)
  refine ⟨⟨a', ?_⟩, ?_⟩
  · unfold jwrite
    rw [ha, if_pos rfl]
    dsimp only at ha' ⊢
    rw [ha']
    rfl
  · unfold jnext
    rw [ha, if_pos rfl]

theorem cur_dry {d : Dsk} (h : d.wet = []) : d.cur = d.safe := by unfold Dsk.cur; rw [h]; funext j; simp [Dsk.curOf]
theorem curOf_ne : ∀ (l : List (Nat × Bytes)) (f : Nat → Bytes) (j : Nat), (∀ x ∈ l, x.1 ≠ j) → Dsk.curOf f l j = f j
  | [], _, _, _ => by simp [Dsk.curOf]
  | (a, p) :: l, f, j, h => by
    simp only [Dsk.curOf]
    rw [curOf_ne l _ j (fun x hx => h x (by simp [hx]))]
    rw [if_neg (Ne.symm (h (a, p) (by simp)))]
theorem curOf_mem : ∀ (l : List (Nat × Bytes)) (f : Nat → Bytes) (j : Nat) (p : Bytes), (l.map (·.1)).Nodup → (j, p) ∈ l → Dsk.curOf f l j = p
  | [], _, _, _, _, h => by cases h
  | (a, q) :: l, f, j, p, hn, h => by
    simp only [List.map_cons, List.nodup_cons] at hn
    simp only [Dsk.curOf]
    rcases List.mem_cons.1 h with h | h
    · cases h
      rw [curOf_ne l _ _ (fun x hx e => hn.1 (by rw [← e]; exact List.mem_map_of_mem hx)), if_pos rfl]
    · exact curOf_mem l _ j p hn.2 h

theorem laidFrom_keys (next : Nat) : ∀ (l : List (Nat × Bytes)) (k : Nat), (laidFrom next k l).map (·.1) = List.range' (1 + 2 * k) (2 * l.length)
  | [], _ => rfl
  | x :: r, k => by
    simp only [laidFrom, lay2, List.map_append, List.map_cons, List.map_nil, laidFrom_keys next r (k + 1), List.length_cons]
    rw [show 2 * (r.length + 1) = 2 * r.length + 1 + 1 by omega, List.range'_succ, List.range'_succ]
    rw [show 1 + 2 * k + 1 = 2 + 2 * k by omega, show 1 + 2 * (k + 1) = 2 + 2 * k + 1 by omega]
    rfl
theorem laid_keys (next : Nat) (l : List (Nat × Bytes)) : (padl (laid next l)).map (·.1) = List.range' 1 (2 * l.length) ++ [0] := by
  rw [padl_keys, laid, List.map_append, laidFrom_keys]
  rfl
theorem laid_nodup (next : Nat) (l : List (Nat × Bytes)) : ((padl (laid next l)).map (·.1)).Nodup := by
  rw [laid_keys]
  rw [List.nodup_append]
  refine ⟨List.nodup_range', by simp, ?_⟩
  intro a ha b hb
  simp at ha hb
  omega
theorem laid_lt {next : Nat} {l : List (Nat × Bytes)} (hl : l.length ≤ 24) : ∀ x ∈ padl (laid next l), x.1 < 49 := by
  intro x hx
  have h : x.1 ∈ (padl (laid next l)).map (·.1) := List.mem_map_of_mem hx
  rw [laid_keys] at h
  simp at h
  omega
theorem laidFrom_mem (next : Nat) : ∀ (l : List (Nat × Bytes)) (k i : Nat) (h : i < l.length), ∀ y ∈ lay2 next (k + i) l[i], y ∈ laidFrom next k l
  | [], _, _, h, _, _ => by cases h
  | x :: r, k, 0, _, y, hy => by
    simp only [laidFrom]
    exact List.mem_append_left _ hy
  | x :: r, k, i + 1, h, y, hy => by
    simp only [laidFrom]
    refine List.mem_append_right _ (laidFrom_mem next r (k + 1) i (by simpa using h) y ?_)
    rw [show k + 1 + i = k + (i + 1) by omega]
    exact hy
theorem behind_ge (l : List (Nat × Bytes)) : ∀ x ∈ padl (behind l), 49 ≤ x.1 := by
  intro x hx
  simp only [padl, behind, List.map_map, List.mem_map] at hx
  obtain ⟨y, _, rfl⟩ := hx
  simp

theorem num4_four (n : Nat) (h : n < 4294967296) (r : Bytes) : num4 (four n ++ r) = n := by
  simp only [num4, four, List.cons_append, List.nil_append, List.getD_cons_zero, List.getD_cons_succ]
  unfold by8
  simp only [UInt8.toNat_ofNat']
  omega
theorem four_drop (n : Int) (r : Bytes) : (four n ++ r).drop 4 = r := by simp [four]

/-- What the journal's sectors hold when l has been written under a number. -/
theorem jlist_of {d : Dsk} {next : Nat} {l : List (Nat × Bytes)} (f : Nat → Bytes) (hd : ∀ j, j < 49 → d.cur j = Dsk.curOf f (padl (laid next l)) j) (h0 : next ≠ 0) (hn : next < 4294967296) (hl : l.length ≤ 24)
    (hat : ∀ x ∈ l, x.1 < 4294967296 ∧ x.2.length ≤ 64) : jlist d = padl l := by
  have get : ∀ y ∈ laid next l, Dsk.curOf f (padl (laid next l)) y.1 = padTo 64 y.2 := fun y hy => curOf_mem _ _ _ _ (laid_nodup _ _) (by simp only [padl, List.mem_map]; exact ⟨y, hy, rfl⟩)
  have c0 : d.cur 0 = padTo 64 (four next ++ four l.length) := by
    rw [hd 0 (by omega)]
    exact get (0, four next ++ four l.length) (by simp [laid])
  have c1 : ∀ i (h : i < l.length), d.cur (1 + 2 * i) = padTo 64 (four next ++ four l[i].1 ++ (padTo 64 l[i].2).take 32) := fun i h => by
    rw [hd _ (by omega)]
    refine get (1 + 2 * i, _) (List.mem_append_left _ (laidFrom_mem next l 0 i h _ ?_))
    simp [lay2]
  have c2 : ∀ i (h : i < l.length), d.cur (2 + 2 * i) = padTo 64 (four next ++ four l[i].1 ++ (padTo 64 l[i].2).drop 32) := fun i h => by
    rw [hd _ (by omega)]
    refine get (2 + 2 * i, _) (List.mem_append_left _ (laidFrom_mem next l 0 i h _ ?_))
    simp [lay2]
  have n0 : jnum d = next := by
    unfold jnum
    rw [c0, padTo, List.append_assoc, num4_four next hn]
  have n1 : jcnt d = l.length := by
    unfold jcnt
    rw [c0, padTo, List.append_assoc, four_drop, num4_four _ (by omega)]
  have ok : ∀ i, i < jcnt d → jok d i := by
    intro i hi
    rw [n1] at hi
    unfold jok
    rw [n0, c1 i hi, c2 i hi]
    constructor
    · rw [padTo, List.append_assoc, List.append_assoc, num4_four next hn]
    · rw [padTo, List.append_assoc, List.append_assoc, num4_four next hn]
  unfold jlist
  rw [if_neg (by rw [n0, n1]; omega), if_pos ok, n1]
  apply List.ext_getElem
  · simp
  · intro i h1 h2
    have hi : i < l.length := by simpa using h2
    have hA := hat l[i] (List.getElem_mem hi)
    have hp := padTo_length hA.2
    simp only [List.getElem_map, List.getElem_range, padl]
    unfold jpage
    rw [c1 i hi, c2 i hi]
    refine Prod.ext ?_ ?_
    · show num4 (List.drop 4 _) = _
      rw [padTo, List.append_assoc, List.append_assoc, four_drop, List.append_assoc, num4_four _ hA.1]
    · have e : ∀ q : Bytes, q.length = 32 → ((padTo 64 (four next ++ four l[i].1 ++ q)).drop 8).take 32 = q := by
        intro q hq
        rw [padTo, List.append_assoc, List.append_assoc, show (8 : Nat) = 4 + 4 from rfl, ← List.drop_drop, four_drop, List.append_assoc, four_drop, List.take_append_of_le_length (by omega), List.take_of_length_le (by omega)]
      show List.take 32 _ ++ List.take 32 _ = _
      rw [e _ (by simp [hp]), e _ (by simp [hp]), List.take_append_drop]

end Go.Proofs.YtaacejpienbkgaaDoor
