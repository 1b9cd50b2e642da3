/- The disk as a plain Lean value, and how it lies in memory. -/
import Derived.Test.YtaacejpienbkgaaDoorBase
namespace Go.Proofs.YtaacejpienbkgaaDoor
open Go.RowKit

def zeros (n : Nat) : Bytes := List.replicate n 0
/-- A sector: bytes, noughts behind them. -/
def padTo (n : Nat) (p : Bytes) : Bytes := p ++ zeros (n - p.length)
@[simp] theorem zeros_length (n : Nat) : (zeros n).length = n := by simp [zeros]
theorem vals_zeros_get {n j : Nat} (h : j < n) : (vals (zeros n))[j]? = some (B 0) := by
  simp [vals, zeros, h]
theorem padTo_length {n : Nat} {p : Bytes} (h : p.length ≤ n) : (padTo n p).length = n := by simp [padTo]; omega

structure Dsk where
  n : Nat
  safe : Nat → Bytes
  wet : List (Nat × Bytes)
  left : Int
  off : Bool
  acts : Int

namespace Dsk
/-- What a sector holds as it was written last. -/
def curOf (safe : Nat → Bytes) : List (Nat × Bytes) → Nat → Bytes
  | [], i => safe i
  | (a, p) :: l, i => curOf (fun j => if j = a then p else safe j) l i
def cur (d : Dsk) : Nat → Bytes := curOf d.safe d.wet
/-- One more act: does it go well? -/
def act (d : Dsk) : Dsk × Bool :=
  if d.off then (d, false)
  else if d.left = 0 then ({ d with acts := wrap64 (d.acts + 1), off := true }, false)
  else ({ d with acts := wrap64 (d.acts + 1), left := max (d.left - 1) (-1) }, true)
def write (d : Dsk) (i : Nat) (p : Bytes) : Dsk × Int :=
  if d.off then (d, 9)
  else ({ d.act.1 with wet := d.wet ++ [(i, padTo 64 p)] }, if d.act.2 then 0 else 9)
def keepOf (safe : Nat → Bytes) (wants : Nat → Bool) : Nat → List (Nat × Bytes) → Nat → Bytes
  | _, [], j => safe j
  | k, (a, p) :: l, j => keepOf (if wants k then fun j => if j = a then p else safe j else safe) wants (k + 1) l j
def keep (d : Dsk) (wants : Nat → Bool) : Dsk := { d with safe := keepOf d.safe wants 0 d.wet, wet := [] }
def flush (d : Dsk) : Dsk × Int := if d.act.2 then (d.act.1.keep (fun _ => true), 0) else (d.act.1, 9)
def arm (d : Dsk) (acts : Int) : Dsk := { d with left := max acts (-1) }
def maskBit (mask : Bytes) (i : Nat) : Bool := decide (0 < mask.length) && ((mask.getD (i / 8 % mask.length) 0).toNat / 2 ^ (i % 8) % 2 == 1)
def crash (d : Dsk) (mask : Bytes) : Dsk := { d.keep (maskBit mask) with off := false, left := -1 }
def new (n : Nat) : Dsk := { n, safe := fun _ => zeros 64, wet := [], left := -1, off := false, acts := 0 }
/-- What every disk that the program makes keeps. -/
structure Ok (d : Dsk) : Prop where
  n : d.n ≤ 4096
  safe : ∀ i, (d.safe i).length = 64
  wet : ∀ x, x ∈ d.wet → x.1 < d.n ∧ x.2.length = 64
  left0 : -1 ≤ d.left
  left1 : d.left ≤ 9223372036854775807
end Dsk

/-- A write that isn't safe, as cells. -/
def wcell (x : Nat × Bytes) : List Value := .int .i64 (x.1 : Int) :: vals x.2
def wcells (l : List (Nat × Bytes)) : List Value := l.flatMap wcell

/-- Where a disk lies: the block of what is safe, the slice of what isn't. -/
structure DMem where
  bs : Nat
  wv : Value
def DMem.foot (m : DMem) (b : Nat) : List Nat := b :: m.bs :: m.wv.ownBlock.toList

/-- A disk's head. -/
def dhead (m : DMem) (d : Dsk) : Array Value := #[.slice (some ⟨m.bs, 0, none⟩) d.n d.n, m.wv, .int .i64 d.left, .bool d.off, .int .i64 d.acts]

structure DiskAt (w : World) (b : Nat) (m : DMem) (d : Dsk) : Prop where
  head : w.heap[b]? = some (.cells (dhead m d) 114 (0, 0))
  bslt : m.bs < w.heap.size
  safe : ∀ i, i < d.n → w.rangeAt m.bs (i * 64) (vals (d.safe i))
  there : ∀ i, i < d.n → w.there m.bs (i * 64) 64
  wet : w.ownsRow 0 117 65 m.wv d.wet.length (wcells d.wet)
  ap1 : b ≠ m.bs
  ap2 : m.wv.ownBlock ≠ some b
  ap3 : m.wv.ownBlock ≠ some m.bs
  ok : d.Ok

theorem DiskAt.blt {w : World} {b : Nat} {m : DMem} {d : Dsk} (h : DiskAt w b m d) : b < w.heap.size := heap_lt h.head
theorem DiskAt.footlt {w : World} {b : Nat} {m : DMem} {d : Dsk} (h : DiskAt w b m d) : ∀ k, k ∈ m.foot b → k < w.heap.size := by
  intro k hk
  simp only [DMem.foot, List.mem_cons, Option.mem_toList] at hk
  rcases hk with rfl | rfl | hk
  · exact h.blt
  · exact h.bslt
  · exact (h.wet.lt k hk).2

/-- A disk that nothing has touched. -/
theorem DiskAt.chg {F : List Nat} {w w' : World} {b : Nat} {m : DMem} {d : Dsk} (h : DiskAt w b m d) (hC : Chg F w w') (hn : ∀ k, k ∈ m.foot b → k ∉ F) : DiskAt w' b m d where
  head := hC.heap h.head (hn b (by simp [DMem.foot]))
  bslt := Nat.lt_of_lt_of_le h.bslt hC.size
  safe := fun i hi => hC.range (h.safe i hi) (hn _ (by simp [DMem.foot]))
  there := fun i hi => hC.thereAt h.bslt (h.there i hi) (hn _ (by simp [DMem.foot]))
  wet := hC.owns h.wet (fun k hk => hn k (by simp [DMem.foot, hk]))
  ap1 := h.ap1
  ap2 := h.ap2
  ap3 := h.ap3
  ok := h.ok

/-- Only the head has turned: the counts and the flag. -/
theorem DiskAt.head1 {w w' : World} {b : Nat} {m : DMem} {d : Dsk} (h : DiskAt w b m d) (hC : Chg [b] w w') (l a : Int) (o : Bool) (h0 : -1 ≤ l) (h1 : l ≤ 9223372036854775807)
    (hh : w'.heap[b]? = some (.cells #[.slice (some ⟨m.bs, 0, none⟩) d.n d.n, m.wv, .int .i64 l, .bool o, .int .i64 a] 114 (0, 0))) :
    DiskAt w' b m { d with left := l, off := o, acts := a } where
  head := hh
  bslt := Nat.lt_of_lt_of_le h.bslt hC.size
  safe := fun i hi => hC.range (h.safe i hi) (by simpa using h.ap1.symm)
  there := fun i hi => hC.thereAt h.bslt (h.there i hi) (by simpa using h.ap1.symm)
  wet := hC.owns h.wet (fun k hk e => by simp at e; subst e; exact h.ap2 hk)
  ap1 := h.ap1
  ap2 := h.ap2
  ap3 := h.ap3
  ok := ⟨h.ok.n, h.ok.safe, h.ok.wet, h0, h1⟩

theorem DiskAt.cells {w : World} {b : Nat} {m : DMem} {d : Dsk} (h : DiskAt w b m d) :
    w.cell? ⟨b, 0, none⟩ = some (.slice (some ⟨m.bs, 0, none⟩) d.n d.n) ∧ w.cell? ⟨b, 1, none⟩ = some m.wv ∧ w.cell? ⟨b, 2, none⟩ = some (.int .i64 d.left) ∧
    w.cell? ⟨b, 3, none⟩ = some (.bool d.off) ∧ w.cell? ⟨b, 4, none⟩ = some (.int .i64 d.acts) := by
  have := h.head
  refine ⟨?_, ?_, ?_, ?_, ?_⟩ <;> rw [cell_of_row w b _ _ _ _ this] <;> rfl
theorem DiskAt.free {w : World} {b : Nat} {m : DMem} {d : Dsk} (h : DiskAt w b m d) (i : Nat) : w.frozen? ⟨b, i, none⟩ = false := frozen_of_row w b i _ _ h.head

@[simp] theorem act_wet (d : Dsk) : d.act.1.wet = d.wet := by unfold Dsk.act; split <;> (try split) <;> rfl
@[simp] theorem act_n (d : Dsk) : d.act.1.n = d.n := by unfold Dsk.act; split <;> (try split) <;> rfl
@[simp] theorem act_safe (d : Dsk) : d.act.1.safe = d.safe := by unfold Dsk.act; split <;> (try split) <;> rfl
theorem act_ok {d : Dsk} (h : d.Ok) : d.act.1.Ok := by
  unfold Dsk.act
  have h0 := h.left0
  have h1 := h.left1
  split
  · exact h
  · split
    · exact ⟨h.n, h.safe, h.wet, h.left0, h.left1⟩
    · exact ⟨h.n, h.safe, h.wet, by dsimp only; omega, by dsimp only; omega⟩

end Go.Proofs.YtaacejpienbkgaaDoor
