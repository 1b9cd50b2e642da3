/- Words used by all walks of this seat: bytes as cells, frames, a block known whole. -/
import Derived.Test.YtaacejpienbkgaaDoorProg
import Derived.WalkKit
import Derived.WalkSpells
import Derived.WalkLawsBesides
import Derived.Deep.MidRow
import Derived.Lib.Hide
namespace Go.Proofs.YtaacejpienbkgaaDoor
open Go.RowKit

abbrev Bytes := List UInt8
/-- A byte as a cell. -/
def B (x : UInt8) : Value := .int .u8 (x.toNat : Int)
/-- Bytes as cells. -/
def vals (xs : Bytes) : List Value := xs.map B
@[simp] theorem vals_length (xs : Bytes) : (vals xs).length = xs.length := by simp [vals]
@[simp] theorem vals_nil : vals [] = [] := rfl
@[simp] theorem vals_append (xs ys : Bytes) : vals (xs ++ ys) = vals xs ++ vals ys := by simp [vals]
theorem vals_take (xs : Bytes) (n : Nat) : (vals xs).take n = vals (xs.take n) := by simp [vals, List.map_take]
theorem vals_drop (xs : Bytes) (n : Nat) : (vals xs).drop n = vals (xs.drop n) := by simp [vals, List.map_drop]
theorem vals_getElem? (xs : Bytes) (j : Nat) : (vals xs)[j]? = xs[j]?.map B := by simp [vals]
theorem oneCell_B (x : UInt8) : (B x).oneCell' = true := rfl
theorem oneCell_vals (xs : Bytes) : ∀ u ∈ vals xs, u.oneCell' = true := by
  intro u hu
  simp only [vals, List.mem_map] at hu
  obtain ⟨x, _, rfl⟩ := hu
  rfl
/-- An integer's lowest byte. -/
def by8 (n : Int) : UInt8 := UInt8.ofNat (n % 256).toNat
theorem B_by8 (n : Int) : B (by8 n) = .int .u8 (n % 256) := by
  unfold B by8
  congr 1
  have h : (n % 256).toNat < 256 := by omega
  rw [UInt8.toNat_ofNat']
  omega
theorem by8_toNat (x : UInt8) : by8 (x.toNat : Int) = x := by
  unfold by8
  apply UInt8.toNat_inj.1
  rw [UInt8.toNat_ofNat']
  have := x.toNat_lt
  omega

/-- What lay in w lies in w' as it lay, but for the blocks F. -/
structure Chg (F : List Nat) (w w' : World) : Prop where
  os : w'.os = w.os
  tape : w'.tape = w.tape
  output : w'.output = w.output
  size : w.heap.size ≤ w'.heap.size
  block : ∀ k, k < w.heap.size → k ∉ F → w'.heap[k]? = w.heap[k]?

theorem Chg.refl (F : List Nat) (w : World) : Chg F w w := ⟨rfl, rfl, rfl, Nat.le_refl _, fun _ _ _ => rfl⟩
theorem Chg.mono {F G : List Nat} {w w' : World} (h : Chg F w w') (hs : ∀ k, k ∈ F → k ∈ G) : Chg G w w' :=
  ⟨h.os, h.tape, h.output, h.size, fun k hk hn => h.block k hk (fun hf => hn (hs k hf))⟩
/-- Behind a second step: what it may turn is in F, or was not there at the start. -/
theorem Chg.step {F G : List Nat} {w w1 w2 : World} (h : Chg F w w1) (k : Chg G w1 w2) (hs : ∀ x, x ∈ G → x ∈ F ∨ w.heap.size ≤ x) : Chg F w w2 :=
  ⟨k.os.trans h.os, k.tape.trans h.tape, k.output.trans h.output, Nat.le_trans h.size k.size, fun i hi hn =>
    (k.block i (Nat.lt_of_lt_of_le hi h.size) (fun hg => (hs i hg).elim hn (fun hle => absurd hi (by omega)))).trans (h.block i hi hn)⟩
theorem Chg.trans {F : List Nat} {w w1 w2 : World} (h : Chg F w w1) (k : Chg F w1 w2) : Chg F w w2 := h.step k (fun _ hx => .inl hx)
theorem Chg.then0 {F : List Nat} {w w1 w2 : World} (h : Chg F w w1) (k : Chg [] w1 w2) : Chg F w w2 := h.step k (fun _ hx => by cases hx)
theorem Chg.drew {F : List Nat} {a w : World} (h : Chg F a w) : Chg F a w.drew := ⟨h.os, h.tape, h.output, h.size, h.block⟩
theorem Chg.drewN {F : List Nat} {a w : World} (h : Chg F a w) (n : Nat) : Chg F a (w.drewN n) := ⟨h.os, h.tape, h.output, h.size, h.block⟩
theorem Chg.alloc {F : List Nat} {a w : World} (h : Chg F a w) (o : Obj) : Chg F a (w.alloc o) :=
  h.then0 ⟨rfl, rfl, rfl, by simp, fun k hk _ => Below.heap_alloc _ _ _ hk⟩
theorem Chg.setCell {F : List Nat} {a w : World} (h : Chg F a w) {p : Addr} (hp : p.block ∈ F ∨ a.heap.size ≤ p.block) (u : Value) : Chg F a (w.setCell p u) :=
  h.step (G := [p.block]) ⟨rfl, rfl, rfl, by simp, fun k _ hk => Below.heap_setCell _ _ _ _ (by simpa using hk)⟩ (by simpa using hp)
theorem Chg.setCells {F : List Nat} {a : World} (b : Nat) : ∀ (vs : List Value) (o : Nat) {w : World}, Chg F a w → (b ∈ F ∨ a.heap.size ≤ b) → Chg F a (w.setCells b o vs)
  | [], _, _, h, _ => h
  | v :: r, o, _, h, hb => Chg.setCells b r (o + 1) (h.setCell (p := ⟨b, o, none⟩) hb v) hb
theorem Chg.setRow {F : List Nat} {a w : World} (h : Chg F a w) {g : Nat} (hp : g ∈ F ∨ a.heap.size ≤ g) (cs : Array Value) : Chg F a (w.setRow g cs) :=
  h.step (G := [g]) ⟨rfl, rfl, rfl, by simp, fun k _ hk => setRow_other w g k cs (by simpa using hk)⟩ (by simpa using hp)
theorem Chg.grown {F : List Nat} {a w w' : World} {row : Option Nat} (h : Chg F a w) (hg : w.grownBy w' row) (hr : ∀ k, row = some k → k ∈ F ∨ a.heap.size ≤ k) : Chg F a w' :=
  h.step (G := row.toList) ⟨hg.os, hg.tape, hg.output, hg.size, fun k hk hn => hg.block k hk (fun e => hn (by simp [← e]))⟩ (fun x hx => hr x (by simpa using hx))
theorem Chg.below {w w' : World} (h : Chg [] w w') : Below w.heap.size w w' := ⟨h.os, h.tape, h.output, h.size, fun k hk => h.block k hk (by simp)⟩
theorem Chg.of_below {F : List Nat} {w w' : World} (h : Below w.heap.size w w') : Chg F w w' := ⟨h.os, h.tape, h.output, h.size, fun k hk _ => h.block k hk⟩
theorem Chg.heap {F : List Nat} {w w' : World} (h : Chg F w w') {k : Nat} {o : Obj} (hk : w.heap[k]? = some o) (hn : k ∉ F) : w'.heap[k]? = some o :=
  (h.block k (Array.getElem?_eq_some_iff.1 hk).1 hn).trans hk
theorem Chg.cell {F : List Nat} {w w' : World} (h : Chg F w w') {a : Addr} {v : Value} (hc : w.cell? a = some v) (hn : a.block ∉ F) : w'.cell? a = some v :=
  (World.cell?_of_block (h.block a.block (World.block_lt_of_cell? w a hc) hn)).trans hc
theorem Chg.frozen {F : List Nat} {w w' : World} (h : Chg F w w') {a : Addr} (hl : a.block < w.heap.size) (hn : a.block ∉ F) : w'.frozen? a = w.frozen? a :=
  World.frozen?_of_block (h.block a.block hl hn)
theorem Chg.range {F : List Nat} {w w' : World} (h : Chg F w w') {b o : Nat} {cs : List Value} (hc : w.rangeAt b o cs) (hn : b ∉ F) : w'.rangeAt b o cs :=
  fun j v hv => h.cell (hc j v hv) hn
theorem Chg.thereAt {F : List Nat} {w w' : World} (h : Chg F w w') {b o n : Nat} (hl : b < w.heap.size) (hc : w.there b o n) (hn : b ∉ F) : w'.there b o n := fun j hj =>
  ⟨by rw [World.cell?_of_block (w := w) (w' := w') (h.block b hl hn)]; exact (hc j hj).1, by rw [h.frozen hl hn]; exact (hc j hj).2⟩
theorem Chg.owns {F : List Nat} {w w' : World} (h : Chg F w w') {base e size n : Nat} {v : Value} {xs : List Value} (ho : w.ownsRow base e size v n xs) (hn : ∀ k, v.ownBlock = some k → k ∉ F) : w'.ownsRow base e size v n xs := by
  refine ⟨ho.1, ?_⟩
  rcases ho.2 with h0 | ⟨g, cap, cur, rfl, hb, hg, r⟩
  · exact .inl h0
  · exact .inr ⟨g, cap, cur, rfl, hb, h.heap hg (hn g rfl), r⟩

theorem heap_lt {w : World} {k : Nat} {o : Obj} (h : w.heap[k]? = some o) : k < w.heap.size := (Array.getElem?_eq_some_iff.1 h).1
theorem range_lt {w : World} {b o : Nat} {cs : List Value} (h : w.rangeAt b o cs) (hne : cs ≠ []) : b < w.heap.size := by
  cases cs with
  | nil => exact absurd rfl hne
  | cons c r => exact World.block_lt_of_cell? w _ (h 0 c rfl)

/-- A slice of bytes that can be read. -/
def SlB (w : World) (v : Value) (xs : Bytes) : Prop :=
  (v = .slice none 0 0 ∧ xs = []) ∨
  ∃ b o cap, v = .slice (some ⟨b, o, none⟩) xs.length cap ∧ xs.length ≤ cap ∧ w.rangeAt b o (vals xs) ∧ b < w.heap.size
theorem SlB.nil (w : World) : SlB w (.slice none 0 0) [] := .inl ⟨rfl, rfl⟩
theorem SlB.chg {F : List Nat} {w w' : World} {v : Value} {xs : Bytes} (h : SlB w v xs) (hC : Chg F w w') (hn : ∀ k, v.ownBlock = some k → k ∉ F) : SlB w' v xs := by
  rcases h with h | ⟨b, o, cap, rfl, hc, hr, hl⟩
  · exact .inl h
  · exact .inr ⟨b, o, cap, rfl, hc, hC.range hr (hn b rfl), Nat.lt_of_lt_of_le hl hC.size⟩
theorem SlB.lt {w : World} {v : Value} {xs : Bytes} (h : SlB w v xs) : ∀ k, v.ownBlock = some k → k < w.heap.size := by
  rcases h with ⟨rfl, _⟩ | ⟨b, o, cap, rfl, _, _, hl⟩
  · intro k hk; simp [Value.ownBlock] at hk
  · intro k hk; simp [Value.ownBlock] at hk; omega
/-- A slice of bytes of one's own: at the head of a block from base on. -/
def OwnB (w : World) (base : Nat) (v : Value) (xs : Bytes) : Prop := w.ownsRow base 5 1 v xs.length (vals xs)
theorem OwnB.slb {w : World} {base : Nat} {v : Value} {xs : Bytes} (h : OwnB w base v xs) : SlB w v xs := by
  rcases h.2 with ⟨rfl, h0⟩ | ⟨g, cap, cur, rfl, _, hg, hn, _, hs, ht⟩
  · exact .inl ⟨rfl, List.eq_nil_of_length_eq_zero h0⟩
  · refine .inr ⟨g, 0, cap, rfl, hn, fun j u hu => ?_, heap_lt hg⟩
    have := World.ownsRow.cells h (g := g) rfl j u hu
    rwa [Addr.add_mid] at this

theorem info5 : (Tryd.prog.info? 5).map (fun i => (i.zero, i.size, i.bytes)) = some (some (.int .u8 0), 1, 1) := by kernel_rfl

end Go.Proofs.YtaacejpienbkgaaDoor
