/- check's calls, walked: the sum of bytes, Four, Number, Seal, Open. -/
import Derived.Test.YtaacejpienbkgaaDoorDisk2
import Derived.Deep.QuietTactic
import Derived.BigQuiet
namespace Go.Proofs.YtaacejpienbkgaaDoor
open Go.RowKit

def linesN : List Nat := [
  0x00000000, 0x105ec76f, 0x20bd8ede, 0x30e349b1, 0x417b1dbc, 0x5125dad3, 0x61c69362, 0x7198540d,
  0x82f63b78, 0x92a8fc17, 0xa24bb5a6, 0xb21572c9, 0xc38d26c4, 0xd3d3e1ab, 0xe330a81a, 0xf36e6f75]
def lineAt (i : Nat) : Nat := linesN.getD i 0
/-- The table that check.Of reads. -/
def LinesAt (w : World) : Prop := ∀ j, j < 16 → w.cell? ⟨3, j, none⟩ = some (.int .u32 (lineAt j))
def nib (r n : Nat) : Nat := lineAt ((r ^^^ n) % 16) ^^^ r / 16
def crcB (r : Nat) (c : UInt8) : Nat := nib (nib r c.toNat) (c.toNat / 16)
def crcR (xs : Bytes) : Nat := xs.foldl crcB 4294967295
def crcN (xs : Bytes) : Nat := 4294967295 ^^^ crcR xs

theorem lineAt_lt (i : Nat) : lineAt i < 4294967296 := by
  by_cases h : i < 16
  · have h2 : ∀ j : Fin 16, lineAt j.val < 4294967296 := by decide
    exact h2 ⟨i, h⟩
  · have : lineAt i = 0 := by
      unfold lineAt
      rw [List.getD_eq_getElem?_getD, List.getElem?_eq_none (by simp [linesN]; omega)]
      rfl
    omega
theorem xor_lt32 {a b : Nat} (ha : a < 4294967296) (hb : b < 4294967296) : a ^^^ b < 4294967296 := Nat.xor_lt_two_pow (n := 32) ha hb
theorem nib_lt {r n : Nat} (hr : r < 4294967296) : nib r n < 4294967296 := xor_lt32 (lineAt_lt _) (by omega)
theorem crcR_lt (xs : Bytes) : crcR xs < 4294967296 := by
  unfold crcR
  have : ∀ (l : Bytes) (r : Nat), r < 4294967296 → l.foldl crcB r < 4294967296 := by
    intro l
    induction l with
    | nil => intro r hr; exact hr
    | cons c l ih => intro r hr; exact ih _ (nib_lt (nib_lt hr))
  exact this xs _ (by omega)
theorem crcR_snoc (xs : Bytes) (c : UInt8) : crcR (xs ++ [c]) = crcB (crcR xs) c := by simp [crcR]

theorem nib_idx (r n : Nat) (hr : r < 4294967296) (hn : n < 4294967296) : bits BinOp.and IntKind.u32 (bits BinOp.xor IntKind.u32 (r : Int) (n : Int)) 15 = (((r ^^^ n) % 16 : Nat) : Int) := by
  rw [u32_xor_nat _ _ hr hn, show (15 : Int) = ((15 : Nat) : Int) from rfl, u32_and_nat _ _ (xor_lt32 hr hn) (by decide), nat_mask4]
theorem nib_val (l r : Nat) (hl : l < 4294967296) (hr : r < 4294967296) : bits BinOp.xor IntKind.u32 (l : Int) ((r : Int) / 16) = ((l ^^^ (r / 16) : Nat) : Int) := by
  rw [show ((r : Int) / 16) = ((r / 16 : Nat) : Int) by omega, u32_xor_nat _ _ hl (by omega)]

set_option maxHeartbeats 1000000 in
theorem of_any (b o cap : Nat) (xs : Bytes) (w : World) (hT : LinesAt w) (hr : w.rangeAt b o (vals xs)) (hlen : xs.length ≤ 1000000) :
    Calls Tryd.prog 107 #[.slice (some ⟨b, o, none⟩) xs.length cap] w fun e w' => e = .returned (.int .u32 (crcN xs)) ∧ w = w' := by
  have HT := Lib.hid hT
  have Hr := Lib.hid hr
  clear hT hr
  go_enter Tryd.func107, Tryd.ntmps107
  go_wp2
  go_loop [3, 8] (fun r i => ∃ k : Nat, k ≤ xs.length ∧ i = .int .i64 k ∧ r = .int .u32 (crcR (xs.take k))) (fun _ i => xs.length - (intOf i).toNat)
  case atStart => exact ⟨0, Nat.zero_le _, rfl, rfl⟩
  case round =>
    obtain ⟨k, hk, rfl, rfl⟩ := hrel
    by_cases hlt : k < xs.length
    · have hc := Hr.out k (B xs[k]) (by rw [vals_getElem?, List.getElem?_eq_getElem hlt]; rfl)
      unfold B at hc
      obtain ⟨c, hcc⟩ : ∃ c, c = xs[k].toNat := ⟨_, rfl⟩
      have hcb : c < 256 := by rw [hcc]; exact xs[k].toNat_lt
      rw [← hcc] at hc
      obtain ⟨r, hrr⟩ : ∃ r, r = crcR (xs.take k) := ⟨_, rfl⟩
      rw [← hrr]
      have hrb : r < 4294967296 := by rw [hrr]; exact crcR_lt _
      have hfin : crcR (xs.take (k + 1)) = nib (nib r c) (c / 16) := by
        rw [List.take_succ_eq_append_getElem hlt, crcR_snoc, ← hrr, crcB, ← hcc]
      have e1 := nib_idx r c hrb (by omega)
      have hx1 : (r ^^^ c) % 16 < 16 := Nat.mod_lt _ (by decide)
      have c1 := HT.out ((r ^^^ c) % 16) hx1
      have e2 := nib_val (lineAt ((r ^^^ c) % 16)) r (lineAt_lt _) hrb
      have hb1 : nib r c < 4294967296 := nib_lt hrb
      change bits _ _ _ _ = ((nib r c : Nat) : Int) at e2
      obtain ⟨r1, hr1⟩ : ∃ r1, r1 = nib r c := ⟨_, rfl⟩
      rw [← hr1] at e2 hb1 hfin
      have e3 := nib_idx r1 (c / 16) hb1 (by omega)
      have hx2 : (r1 ^^^ (c / 16)) % 16 < 16 := Nat.mod_lt _ (by decide)
      have c2 := HT.out ((r1 ^^^ (c / 16)) % 16) hx2
      have e4 := nib_val (lineAt ((r1 ^^^ (c / 16)) % 16)) r1 (lineAt_lt _) hb1
      change bits _ _ _ _ = ((nib r1 (c / 16) : Nat) : Int) at e4
      rw [show ((c / 16 : Nat) : Int) = (c : Int) / 16 by omega] at e3
      generalize lineAt ((r ^^^ c) % 16) = l1 at c1 e2
      generalize (r ^^^ c) % 16 = x1 at e1 hx1 c1
      generalize lineAt ((r1 ^^^ (c / 16)) % 16) = l2 at c2 e4
      generalize (r1 ^^^ (c / 16)) % 16 = x2 at e3 hx2 c2
      obtain ⟨r2, hr2⟩ : ∃ r2, r2 = nib r1 (c / 16) := ⟨_, rfl⟩
      rw [← hr2] at e4 hfin
      have Hfin := Lib.hid hfin
      have Hrr := Lib.hid hrr
      clear hrr hcc hr1 hr2 hfin
      go_wp2
      go_round
      case rel => exact ⟨k + 1, by omega, by go_num, by rw [Hfin.out]⟩
      case measure => simp [intOf]; omega
    · go_wp2
      go_ret
      refine ⟨?_, rfl⟩
      show Ending.returned (.int .u32 (bits BinOp.xor IntKind.u32 IntKind.u32.max ↑(crcR (List.take k xs)))) = _
      rw [List.take_of_length_le (by omega), show IntKind.u32.max = ((4294967295 : Nat) : Int) from rfl, u32_xor_nat _ _ (by decide) (crcR_lt xs)]
      rfl
theorem crcN_lt (xs : Bytes) : crcN xs < 4294967296 := xor_lt32 (by decide) (crcR_lt xs)
theorem LinesAt.chg {F : List Nat} {w w' : World} (h : LinesAt w) (hC : Chg F w w') (hn : 3 ∉ F) : LinesAt w' := fun j hj => hC.cell (h j hj) hn

theorem of_spec (b o cap n : Nat) (xs : Bytes) (w : World) (hT : LinesAt w) (hr : w.rangeAt b o (vals xs)) (hn : xs.length = n) (hlen : n ≤ 1000000) :
    Calls Tryd.prog 107 #[.slice (some ⟨b, o, none⟩) n cap] w fun e w' => e = .returned (.int .u32 (crcN xs)) ∧ w = w' := by
  subst hn
  exact of_any b o cap xs w hT hr hlen

/-- A number's four bytes, the lowest first. -/
def four (n : Int) : Bytes := [by8 n, by8 (n / 256), by8 (n / 65536), by8 (n / 16777216)]
@[simp] theorem four_length (n : Int) : (four n).length = 4 := rfl

set_option maxHeartbeats 400000 in
theorem four_any (n : Int) (w : World) :
    Calls Tryd.prog 90 #[.int .i64 n] w fun e w' => e = .returned (.slice (some ⟨w.heap.size, 0, none⟩) 4 4) ∧ w' = w.alloc (.cells (vals (four n)).toArray 5) := by
  go_enter Tryd.func90, Tryd.ntmps90
  go_wp2
  go_ret
  refine ⟨rfl, ?_⟩
  congr 2
  simp only [four, vals, List.map_cons, List.map_nil, B_by8]

theorem four_spec (n : Int) (w : World) (base : Nat) (hb : base ≤ w.heap.size) :
    Calls Tryd.prog 90 #[.int .i64 n] w fun e w' => ∃ g, e = .returned (.slice (some ⟨g, 0, none⟩) 4 4) ∧ OwnB w' base (.slice (some ⟨g, 0, none⟩) 4 4) (four n) ∧ Chg [] w w' ∧ w.heap.size ≤ g := by
  refine (four_any n w).mono ?_
  rintro e w' ⟨rfl, rfl⟩
  refine ⟨w.heap.size, rfl, ?_, (Chg.refl _ _).alloc _, Nat.le_refl _⟩
  exact ⟨by simp, .inr ⟨w.heap.size, 4, _, rfl, hb, heap_alloc_new _ _, Nat.le_refl _, by simp [maxLen], by simp, List.take_of_length_le (by simp)⟩⟩

/-- The number of the first four bytes. -/
def num4 (p : Bytes) : Nat := (p.getD 0 0).toNat + (p.getD 1 0).toNat * 256 + (p.getD 2 0).toNat * 65536 + (p.getD 3 0).toNat * 16777216

def numTo (p : Bytes) : Nat → Nat
  | 0 => 0
  | k + 1 => if k < 4 then numTo p k + (p.getD k 0).toNat * 256 ^ k else numTo p k
theorem numTo_lt (p : Bytes) : ∀ k, numTo p k < 256 ^ min k 4
  | 0 => by simp [numTo]
  | k + 1 => by
    have ih := numTo_lt p k
    have hb := (p.getD k 0).toNat_lt
    unfold numTo
    split
    · rw [show min (k + 1) 4 = k + 1 by omega]
      rw [show min k 4 = k by omega] at ih
      rw [Nat.pow_succ]
      have : (p.getD k 0).toNat * 256 ^ k ≤ 255 * 256 ^ k := Nat.mul_le_mul_right _ (by omega)
      omega
    · rw [show min (k + 1) 4 = min k 4 by omega]; exact ih
theorem numTo_num4 (p : Bytes) : ∀ k, p.length ≤ k → 4 ≤ k → numTo p k = num4 p := by
  intro k h1 h2
  obtain ⟨j, rfl⟩ := Nat.exists_eq_add_of_le h2
  clear h1 h2
  induction j with
  | zero => simp [numTo, num4]
  | succ j ih => rw [show 4 + (j + 1) = (4 + j) + 1 by omega, numTo, if_neg (by omega)]; exact ih

theorem i64_or_low (r c i m : Nat) (hm : m ≤ 256) (hi : i ≤ 24) (hc : c < m) (hr : r < 2 ^ i) : bits BinOp.or IntKind.i64 (r : Int) ((c : Int) * (2 ^ i : Nat)) = ((r + c * 2 ^ i : Nat) : Int) := by
  have hp : 2 ^ i ≤ 2 ^ 24 := Nat.pow_le_pow_right (by decide) hi
  have h1 : c * 2 ^ i ≤ 255 * 2 ^ 24 := Nat.mul_le_mul (by omega) hp
  have e : (c : Int) * (2 ^ i : Nat) = ((c * 2 ^ i : Nat) : Int) := by push_cast; rfl
  rw [e, (bits_nat .i64 33 (by decide) (fun n h0 h1 => by rw [IntKind.wrap_i64]; omega) r (c * 2 ^ i) (by omega) (by omega)).2, Nat.or_comm, Nat.mul_comm c, ← Nat.two_pow_add_eq_or_of_lt hr c, Nat.add_comm]

set_option maxHeartbeats 1000000 in
theorem number_spec (p : Bytes) (n : Nat) (b o cap : Nat) (w : World) (hr : w.rangeAt b o (vals p)) (hn : p.length = n) (h4 : 4 ≤ n) (hlen : n ≤ 1000000) :
    Calls Tryd.prog 95 #[.slice (some ⟨b, o, none⟩) n cap] w fun e w' => e = .returned (.int .i64 (num4 p)) ∧ w = w' := by
  subst hn
  have Hr := Lib.hid hr
  clear hr
  go_enter Tryd.func95, Tryd.ntmps95
  go_wp2
  go_loop [3, 8] (fun r i => ∃ k : Nat, k ≤ p.length ∧ i = .int .i64 k ∧ r = .int .i64 (numTo p k)) (fun _ i => p.length - (intOf i).toNat)
  case atStart => exact ⟨0, Nat.zero_le _, rfl, rfl⟩
  case round =>
    obtain ⟨k, hk, rfl, rfl⟩ := hrel
    by_cases hlt : k < p.length
    · have hc := Hr.out k (B p[k]) (by rw [vals_getElem?, List.getElem?_eq_getElem hlt]; rfl)
      unfold B at hc
      obtain ⟨c, hcc⟩ : ∃ c, c = p[k].toNat := ⟨_, rfl⟩
      have hcb : c < 256 := by rw [hcc]; exact p[k].toNat_lt
      have hg : (p.getD k 0).toNat = c := by rw [hcc]; simp [List.getD, hlt]
      rw [← hcc] at hc
      have hrb := numTo_lt p k
      obtain ⟨r, hrr⟩ : ∃ r, r = numTo p k := ⟨_, rfl⟩
      have hfin : numTo p (k + 1) = if k < 4 then r + c * 256 ^ k else r := by rw [numTo, hg, ← hrr]
      rw [← hrr] at hrb ⊢
      have Hfin := Lib.hid hfin
      clear hrr hg hcc hfin
      by_cases h4 : k < 4
      · rcases (show k = 0 ∨ k = 1 ∨ k = 2 ∨ k = 3 by omega) with rfl | rfl | rfl | rfl
        · rw [Nat.add_zero] at hc
          have e0 : bits BinOp.or IntKind.i64 (r : Int) (c : Int) = ((r + c : Nat) : Int) := by
            simpa using i64_or_low r c 0 256 (by omega) (by decide) (by omega) (by simpa using hrb)
          go_wp2
          go_round
          case rel => exact ⟨1, by omega, by go_num, by rw [Hfin.out, if_pos h4, Nat.pow_zero, Nat.mul_one]; push_cast; rfl⟩
          case measure => simp [intOf]; omega
        · have e0 := i64_or_low r c 8 256 (by omega) (by decide) (by omega) (by simpa using hrb)
          go_wp2
          go_round
          case rel => exact ⟨2, by omega, by go_num, by rw [Hfin.out, if_pos h4]; exact congrArg _ e0⟩
          case measure => simp [intOf]; omega
        · have e0 := i64_or_low r c 16 256 (by omega) (by decide) (by omega) (by simpa using hrb)
          go_wp2
          go_round
          case rel => exact ⟨3, by omega, by go_num, by rw [Hfin.out, if_pos h4]; exact congrArg _ e0⟩
          case measure => simp [intOf]; omega
        · have e0 := i64_or_low r c 24 256 (by omega) (by decide) (by omega) (by simpa using hrb)
          go_wp2
          go_round
          case rel => exact ⟨4, by omega, by go_num, by rw [Hfin.out, if_pos h4]; exact congrArg _ e0⟩
          case measure => simp [intOf]; omega
      · go_wp2
        go_round
        case rel => exact ⟨k + 1, by omega, by go_num, by rw [Hfin.out, if_neg h4]⟩
        case measure => simp [intOf]; omega
    · go_wp2
      go_ret
      rw [numTo_num4 p k (by omega) (by omega)]
      exact ⟨rfl, rfl⟩

/-- A sealed sector: noughts up to 60, and the sum. -/
def sealed (p : Bytes) : Bytes := padTo 60 p ++ four (crcN (padTo 60 p))
theorem sealed_length {p : Bytes} (h : p.length ≤ 60) : (sealed p).length = 64 := by simp [sealed, padTo_length h]

theorem vals_split {n k : Nat} (h : k ≤ n) : vals (zeros n) = vals (zeros k) ++ vals (zeros (n - k)) := by rw [← vals_append, ← zeros_split h]

set_option maxHeartbeats 1000000 in
theorem sealed_spec (p : Bytes) (v : Value) (w : World) (hT : LinesAt w) (hS : SlB w v p) (hp : p.length ≤ 60) (hv : ∃ sp cap, v = .slice sp p.length cap) :
    Calls Tryd.prog 89 #[v] w fun e w' => ∃ g, e = .returned (.slice (some ⟨g, 0, none⟩) 64 64) ∧ w'.heap[g]? = some (.cells (vals (sealed p)).toArray 5 (0, 0)) ∧ Chg [] w w' ∧ w.heap.size ≤ g := by
  obtain ⟨sp, cap, rfl⟩ := hv
  have HS := Lib.hid hS
  have HT := Lib.hid hT
  clear hS hT
  obtain ⟨g, hg⟩ : ∃ g, g = w.heap.size := ⟨_, rfl⟩
  have Hg := Lib.hid hg
  clear hg
  go_enter Tryd.func89, Tryd.ntmps89
  go_wp2_with (first | (refine wpList_make_bytes rfl 60 64 _ _ rfl (by rfl) (by rfl) Tryd.underlying22 info5 (by decide) (by decide) ?_) | (refine wpList_copy_bytes rfl (.tmp 6) (.tmp 7) rfl Tryd.underlying22 size5 w.heap.size 0 60 64 (.slice sp p.length cap) (by rfl) (by rfl) p ?s1 hp [] (vals (zeros p.length)) (vals (zeros (64 - p.length))) 5 ?s2 rfl (by simp) ?_; rotate_left 2; intro w2 hg2 hC2))
  case s1 => exact HS.out.chg ((Chg.refl [] _).alloc _) (by simp)
  case s2 => rw [heap_alloc_new, List.nil_append, ← vals_split (by omega)]
  have hg2' : w2.heap[w.heap.size]? = some (.cells (vals (padTo 60 p) ++ vals (zeros 4)).toArray 5 (0, 0)) := by
    rw [hg2, List.nil_append, padTo, vals_append, List.append_assoc]
    congr 4
    rw [← vals_append, zeros, zeros, zeros, List.replicate_append_replicate]
    congr 2
    omega
  have hC2' : Chg [] w w2 := ((Chg.refl [] w).alloc _).step hC2 (fun x hx => .inr (by simp at hx; omega))
  have hr2 : w2.rangeAt w.heap.size 0 (vals (padTo 60 p)) := by
    intro j v hv
    rw [Nat.zero_add, cell_of_row _ _ _ _ _ _ hg2']
    have hj := (List.getElem?_eq_some_iff.1 hv).1
    simp only [List.getElem?_toArray, List.getElem?_append_left hj]
    exact hv
  have hT2 : LinesAt w2 := HT.out.chg hC2' (by simp)
  have Hg2 := Lib.hid hg2'
  have Hr2 := Lib.hid hr2
  have HT2 := Lib.hid hT2
  have HC2 := Lib.hid hC2'
  clear hg2 hg2' hr2 hT2 hC2 hC2'
  have hl60 : (padTo 60 p).length = 60 := padTo_length hp
  have Hl60 := Lib.hid hl60
  clear hl60
  go_wp2_with (first | (go_at_call 107; refine (of_spec w.heap.size 0 64 60 (padTo 60 p) _ HT2.out Hr2.out Hl60.out (by omega)).mono ?_; rintro e w' ⟨rfl, rfl⟩) | (refine wpList_append_room_bytes rfl (.tmp 11) (.tmp 23) rfl Tryd.underlying22 info5 w.heap.size 60 64 w2.heap.size 0 4 4 (vals (padTo 60 p)) (vals (zeros 4)) [] (four (crcN (padTo 60 p))) (by rfl) (by rfl) ?hg ?hr (by simp [Hl60.out]) rfl (by simp) (by decide) ?_; rotate_left 2; intro w3 hg3 hC3))
  case hg => rw [Below.heap_alloc _ _ _ (heap_lt Hg2.out), Hg2.out, List.append_nil]
  case hr =>
    have e4 : vals (four (crcN (padTo 60 p))) = [Value.int IntKind.u8 (↑(crcN (padTo 60 p)) % 256), Value.int IntKind.u8 (↑(crcN (padTo 60 p)) / 256 % 256), Value.int IntKind.u8 (↑(crcN (padTo 60 p)) / 65536 % 256), Value.int IntKind.u8 (↑(crcN (padTo 60 p)) / 16777216 % 256)] := by
      simp only [four, vals, List.map_cons, List.map_nil, B_by8]
    intro j v hv
    rw [Nat.zero_add, cell_of_row _ _ _ _ _ _ (heap_alloc_new _ _)]
    rw [e4] at hv
    simpa using hv
  go_ret
  refine ⟨w.heap.size, rfl, ?_, ?_, Nat.le_refl _⟩
  · rw [hg3, sealed, vals_append, List.append_nil]
  · exact (HC2.out.alloc _).step hC3 (fun x hx => .inr (by simp at hx; omega))

theorem range_of_row {w : World} {g : Nat} {t : TypeId} {xs : List Value} (h : w.heap[g]? = some (.cells xs.toArray t (0, 0))) : w.rangeAt g 0 xs := by
  intro j v hv
  rw [Nat.zero_add, cell_of_row _ _ _ _ _ _ h]
  simpa using hv
/-- Open: the sixty bytes ahead of a right sum. -/
def opened (s : Bytes) : Option Bytes := if sealed (s.take 60) = s then some (s.take 60) else none

def OpenPost (s : Bytes) (w : World) (e : Ending) (w' : World) : Prop :=
  Chg [] w w' ∧ ((opened s = none ∧ e = .returned (.tuple #[.slice none 0 0, .bool false])) ∨
    ∃ p v, opened s = some p ∧ p.length = 60 ∧ e = .returned (.tuple #[v, .bool true]) ∧ OwnB w' w.heap.size v p)

theorem take60 {s : Bytes} (h : s.length = 64) : (s.take 60).length = 60 := by simp [h]

theorem slb_block {w : World} {g n : Nat} {t : TypeId} {p : Bytes} (h : w.heap[g]? = some (.cells (vals p).toArray t (0, 0))) (hn : p.length = n) : SlB w (.slice (some ⟨g, 0, none⟩) n n) p := by
  subst hn
  exact .inr ⟨g, 0, _, rfl, Nat.le_refl _, range_of_row h, heap_lt h⟩
theorem Chg.ofDrew {F : List Nat} {a w : World} (h : Chg F a.drew w) : Chg F a w := ⟨h.os, h.tape, h.output, h.size, h.block⟩

set_option maxRecDepth 100000 in
set_option maxHeartbeats 1000000 in
theorem open_spec (s : Bytes) (b cap : Nat) (w : World) (hT : LinesAt w) (hr : w.rangeAt b 0 (vals s)) (hs : s.length = 64) (hb : b < w.heap.size) (hcap : 64 ≤ cap) :
    Calls Tryd.prog 96 #[.slice (some ⟨b, 0, none⟩) 64 cap] w (OpenPost s w) := by
  have HT := Lib.hid hT
  have Hr := Lib.hid hr
  clear hT hr
  go_enter Tryd.func96, Tryd.ntmps96
  go_wp2_with (refine wpList_append_bytes rfl (.const (.slice none 0 0)) (.tmp 9) rfl Tryd.underlying22 info5 w.heap.size (.slice none 0 0) (.slice (some ⟨b, 0, none⟩) 60 cap) [] (s.take 60) (by rfl) (by rfl) ?ho ?hs (Nat.le_refl _) ?hl ?_; rotate_left 3; intro v w1 hO hG hN hF)
  case ho => exact World.ownsRow_nil _ _ _ _
  case hl => simp; omega
  case hs => exact .inr ⟨b, 0, cap, by rw [take60 hs], by rw [take60 hs]; omega, fun j v hv => Hr.out j v (by rw [vals_getElem?] at hv ⊢; rw [List.getElem?_take] at hv; split at hv; exact hv; simp at hv), hb⟩
  have hC1 : Chg [] w w1 := (Chg.refl [] w).grown hG (by simp [Value.ownBlock])
  have hT1 : LinesAt w1 := HT.out.chg hC1 (by simp)
  have hS1 : SlB w1 (.slice (some ⟨b, 0, none⟩) 64 cap) s := .inr ⟨b, 0, cap, by rw [hs], by omega, hC1.range Hr.out (by simp), Nat.lt_of_lt_of_le hb hC1.size⟩
  have hL := take60 hs
  rw [List.nil_append] at hO
  have hv : ∃ sp c, v = .slice sp (s.take 60).length c := by
    rcases hO.slb with ⟨rfl, h0⟩ | ⟨b, o, c, rfl, _⟩
    · rw [h0] at hL; simp at hL
    · exact ⟨_, _, rfl⟩
  have HO := Lib.hid hO
  have HC1 := Lib.hid hC1
  have HT1 := Lib.hid hT1
  have HS1 := Lib.hid hS1
  have Hv := Lib.hid hv
  have HL := Lib.hid hL
  clear hO hG hN hF hC1 hT1 hS1 hv hL
  refine wp_region_keys [(5, fun W => SlB W (.slice (some ⟨b, 0, none⟩) 64 cap) s)] (by kernel_rfl) ⟨fun _ => HS1.out.chg ((Chg.refl [] w1).drew) (by simp), trivial⟩ ?_
  refine kTake (i := 0) (v := ?_) rfl (by kernel_rfl) (by kernel_rfl) (some 11) rfl (fun _ _ _ h => h) (Or.inl ⟨by rfl, ?_⟩) ?_
  rotate_left 1
  · (intro w; go_simp; try rfl)
  try simp only [Act.put, List.setIfInBounds_toArray, List.set_cons_zero, List.set_cons_succ]
  refine kTake (i := 3) (v := ?_) rfl (by kernel_rfl) (by kernel_rfl) (some 14) rfl (fun _ _ _ h => h) (Or.inl ⟨by rfl, ?_⟩) ?_
  rotate_left 1
  · (intro w; go_simp; try rfl)
  try simp only [Act.put, List.setIfInBounds_toArray, List.set_cons_zero, List.set_cons_succ]
  refine kLoad (i := 4) 5 _ (v := str s) rfl (by kernel_rfl) (by kernel_rfl) (.head _) (some 15) rfl (fun _ _ _ h => h) (yieldsIf_convert_slb (by rfl) (.tmp 14) rfl _ (by rfl) s (fun _ h => h) Tryd.underlying22 Tryd.underlying5 Tryd.underlying9) ?_
  try simp only [Act.put, List.setIfInBounds_toArray, List.set_cons_zero, List.set_cons_succ]
  refine kOnly (i := 1) (oi := { dst := (some 12), op := (Go.Op.call { callee := (Go.Callee.value (Go.Operand.func 89)), args := #[(Go.Operand.tmp 11)], argTypes := #[22] }), type := 22, pos := "check.go:44", after := #[{ on := 0, ground := Go.Ground.data }], guard := none }) (by kernel_rfl) rfl (by rfl) (fun K hK => ?_)
  go_simp; go_at_call 89; refine (sealed_spec (s.take 60) v w1.drew (HT1.out.chg (Chg.refl [] w1).drew (by simp)) (HO.out.slb.chg (Chg.refl [] w1).drew (by simp)) (by rw [HL.out]; decide) Hv.out).mono ?_; rintro e w2 ⟨g, rfl, hg2, hC2, hg0⟩
  refine hK _ _ ⟨fun _ => HS1.out.chg ((Chg.refl [] w1).drew.trans hC2) (by simp), trivial⟩ ?_; clear hK K
  try simp only [Act.put, List.setIfInBounds_toArray, List.set_cons_zero, List.set_cons_succ]
  refine kOnly (i := 2) (oi := { dst := (some 13), op := (Go.Op.convert 22 9 (Go.Operand.tmp 12)), type := 9, pos := "check.go:44", after := #[{ on := 1, ground := Go.Ground.data }], guard := none }) (by kernel_rfl) rfl (by rfl) (fun K hK => ?_)
  refine wp_convert_slb (.tmp 12) rfl (.slice (some ⟨g, 0, none⟩) 64 64) (by rfl) (sealed (s.take 60)) (slb_block hg2 (sealed_length (by rw [HL.out]; decide))) Tryd.underlying22 Tryd.underlying5 Tryd.underlying9 ?_
  refine hK _ _ ⟨fun _ => HS1.out.chg ((Chg.refl [] w1).drew.trans hC2) (by simp), trivial⟩ ?_; clear hK K
  try simp only [Act.put, List.setIfInBounds_toArray, List.set_cons_zero, List.set_cons_succ]
  refine kOnly (i := 5) (oi := { dst := (some 16), op := (Go.Op.binOp Go.BinOp.neq 9 (Go.Operand.tmp 13) (Go.Operand.tmp 15) 9), type := 4, pos := "check.go:44", after := #[{ on := 2, ground := Go.Ground.data }, { on := 4, ground := Go.Ground.data }], guard := none }) (by kernel_rfl) rfl (by rfl) (fun K hK => ?_)
  go_simp; refine hK _ _ ⟨fun h => absurd h (by decide), trivial⟩ ?_; clear hK K
  try simp only [Act.put, List.setIfInBounds_toArray, List.set_cons_zero, List.set_cons_succ]
  refine kDone (by kernel_rfl) ?_
  have hC : Chg [] w w2 := HC1.out.trans (Chg.ofDrew hC2)
  have hO2 := HO.out
  by_cases he : sealed (s.take 60) = s
  · have hb : (!({ data := List.toArray (sealed (List.take 60 s)) } : ByteArray).toList == ({ data := List.toArray s } : ByteArray).toList) = false := by rw [he]; simp
    simp only [hb]
    go_wp2
    go_ret2
    exact ⟨hC, .inr ⟨_, v, by rw [opened, if_pos he], HL.out, rfl, (Chg.ofDrew hC2).owns hO2 (by simp)⟩⟩
  · have hb : (!({ data := List.toArray (sealed (List.take 60 s)) } : ByteArray).toList == ({ data := List.toArray s } : ByteArray).toList) = true := by simpa using he
    simp only [hb]
    go_wp2
    go_ret2
    exact ⟨hC, .inl ⟨by rw [opened, if_neg he], rfl⟩⟩

end Go.Proofs.YtaacejpienbkgaaDoor
