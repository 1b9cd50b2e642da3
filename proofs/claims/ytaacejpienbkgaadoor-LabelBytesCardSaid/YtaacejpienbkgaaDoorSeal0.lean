/- The law's own Sum, Four and Seal, walked. -/
import Derived.Test.YtaacejpienbkgaaDoorCrc1
import Derived.Test.YtaacejpienbkgaaDoorLaws3
import Derived.Test.YtaacejpienbkgaaDoorJrn1
namespace Go.Proofs.YtaacejpienbkgaaDoor
open Go.RowKit

theorem odd_cast (r x : Nat) : (((r : Int) % 2 != (x : Int) % 2) = true ↔ r % 2 ≠ x % 2) := by
  rw [bne_iff_ne]
  omega
set_option maxRecDepth 100000 in
set_option maxHeartbeats 1000000 in
theorem sum_spec (v : Value) (xs : Bytes) (w : World) (hS : SlB w v xs) (hlen : xs.length ≤ 1000000) :
    Calls Tryd.prog 59 #[v] w fun e w' => e = .returned (.int .u32 (crcN xs)) ∧ w = w' := by
  obtain ⟨sp, cap, rfl⟩ := hS.shape
  have HS := Lib.hid hS
  clear hS
  have hw8 : IntKind.i64.wrap (8 * (xs.length : Int)) = 8 * (xs.length : Int) := by rw [wrapI _ (by omega) (by omega)]
  go_enter Tryd.func59, Tryd.ntmps59
  go_wp2
  go_loop [3, 4] (fun r i => ∃ k : Nat, k ≤ 8 * xs.length ∧ i = .int .i64 k ∧ r = .int .u32 (sumTo xs k)) (fun _ i => 8 * xs.length - (intOf i).toNat)
  case atStart => exact ⟨0, Nat.zero_le _, rfl, rfl⟩
  case round =>
    obtain ⟨k, hk, rfl, rfl⟩ := hrel
    by_cases hlt : k < 8 * xs.length
    · have hk8 : k / 8 < xs.length := by omega
      rcases HS.out with ⟨h0, h1⟩ | ⟨b, o, cap', h0, hcl, hr, hbl⟩
      · subst h1; simp at hlt
      · cases h0
        have hc := hr (k / 8) (B xs[k / 8]) (by rw [vals_getElem?, List.getElem?_eq_getElem hk8]; rfl)
        unfold B at hc
        obtain ⟨c, hcc⟩ : ∃ c, c = xs[k / 8].toNat := ⟨_, rfl⟩
        have hc256 : c < 256 := by rw [hcc]; exact xs[k / 8].toNat_lt
        have hpb : pbit xs k = c / 2 ^ (k % 8) % 2 := by
          unfold pbit
          rw [List.getD_eq_getElem?_getD, List.getElem?_eq_getElem hk8, hcc]; rfl
        rw [← hcc] at hc
        have hq : (0 : Int) ≤ (k : Int) / 8 := by omega
        have hq2 : (k : Int) / 8 < (xs.length : Int) := by omega
        have hq3 : ((k : Int) / 8).toNat = k / 8 := by omega
        have Hpb := Lib.hid hpb
        have hst := sumTo_lt xs k
        clear hr hpb hcc hbl
        go_wp2
        · go_round
          case rel =>
            refine ⟨k + 1, by omega, by go_num, ?_⟩
            have hne : ((sumTo xs k : Int) % 2 != (c : Int) / 2 ^ (k % 8) % 2) = true := by assumption
            rw [sumTo, Hpb.out]
            have e2 := odd_cast (sumTo xs k) (c / 2 ^ (k % 8))
            rw [Int.natCast_ediv, Int.natCast_pow] at e2
            rw [show ((2 : Nat) : Int) = 2 from rfl] at e2
            unfold sumBit
            rw [if_pos (e2.1 hne), show ((sumTo xs k : Int) / 2) = ((sumTo xs k / 2 : Nat) : Int) by omega, show (2197175160 : Int) = ((2197175160 : Nat) : Int) from rfl, u32_xor_nat _ _ (by omega) (by decide)]
          case measure => simp [intOf]; omega
        · go_round
          case rel =>
            refine ⟨k + 1, by omega, by go_num, ?_⟩
            have hne : ((sumTo xs k : Int) % 2 != (c : Int) / 2 ^ (k % 8) % 2) = false := by assumption
            rw [sumTo, Hpb.out]
            have e2 := odd_cast (sumTo xs k) (c / 2 ^ (k % 8))
            rw [Int.natCast_ediv, Int.natCast_pow] at e2
            rw [show ((2 : Nat) : Int) = 2 from rfl] at e2
            unfold sumBit
            rw [if_neg (fun h => by rw [e2.2 h] at hne; cases hne), show ((sumTo xs k : Int) / 2) = ((sumTo xs k / 2 : Nat) : Int) by omega]
          case measure => simp [intOf]; omega
    · have hkk : k = 8 * xs.length := by omega
      subst hkk
      have hse := sum_eq xs
      have hst := sumTo_lt xs (8 * xs.length)
      have Hse := Lib.hid hse
      clear hse
      go_wp2
      go_ret
      refine ⟨?_, rfl⟩
      rw [← Hse.out]
      refine congrArg (fun z => Ending.returned (Value.int .u32 z)) (?_ : (4294967295 - (sumTo xs (8 * xs.length) : Int)) = _)
      omega

set_option maxHeartbeats 400000 in
theorem four19_spec (n : Nat) (w : World) (hn : n < 4294967296) :
    Calls Tryd.prog 19 #[.int .u32 n] w fun e w' => e = .returned (.slice (some ⟨w.heap.size, 0, none⟩) 4 4) ∧ w' = w.alloc (.cells (vals (four n)).toArray 5) := by
  go_enter Tryd.func19, Tryd.ntmps19
  go_wp2
  go_ret
  refine ⟨rfl, ?_⟩
  congr 2
  simp only [four, vals, List.map_cons, List.map_nil, B_by8]
  rw [show ((n : Int) / 16777216 % 256) = (n : Int) / 16777216 by omega]

/-- Sixty bytes of some, noughts behind them, and their sum. -/
def sealedR (p : Bytes) : Bytes := sealed (p.take 60)
theorem sealedR_of {p : Bytes} (h : p.length ≤ 60) : sealedR p = sealed p := by unfold sealedR; rw [List.take_of_length_le h]
def pad60 (p : Bytes) : Bytes := padTo 60 (p.take 60)
theorem pad60_length (p : Bytes) : (pad60 p).length = 60 := padTo_length (by simp; omega)
theorem pad60_at (p : Bytes) (k : Nat) (hk : k < 60) : (pad60 p)[k]'(by rw [pad60_length]; exact hk) = p.getD k 0 := by
  unfold pad60 padTo
  rw [List.getElem_append, List.getD_eq_getElem?_getD]
  split
  · rename_i h
    have h2 : k < p.length := by simp at h; omega
    rw [List.getElem_take, List.getElem?_eq_getElem h2]; rfl
  · rename_i h
    have h2 : p.length ≤ k := by simp at h; omega
    rw [List.getElem?_eq_none h2]
    simp [zeros]
theorem pad60_to (p : Bytes) (k : Nat) (hk : k < 60) : (pad60 p).take (k + 1) = (pad60 p).take k ++ [p.getD k 0] := by
  rw [List.take_succ_eq_append_getElem (by rw [pad60_length]; exact hk), pad60_at p k hk]

def SealRel (p : Bytes) (w : World) (sv x : Value) (wr : World) : Prop :=
  ∃ k : Nat, k ≤ 60 ∧ x = .int .i64 k ∧ OwnB wr w.heap.size sv ((pad60 p).take k) ∧ Chg [] w wr
def SealPost (p : Bytes) (w : World) (e : Ending) (w' : World) : Prop :=
  ∃ v, e = .returned v ∧ OwnB w' w.heap.size v (sealedR p) ∧ Chg [] w w'

set_option maxRecDepth 100000 in
set_option maxHeartbeats 1000000 in
theorem seal21_spec (p : Bytes) (v : Value) (w : World) (hS : SlB w v p) (hl : p.length ≤ 1000000) : Calls Tryd.prog 21 #[v] w (SealPost p w) := by
  obtain ⟨sp, cap, rfl⟩ := hS.shape
  have HS := Lib.hid hS
  clear hS
  go_enter Tryd.func21, Tryd.ntmps21
  go_wp2
  go_loopw [3, 4] (fun sv x wr => SealRel p w sv x wr) (fun _ x _ => 60 - (intOf x).toNat)
  case atStart => exact ⟨0, by omega, rfl, World.ownsRow_nil _ _ _ _, Chg.refl _ _⟩
  case round =>
    obtain ⟨k, hk, rfl, hO, hC⟩ := hrel
    have HO := Lib.hid hO
    have HC := Lib.hid hC
    clear hO hC
    by_cases hlt : k < 60
    · have hto := pad60_to p k hlt
      have Hto := Lib.hid hto
      have hlen : ((pad60 p).take k).length = k := by simp [pad60_length]; omega
      have Hlen := Lib.hid hlen
      clear hto hlen
      by_cases hin : k < p.length
      · rcases HS.out with ⟨_, h1⟩ | ⟨b, o, cap', h0, hcl, hr, hbl⟩
        · subst h1; simp at hin
        · cases h0
          have hc : wr.cell? ⟨b, o + k, none⟩ = some (B p[k]) := HC.out.cell (hr k (B p[k]) (by rw [vals_getElem?, List.getElem?_eq_getElem hin]; rfl)) (by simp)
          have hgd : p.getD k 0 = p[k] := by rw [List.getD_eq_getElem?_getD, List.getElem?_eq_getElem hin]; rfl
          rw [hgd] at Hto
          obtain ⟨c, hcc⟩ : ∃ c, c = p[k] := ⟨_, rfl⟩
          rw [← hcc] at Hto hc
          unfold B at hc
          clear hcc hgd hr
          go_wp2_with (refine wpList_append_bytes rfl (.tmp 13) (.tmp 18) rfl Tryd.underlying22 info5 w.heap.size _ (.slice (some ⟨wr.heap.size, 0, none⟩) 1 1) ((pad60 p).take k) [c] (by rfl) (by rfl) (HO.out.alloc _) (slb_one (c := c) rfl) (by have h := HC.out.size; simp; omega) (by rw [Hlen.out]; simp; omega) ?_; intro v5 w5 hO5 hG5 hN5 hF5; have hC5 : Chg [] w w5 := (HC.out.alloc _).grown hG5 (fun x hx => .inr (HO.out.lt x hx).1); rw [← Hto.out] at hO5; have HO5 := Lib.hid hO5; have HC5 := Lib.hid hC5; clear hO5 hG5 hN5 hF5 hC5)
          go_roundw
          case rel => exact ⟨k + 1, by omega, by go_num, HO5.out, HC5.out⟩
          case measure => simp [intOf]; omega
      · have hgd : p.getD k 0 = 0 := by rw [List.getD_eq_getElem?_getD, List.getElem?_eq_none (by omega)]; rfl
        rw [hgd] at Hto
        clear hgd
        go_wp2_with (refine wpList_append_bytes rfl (.tmp 20) (.tmp 21) rfl Tryd.underlying22 info5 w.heap.size _ (.slice (some ⟨wr.heap.size, 0, none⟩) 1 1) ((pad60 p).take k) [0] (by rfl) (by rfl) (HO.out.alloc _) (slb_one (c := 0) rfl) (by have h := HC.out.size; simp; omega) (by rw [Hlen.out]; simp; omega) ?_; intro v5 w5 hO5 hG5 hN5 hF5; have hC5 : Chg [] w w5 := (HC.out.alloc _).grown hG5 (fun x hx => .inr (HO.out.lt x hx).1); rw [← Hto.out] at hO5; have HO5 := Lib.hid hO5; have HC5 := Lib.hid hC5; clear hO5 hG5 hN5 hF5 hC5)
        go_roundw
        case rel => exact ⟨k + 1, by omega, by go_num, HO5.out, HC5.out⟩
        case measure => simp [intOf]; omega
    · obtain rfl : k = 60 := by omega
      have h60 : (pad60 p).take 60 = pad60 p := List.take_of_length_le (by rw [pad60_length]; omega)
      rw [h60] at HO
      have hcl := crcN_lt (pad60 p)
      have hfs : SlB (wr.alloc (Obj.cells (vals (four (crcN (pad60 p)))).toArray 5)) (.slice (some ⟨wr.heap.size, 0, none⟩) 4 4) (four (crcN (pad60 p))) := slb_block (heap_alloc_new _ _) rfl
      have Hfs := Lib.hid hfs
      have Hpl := Lib.hid (pad60_length p)
      clear h60 hfs
      go_wp2_with (first
        | (go_at_call 59; refine (sum_spec _ (pad60 p) wr HO.out.slb (by rw [Hpl.out]; decide)).mono ?_; rintro e w' ⟨rfl, rfl⟩)
        | (go_at_call 19; refine (four19_spec (crcN (pad60 p)) _ hcl).mono ?_; rintro e w' ⟨rfl, rfl⟩)
        | (refine wpList_append_bytes rfl (.tmp 23) (.tmp 26) rfl Tryd.underlying22 info5 w.heap.size _ (.slice (some ⟨wr.heap.size, 0, none⟩) 4 4) (pad60 p) (four (crcN (pad60 p))) (by rfl) (by rfl) (HO.out.alloc _) Hfs.out (by have h := HC.out.size; simp; omega) (by rw [Hpl.out, four_length]; omega) ?_; intro v5 w5 hO5 hG5 hN5 hF5; have hC5 : Chg [] w w5 := (HC.out.alloc _).grown hG5 (fun x hx => .inr (HO.out.lt x hx).1); have HO5 := Lib.hid hO5; have HC5 := Lib.hid hC5; clear hO5 hG5 hN5 hF5 hC5))
      go_ret
      exact ⟨v5, rfl, HO5.out, HC5.out⟩

end Go.Proofs.YtaacejpienbkgaaDoor
