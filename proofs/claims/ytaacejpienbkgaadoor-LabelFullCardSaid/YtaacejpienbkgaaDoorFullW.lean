/- The law LabelFull, walked. -/
import Derived.Test.YtaacejpienbkgaaDoorFull0
import Derived.Test.YtaacejpienbkgaaDoorLaws3
namespace Go.Proofs.YtaacejpienbkgaaDoor
open Go.RowKit

def FullRel (tb jb b : Nat) (w : World) (x : Value) (wr : World) : Prop :=
  ∃ (i n : Nat) (d : Dsk) (m : DMem), i ≤ 13 ∧ x = .int .i64 i ∧ Free d ∧ d.wet = [] ∧ n ≤ 1 + i ∧ TbAt wr tb jb b m ⟨d, n, fullL (min i 12)⟩ ∧ Chg [] w wr ∧ ∀ k, k ∈ tb :: jb :: m.foot b → w.heap.size ≤ k

theorem make_at (tb jb b : Nat) (m : DMem) (t : Tb) (r : Rf) (v : Value) (w : World) (hv : v = .agg (rcells r).toArray) (h : TbAt w tb jb b m t) (hk : r.key.length = 32) (hw : t.d.wet.length ≤ 900) (hnx : t.next < 999999999999) :
    Calls Tryd.prog 28 #[.pointer (some ⟨tb, 0, none⟩), v] w (TPost tb jb b m (t.make r) w) := by
  subst hv; exact make_spec tb jb b m t r w h hk hw hnx
theorem drop_at (tb jb b : Nat) (m : DMem) (t : Tb) (nm : Bytes) (v : Value) (w : World) (hv : v = str nm) (h : TbAt w tb jb b m t) (hw : t.d.wet.length ≤ 900) (hnx : t.next < 999999999999) :
    Calls Tryd.prog 37 #[.pointer (some ⟨tb, 0, none⟩), v] w (TPost tb jb b m (t.drop nm) w) := by
  subst hv; exact drop_spec tb jb b m t nm w h hw hnx
theorem n_str (c : UInt8) : (⟨#[110]⟩ : ByteArray) ++ ⟨#[c]⟩ = ⟨#[110, c]⟩ := ba_append [110] [c]
set_option maxRecDepth 100000 in
set_option maxHeartbeats 2000000 in
theorem full_walk (a : Nat) (w : World) (hT : LinesAt w) (ha : a < 256) : Calls Tryd.prog 8 #[.int .u8 a] w fun e w' => e = .returned (.bool true) ∧ Chg [] w w' := by
  have HT := Lib.hid hT
  clear hT
  go_enter Tryd.func8, Tryd.ntmps8
  go_wp2_with (go_at_call 27; refine (fresh_spec w HT.out).mono ?_; rintro e w1 ⟨b, tb, jb, m, rfl, hB, hC, hF⟩; have HB := Lib.hid hB; have HC := Lib.hid hC; have HF := Lib.hid hF; clear hB hC hF)
  go_loopw [6] (fun x wr => FullRel tb jb b w x wr) (fun x _ => 13 - (intOf x).toNat)
  case atStart => exact ⟨0, 1, _, m, by omega, rfl, freshFree.free, freshFree.dry, by omega, HB.out, HC.out, HF.out⟩
  case round =>
    obtain ⟨i, n, d, m', hi, rfl, hfr, hdry, hn, hB', hC', hF'⟩ := hrel
    have HB := Lib.hid hB'
    have HC := Lib.hid hC'
    have HF := Lib.hid hF'
    have Hfr := Lib.hid hfr
    have Hdry := Lib.hid hdry
    clear hB' hC' hF' hfr hdry
    by_cases hlt : i < 13
    · have hcc : B (UInt8.ofNat (97 + i)) = .int .u8 (97 + (i : Int)) := by rw [B_ofNat _ (by omega)]; congr 1
      obtain ⟨c, hc⟩ : ∃ c, c = UInt8.ofNat (97 + i) := ⟨_, rfl⟩
      rw [← hc] at hcc
      have Hc : Hid (fullRf i = ⟨[110, c], zeros 32, false⟩) := Lib.hid (by rw [hc]; rfl)
      have Hcc := Lib.hid hcc
      have HBA : Hid (TbAt (wr.alloc (Obj.cells #[.int .u8 (97 + (i : Int))] 5)) tb jb b m' ⟨d, n, fullL (min i 12)⟩) := Lib.hid (HB.out.chg0 ((Chg.refl [] wr).alloc _))
      have HCA : Hid (Chg [] w (wr.alloc (Obj.cells #[.int .u8 (97 + (i : Int))] 5))) := Lib.hid (HC.out.alloc _)
      clear hcc hc
      by_cases hi12 : i < 12
      · obtain ⟨d', hm, hfr', hdry'⟩ := full_make Hfr.out Hdry.out i hi12 n
        have hmin : min i 12 = i := by omega
        rw [hmin] at HBA
        have Hm := Lib.hid hm
        have Hfr' := Lib.hid hfr'
        have Hdry' := Lib.hid hdry'
        clear hm hfr' hdry' hmin
        go_wp2_with (first
          | (refine wpList_convert_slb rfl (.tmp 26) rfl (.slice (some ⟨wr.heap.size, 0, none⟩) 1 1) (by rfl) [c] (slb_one Hcc.out) Tryd.underlying22 Tryd.underlying5 Tryd.underlying9 ?_; unfold str)
          | (go_at_call 28; refine (make_at tb jb b m' _ (fullRf i) _ _ (by rw [Hc.out, n_str]; rfl) HBA.out rfl (by rw [Hdry.out]; decide) (by show n < _; omega)).mono ?_; rintro e w2 ⟨he, m2, hB, hS⟩; rw [Hm.out] at he hB; subst he; have HO2 := Lib.hid (hS.own HCA.out HF.out); have HB2 := Lib.hid hB; clear hB hS))
        go_roundw
        case rel => exact ⟨i + 1, n + 1, d', m2, by omega, by go_num, Hfr'.out, Hdry'.out, by omega, by rw [show min (i + 1) 12 = i + 1 by omega]; exact HB2.out, HO2.out.1, HO2.out.2⟩
        case measure => simp [intOf]; omega
      · obtain rfl : i = 12 := by omega
        have hm := full_stop d n
        have Hm := Lib.hid hm
        clear hm
        go_wp2_with (first
          | (refine wpList_convert_slb rfl (.tmp 26) rfl (.slice (some ⟨wr.heap.size, 0, none⟩) 1 1) (by rfl) [c] (slb_one Hcc.out) Tryd.underlying22 Tryd.underlying5 Tryd.underlying9 ?_; unfold str)
          | (go_at_call 28; refine (make_at tb jb b m' _ (fullRf 12) _ _ (by rw [Hc.out, n_str]; rfl) HBA.out rfl (by rw [Hdry.out]; decide) (by show n < _; omega)).mono ?_; rintro e w2 ⟨he, m2, hB, hS⟩; rw [show min 12 12 = 12 from rfl, Hm.out] at he hB; subst he; have HO2 := Lib.hid (hS.own HCA.out HF.out); have HB2 := Lib.hid hB; clear hB hS))
        go_roundw
        case rel => exact ⟨13, n, d, m2, by omega, by go_num, Hfr.out, Hdry.out, by omega, HB2.out, HO2.out.1, HO2.out.2⟩
        case measure => simp [intOf]
    · obtain rfl : i = 13 := by omega
      have hj : a % 12 < 12 := Nat.mod_lt _ (by decide)
      have hcc : B (UInt8.ofNat (97 + a % 12)) = .int .u8 (97 + (a : Int) % 12) := by rw [B_ofNat _ (by omega)]; congr 1
      obtain ⟨j, hjj⟩ : ∃ j, j = a % 12 := ⟨_, rfl⟩
      rw [← hjj] at hj hcc
      obtain ⟨c, hc⟩ : ∃ c, c = UInt8.ofNat (97 + j) := ⟨_, rfl⟩
      rw [← hc] at hcc
      have Hc : Hid (fullName j = [110, c]) := Lib.hid (by rw [hc]; rfl)
      have Hcc := Lib.hid hcc
      obtain ⟨d2, h2, f2, y2⟩ := full_drop Hfr.out Hdry.out j hj n
      obtain ⟨d3, h3, f3, y3⟩ := full_z f2 y2 j hj (n + 1)
      have h4 := full_kind d3 j hj (n + 1 + 1) (zeros 32)
      have hlen := (full_rest j hj).2.2.2.2.2.2
      have H2 := Lib.hid h2
      have H3 := Lib.hid h3
      have H4 := Lib.hid h4
      have Hlen := Lib.hid hlen
      have Y2 := Lib.hid y2
      have Y3 := Lib.hid y3
      have HBA : Hid (TbAt (wr.alloc (Obj.cells #[.int .u8 (97 + (a : Int) % 12)] 5)) tb jb b m' ⟨d, n, fullL 12⟩) := Lib.hid (HB.out.chg0 ((Chg.refl [] wr).alloc _))
      have HCA : Hid (Chg [] w (wr.alloc (Obj.cells #[.int .u8 (97 + (a : Int) % 12)] 5))) := Lib.hid (HC.out.alloc _)
      clear hcc hc hjj h2 h3 h4 hlen f2 f3 y2 y3
      go_wp2_with (first
        | (refine wpList_convert_slb rfl (.tmp 47) rfl (.slice (some ⟨wr.heap.size, 0, none⟩) 1 1) (by rfl) [c] (slb_one Hcc.out) Tryd.underlying22 Tryd.underlying5 Tryd.underlying9 ?_; unfold str)
        | (go_at_call 37; refine (drop_at tb jb b m' _ (fullName j) _ _ (by rw [Hc.out, n_str]; rfl) HBA.out (by rw [Hdry.out]; decide) (by show n < _; omega)).mono ?_; rintro e w2 ⟨he, m2, hB, hS⟩; rw [H2.out] at he hB; subst he; have HO2 := Lib.hid (hS.own HCA.out HF.out); have HB2 := Lib.hid hB; clear hB hS)
        | (go_at_call 28; refine (make_spec tb jb b m2 _ zRf _ HB2.out rfl (by rw [Y2.out]; decide) (by show n + 1 < _; omega)).mono ?_; rintro e w3 ⟨he, m3, hB, hS⟩; rw [H3.out] at he hB; subst he; have HO3 := Lib.hid (hS.own HO2.out.1 HO2.out.2); have HB3 := Lib.hid hB; clear hB hS)
        | (go_at_call 24; refine (awake_spec _ (HT.out.chg HO3.out.1 (by simp))).mono ?_; rintro e w4 ⟨rfl, hC⟩; have HC4 := Lib.hid hC; have HB4 := Lib.hid (HB3.out.chg0 hC); clear hC)
        | (go_at_call 36; refine (move_spec tb jb b m3 _ [122] (zeros 32) _ HB4.out rfl (by rw [Y3.out]; decide) (by show n + 1 + 1 < _; omega)).mono ?_; rintro e w5 ⟨he, m5, hB, hS⟩; rw [H4.out] at he hB; subst he; have HO5 := Lib.hid (hS.own (HO3.out.1.trans HC4.out) HO3.out.2); have HB5 := Lib.hid hB; clear hB hS)
        | (go_at_call 33; refine (all_spec tb jb b m5 _ w5 HB5.out).mono ?_; rintro e w6 ⟨v, l, rfl, hR, hp, -, hC6, -⟩; have hl := hp.length_eq.trans Hlen.out; obtain ⟨sp, cp, rfl⟩ := hR.shape; rw [hl]; have HC6 := Lib.hid hC6; clear hR hp hC6 hl))
      go_ret
      exact ⟨rfl, HO5.out.1.trans HC6.out⟩

end Go.Proofs.YtaacejpienbkgaaDoor
