/- The law LabelBytes, walked. -/
import Derived.Test.YtaacejpienbkgaaDoorSeal0
import Derived.Test.YtaacejpienbkgaaDoorLab13
import Derived.Test.YtaacejpienbkgaaDoorLab1
namespace Go.Proofs.YtaacejpienbkgaaDoor
open Go.RowKit

theorem write_cur {t : Tb} (h : TFree t) (i : Nat) (r : Rf) : (t.write i r).1.d.cur (97 + i) = padTo 64 (packB r) ∧ (t.write i r).1.d.n = t.d.n := by
  obtain ⟨⟨a, ha⟩, hn⟩ := free_jwrite h.free t.next (Tb.pgs i r)
  unfold Tb.write
  rw [ha]
  refine ⟨?_, rfl⟩
  rw [cur_dry rfl]
  simp only [behind, Tb.pgs, padl, List.map_cons, List.map_nil, Dsk.curOf]
  rw [if_pos (by omega)]
theorem fresh_make (r : Rf) (hr : rightB r.name = true) : ∃ d', freshTb.make r = (⟨d', 2, noRefs.set 0 r⟩, 0) ∧ Free d' ∧ d'.wet = [] ∧ d'.cur 97 = padTo 64 (packB r) ∧ d'.n = 119 := by
  obtain ⟨d1, h1, h2, h3⟩ := Tb.write_free freshFree 0 r
  have h4 := write_cur freshFree 0 r
  rw [h1] at h4
  refine ⟨d1, ?_, h2, h3, h4.1, h4.2⟩
  have e2 : freshTb.fd r.name = -1 := by
    unfold Tb.fd
    refine findN_no _ _ _ (fun i hi => ?_)
    have hm : freshTb.l[i] = Rf.none := List.eq_of_mem_replicate (List.getElem_mem hi)
    rw [hm]
    exact Ne.symm (right_len hr).1
  have e3 : freshTb.fd [] = 0 := by decide
  unfold Tb.make
  rw [hr, e2, e3, if_neg (by decide), if_neg (by decide), if_neg (by decide)]
  exact h1

theorem run_build48_32 (w : World) (nm : Bytes) (f : Bool) (a0 a1 a2 a3 a4 a5 a6 a7 a8 a9 a10 a11 a12 a13 a14 a15 a16 a17 a18 a19 a20 a21 a22 a23 a24 a25 a26 a27 a28 a29 a30 a31 : UInt8) : (Instr.build 48 #[(0, str nm), (1, .agg (vals [a0, a1, a2, a3, a4, a5, a6, a7, a8, a9, a10, a11, a12, a13, a14, a15, a16, a17, a18, a19, a20, a21, a22, a23, a24, a25, a26, a27, a28, a29, a30, a31]).toArray), (2, .bool f)]).run Tryd.prog w = .ok (.agg (rcells ⟨nm, [a0, a1, a2, a3, a4, a5, a6, a7, a8, a9, a10, a11, a12, a13, a14, a15, a16, a17, a18, a19, a20, a21, a22, a23, a24, a25, a26, a27, a28, a29, a30, a31], f⟩).toArray) w := by kernel_rfl
theorem run_build48 (w : World) (nm k : Bytes) (f : Bool) (hk : k.length = 32) : (Instr.build 48 #[(0, str nm), (1, .agg (vals k).toArray), (2, .bool f)]).run Tryd.prog w = .ok (.agg (rcells ⟨nm, k, f⟩).toArray) w := by
  match k, hk with
  | [a0, a1, a2, a3, a4, a5, a6, a7, a8, a9, a10, a11, a12, a13, a14, a15, a16, a17, a18, a19, a20, a21, a22, a23, a24, a25, a26, a27, a28, a29, a30, a31], _ => exact run_build48_32 w nm f a0 a1 a2 a3 a4 a5 a6 a7 a8 a9 a10 a11 a12 a13 a14 a15 a16 a17 a18 a19 a20 a21 a22 a23 a24 a25 a26 a27 a28 a29 a30 a31
section
variable {o : Oper} {a : Act} {w : World} {Q : Exit → Act → World → Prop} {ops : Array Oper} {rest : List Oper}
theorem wpList_build48 (hgd : o.guard = none) (x y z : Operand) (ho : o.op = .build 48 #[(0, x), (1, y), (2, z)]) (nm k : Bytes) (f : Bool) (hk : k.length = 32) (hx : a.eval x = str nm) (hy : a.eval y = .agg (vals k).toArray) (hz : a.eval z = .bool f)
    (h : wpList Tryd.prog ops Q rest (a.put o.dst (.agg (rcells ⟨nm, k, f⟩).toArray)) w) : wpList Tryd.prog ops Q (o :: rest) a w :=
  wpList_plain hgd fun _ hK => by
    have hr := run_build48 w nm k f hk
    unfold Oper.wp execOp
    simp only [ho, List.map_toArray, List.map_cons, List.map_nil, hx, hy, hz, Sem.run_bind, hr, Result.andThen_ok, Sem.run_pure]
    exact hK _ _ h
end

theorem hdr_own {w : World} {x : Int} {nm k : Bytes} {f : Bool} {n : Nat} (hn : nm.length = n) (hs : n ≤ 12) (hx : x = if f then 1 else 0) :
    OwnB (w.alloc (Obj.cells #[.int .u8 1, .int .u8 x, .int .u8 (n : Int)] 5)) w.heap.size (.slice (some ⟨w.heap.size, 0, none⟩) 3 3) (hdr ⟨nm, k, f⟩) := by
  have hh : vals (hdr ⟨nm, k, f⟩) = [.int .u8 1, .int .u8 x, .int .u8 (n : Int)] := by
    unfold hdr
    simp only [vals, List.map_cons, List.map_nil, B_by8]
    rw [hn, show ((n : Int) % 256) = (n : Int) by omega, hx]
    cases f <;> rfl
  have hb : (w.alloc (Obj.cells #[.int .u8 1, .int .u8 x, .int .u8 (n : Int)] 5)).heap[w.heap.size]? = some (Obj.cells (vals (hdr ⟨nm, k, f⟩)).toArray 5 (0, 0)) := by rw [heap_alloc_new, hh]
  exact ⟨by simp [hdr], .inr ⟨w.heap.size, 3, _, rfl, Nat.le_refl _, hb, by simp [hdr], by simp [maxLen], by simp [hdr], List.take_of_length_le (by simp [hdr])⟩⟩

theorem read_free (b : Nat) (m : DMem) (d : Dsk) (i : Nat) (x : Int) (w : World) (hx : x = (i : Int)) (h : DiskAt w b m d) (hi : i < d.n) (hoff : d.off = false) (hwl : d.wet.length < 1000000) :
    Calls Tryd.prog 20 #[.pointer (some ⟨b, 0, none⟩), .int .i64 x] w (ReadPost (d.cur i) w) := by
  subst hx; exact read_on_spec b m d i w h hi hoff hwl
theorem sub12 {nm : Bytes} (h : nm.length ≤ 12) : Value.int .i64 (12 - (nm.length : Int)) = Value.int .i64 ((12 - nm.length : Nat) : Int) := by congr 1; omega

set_option maxRecDepth 100000 in
set_option maxHeartbeats 2000000 in
theorem bytes_no (nm k : Bytes) (f : Bool) (w : World) (hT : LinesAt w) (hl : nm.length ≤ 140737488355328) (hr : rightB nm = false) :
    Calls Tryd.prog 9 #[str nm, .agg (vals k).toArray, .bool f] w fun e w' => e = .returned (.bool true) ∧ Chg [] w w' := by
  have Hr := Lib.hid hr
  have hC0 : Chg [] w (w.alloc (.cells (vals k).toArray 28)) := (Chg.refl [] w).alloc _
  have HT := Lib.hid (hT.chg hC0 (by simp))
  have HC := Lib.hid hC0
  clear hT hC0 hr
  unfold str
  go_enter Tryd.func9, Tryd.ntmps9
  go_wp2_with (first
    | (go_at_call 24; refine (awake_spec _ HT.out).mono ?_; rintro e w1 ⟨rfl, hC⟩; replace HT := Lib.hid (HT.out.chg hC (by simp)); replace HC := Lib.hid (HC.out.trans hC); clear hC)
    | (go_at_call 26; refine (lawright_spec nm _ hl).mono ?_; rintro e w3 ⟨rfl, rfl⟩; rw [Hr.out]))
  go_ret
  exact ⟨rfl, HC.out⟩

set_option maxRecDepth 100000 in
set_option maxHeartbeats 4000000 in
theorem bytes_yes (nm k : Bytes) (f : Bool) (w : World) (hT : LinesAt w) (hk : k.length = 32) (hl : nm.length ≤ 12) (hr : rightB nm = true) :
    Calls Tryd.prog 9 #[str nm, .agg (vals k).toArray, .bool f] w fun e w' => e = .returned (.bool true) ∧ Chg [] w w' := by
  have Hr := Lib.hid hr
  obtain ⟨d', hm, hfr, hdry, hcur, hdn⟩ := fresh_make ⟨nm, k, f⟩ hr
  have hp : packB ⟨nm, k, f⟩ = sealed (packP ⟨nm, k, f⟩) := by rw [packB, if_neg (right_len hr).1]
  have hpl := packP_length (r := ⟨nm, k, f⟩) hk hl
  have hsl : (sealed (packP ⟨nm, k, f⟩)).length = 64 := sealed_length (by rw [hpl]; decide)
  rw [hp, padTo_self hsl] at hcur
  have Hm := Lib.hid hm
  have Hfr := Lib.hid hfr
  have Hdry := Lib.hid hdry
  have Hcur := Lib.hid hcur
  have Hdn := Lib.hid hdn
  have Hpl := Lib.hid hpl
  have Hsl := Lib.hid hsl
  have hC0 : Chg [] w (w.alloc (.cells (vals k).toArray 28)) := (Chg.refl [] w).alloc _
  have HR : Hid ((w.alloc (.cells (vals k).toArray 28)).rangeAt w.heap.size 0 (vals k)) := Lib.hid (range_of_row (heap_alloc_new _ _))
  have HT := Lib.hid (hT.chg hC0 (by simp))
  have HC := Lib.hid hC0
  have Hk := Lib.hid hk
  have Hl : Hid ((vals k).length = 32) := Lib.hid (by simp [hk])
  clear hT hk hC0 hr hm hfr hdry hcur hdn hp hpl hsl
  cases f with
  | true =>
    unfold str
    go_enter Tryd.func9, Tryd.ntmps9
    go_wp2_with (first
      | (go_at_call 24; refine (awake_spec _ HT.out).mono ?_; rintro e w1 ⟨rfl, hC⟩; replace HT := Lib.hid (HT.out.chg hC (by simp)); replace HC := Lib.hid (HC.out.trans hC); replace HR := Lib.hid (hC.range HR.out (by simp)); clear hC)
      | (go_at_call 26; refine (lawright_spec nm _ (by omega)).mono ?_; rintro e w3 ⟨rfl, rfl⟩; rw [Hr.out])
      | (go_at_call 27; refine (fresh_spec _ HT.out).mono ?_; rintro e w2 ⟨b, tb, jb, m, rfl, hB, hC, hF⟩; have HB := Lib.hid hB; have HF := Lib.hid hF; have HC2 := Lib.hid hC; have HCa := HC; have hwlt := range_lt HR.out (by intro h; have h2 := Hl.out; rw [h] at h2; cases h2); replace HC := Lib.hid (HC.out.trans hC); replace HR := Lib.hid (hC.range HR.out (by simp)); clear hB hC hF)
      | (refine wpList_load_mid rfl 28 (.tmp 4) rfl w.heap.size 0 (by rfl) (vals k) _ HR.out Tryd.underlying28 rfl (by rw [size28, Hl.out]) ?_)
      | (refine wpList_build48 rfl (.tmp 30) (.tmp 31) (.tmp 32) rfl nm k true Hk.out (by rfl) (by rfl) (by rfl) ?_)
      | (go_at_call 28; refine (make_spec tb jb b m freshTb ⟨nm, k, true⟩ _ HB.out Hk.out (by simp [freshTb, Dsk.new]) (by decide)).mono ?_; rintro e w4 ⟨he, m2, hB, hS⟩; rw [Hm.out] at he hB; subst he; have HR4 := Lib.hid (hS.1.range HR.out (fun hin => by have h1 := HF.out _ hin; omega)); have HO4 := Lib.hid (hS.own HC2.out HF.out); have HB4 := Lib.hid hB; have hO5 := hdr_own (w := w4) (x := 1) (nm := nm) (k := k) (f := true) rfl hl rfl; have HO5 := Lib.hid hO5; clear hB hS hO5)
      | (refine wpList_append_str rfl (.tmp 42) (.tmp 43) rfl Tryd.underlying22 Tryd.underlying9 info5 w4.heap.size (.slice (some ⟨w4.heap.size, 0, none⟩) 3 3) (hdr ⟨nm, k, true⟩) nm (by rfl) (by rfl) HO5.out (by simp) (by simp [hdr]; omega) ?_; intro v5 w5 hO hG; have hC5 : Chg [] w4 w5 := ((Chg.refl [] w4).alloc _).grown hG (fun x hx => .inr (HO5.out.lt x hx).1); have HC5 := Lib.hid hC5; have HO5' := Lib.hid hO; clear hO hG hC5)
      | (refine wpList_append_zeros rfl (.tmp 44) (.tmp 47) rfl Tryd.underlying22 Tryd.underlying3 Tryd.underlying9 info5 w4.heap.size v5 (hdr ⟨nm, k, true⟩ ++ nm) (12 - nm.length) (by rfl) (sub12 hl) HO5'.out HC5.out.size (by simp [hdr]; omega) ?_; intro v6 w6 hO hG; have hC6 : Chg [] w4 w6 := HC5.out.grown hG (fun x hx => .inr (HO5'.out.lt x hx).1); have HC6 := Lib.hid hC6; have HO6 := Lib.hid hO; have HB6 := Lib.hid (HB4.out.chg0 hC6); clear hO hG hC6)
      | (go_at_call 20; refine (read_free b m2 d' 97 _ w6 rfl HB6.out.j.disk (by rw [Hdn.out]; decide) Hfr.out.off (by rw [Hdry.out]; decide)).mono ?_; rintro e w7 ⟨g, hg0, rfl, hg, hC⟩; rw [Hcur.out] at hg; have HS7 := Lib.hid (slb_block hg Hsl.out); have HC7 := Lib.hid hC; clear hg hC))
    have hS7 : SlB w7 (.slice (some ⟨w.heap.size, 0, none⟩) 32 32) k := .inr ⟨w.heap.size, 0, 32, by rw [Hk.out], by rw [Hk.out]; decide, (HC6.out.trans HC7.out).range HR4.out (by simp), by have h1 := HO4.out.1.size; have h2 := (HC6.out.trans HC7.out).size; omega⟩
    have HSk := Lib.hid hS7
    have HO7 : Hid (OwnB w7 w4.heap.size v6 (hdr ⟨nm, k, true⟩ ++ nm ++ zeros (12 - nm.length))) := Lib.hid (HC7.out.owns HO6.out (by simp))
    clear hS7
    refine wp_region_keys [(14, fun W => SlB W (.slice (some ⟨g, 0, none⟩) 64 64) (sealed (packP ⟨nm, k, true⟩)))] (by kernel_rfl) ⟨fun _ => HS7.out.chg ((Chg.refl [] w7).drew) (by simp), trivial⟩ ?_
    refine kTake (i := 0) (v := ?_) rfl (by kernel_rfl) (by kernel_rfl) (some 54) rfl (fun _ _ _ h => h) (Or.inl ⟨by rfl, ?_⟩) ?_
    rotate_left 1
    · (intro w; go_simp; try rfl)
    try simp only [Act.put, List.setIfInBounds_toArray, List.set_cons_zero, List.set_cons_succ]
    refine kTake (i := 1) (v := ?_) rfl (by kernel_rfl) (by kernel_rfl) (some 55) rfl (fun _ _ _ h => h) (Or.inl ⟨by rfl, ?_⟩) ?_
    rotate_left 1
    · (intro w; go_simp; try rfl)
    try simp only [Act.put, List.setIfInBounds_toArray, List.set_cons_zero, List.set_cons_succ]
    refine kTake (i := 2) (v := ?_) rfl (by kernel_rfl) (by kernel_rfl) (some 56) rfl (fun _ _ _ h => h) (Or.inl ⟨by rfl, ?_⟩) ?_
    rotate_left 1
    · (intro w; go_simp; try rfl)
    try simp only [Act.put, List.setIfInBounds_toArray, List.set_cons_zero, List.set_cons_succ]
    refine kTake (i := 3) (v := ?_) rfl (by kernel_rfl) (by kernel_rfl) (some 57) rfl (fun _ _ _ h => h) (Or.inl ⟨by rfl, ?_⟩) ?_
    rotate_left 1
    · (intro w; go_simp; try rfl)
    try simp only [Act.put, List.setIfInBounds_toArray, List.set_cons_zero, List.set_cons_succ]
    refine kTake (i := 4) (v := ?_) rfl (by kernel_rfl) (by kernel_rfl) (some 58) rfl (fun _ _ _ h => h) (Or.inl ⟨by rfl, ?_⟩) ?_
    rotate_left 1
    · (intro w; go_simp; try rfl)
    try simp only [Act.put, List.setIfInBounds_toArray, List.set_cons_zero, List.set_cons_succ]
    refine kTake (i := 5) (v := ?_) rfl (by kernel_rfl) (by kernel_rfl) (some 59) rfl (fun _ _ _ h => h) (Or.inl ⟨by rfl, ?_⟩) ?_
    rotate_left 1
    · (intro w; go_simp; try rfl)
    try simp only [Act.put, List.setIfInBounds_toArray, List.set_cons_zero, List.set_cons_succ]
    refine kTake (i := 6) (v := ?_) rfl (by kernel_rfl) (by kernel_rfl) (some 60) rfl (fun _ _ _ h => h) (Or.inl ⟨by rfl, ?_⟩) ?_
    rotate_left 1
    · (intro w; go_simp; try rfl)
    try simp only [Act.put, List.setIfInBounds_toArray, List.set_cons_zero, List.set_cons_succ]
    refine kTake (i := 7) (v := ?_) rfl (by kernel_rfl) (by kernel_rfl) (some 61) rfl (fun _ _ _ h => h) (Or.inl ⟨by rfl, ?_⟩) ?_
    rotate_left 1
    · (intro w; go_simp; try rfl)
    try simp only [Act.put, List.setIfInBounds_toArray, List.set_cons_zero, List.set_cons_succ]
    refine kLoad (i := 8) 14 _ (v := str (sealed (packP ⟨nm, k, true⟩))) rfl (by kernel_rfl) (by kernel_rfl) (.head _) (some 62) rfl (fun _ _ _ h => h) (yieldsIf_convert_slb (by rfl) (.tmp 61) rfl _ (by rfl) (sealed (packP ⟨nm, k, true⟩)) (fun _ h => h) Tryd.underlying22 Tryd.underlying5 Tryd.underlying9) ?_
    try simp only [Act.put, List.setIfInBounds_toArray, List.set_cons_zero, List.set_cons_succ]
    refine kTake (i := 9) (v := ?_) rfl (by kernel_rfl) (by kernel_rfl) (some 63) rfl (fun _ _ _ h => h) (Or.inl ⟨by rfl, ?_⟩) ?_
    rotate_left 1
    · (intro w; go_simp; try rfl)
    try simp only [Act.put, List.setIfInBounds_toArray, List.set_cons_zero, List.set_cons_succ]
    refine kTake (i := 10) (v := ?_) rfl (by kernel_rfl) (by kernel_rfl) (some 64) rfl (fun _ _ _ h => h) (Or.inl ⟨by rfl, ?_⟩) ?_
    rotate_left 1
    · (intro w; go_simp; try rfl)
    try simp only [Act.put, List.setIfInBounds_toArray, List.set_cons_zero, List.set_cons_succ]
    refine kOnly (i := 11) (oi := { dst := (some 65), op := (Go.Op.call { callee := (Go.Callee.builtin Go.Builtin.append), args := #[(Go.Operand.tmp 63), (Go.Operand.tmp 64)], argTypes := #[22, 22] }), type := 22, pos := "more.go:25", after := #[{ on := 9, ground := Go.Ground.data }, { on := 10, ground := Go.Ground.data }, { on := 6, ground := Go.Ground.chain }, { on := 6, ground := Go.Ground.guard }], guard := (some (6, true)) }) (by kernel_rfl) rfl (by rfl) (fun K hK => ?_)
    refine wp_append_bytes (.tmp 63) (.tmp 64) rfl Tryd.underlying22 info5 w4.heap.size v6 (.slice (some ⟨w.heap.size, 0, none⟩) 32 32) (hdr ⟨nm, k, true⟩ ++ nm ++ zeros (12 - nm.length)) k (by rfl) (by rfl) HO7.out.drew (HSk.out.chg ((Chg.refl [] w7).drew) (by simp)) (by have h1 := HC6.out.size; have h2 := HC7.out.size; show _ ≤ w7.heap.size; omega) (by rw [Hk.out]; simp [hdr]; omega) ?_; intro v8 w8 hO hG hN hF8
    have hC8 : Chg v6.ownBlock.toList w7 w8 := (Chg.refl _ w7).drew.grown hG (fun x hx => .inl (by simp [hx]))
    have hS8 : SlB w8 v8 (packP ⟨nm, k, true⟩) := hO.slb
    have HS8 := Lib.hid hS8
    have hgv : ∀ x, x ∈ v6.ownBlock.toList → x ≠ g := fun x hx e => by have h1 := (HO6.out.lt x (by simpa using hx)).2; omega
    have HK8 := Lib.hid (HS7.out.chg hC8 (fun q hq hin => hgv q hin (by simp only [Value.ownBlock, Option.some.injEq] at hq; exact hq.symm)))
    have HC8 : Hid (Chg [] w4 w8) := Lib.hid ((HC6.out.trans HC7.out).step hC8 (fun x hx => .inr (HO6.out.lt x (by simpa using hx)).1))
    refine hK _ _ ⟨fun _ => HK8.out, trivial⟩ ?_; clear hK K hO hG hN hF8 hC8 hS8 hgv
    try simp only [Act.put, List.setIfInBounds_toArray, List.set_cons_zero, List.set_cons_succ]
    refine kOnly (i := 12) (oi := { dst := (some 66), op := (Go.Op.call { callee := (Go.Callee.value (Go.Operand.func 21)), args := #[(Go.Operand.tmp 65)], argTypes := #[22] }), type := 22, pos := "more.go:25", after := #[{ on := 11, ground := Go.Ground.data }, { on := 11, ground := Go.Ground.chain }, { on := 6, ground := Go.Ground.guard }], guard := (some (6, true)) }) (by kernel_rfl) rfl (by rfl) (fun K hK => ?_)
    go_simp; go_at_call 21; refine (seal21_spec (packP ⟨nm, k, true⟩) v8 _ (HS8.out.chg (by first | exact Chg.refl [] _ | exact (Chg.refl [] _).drew) (by simp)) (by rw [Hpl.out]; decide)).mono ?_; rintro e w9 ⟨v9, rfl, hO9, hC9⟩
    rw [sealedR_of (by rw [Hpl.out]; decide)] at hO9
    have HC9 : Hid (Chg [] w8 w9) := Lib.hid (by first | exact hC9 | exact hC9.ofDrew)
    have HO9 := Lib.hid hO9
    refine hK _ _ ⟨fun _ => HK8.out.chg HC9.out (by simp), trivial⟩ ?_; clear hK K hC9 hO9
    try simp only [Act.put, List.setIfInBounds_toArray, List.set_cons_zero, List.set_cons_succ]
    refine kOnly (i := 13) (oi := { dst := (some 67), op := (Go.Op.convert 22 9 (Go.Operand.tmp 66)), type := 9, pos := "more.go:25", after := #[{ on := 12, ground := Go.Ground.data }, { on := 6, ground := Go.Ground.guard }], guard := (some (6, true)) }) (by kernel_rfl) rfl (by rfl) (fun K hK => ?_)
    refine wp_convert_slb (.tmp 66) rfl v9 (by rfl) (sealed (packP ⟨nm, k, true⟩)) (by first | exact HO9.out.slb | exact HO9.out.slb.chg ((Chg.refl [] _).drew) (by simp)) Tryd.underlying22 Tryd.underlying5 Tryd.underlying9 ?_
    refine hK _ _ ⟨fun _ => by first | exact HK8.out.chg HC9.out (by simp) | exact HK8.out.chg HC9.out.drew (by simp), trivial⟩ ?_; clear hK K
    try simp only [Act.put, List.setIfInBounds_toArray, List.set_cons_zero, List.set_cons_succ]
    refine kOnly (i := 14) (oi := { dst := (some 68), op := (Go.Op.binOp Go.BinOp.eql 9 (Go.Operand.tmp 62) (Go.Operand.tmp 67) 9), type := 4, pos := "more.go:25", after := #[{ on := 8, ground := Go.Ground.data }, { on := 13, ground := Go.Ground.data }, { on := 6, ground := Go.Ground.guard }], guard := (some (6, true)) }) (by kernel_rfl) rfl (by rfl) (fun K hK => ?_)
    go_simp; refine hK _ _ ⟨fun h => absurd h (by decide), trivial⟩ ?_; clear hK K
    try simp only [Act.put, List.setIfInBounds_toArray, List.set_cons_zero, List.set_cons_succ]
    refine kTake (i := 15) (v := ?_) rfl (by kernel_rfl) (by kernel_rfl) (some 69) rfl (fun _ _ _ h => h) (Or.inl ⟨by rfl, ?_⟩) ?_
    rotate_left 1
    · (intro w; go_simp; try rfl)
    try simp only [Act.put, List.setIfInBounds_toArray, List.set_cons_zero, List.set_cons_succ]
    refine kTake (i := 16) (v := ?_) rfl (by kernel_rfl) (by kernel_rfl) (some 6) rfl (fun _ _ _ h => h) (Or.inl ⟨by rfl, ?_⟩) ?_
    rotate_left 1
    · (intro w; go_simp; try rfl)
    try simp only [Act.put, List.setIfInBounds_toArray, List.set_cons_zero, List.set_cons_succ]
    refine kDone (by kernel_rfl) ?_
    rw [show ((⟨List.toArray (sealed (packP ⟨nm, k, true⟩))⟩ : ByteArray).toList == (⟨List.toArray (sealed (packP ⟨nm, k, true⟩))⟩ : ByteArray).toList) = true from beq_self_eq_true _]
    go_wp2
    go_ret
    exact ⟨rfl, ((HCa.out.trans HO4.out.1).trans HC8.out).trans HC9.out⟩
  | false =>
    unfold str
    go_enter Tryd.func9, Tryd.ntmps9
    go_wp2_with (first
      | (go_at_call 24; refine (awake_spec _ HT.out).mono ?_; rintro e w1 ⟨rfl, hC⟩; replace HT := Lib.hid (HT.out.chg hC (by simp)); replace HC := Lib.hid (HC.out.trans hC); replace HR := Lib.hid (hC.range HR.out (by simp)); clear hC)
      | (go_at_call 26; refine (lawright_spec nm _ (by omega)).mono ?_; rintro e w3 ⟨rfl, rfl⟩; rw [Hr.out])
      | (go_at_call 27; refine (fresh_spec _ HT.out).mono ?_; rintro e w2 ⟨b, tb, jb, m, rfl, hB, hC, hF⟩; have HB := Lib.hid hB; have HF := Lib.hid hF; have HC2 := Lib.hid hC; have HCa := HC; have hwlt := range_lt HR.out (by intro h; have h2 := Hl.out; rw [h] at h2; cases h2); replace HC := Lib.hid (HC.out.trans hC); replace HR := Lib.hid (hC.range HR.out (by simp)); clear hB hC hF)
      | (refine wpList_load_mid rfl 28 (.tmp 4) rfl w.heap.size 0 (by rfl) (vals k) _ HR.out Tryd.underlying28 rfl (by rw [size28, Hl.out]) ?_)
      | (refine wpList_build48 rfl (.tmp 30) (.tmp 31) (.tmp 32) rfl nm k false Hk.out (by rfl) (by rfl) (by rfl) ?_)
      | (go_at_call 28; refine (make_spec tb jb b m freshTb ⟨nm, k, false⟩ _ HB.out Hk.out (by simp [freshTb, Dsk.new]) (by decide)).mono ?_; rintro e w4 ⟨he, m2, hB, hS⟩; rw [Hm.out] at he hB; subst he; have HR4 := Lib.hid (hS.1.range HR.out (fun hin => by have h1 := HF.out _ hin; omega)); have HO4 := Lib.hid (hS.own HC2.out HF.out); have HB4 := Lib.hid hB; have hO5 := hdr_own (w := w4) (x := 0) (nm := nm) (k := k) (f := false) rfl hl rfl; have HO5 := Lib.hid hO5; clear hB hS hO5)
      | (refine wpList_append_str rfl (.tmp 42) (.tmp 43) rfl Tryd.underlying22 Tryd.underlying9 info5 w4.heap.size (.slice (some ⟨w4.heap.size, 0, none⟩) 3 3) (hdr ⟨nm, k, false⟩) nm (by rfl) (by rfl) HO5.out (by simp) (by simp [hdr]; omega) ?_; intro v5 w5 hO hG; have hC5 : Chg [] w4 w5 := ((Chg.refl [] w4).alloc _).grown hG (fun x hx => .inr (HO5.out.lt x hx).1); have HC5 := Lib.hid hC5; have HO5' := Lib.hid hO; clear hO hG hC5)
      | (refine wpList_append_zeros rfl (.tmp 44) (.tmp 47) rfl Tryd.underlying22 Tryd.underlying3 Tryd.underlying9 info5 w4.heap.size v5 (hdr ⟨nm, k, false⟩ ++ nm) (12 - nm.length) (by rfl) (sub12 hl) HO5'.out HC5.out.size (by simp [hdr]; omega) ?_; intro v6 w6 hO hG; have hC6 : Chg [] w4 w6 := HC5.out.grown hG (fun x hx => .inr (HO5'.out.lt x hx).1); have HC6 := Lib.hid hC6; have HO6 := Lib.hid hO; have HB6 := Lib.hid (HB4.out.chg0 hC6); clear hO hG hC6)
      | (go_at_call 20; refine (read_free b m2 d' 97 _ w6 rfl HB6.out.j.disk (by rw [Hdn.out]; decide) Hfr.out.off (by rw [Hdry.out]; decide)).mono ?_; rintro e w7 ⟨g, hg0, rfl, hg, hC⟩; rw [Hcur.out] at hg; have HS7 := Lib.hid (slb_block hg Hsl.out); have HC7 := Lib.hid hC; clear hg hC))
    have hS7 : SlB w7 (.slice (some ⟨w.heap.size, 0, none⟩) 32 32) k := .inr ⟨w.heap.size, 0, 32, by rw [Hk.out], by rw [Hk.out]; decide, (HC6.out.trans HC7.out).range HR4.out (by simp), by have h1 := HO4.out.1.size; have h2 := (HC6.out.trans HC7.out).size; omega⟩
    have HSk := Lib.hid hS7
    have HO7 : Hid (OwnB w7 w4.heap.size v6 (hdr ⟨nm, k, false⟩ ++ nm ++ zeros (12 - nm.length))) := Lib.hid (HC7.out.owns HO6.out (by simp))
    clear hS7
    refine wp_region_keys [(14, fun W => SlB W (.slice (some ⟨g, 0, none⟩) 64 64) (sealed (packP ⟨nm, k, false⟩)))] (by kernel_rfl) ⟨fun _ => HS7.out.chg ((Chg.refl [] w7).drew) (by simp), trivial⟩ ?_
    refine kTake (i := 0) (v := ?_) rfl (by kernel_rfl) (by kernel_rfl) (some 54) rfl (fun _ _ _ h => h) (Or.inl ⟨by rfl, ?_⟩) ?_
    rotate_left 1
    · (intro w; go_simp; try rfl)
    try simp only [Act.put, List.setIfInBounds_toArray, List.set_cons_zero, List.set_cons_succ]
    refine kTake (i := 1) (v := ?_) rfl (by kernel_rfl) (by kernel_rfl) (some 55) rfl (fun _ _ _ h => h) (Or.inl ⟨by rfl, ?_⟩) ?_
    rotate_left 1
    · (intro w; go_simp; try rfl)
    try simp only [Act.put, List.setIfInBounds_toArray, List.set_cons_zero, List.set_cons_succ]
    refine kTake (i := 2) (v := ?_) rfl (by kernel_rfl) (by kernel_rfl) (some 56) rfl (fun _ _ _ h => h) (Or.inl ⟨by rfl, ?_⟩) ?_
    rotate_left 1
    · (intro w; go_simp; try rfl)
    try simp only [Act.put, List.setIfInBounds_toArray, List.set_cons_zero, List.set_cons_succ]
    refine kTake (i := 3) (v := ?_) rfl (by kernel_rfl) (by kernel_rfl) (some 57) rfl (fun _ _ _ h => h) (Or.inl ⟨by rfl, ?_⟩) ?_
    rotate_left 1
    · (intro w; go_simp; try rfl)
    try simp only [Act.put, List.setIfInBounds_toArray, List.set_cons_zero, List.set_cons_succ]
    refine kTake (i := 4) (v := ?_) rfl (by kernel_rfl) (by kernel_rfl) (some 58) rfl (fun _ _ _ h => h) (Or.inl ⟨by rfl, ?_⟩) ?_
    rotate_left 1
    · (intro w; go_simp; try rfl)
    try simp only [Act.put, List.setIfInBounds_toArray, List.set_cons_zero, List.set_cons_succ]
    refine kTake (i := 5) (v := ?_) rfl (by kernel_rfl) (by kernel_rfl) (some 59) rfl (fun _ _ _ h => h) (Or.inl ⟨by rfl, ?_⟩) ?_
    rotate_left 1
    · (intro w; go_simp; try rfl)
    try simp only [Act.put, List.setIfInBounds_toArray, List.set_cons_zero, List.set_cons_succ]
    refine kTake (i := 6) (v := ?_) rfl (by kernel_rfl) (by kernel_rfl) (some 60) rfl (fun _ _ _ h => h) (Or.inl ⟨by rfl, ?_⟩) ?_
    rotate_left 1
    · (intro w; go_simp; try rfl)
    try simp only [Act.put, List.setIfInBounds_toArray, List.set_cons_zero, List.set_cons_succ]
    refine kTake (i := 7) (v := ?_) rfl (by kernel_rfl) (by kernel_rfl) (some 61) rfl (fun _ _ _ h => h) (Or.inl ⟨by rfl, ?_⟩) ?_
    rotate_left 1
    · (intro w; go_simp; try rfl)
    try simp only [Act.put, List.setIfInBounds_toArray, List.set_cons_zero, List.set_cons_succ]
    refine kLoad (i := 8) 14 _ (v := str (sealed (packP ⟨nm, k, false⟩))) rfl (by kernel_rfl) (by kernel_rfl) (.head _) (some 62) rfl (fun _ _ _ h => h) (yieldsIf_convert_slb (by rfl) (.tmp 61) rfl _ (by rfl) (sealed (packP ⟨nm, k, false⟩)) (fun _ h => h) Tryd.underlying22 Tryd.underlying5 Tryd.underlying9) ?_
    try simp only [Act.put, List.setIfInBounds_toArray, List.set_cons_zero, List.set_cons_succ]
    refine kTake (i := 9) (v := ?_) rfl (by kernel_rfl) (by kernel_rfl) (some 63) rfl (fun _ _ _ h => h) (Or.inl ⟨by rfl, ?_⟩) ?_
    rotate_left 1
    · (intro w; go_simp; try rfl)
    try simp only [Act.put, List.setIfInBounds_toArray, List.set_cons_zero, List.set_cons_succ]
    refine kTake (i := 10) (v := ?_) rfl (by kernel_rfl) (by kernel_rfl) (some 64) rfl (fun _ _ _ h => h) (Or.inl ⟨by rfl, ?_⟩) ?_
    rotate_left 1
    · (intro w; go_simp; try rfl)
    try simp only [Act.put, List.setIfInBounds_toArray, List.set_cons_zero, List.set_cons_succ]
    refine kOnly (i := 11) (oi := { dst := (some 65), op := (Go.Op.call { callee := (Go.Callee.builtin Go.Builtin.append), args := #[(Go.Operand.tmp 63), (Go.Operand.tmp 64)], argTypes := #[22, 22] }), type := 22, pos := "more.go:25", after := #[{ on := 9, ground := Go.Ground.data }, { on := 10, ground := Go.Ground.data }, { on := 6, ground := Go.Ground.chain }, { on := 6, ground := Go.Ground.guard }], guard := (some (6, true)) }) (by kernel_rfl) rfl (by rfl) (fun K hK => ?_)
    refine wp_append_bytes (.tmp 63) (.tmp 64) rfl Tryd.underlying22 info5 w4.heap.size v6 (.slice (some ⟨w.heap.size, 0, none⟩) 32 32) (hdr ⟨nm, k, false⟩ ++ nm ++ zeros (12 - nm.length)) k (by rfl) (by rfl) HO7.out.drew (HSk.out.chg ((Chg.refl [] w7).drew) (by simp)) (by have h1 := HC6.out.size; have h2 := HC7.out.size; show _ ≤ w7.heap.size; omega) (by rw [Hk.out]; simp [hdr]; omega) ?_; intro v8 w8 hO hG hN hF8
    have hC8 : Chg v6.ownBlock.toList w7 w8 := (Chg.refl _ w7).drew.grown hG (fun x hx => .inl (by simp [hx]))
    have hS8 : SlB w8 v8 (packP ⟨nm, k, false⟩) := hO.slb
    have HS8 := Lib.hid hS8
    have hgv : ∀ x, x ∈ v6.ownBlock.toList → x ≠ g := fun x hx e => by have h1 := (HO6.out.lt x (by simpa using hx)).2; omega
    have HK8 := Lib.hid (HS7.out.chg hC8 (fun q hq hin => hgv q hin (by simp only [Value.ownBlock, Option.some.injEq] at hq; exact hq.symm)))
    have HC8 : Hid (Chg [] w4 w8) := Lib.hid ((HC6.out.trans HC7.out).step hC8 (fun x hx => .inr (HO6.out.lt x (by simpa using hx)).1))
    refine hK _ _ ⟨fun _ => HK8.out, trivial⟩ ?_; clear hK K hO hG hN hF8 hC8 hS8 hgv
    try simp only [Act.put, List.setIfInBounds_toArray, List.set_cons_zero, List.set_cons_succ]
    refine kOnly (i := 12) (oi := { dst := (some 66), op := (Go.Op.call { callee := (Go.Callee.value (Go.Operand.func 21)), args := #[(Go.Operand.tmp 65)], argTypes := #[22] }), type := 22, pos := "more.go:25", after := #[{ on := 11, ground := Go.Ground.data }, { on := 11, ground := Go.Ground.chain }, { on := 6, ground := Go.Ground.guard }], guard := (some (6, true)) }) (by kernel_rfl) rfl (by rfl) (fun K hK => ?_)
    go_simp; go_at_call 21; refine (seal21_spec (packP ⟨nm, k, false⟩) v8 _ (HS8.out.chg (by first | exact Chg.refl [] _ | exact (Chg.refl [] _).drew) (by simp)) (by rw [Hpl.out]; decide)).mono ?_; rintro e w9 ⟨v9, rfl, hO9, hC9⟩
    rw [sealedR_of (by rw [Hpl.out]; decide)] at hO9
    have HC9 : Hid (Chg [] w8 w9) := Lib.hid (by first | exact hC9 | exact hC9.ofDrew)
    have HO9 := Lib.hid hO9
    refine hK _ _ ⟨fun _ => HK8.out.chg HC9.out (by simp), trivial⟩ ?_; clear hK K hC9 hO9
    try simp only [Act.put, List.setIfInBounds_toArray, List.set_cons_zero, List.set_cons_succ]
    refine kOnly (i := 13) (oi := { dst := (some 67), op := (Go.Op.convert 22 9 (Go.Operand.tmp 66)), type := 9, pos := "more.go:25", after := #[{ on := 12, ground := Go.Ground.data }, { on := 6, ground := Go.Ground.guard }], guard := (some (6, true)) }) (by kernel_rfl) rfl (by rfl) (fun K hK => ?_)
    refine wp_convert_slb (.tmp 66) rfl v9 (by rfl) (sealed (packP ⟨nm, k, false⟩)) (by first | exact HO9.out.slb | exact HO9.out.slb.chg ((Chg.refl [] _).drew) (by simp)) Tryd.underlying22 Tryd.underlying5 Tryd.underlying9 ?_
    refine hK _ _ ⟨fun _ => by first | exact HK8.out.chg HC9.out (by simp) | exact HK8.out.chg HC9.out.drew (by simp), trivial⟩ ?_; clear hK K
    try simp only [Act.put, List.setIfInBounds_toArray, List.set_cons_zero, List.set_cons_succ]
    refine kOnly (i := 14) (oi := { dst := (some 68), op := (Go.Op.binOp Go.BinOp.eql 9 (Go.Operand.tmp 62) (Go.Operand.tmp 67) 9), type := 4, pos := "more.go:25", after := #[{ on := 8, ground := Go.Ground.data }, { on := 13, ground := Go.Ground.data }, { on := 6, ground := Go.Ground.guard }], guard := (some (6, true)) }) (by kernel_rfl) rfl (by rfl) (fun K hK => ?_)
    go_simp; refine hK _ _ ⟨fun h => absurd h (by decide), trivial⟩ ?_; clear hK K
    try simp only [Act.put, List.setIfInBounds_toArray, List.set_cons_zero, List.set_cons_succ]
    refine kTake (i := 15) (v := ?_) rfl (by kernel_rfl) (by kernel_rfl) (some 69) rfl (fun _ _ _ h => h) (Or.inl ⟨by rfl, ?_⟩) ?_
    rotate_left 1
    · (intro w; go_simp; try rfl)
    try simp only [Act.put, List.setIfInBounds_toArray, List.set_cons_zero, List.set_cons_succ]
    refine kTake (i := 16) (v := ?_) rfl (by kernel_rfl) (by kernel_rfl) (some 6) rfl (fun _ _ _ h => h) (Or.inl ⟨by rfl, ?_⟩) ?_
    rotate_left 1
    · (intro w; go_simp; try rfl)
    try simp only [Act.put, List.setIfInBounds_toArray, List.set_cons_zero, List.set_cons_succ]
    refine kDone (by kernel_rfl) ?_
    rw [show ((⟨List.toArray (sealed (packP ⟨nm, k, false⟩))⟩ : ByteArray).toList == (⟨List.toArray (sealed (packP ⟨nm, k, false⟩))⟩ : ByteArray).toList) = true from beq_self_eq_true _]
    go_wp2
    go_ret
    exact ⟨rfl, ((HCa.out.trans HO4.out.1).trans HC8.out).trans HC9.out⟩

theorem bytes_walk (nm k : Bytes) (f : Bool) (w : World) (hT : LinesAt w) (hk : k.length = 32) (hl : nm.length ≤ 140737488355328) :
    Calls Tryd.prog 9 #[str nm, .agg (vals k).toArray, .bool f] w fun e w' => e = .returned (.bool true) ∧ Chg [] w w' := by
  cases hr : rightB nm with
  | false => exact bytes_no nm k f w hT hl hr
  | true => exact bytes_yes nm k f w hT hk (right_len hr).2 hr

end Go.Proofs.YtaacejpienbkgaaDoor
