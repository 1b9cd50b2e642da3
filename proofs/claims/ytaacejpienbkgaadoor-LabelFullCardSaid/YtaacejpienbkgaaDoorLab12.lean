/- The law's fresh table and its example (awake), walked; what they come to. -/
import Derived.Test.YtaacejpienbkgaaDoorLab11
import Derived.Test.YtaacejpienbkgaaDoorJpl0
import Derived.Stop.BytesEq
namespace Go.Proofs.YtaacejpienbkgaaDoor
open Go.RowKit

/-- A table whose disk does not stop. -/
structure TFree (t : Tb) : Prop where
  free : Free t.d
  dry : t.d.wet = []
theorem Tb.write_free {t : Tb} (h : TFree t) (i : Nat) (r : Rf) : ∃ d', t.write i r = (⟨d', t.next + 1, t.l.set i r⟩, 0) ∧ Free d' ∧ d'.wet = [] := by
  obtain ⟨⟨a, ha⟩, hn⟩ := free_jwrite h.free t.next (Tb.pgs i r)
  refine ⟨(jwrite t.d t.next (Tb.pgs i r)).1, ?_, ?_, ?_⟩
  · unfold Tb.write
    rw [hn]
    have h2 : (jwrite t.d t.next (Tb.pgs i r)).2 = 0 := by rw [ha]
    rw [h2, if_pos rfl]
  · rw [ha]; exact ⟨h.free.off, h.free.left⟩
  · rw [ha]

def freshTb : Tb := ⟨Dsk.new 119, 1, noRefs⟩
theorem freshFree : TFree freshTb := ⟨⟨rfl, rfl⟩, rfl⟩
theorem new_cur (n i : Nat) : (Dsk.new n).cur i = zeros 64 := by unfold Dsk.cur Dsk.new; simp [Dsk.curOf]
theorem num4_zeros : num4 (zeros 64) = 0 := by decide
theorem jlist_new (n : Nat) : jlist (Dsk.new n) = [] := by
  unfold jlist
  rw [if_pos (.inr (by unfold jnum; rw [new_cur, num4_zeros]))]
theorem jopened_new (n : Nat) : jopened (Dsk.new n) = (Dsk.new n, 0) := by unfold jopened; rw [jlist_new, if_neg (by simp)]
theorem nextTo_new (n : Nat) : ∀ k, nextTo (Dsk.new n) 0 (k + 1) = 1
  | 0 => by simp [nextTo, new_cur, num4_zeros]
  | k + 1 => by rw [nextTo, nextTo_new n k, new_cur, num4_zeros]; rfl

def FreshPost (w : World) (e : Ending) (w' : World) : Prop :=
  ∃ b tb jb m, e = .returned (.tuple #[.pointer (some ⟨b, 0, none⟩), .pointer (some ⟨tb, 0, none⟩), .bool true]) ∧ TbAt w' tb jb b m freshTb ∧ Chg [] w w' ∧ (∀ k, k ∈ tb :: jb :: m.foot b → w.heap.size ≤ k)

set_option maxRecDepth 100000 in
set_option maxHeartbeats 1000000 in
theorem fresh_spec (w : World) (hT : LinesAt w) : Calls Tryd.prog 27 #[] w (FreshPost w) := by
  have HT := Lib.hid hT
  have h3 : 3 < w.heap.size := World.block_lt_of_cell? w _ (hT 0 (by decide))
  clear hT
  go_enter Tryd.func27, Tryd.ntmps27
  go_wp2_with (go_at_call 35; refine (new_spec 119 _ (by decide)).mono ?_; rintro e w1 ⟨b, m, rfl, hD, hC, hF⟩; have HD := Lib.hid hD; have HC := Lib.hid hC; have HF := Lib.hid hF; clear hD hC hF)
  go_wp2_with (go_at_call 31; refine (jopen_spec b m (Dsk.new 119) w1 HD.out rfl (by decide) (by simp [Dsk.new]) (by rw [jlist_new]; simp) (by rw [jopened_new])).mono ?_; rintro e w2 ⟨jb, m2, rfl, hJ, hjb, hS⟩; rw [jopened_new, nextTo_new] at hJ; have HJ := Lib.hid hJ; have HS := Lib.hid hS; clear hJ hS)
  go_wp2_with (go_at_call 32; refine (lopenz_spec jb b m2 (Dsk.new 119) 1 w2 HJ.out (by decide) rfl (by simp [Dsk.new]) (fun i _ => new_cur _ _)).mono ?_; rintro e w3 ⟨tb, rfl, hTa, hC3, htb⟩; have HTa := Lib.hid hTa; have HC3 := Lib.hid hC3; clear hTa hC3)
  refine bodyPost_ret (results_tmp3 rfl _ _ _) rfl ?_
  have hC2 : Chg [] w w2 := HC.out.step HS.out.1 (fun x hx => .inr (HF.out x hx))
  have hf2 : ∀ k, k ∈ m2.foot b → w.heap.size ≤ k := fun k hk => (HS.out.2 k hk).elim (HF.out k) (Nat.le_trans HC.out.size)
  have hjl := HJ.out.jlt
  have hall : ∀ k, k ∈ tb :: jb :: m2.foot b → w.heap.size ≤ k := by
    intro k hk
    simp only [List.mem_cons] at hk
    rcases hk with e | e | hk
    · have := hC2.size; omega
    · have := HC.out.size; omega
    · exact hf2 k hk
  refine ⟨b, tb, jb, m2, rfl, ⟨HJ.out.chg HC3.out (by simp) (by simp), HTa.out, HT.out.chg (hC2.trans HC3.out) (by simp), fun hk => ?_, fun hk => ?_, (by decide : 109 < 119), (by simp [freshTb, Dsk.new]), (by decide : 1 < 1000000000000)⟩, hC2.trans HC3.out, hall⟩
  · simp only [List.mem_cons] at hk
    rcases hk with e | hk
    · omega
    · have := HJ.out.disk.footlt tb hk; omega
  · have := hall 3 hk
    omega

theorem eql_key (a b : Bytes) (ha : a.length = 32) (hb : b.length = 32) (w : World) : (binOp .eql 29 (.agg (vals a).toArray) (.agg (vals b).toArray)).run Tryd.prog w = .ok (.bool (a == b)) w :=
  run_eql_bytes w 29 5 32 Tryd.underlying29 Tryd.underlying5 Tryd.sizeOf5 a b ha hb

def mainB : Bytes := [109, 97, 105, 110]
def key5 : Bytes := 5 :: zeros 31
def awR : Rf := ⟨mainB, zeros 32, false⟩
def awR5 : Rf := ⟨mainB, key5, false⟩
theorem aw_make : ∃ d1, freshTb.make awR = (⟨d1, 2, noRefs.set 0 awR⟩, 0) ∧ Free d1 ∧ d1.wet = [] := by
  obtain ⟨d1, h1, h2, h3⟩ := Tb.write_free freshFree 0 awR
  refine ⟨d1, ?_, h2, h3⟩
  have e1 : rightB awR.name = true := by decide
  have e2 : freshTb.fd awR.name = -1 := by decide
  have e3 : freshTb.fd [] = 0 := by decide
  unfold Tb.make
  rw [e1, e2, e3, if_neg (by decide), if_neg (by decide), if_neg (by decide)]
  exact h1
theorem aw_move (d1 : Dsk) (h1 : Free d1) (h2 : d1.wet = []) : ∃ d2, Tb.move ⟨d1, 2, noRefs.set 0 awR⟩ mainB key5 = (⟨d2, 3, (noRefs.set 0 awR).set 0 awR5⟩, 0) ∧ Free d2 ∧ d2.wet = [] := by
  obtain ⟨d2, h3, h4, h5⟩ := Tb.write_free (t := ⟨d1, 2, noRefs.set 0 awR⟩) ⟨h1, h2⟩ 0 awR5
  refine ⟨d2, ?_, h4, h5⟩
  have e1 : findN mainB (noRefs.set 0 awR) 0 = 0 := by decide
  have e2 : Tb.get ⟨d1, 2, noRefs.set 0 awR⟩ mainB = some awR := by
    unfold Tb.get Tb.fd
    rw [e1, if_neg (by decide)]
    rfl
  unfold Tb.move
  rw [e2]
  show (if awR.fast = true then _ else Tb.write _ (findN mainB (noRefs.set 0 awR) 0).toNat awR5) = _
  rw [e1, if_neg (by decide)]
  exact h3
theorem aw_get (d2 : Dsk) : Tb.get ⟨d2, 3, (noRefs.set 0 awR).set 0 awR5⟩ mainB = some awR5 := by
  have e1 : findN mainB ((noRefs.set 0 awR).set 0 awR5) 0 = 0 := by decide
  unfold Tb.get Tb.fd
  rw [e1, if_neg (by decide)]
  rfl
theorem aw_drop (d2 : Dsk) (h1 : Free d2) (h2 : d2.wet = []) : ∃ d3, Tb.drop ⟨d2, 3, (noRefs.set 0 awR).set 0 awR5⟩ mainB = (⟨d3, 4, ((noRefs.set 0 awR).set 0 awR5).set 0 Rf.none⟩, 0) := by
  obtain ⟨d3, h3, h4, h5⟩ := Tb.write_free (t := ⟨d2, 3, (noRefs.set 0 awR).set 0 awR5⟩) ⟨h1, h2⟩ 0 Rf.none
  refine ⟨d3, ?_⟩
  have e1 : findN mainB ((noRefs.set 0 awR).set 0 awR5) 0 = 0 := by decide
  unfold Tb.drop
  rw [aw_get]
  show Tb.write _ (findN mainB ((noRefs.set 0 awR).set 0 awR5) 0).toNat Rf.none = _
  rw [e1]
  exact h3
theorem RfS.shape {w : World} {v : Value} {l : List Rf} (h : RfS w v l) : ∃ sp c, v = .slice sp l.length c := by
  rcases h with ⟨rfl, rfl⟩ | ⟨g, c, rfl, _⟩
  · exact ⟨_, _, rfl⟩
  · exact ⟨_, _, rfl⟩
theorem aw_there : there (((noRefs.set 0 awR).set 0 awR5).set 0 Rf.none) = [] := by decide

theorem TStep.own {tb jb b : Nat} {w w1 w2 : World} {m m2 : DMem} (hS : TStep tb jb b w1 m w2 m2) (hC : Chg [] w w1) (hF : ∀ k, k ∈ tb :: jb :: m.foot b → w.heap.size ≤ k) :
    Chg [] w w2 ∧ ∀ k, k ∈ tb :: jb :: m2.foot b → w.heap.size ≤ k := by
  refine ⟨hC.step hS.1 (fun x hx => .inr (hF x hx)), fun k hk => ?_⟩
  simp only [List.mem_cons] at hk hF
  rcases hk with e | e | hk
  · exact hF k (.inl e)
  · exact hF k (.inr (.inl e))
  · rcases hS.2 k hk with h1 | h1
    · exact hF k (.inr (.inr h1))
    · exact Nat.le_trans hC.size h1

section
variable {P : Program} {ops : Array Oper} {Q : Exit → Act → World → Prop} {o : Oper} {a : Act} {rest : List Oper}
/-- An operation under a guard that holds. -/
theorem wpList_wanted {w : World} (hw : Region.wanted o (yielded ops a.tmps) = true) (h : ∀ K : Act → World → Prop, (∀ a w, wpList P ops Q rest a w → K a w) → o.wp P a w K Q) : wpList P ops Q (o :: rest) a w :=
  wpList_step fun K hK => by simp only [hw, if_true]; exact h K hK
theorem wpList_load_midG {w : World} (hw : Region.wanted o (yielded ops a.tmps) = true) (ty : TypeId) (x : Operand) (ho : o.op = .load ty x)
    (b n : Nat) (hx : a.eval x = .pointer (some ⟨b, n, none⟩)) (cs : List Value) (d : TypeDesc) (hc : w.rangeAt b n cs)
    (hu : P.underlying ty = some d) (hd : d.isRow = true) (hi : (P.info? ty).map (·.size) = some cs.length)
    (h : wpList P ops Q rest (a.put o.dst (.agg cs.toArray)) w) : wpList P ops Q (o :: rest) a w :=
  wpList_wanted hw fun _ hK => wp_load_mid ty x ho b n hx cs d hc hu hd hi (hK _ _ h)
end
section
variable {ops : Array Oper} {Q : Exit → Act → World → Prop} {o : Oper} {a : Act} {rest : List Oper} {K : Act → World → Prop}
theorem wp_eql_key {w : World} (x y : Operand) (ho : o.op = .binOp .eql 29 x y 29) (p q : Bytes) (hx : a.eval x = .agg (vals p).toArray) (hy : a.eval y = .agg (vals q).toArray) (hp : p.length = 32) (hq : q.length = 32)
    (h : K (a.put o.dst (.bool (p == q))) w) : o.wp Tryd.prog a w K Q := by
  unfold Oper.wp execOp
  simp only [ho, hx, hy, Sem.run_bind, run_eqGuard_agg _ _ _ _ _ _ _ Tryd.eqGuardType29, eql_key p q hp hq, Result.andThen_ok, Sem.run_pure]
  exact h
theorem wpList_eql_keyG {w : World} (hw : Region.wanted o (yielded ops a.tmps) = true) (x y : Operand) (ho : o.op = .binOp .eql 29 x y 29) (p q : Bytes) (hx : a.eval x = .agg (vals p).toArray) (hy : a.eval y = .agg (vals q).toArray) (hp : p.length = 32) (hq : q.length = 32)
    (h : wpList Tryd.prog ops Q rest (a.put o.dst (.bool (p == q))) w) : wpList Tryd.prog ops Q (o :: rest) a w :=
  wpList_wanted hw fun _ hK => wp_eql_key x y ho p q hx hy hp hq (hK _ _ h)
end
theorem row_key {w : World} {b : Nat} {r : Rf} (hN : w.heap[b]? = some (Obj.cells (rcells r).toArray 48 (0, 0))) : w.rangeAt b 1 (vals r.key) := by
  intro j v hv
  rw [cell_of_row _ _ _ _ _ _ hN, List.getElem?_toArray, Nat.add_comm, show (rcells r)[j + 1]? = (vals r.key ++ [Value.bool r.fast])[j]? from rfl]
  have hj := (List.getElem?_eq_some_iff.1 hv).1
  rw [List.getElem?_append_left hj]; exact hv
set_option maxRecDepth 100000 in
set_option maxHeartbeats 2000000 in
theorem awake_spec (w : World) (hT : LinesAt w) : Calls Tryd.prog 24 #[] w fun e w' => e = .returned (.bool true) ∧ Chg [] w w' := by
  have HT := Lib.hid hT
  clear hT
  obtain ⟨d1, hm, hf1, hw1⟩ := aw_make
  obtain ⟨d2, hv, hf2, hw2⟩ := aw_move d1 hf1 hw1
  obtain ⟨d3, hd⟩ := aw_drop d2 hf2 hw2
  have hg := aw_get d2
  have Hm := Lib.hid hm
  have Hv := Lib.hid hv
  have Hd := Lib.hid hd
  have Hg := Lib.hid hg
  have Hw1 := Lib.hid hw1
  have Hw2 := Lib.hid hw2
  clear hm hv hd hg hf1 hf2 hw1 hw2
  go_enter Tryd.func24, Tryd.ntmps24
  go_wp2_with (go_at_call 27; refine (fresh_spec w HT.out).mono ?_; rintro e w1 ⟨b, tb, jb, m, rfl, hB, hC, hF⟩; have HB := Lib.hid hB; have HC := Lib.hid hC; have HF := Lib.hid hF; clear hB hC hF)
  go_wp2_with (go_at_call 28; refine (make_spec tb jb b m freshTb awR w1 HB.out rfl (by simp [freshTb, Dsk.new]) (by decide)).mono ?_; rintro e w2 ⟨he, m2, hB, hS⟩; rw [Hm.out] at he hB; subst he; have HO2 := Lib.hid (hS.own HC.out HF.out); have HB2 := Lib.hid hB; clear hB hS)
  go_wp2_with (go_at_call 36; refine (move_spec tb jb b m2 _ mainB key5 w2 HB2.out rfl (by rw [Hw1.out]; decide) (by decide : 2 < 999999999999)).mono ?_; rintro e w3 ⟨he, m3, hB, hS⟩; rw [Hv.out] at he hB; subst he; have HO3 := Lib.hid (hS.own HO2.out.1 HO2.out.2); have HB3 := Lib.hid hB; clear hB hS)
  go_wp2_with (first
    | (go_at_call 34; refine (get_some_spec tb jb b m3 _ mainB awR5 w3 HB3.out Hg.out).mono ?_; rintro e w4 ⟨rfl, hC4⟩; have HC4 := Lib.hid hC4; have HCN : Hid (Chg [] w4 (w4.alloc (Obj.cells (rcells awR5).toArray 48))) := Lib.hid ((Chg.refl [] w4).alloc _); clear hC4)
    | (refine wpList_store_new rfl 48 (.tmp 6) (.tmp 24) rfl _ _ rfl 48 _ _ (rcells awR5).toArray rfl (by rfl) rfl rfl (by rw [size48]; rfl) (all_oneCell_toArray (rcells_one _)) ?_)
    | (refine wpList_load_midG (by rfl) 29 (.tmp 37) rfl w4.heap.size 1 (by rfl) (vals key5) _ (row_key (r := awR5) (heap_alloc_new _ _)) Tryd.underlying29 rfl (by rw [size29]; rfl) ?_)
    | (refine wpList_eql_keyG (by rfl) (.tmp 38) (.tmp 39) rfl key5 key5 (by rfl) (by rfl) rfl rfl ?_; rw [beq_self_eq_true key5])
    | (go_at_call 37; refine (drop_spec tb jb b m3 _ mainB _ (HB3.out.chg0 (HC4.out.trans HCN.out)) (by rw [Hw2.out]; decide) (by decide : 3 < 999999999999)).mono ?_; rintro e w5 ⟨he, m5, hB, hS⟩; rw [Hd.out] at he hB; subst he; have HO5 := Lib.hid (hS.own (HO3.out.1.trans (HC4.out.trans HCN.out)) HO3.out.2); have HB5 := Lib.hid hB; clear hB hS)
    | (go_at_call 33; refine (all_spec tb jb b m5 _ w5 HB5.out).mono ?_; rintro e w6 ⟨v, l, rfl, hR, hp, -, hC6, -⟩; rw [aw_there] at hp; obtain rfl : l = [] := hp.eq_nil; obtain ⟨sp, c, rfl⟩ := hR.shape; have HC6 := Lib.hid hC6; clear hR hp hC6))
  go_ret
  exact ⟨rfl, HO5.out.1.trans HC6.out⟩

end Go.Proofs.YtaacejpienbkgaaDoor
