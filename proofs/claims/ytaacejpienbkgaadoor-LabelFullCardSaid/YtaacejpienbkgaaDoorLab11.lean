/- label.All, walked. -/
import Derived.Test.YtaacejpienbkgaaDoorLab10
import Derived.Test.YtaacejpienbkgaaDoorLab9
import Derived.Shelf.SlSortCmp.NoneTotal
namespace Go.Proofs.YtaacejpienbkgaaDoor
open Go.RowKit

section
variable {P : Program} {ops : Array Oper} {Q : Exit → Act → World → Prop} {o : Oper} {a : Act} {rest : List Oper}
/-- An element of an array by value, of many cells. -/
theorem run_index_agg (w : World) (t e : TypeId) (n k size : Nat) (cs sub : Array Value) (ht : P.underlying t = some (.array n e)) (hag : (isAgg e).run P w = .ok true w) (hsz : (sizeOf e).run P w = .ok size w)
    (hk : k < n) (hsub : cs.extract (k * size) (k * size + size) = sub) : (Instr.index t (.agg cs) (.int .i64 k)).run P w = .ok (.agg sub) w := by
  have h1 : (0 : Int) ≤ (k : Int) ∧ (k : Int) < (n : Int) := by omega
  have hsz' : Sem.run P (sizeOf e) w = .ok size w := hsz
  have hag' : Sem.run P (isAgg e) w = .ok true w := hag
  have h2 : ¬ n ≤ k := by omega
  simp [Instr.index, run_underlying ht, asIntOf, part, hsz', hag', h1, h2, hsub, Result.andThen]
theorem wpList_index_agg {w : World} (hgd : o.guard = none) (t : TypeId) (x y : Operand) (ho : o.op = .index t x y) (e : TypeId) (n k size : Nat) (cs sub : Array Value) (hx : a.eval x = .agg cs) (hy : a.eval y = .int .i64 k) (ht : P.underlying t = some (.array n e))
    (hag : ∀ w, (isAgg e).run P w = .ok true w) (hsz : ∀ w, (sizeOf e).run P w = .ok size w) (hk : k < n) (hsub : cs.extract (k * size) (k * size + size) = sub)
    (h : wpList P ops Q rest (a.put o.dst (.agg sub)) w) : wpList P ops Q (o :: rest) a w :=
  wpList_plain hgd fun _ hK => by
    unfold Oper.wp execOp
    simp only [ho, hx, hy, Sem.run_bind, run_index_agg w t e n k size cs sub ht (hag w) (hsz w) hk hsub, Result.andThen_ok, Sem.run_pure]
    exact hK _ _ h
end

theorem size132 : (Tryd.prog.info? 132).map (·.size) = some 408 := by kernel_rfl
theorem flat_length : ∀ (l : List Rf), (∀ r ∈ l, r.key.length = 32) → (l.flatMap rcells).length = l.length * 34
  | [], _ => rfl
  | x :: r, h => by
    rw [List.flatMap_cons, List.length_append, rcells_length (h x (by simp)), flat_length r (fun y hy => h y (by simp [hy])), List.length_cons]
    omega
theorem TAt.flat {w : World} {tb jb : Nat} {l : List Rf} (h : TAt w tb jb l) : w.rangeAt tb 1 (l.flatMap rcells) ∧ (l.flatMap rcells).length = 408 := by
  have hk : ∀ r, r ∈ l → r.key.length = 32 := fun r hr => (h.key r hr).1
  have hl : (l.flatMap rcells).length = 408 := by rw [flat_length l hk, h.len]
  refine ⟨fun j v hv => ?_, hl⟩
  have hj : j < 408 := by rw [← hl]; exact (List.getElem?_eq_some_iff.1 hv).1
  have hlt : j / 34 < l.length := by rw [h.len]; omega
  have hm : j % 34 < 34 := Nat.mod_lt _ (by decide)
  have e : j / 34 * 34 + j % 34 = j := by omega
  have hg := refs_get l hk (j / 34) (j % 34) hlt hm
  rw [e, hv] at hg
  have h1 := h.ref (j / 34) hlt (j % 34) v hg.symm
  rw [show 1 + j / 34 * 34 + j % 34 = 1 + j by omega] at h1
  exact h1
theorem flat_extract {l : List Rf} (hk : ∀ r, r ∈ l → r.key.length = 32) (k : Nat) (h : k < l.length) : (l.flatMap rcells).toArray.extract (k * 34) (k * 34 + 34) = (rcells l[k]).toArray := by
  apply Array.ext_getElem?
  intro j
  have hlen := flat_length l hk
  have hrl := rcells_length (hk _ (List.getElem_mem h))
  have hb : k * 34 + 34 ≤ l.length * 34 := by omega
  rw [Array.getElem?_extract]
  by_cases hj : j < 34
  · rw [if_pos (by simp [hlen]; omega), List.getElem?_toArray, List.getElem?_toArray, refs_get l hk k j h hj]
  · rw [if_neg (by simp [hlen]; omega), List.getElem?_toArray, List.getElem?_eq_none (by omega)]

/-- The refs that there are. -/
def there (l : List Rf) : List Rf := l.filter fun r => decide (r.name ≠ [])
theorem there_to (l : List Rf) (k : Nat) (hk : k < l.length) : there (l.take (k + 1)) = there (l.take k) ++ if l[k].name = [] then [] else [l[k]] := by
  unfold there
  rw [List.take_succ_eq_append_getElem hk, List.filter_append]
  by_cases h : l[k].name = [] <;> simp [h]

/-- A slice of refs that can be read. -/
def RfS (w : World) (v : Value) (l : List Rf) : Prop :=
  (v = .slice none 0 0 ∧ l = []) ∨ ∃ g cap, v = .slice (some ⟨g, 0, none⟩) l.length cap ∧ l.length ≤ cap ∧ RowAt w g l ∧ g < w.heap.size
def AllPost (t : Tb) (w : World) (e : Ending) (w' : World) : Prop :=
  ∃ v l, e = .returned v ∧ RfS w' v l ∧ l.Perm (there t.l) ∧ (∀ (i j : Nat) (hij : i < j) (hj : j < l.length), ¬ l[j].name < (l[i]'(by omega)).name) ∧ Chg [] w w' ∧ ∀ k, v.ownBlock = some k → w.heap.size ≤ k

def AllRel (t : Tb) (w : World) (lv x : Value) (wr : World) : Prop :=
  ∃ k : Nat, k ≤ 12 ∧ x = .int .i64 k ∧ wr.ownsRow w.heap.size 48 34 lv (there (t.l.take k)).length ((there (t.l.take k)).flatMap rcells) ∧ Chg [] w wr

theorem info48 : (Tryd.prog.info? 48).map (fun i => (i.zero, i.size, i.bytes)) = some (some (.agg (rcells Rf.none).toArray), 34, 56) := by kernel_rfl

set_option maxRecDepth 100000 in
set_option maxHeartbeats 1000000 in
theorem all_spec (tb jb b : Nat) (m : DMem) (t : Tb) (w : World) (h : TbAt w tb jb b m t) :
    Calls Tryd.prog 33 #[.pointer (some ⟨tb, 0, none⟩)] w (AllPost t w) := by
  obtain ⟨i0, hi, hz0, hz1, hz2⟩ := info_parts info48
  have H := Lib.hid h
  have HF := Lib.hid h.tab.flat
  have HK : Hid (∀ r, r ∈ t.l → r.key.length = 32) := Lib.hid fun r hr => (h.tab.key r hr).1
  have hl12 := h.tab.len
  clear h
  go_enter Tryd.func33, Tryd.ntmps33
  go_wp2_with (first
    | (refine wpList_load_mid rfl 132 (.tmp 10) rfl tb 1 (by rfl) (t.l.flatMap rcells) _ HF.out.1 Tryd.underlying132 rfl (by rw [size132, HF.out.2]) ?_))
  go_loopw [3, 12] (fun lv x wr => AllRel t w lv x wr) (fun _ x _ => 12 - (intOf x).toNat)
  case atStart => exact ⟨0, by omega, rfl, World.ownsRow_nil _ _ _ _, Chg.refl _ _⟩
  case round =>
    obtain ⟨k, hk, rfl, hO, hC⟩ := hrel
    have HO := Lib.hid hO
    have HC := Lib.hid hC
    clear hO hC
    by_cases hlt : k < 12
    · have hkl : k < t.l.length := by omega
      obtain ⟨r, hr⟩ : ∃ r, r = t.l[k] := ⟨_, rfl⟩
      have hto := there_to t.l k hkl
      have hrk : r.key.length = 32 := by rw [hr]; exact HK.out _ (List.getElem_mem hkl)
      have hex := flat_extract HK.out k hkl
      rw [← hr] at hto hex
      obtain ⟨c, hc⟩ : ∃ c, c = there (t.l.take k) := ⟨_, rfl⟩
      have hcl : c.length ≤ 12 := by rw [hc]; exact Nat.le_trans (List.length_filter_le _ _) (by simp; omega)
      rw [← hc] at HO hto
      have Hto := Lib.hid hto
      have Hex := Lib.hid hex
      have Hl := Lib.hid (rcells_length hrk)
      have h00 : (rcells r)[0]? = some (.string ⟨r.name.toArray⟩) := rfl
      clear hto hr hc hrk hex
      by_cases hne : r.name = []
      · have he : r.name.isEmpty = true := by rw [hne]; rfl
        have Hne := Lib.hid hne
        clear hne
        go_wp2_with (first
          | (refine wpList_index_agg rfl 132 (.tmp 11) (.tmp 12) rfl 48 12 k 34 _ (rcells r).toArray (by rfl) (by rfl) Tryd.underlying132 Tryd.isAgg48 Tryd.sizeOf48 hlt Hex.out ?_)
          | (refine wpList_store_new rfl 48 (.tmp 5) (.tmp 14) rfl _ _ rfl 48 _ _ (rcells r).toArray rfl (by rfl) rfl (by simp only [List.size_toArray, Hl.out]; rfl) (by rw [size48, List.size_toArray, Hl.out]) (all_oneCell_toArray (rcells_one _)) ?_))
        go_roundw
        case rel =>
          refine ⟨k + 1, by omega, by go_num, ?_, HC.out.alloc _⟩
          rw [Hto.out, if_pos Hne.out, List.append_nil]
          exact HO.out.alloc _
        case measure => simp [intOf]; omega
      · have he : r.name.isEmpty = false := by cases h : r.name with
          | nil => exact absurd h hne
          | cons x y => rfl
        have Hne := Lib.hid hne
        clear hne
        go_wp2_with (first
          | (refine wpList_index_agg rfl 132 (.tmp 11) (.tmp 12) rfl 48 12 k 34 _ (rcells r).toArray (by rfl) (by rfl) Tryd.underlying132 Tryd.isAgg48 Tryd.sizeOf48 hlt Hex.out ?_)
          | (refine wpList_store_new rfl 48 (.tmp 5) (.tmp 14) rfl _ _ rfl 48 _ _ (rcells r).toArray rfl (by rfl) rfl (by simp only [List.size_toArray, Hl.out]; rfl) (by rw [size48, List.size_toArray, Hl.out]) (all_oneCell_toArray (rcells_one _)) ?_)
          | (refine wpList_load_mid rfl 48 (.tmp 5) rfl wr.heap.size 0 (by rfl) (rcells r) _ (range_of_row (heap_alloc_new _ _)) Tryd.underlying48 rfl (by rw [size48, Hl.out]) ?_)
          | (refine wpList_buildSlice_one rfl 56 (.tmp 19) rfl 48 i0 _ (rcells r).toArray (by rfl) Tryd.underlying56 hi hz0 (by rw [hz1, List.size_toArray, Hl.out]) (by simp only [List.size_toArray, Hl.out]; rfl) (by rw [List.size_toArray, Hl.out]; decide) (by rw [List.size_toArray, Hl.out]; decide) ?_)
          | (refine wpList_append_own2 rfl _ (.tmp 18) (.tmp 20) 56 rfl w.heap.size 48 i0 _ 34 56 Tryd.underlying56 hi hz0 hz1 hz2 rfl (by decide) _ c.length (c.flatMap rcells) (by rfl) ((HO.out.alloc _).alloc _) ⟨(wr.alloc (Obj.cells (rcells r).toArray 48)).heap.size, 0, none⟩ 1 1 (rcells r) (by rfl) (by rw [Hl.out]) (fun j u hu => by rw [Addr.add_mid, Nat.zero_add]; exact (cell_of_row _ _ _ _ _ _ (heap_alloc_new _ _)).trans (by simpa using hu)) (rcells_one _) (by unfold maxLen; omega) (by omega) (by have h := HC.out.size; simp; omega) ?_; intro lv2 w2 hO2 hG2 hN2 hF2))
        have hCw : Chg [] w ((wr.alloc (Obj.cells (rcells r).toArray 48)).alloc (Obj.cells (rcells r).toArray 48)) := (HC.out.alloc _).alloc _
        have hC2 : Chg [] w w2 := hCw.grown hG2 (fun x hx => .inr (HO.out.lt x hx).1)
        have HO2 := Lib.hid hO2
        have HC2 := Lib.hid hC2
        clear hO2 hC2 hCw hG2 hN2 hF2
        go_wp2
        go_roundw
        case rel =>
          refine ⟨k + 1, by omega, by go_num, ?_, HC2.out⟩
          rw [Hto.out, if_neg Hne.out, List.length_append, List.flatMap_append]
          have h := HO2.out
          simpa using h
        case measure => simp [intOf]; omega
    · obtain rfl : k = 12 := by omega
      have ht12 : t.l.take 12 = t.l := List.take_of_length_le (by omega)
      rw [ht12] at HO
      obtain ⟨c, hc⟩ : ∃ c, c = there t.l := ⟨_, rfl⟩
      have hcl : c.length ≤ 12 := by rw [hc]; exact Nat.le_trans (List.length_filter_le _ _) (by omega)
      have hck : ∀ r, r ∈ c → r.key.length = 32 := fun r hr => HK.out r (by rw [hc] at hr; exact (List.mem_filter.1 hr).1)
      rw [← hc] at HO
      have Hc := Lib.hid hc
      have Hck := Lib.hid hck
      clear hc hck ht12
      rcases HO.out.2 with ⟨hu, hn⟩ | ⟨g, cap, cur, hu, hbg, hg, hnc, hcm, hcs, htake⟩
      · subst hu
        have hcon := fun W => AnyF.slices_SortFunc_none Tryd.sortRef none 0 (.func (.func 74) #[] #[]) W
        change ∀ W, Calls Tryd.prog 73 #[.slice none 0 0, .func (.func 74) #[] #[]] W _ at hcon
        have Hcon := Lib.hid hcon
        have Hn := Lib.hid hn
        clear hcon hn
        go_wp2_with (first | (go_at_call 73; refine (Hcon.out _).mono ?_; rintro e w2 ⟨rfl, rfl⟩))
        go_ret
        have hc0 : c = [] := List.eq_nil_of_length_eq_zero Hn.out
        refine ⟨.slice none 0 0, [], rfl, .inl ⟨rfl, rfl⟩, ?_, fun i j hij hj => by simp at hj, HC.out, fun k hk => by simp [Value.ownBlock] at hk⟩
        rw [← Hc.out, hc0]
      · subst hu
        obtain ⟨ds, hds⟩ : ∃ ds : List Rx, ds.map (·.1) = c := ⟨c.attachWith (fun r => r.key.length = 32) Hck.out, List.attachWith_map_subtype_val Hck.out⟩
        have hrow : RowAt wr g (ds.map (·.1)) := by
          rw [hds]
          intro k hk' j v hv
          have hj : j < 34 := by
            have := (List.getElem?_eq_some_iff.1 hv).1
            rwa [rcells_length (Hck.out _ (List.getElem_mem hk'))] at this
          have h1 := World.ownsRow.cells HO.out (g := g) rfl (k * 34 + j) v (by rw [refs_get c Hck.out k j hk' hj]; exact hv)
          rwa [Addr.add_mid, Nat.zero_add] at h1
        have hdl : ds.length = c.length := by rw [← hds]; simp
        have hcon := sortref_spec g cap cur ds wr hg hrow (by omega)
        rw [hdl] at hcon
        have Hcon := Lib.hid hcon
        have Hds := Lib.hid hds
        have Hhc := Lib.hid hcm
        have Hnc := Lib.hid hnc
        clear hcon hds hrow hg htake hcs
        go_wp2_with (first | (go_at_call 73; refine Hcon.out.mono ?_; rintro e w2 ⟨rfl, ds', hp, hs, hR2, hC2⟩; have HR2 := Lib.hid hR2; have HC2 := Lib.hid hC2; have Hs := Lib.hid hs; have Hp := Lib.hid hp; clear hR2 hC2 hs hp))
        go_ret
        have hl' : (ds'.map (·.1)).length = c.length := by rw [List.length_map, Hp.out.length_eq, hdl]
        refine ⟨.slice (some ⟨g, 0, none⟩) c.length cap, ds'.map (·.1), rfl, .inr ⟨g, cap, by rw [hl'], by rw [hl']; exact Hnc.out, HR2.out, ?_⟩, ?_, ?_, HC.out.step HC2.out (fun x hx => .inr (by simp only [List.mem_singleton] at hx; omega)), fun k hk => by simp only [Value.ownBlock, Option.some.injEq] at hk; omega⟩
        · have h1 := (HO.out.lt g rfl).2
          exact Nat.lt_of_lt_of_le h1 HC2.out.size
        · rw [← Hc.out, ← Hds.out]
          exact Hp.out.map _
        · intro i j hij hj
          rw [List.getElem_map, List.getElem_map]
          exact Hs.out i j hij (by simpa using hj)

end Go.Proofs.YtaacejpienbkgaaDoor
