/- Laws for single operations: a new variable stored whole; copy onto a block known whole; append onto one's own bytes. -/
import Derived.Test.YtaacejpienbkgaaDoorDisk0
import Derived.Laws.CopyOwn
import Derived.Lib.AppendStr
import Derived.Laws.BytesArg
import Derived.Laws.MakeOwn
import Derived.Deep.RegionHeld3
namespace Go.Proofs.YtaacejpienbkgaaDoor
open Go.RowKit

theorem setRow_alloc (W : World) (z cs : Array Value) (t : TypeId) (fr : Nat × Nat) : (W.alloc (.cells z t fr)).setRow W.heap.size cs = W.alloc (.cells cs t fr) := by
  unfold World.setRow World.alloc
  congr 1
  apply Array.ext_getElem?
  intro i
  rw [Array.getElem?_modify]
  by_cases h : W.heap.size = i
  · subst h
    simp
  · simp only [h, if_false]
    rw [Array.getElem?_push, Array.getElem?_push]
    simp [Ne.symm h]

theorem setCells_shape (b : Nat) (t : TypeId) : ∀ (vs : List Value) (o : Nat) (w : World) (cs : Array Value), w.heap[b]? = some (.cells cs t (0, 0)) →
    ∃ cs' : Array Value, (w.setCells b o vs).heap[b]? = some (.cells cs' t (0, 0)) ∧ cs'.size = cs.size
  | [], _, _, cs, h => ⟨cs, h, rfl⟩
  | v :: r, o, w, cs, h => by
    obtain ⟨cs', h1, h2⟩ := setCells_shape b t r (o + 1) (w.setCell ⟨b, o, none⟩ v) _ (heap_setCell_same w b o cs t v h)
    exact ⟨cs', h1, by simpa using h2⟩
/-- A whole block is written. -/
theorem setCells_whole {w : World} {b : Nat} {t : TypeId} {cs : Array Value} (h : w.heap[b]? = some (.cells cs t (0, 0))) (vs : List Value) (hl : vs.length = cs.size) :
    (w.setCells b 0 vs).heap[b]? = some (.cells vs.toArray t (0, 0)) := by
  obtain ⟨cs', h1, h2⟩ := setCells_shape b t vs 0 w cs h
  rw [h1]
  congr 2
  apply Array.ext_getElem?
  intro j
  by_cases hj : j < vs.length
  · have h3 := World.cell?_setCells_in b vs 0 w (fun i hi => by rw [Nat.zero_add, cell_of_row w b i cs t _ h]; simp; omega) j hj
    rw [Nat.zero_add, cell_of_row _ b j cs' t _ h1] at h3
    rw [h3]; simp [hj]
  · rw [Array.getElem?_eq_none (by omega), Array.getElem?_eq_none (by simp; omega)]

section
variable {P : Program} {ops : Array Oper} {rest : List Oper} {o : Oper} {a : Act} {Q : Exit → Act → World → Prop} {K : Act → World → Prop}

/-- A new variable is filled whole: the world is as if it had been laid so. -/
theorem run_store_new (W : World) (g : Nat) (hg : g = W.heap.size) (ty t : TypeId) (z cells : Array Value) (hz : z.size = cells.size) (hi : (P.info? ty).map (·.size) = some cells.size) (h1 : cells.all (·.oneCell') = true) :
    (Instr.storeAt ty (.pointer (some ⟨g, 0, none⟩)) (.agg cells)).run P (W.alloc (.cells z t)) = .ok () (W.alloc (.cells cells t)) := by
  subst hg
  have hh := heap_alloc_new W (.cells z t)
  have hst := run_storeCells_at P W.heap.size 0 t cells.toList 0 z (W.alloc (.cells z t)) hh (by simp [hz]) (fun v hv => (Array.all_eq_true_iff_forall_mem.1 h1) v (by simpa using hv))
  have e : (z.toList.take (0 + 0) ++ cells.toList ++ z.toList.drop (0 + 0 + cells.toList.length)).toArray = cells := by
    simp [List.drop_eq_nil_of_le (show z.toList.length ≤ cells.size by simp [hz])]
  rw [e, setRow_alloc] at hst
  cases hq : P.info? ty with
  | none => simp [hq] at hi
  | some i =>
    have hs : cells.size = i.size := by simp [hq] at hi; omega
    simp [Instr.storeAt, Instr.sureAddr, storeVar, sizeOf, typeInfo, hq, Value.cells, hs, hst]

theorem wp_store_new (ty : TypeId) (x y : Operand) (ho : o.op = .store ty x y) (W : World) (g : Nat) (hg : g = W.heap.size) (t : TypeId) (z cells cells' : Array Value)
    (hx : a.eval x = .pointer (some ⟨g, 0, none⟩)) (hy : a.eval y = .agg cells) (hc : cells = cells') (hz : z.size = cells'.size) (hi : (P.info? ty).map (·.size) = some cells'.size) (h1 : cells'.all (·.oneCell') = true)
    (h : K (a.put o.dst undef) (W.alloc (.cells cells' t))) : o.wp P a (W.alloc (.cells z t)) K Q := by
  subst hc
  have hr := run_store_new (P := P) W g hg ty t z cells hz hi h1
  unfold Oper.wp execOp
  simp only [ho, hx, hy, Sem.run_bind, hr, Result.andThen_ok, Sem.run_pure]
  exact h
theorem wpList_store_new (hgd : o.guard = none) (ty : TypeId) (x y : Operand) (ho : o.op = .store ty x y) (W : World) (g : Nat) (hg : g = W.heap.size) (t : TypeId) (z cells cells' : Array Value)
    (hx : a.eval x = .pointer (some ⟨g, 0, none⟩)) (hy : a.eval y = .agg cells) (hc : cells = cells') (hz : z.size = cells'.size) (hi : (P.info? ty).map (·.size) = some cells'.size) (h1 : cells'.all (·.oneCell') = true)
    (h : wpList P ops Q rest (a.put o.dst undef) (W.alloc (.cells cells' t))) : wpList P ops Q (o :: rest) a (W.alloc (.cells z t)) :=
  wpList_plain hgd fun _ hK => wp_store_new ty x y ho W g hg t z cells cells' hx hy hc hz hi h1 (hK _ _ h)

/-- 'copy(dst, src)', bytes: dst lies in a block known whole. -/
theorem wp_copy_bytes {w : World} (d s : Operand) (ho : o.op = .call { callee := .builtin .copy, args := #[d, s], argTypes := #[22, 22] }) (hu : P.underlying 22 = some (.slice 5)) (hsz : (P.info? 5).map (·.size) = some 1)
    (g off dLen dCap : Nat) (sv : Value) (hd : a.eval d = .slice (some ⟨g, off, none⟩) dLen dCap) (hs : a.eval s = sv) (xs : Bytes) (hS : SlB w sv xs) (hle : xs.length ≤ dLen)
    (pre mid post : List Value) (t : TypeId) (hg : w.heap[g]? = some (.cells (pre ++ mid ++ post).toArray t (0, 0))) (hoff : pre.length = off) (hmid : mid.length = xs.length)
    (h : ∀ w', w'.heap[g]? = some (.cells (pre ++ vals xs ++ post).toArray t (0, 0)) → Chg [g] w w' → K (a.put o.dst (.int .i64 xs.length)) w') : o.wp P a w K Q := by
  subst hs
  by_cases h0 : xs.length = 0
  · obtain rfl : xs = [] := List.eq_nil_of_length_eq_zero h0
    obtain rfl : mid = [] := List.eq_nil_of_length_eq_zero (by simpa using hmid)
    obtain ⟨sp, sCap, hsv⟩ : ∃ sp sCap, a.eval s = .slice sp 0 sCap := by
      rcases hS with ⟨h, _⟩ | ⟨b, o', cap, h, _⟩
      · exact ⟨_, _, h⟩
      · exact ⟨_, _, h⟩
    have hrun := run_copy_none (P := P) w 22 22 o.type 5 (some ⟨g, off, none⟩) sp dLen dCap 0 sCap hu hsz (by simp)
    unfold Oper.wp
    simp [execOp, ho, resolve, invoke, builtin, hd, hsv, hrun, Result.andThen]
    exact h w (by simpa using hg) (Chg.refl _ _)
  · rcases hS with ⟨_, h⟩ | ⟨b, o', cap, hsv, _, hr, _⟩
    · subst h; exact absurd rfl h0
    · have hrun := run_copy_row (P := P) w 22 22 o.type 5 g off dLen dCap ⟨b, o', none⟩ xs.length cap _ t (vals xs) hu hsz hg (by rw [vals_length]; exact (Nat.min_eq_left hle).symm) (fun j v hv => by rw [Addr.add_mid]; exact hr j v hv) (by simp; omega) (oneCell_vals xs)
      have e : (((pre ++ mid ++ post).toArray.toList.take off) ++ vals xs ++ ((pre ++ mid ++ post).toArray.toList.drop (off + (vals xs).length))).toArray = (pre ++ vals xs ++ post).toArray := by
        congr 1
        have e1 : (pre ++ mid ++ post).take off = pre := by
          rw [List.append_assoc, ← hoff]; exact List.take_left
        have e2 : (pre ++ mid ++ post).drop (off + (vals xs).length) = post := by
          rw [vals_length, ← hoff, ← hmid, ← List.length_append]; exact List.drop_left
        simp only [e1, e2]
      rw [e, vals_length] at hrun
      have hk := h _ (setRow_heap w g _ (pre ++ vals xs ++ post).toArray t _ hg) ((Chg.refl _ _).setRow (.inl (by simp)) _)
      generalize (pre ++ vals xs ++ post).toArray = R at hrun hk
      unfold Oper.wp
      simp [execOp, ho, resolve, invoke, builtin, hd, hsv, hrun, Result.andThen]
      exact hk
theorem wpList_copy_bytes {w : World} (hgd : o.guard = none) (d s : Operand) (ho : o.op = .call { callee := .builtin .copy, args := #[d, s], argTypes := #[22, 22] }) (hu : P.underlying 22 = some (.slice 5)) (hsz : (P.info? 5).map (·.size) = some 1)
    (g off dLen dCap : Nat) (sv : Value) (hd : a.eval d = .slice (some ⟨g, off, none⟩) dLen dCap) (hs : a.eval s = sv) (xs : Bytes) (hS : SlB w sv xs) (hle : xs.length ≤ dLen)
    (pre mid post : List Value) (t : TypeId) (hg : w.heap[g]? = some (.cells (pre ++ mid ++ post).toArray t (0, 0))) (hoff : pre.length = off) (hmid : mid.length = xs.length)
    (h : ∀ w', w'.heap[g]? = some (.cells (pre ++ vals xs ++ post).toArray t (0, 0)) → Chg [g] w w' → wpList P ops Q rest (a.put o.dst (.int .i64 xs.length)) w') : wpList P ops Q (o :: rest) a w :=
  wpList_plain hgd fun _ hK => wp_copy_bytes d s ho hu hsz g off dLen dCap sv hd hs xs hS hle pre mid post t hg hoff hmid (fun w' h1 h2 => hK _ _ (h w' h1 h2))

theorem made_bytes (C : Nat) : madeCells #[.int .u8 0] C = (vals (zeros C)).toArray := by
  apply Array.ext_getElem?
  intro j
  by_cases hj : j < C
  · have h1 : (vals (zeros C)).toArray[j]? = some (B 0) := (List.getElem?_toArray (xs := vals (zeros C))).trans (vals_zeros_get hj)
    rw [h1]
    simp [madeCells, hj, Nat.mod_one]
    rfl
  · rw [Array.getElem?_eq_none (by simp [madeCells]; omega), Array.getElem?_eq_none (by simp; omega)]
/-- 'make([]byte, l, c)' at written sizes. -/
theorem wp_make_bytes {w : World} (l c : Nat) (x y : Operand) (ho : o.op = .makeSlice 22 x y) (hx : a.eval x = .int .i64 l) (hy : a.eval y = .int .i64 c) (hu : P.underlying 22 = some (.slice 5)) (h5 : (P.info? 5).map (fun i => (i.zero, i.size, i.bytes)) = some (some (.int .u8 0), 1, 1))
    (hlc : l ≤ c) (hc : c ≤ 1000000) (h : K (a.put o.dst (.slice (some ⟨w.heap.size, 0, none⟩) l c)) (w.alloc (.cells (vals (zeros c)).toArray 5))) : o.wp P a w K Q := by
  obtain ⟨i0, hi, hz0, hz1, hz2⟩ := info_parts h5
  have hr := run_make (P := P) w 22 5 i0 (.int .u8 0) hu hi hz0 .i64 .i64 l c (by omega) (by omega) (by rw [hz2]; omega) (by omega)
  rw [hz1, Nat.mul_one, Int.toNat_natCast, Int.toNat_natCast, show (Value.int IntKind.u8 0).cells = #[.int .u8 0] from rfl, made_bytes] at hr
  unfold Oper.wp execOp
  simp only [ho, hx, hy, Sem.run_bind, hr, Result.andThen_ok, Sem.run_pure]
  exact h
theorem wpList_make_bytes {w : World} (hgd : o.guard = none) (l c : Nat) (x y : Operand) (ho : o.op = .makeSlice 22 x y) (hx : a.eval x = .int .i64 l) (hy : a.eval y = .int .i64 c) (hu : P.underlying 22 = some (.slice 5)) (h5 : (P.info? 5).map (fun i => (i.zero, i.size, i.bytes)) = some (some (.int .u8 0), 1, 1))
    (hlc : l ≤ c) (hc : c ≤ 1000000) (h : wpList P ops Q rest (a.put o.dst (.slice (some ⟨w.heap.size, 0, none⟩) l c)) (w.alloc (.cells (vals (zeros c)).toArray 5))) : wpList P ops Q (o :: rest) a w :=
  wpList_plain hgd fun _ hK => wp_make_bytes l c x y ho hx hy hu h5 hlc hc (hK _ _ h)

/-- Bytes as a string. -/
def str (xs : Bytes) : Value := .string ⟨xs.toArray⟩
theorem run_convert_slb {w : World} {v : Value} {xs : Bytes} (hS : SlB w v xs) (hu : P.underlying 22 = some (.slice 5)) (he : P.underlying 5 = some (.int .u8)) (hd : P.underlying 9 = some .string) :
    (convert 22 9 v).run P w = .ok (str xs) w := by
  rcases hS with ⟨rfl, rfl⟩ | ⟨b, o', cap, rfl, hc, hr, _⟩
  · rw [run_convert_bytes_nil w 22 5 hu he 0 0 9 hd]; rfl
  · have := run_convert_bytes_arg (P := P) w 22 5 hu he b o' xs.length cap (xs.map fun x => (x.toNat : Int)) (by simp) (fun i hi => by
      have h1 := hr i (B xs[i]) (by rw [vals_getElem?, List.getElem?_eq_getElem hi]; rfl)
      rw [h1]; simp [B, hi]) 9 hd
    rw [this]
    unfold str strOfNums
    congr 4
    rw [List.map_map]
    conv => rhs; rw [← List.map_id xs]
    apply List.map_congr_left
    intro x _
    simp
theorem wp_convert_slb {w : World} (x : Operand) (ho : o.op = .convert 22 9 x) (v : Value) (hx : a.eval x = v) (xs : Bytes) (hS : SlB w v xs) (hu : P.underlying 22 = some (.slice 5)) (he : P.underlying 5 = some (.int .u8)) (hd : P.underlying 9 = some .string)
    (h : K (a.put o.dst (str xs)) w) : o.wp P a w K Q := by
  have hr := run_convert_slb (P := P) hS hu he hd
  unfold Oper.wp execOp
  simp only [ho, hx, Sem.run_bind, hr, Result.andThen_ok, Sem.run_pure]
  exact h
theorem wpList_convert_slb {w : World} (hgd : o.guard = none) (x : Operand) (ho : o.op = .convert 22 9 x) (v : Value) (hx : a.eval x = v) (xs : Bytes) (hS : SlB w v xs) (hu : P.underlying 22 = some (.slice 5)) (he : P.underlying 5 = some (.int .u8)) (hd : P.underlying 9 = some .string)
    (h : wpList P ops Q rest (a.put o.dst (str xs)) w) : wpList P ops Q (o :: rest) a w :=
  wpList_plain hgd fun _ hK => wp_convert_slb x ho v hx xs hS hu he hd (hK _ _ h)
theorem yieldsIf_convert_slb {S : World → Prop} (hw : Region.wanted o (yielded ops a.tmps) = true) (x : Operand) (ho : o.op = .convert 22 9 x) (v : Value) (hx : a.eval x = v) (xs : Bytes) (hS : ∀ w, S w → SlB w v xs) (hu : P.underlying 22 = some (.slice 5)) (he : P.underlying 5 = some (.int .u8)) (hd : P.underlying 9 = some .string) :
    YieldsIf P ops S o (str xs) a :=
  .inl ⟨hw, fun w hw' => by
    have hr := run_convert_slb (P := P) (hS w hw') hu he hd
    unfold execOp
    simp only [ho, hx, Sem.run_bind, hr, Result.andThen_ok, Sem.run_pure]⟩

/-- Where an appended row lies: where it lay, or in a block that was not there. -/
def FreshOr (w : World) (v v' : Value) : Prop := v'.ownBlock = v.ownBlock ∨ ∀ k, v'.ownBlock = some k → w.heap.size ≤ k

theorem FreshOr.le {w W : World} {v v' : Value} (h : FreshOr W v v') (hs : w.heap.size ≤ W.heap.size) : FreshOr w v v' := h.imp id (fun h k hk => Nat.le_trans hs (h k hk))

theorem run_append_own2 (w : World) (base : Nat) (t ty e : TypeId) (i : TypeInfo) (z : Value) (size bytes : Nat) (ht : P.underlying t = some (.slice e)) (hi : P.info? e = some i) (hz : i.zero = some z)
    (hsize : i.size = size) (hby : i.bytes = bytes) (hzs : z.cells.size = size) (hsz : 0 < size)
    (v : Value) (n : Nat) (xs : List Value) (hown : w.ownsRow base e size v n xs)
    (ad : Addr) (m c : Nat) (news : List Value) (hl : news.length = m * size) (hnews : ∀ j u, news[j]? = some u → w.cell? (ad.add j) = some u) (h1 : ∀ u ∈ news, u.oneCell' = true)
    (h63 : n + m ≤ maxLen) (hbytes : (n + m) * bytes ≤ 140737488355328) (hbase : base ≤ w.heap.size) :
    ∃ v' w', (Builtin.append_ #[t, t] ty #[v, .slice (some ad) m c]).run P w = .ok v' w' ∧ w'.ownsRow base e size v' (n + m) (xs ++ news) ∧ w.grownBy w' v.ownBlock ∧
      (v' = .slice none 0 0 ↔ v = .slice none 0 0 ∧ m = 0) ∧ FreshOr w v v' := by
  obtain ⟨v', w', hr, h2, h3, h4⟩ := run_append_own (P := P) w base t ty e i z size bytes ht hi hz hsize hby hzs hsz v n xs hown ad m c news hl hnews h1 h63 hbytes hbase
  refine ⟨v', w', hr, h2, h3, h4, ?_⟩
  have hown' := hown
  subst hsize
  subst hby
  rcases hown.2 with ⟨rfl, rfl⟩ | ⟨g, cap, cur, rfl, hbg, hg, hnc, hcm, hcs, htake⟩
  · have hx : xs = [] := List.eq_nil_of_length_eq_zero (by simpa using hown.1)
    subst hx
    obtain ⟨v2, w2, hr2, h5, _⟩ := run_append_own (P := P) w w.heap.size t ty e i z i.size i.bytes ht hi hz rfl rfl hzs hsz (.slice none 0 0) 0 [] (World.ownsRow_nil _ _ _ _) ad m c news hl hnews h1 h63 hbytes (Nat.le_refl _)
    rw [hr] at hr2
    cases hr2
    exact .inr fun k hk => (h5.lt k hk).1
  · by_cases hroom : n + m ≤ cap
    · have hfit : n * i.size + news.length ≤ cur.size := by rw [hl, hcs, ← Nat.add_mul]; exact Nat.mul_le_mul_right _ hroom
      have hr2 := run_append_room (P := P) w t ty e i ht hi g n cap cur hg ad m c news hl hnews h1 hroom hfit
      rw [hr] at hr2
      cases hr2
      exact .inl rfl
    · have holds : ∀ j u, xs[j]? = some u → w.cell? ((⟨g, 0, none⟩ : Addr).add j) = some u := hown.cells (g := g) rfl
      have hr2 := run_append_grow (P := P) w t ty e i z ht hi hz ⟨g, 0, none⟩ n cap xs hown.1 holds ad m c news hl hnews (by omega) (by unfold maxLen at h63; omega) (growslice_fits (by omega) hbytes)
      rw [hr] at hr2
      cases hr2
      exact .inr fun k hk => by simp [Value.ownBlock] at hk; omega

theorem wp_append_own2 (w : World) (s x : Operand) (t : TypeId)
    (ho : o.op = .call { callee := .builtin .append, args := #[s, x], argTypes := #[t, t] })
    (base : Nat) (e : TypeId) (i : TypeInfo) (z : Value) (size bytes : Nat) (ht : P.underlying t = some (.slice e)) (hi : P.info? e = some i) (hz : i.zero = some z)
    (hsize : i.size = size) (hby : i.bytes = bytes) (hzs : z.cells.size = size) (hsz : 0 < size)
    (v : Value) (n : Nat) (xs : List Value) (hs : a.eval s = v) (hown : w.ownsRow base e size v n xs)
    (ad : Addr) (m c : Nat) (news : List Value) (hx : a.eval x = .slice (some ad) m c) (hl : news.length = m * size) (hnews : ∀ j u, news[j]? = some u → w.cell? (ad.add j) = some u) (h1 : ∀ u ∈ news, u.oneCell' = true)
    (h63 : n + m ≤ maxLen) (hbytes : (n + m) * bytes ≤ 140737488355328) (hbase : base ≤ w.heap.size)
    (h : ∀ v' w', w'.ownsRow base e size v' (n + m) (xs ++ news) → w.grownBy w' v.ownBlock → (v' = .slice none 0 0 ↔ v = .slice none 0 0 ∧ m = 0) → FreshOr w v v' → K (a.put o.dst v') w') : o.wp P a w K Q := by
  obtain ⟨v', w', hr, h2, h3, h4, h5⟩ := run_append_own2 (P := P) w base t o.type e i z size bytes ht hi hz hsize hby hzs hsz v n xs hown ad m c news hl hnews h1 h63 hbytes hbase
  unfold Oper.wp execOp
  simp only [ho, resolve, invoke, builtin, Sem.run_bind, Sem.run_pure, Result.andThen_ok, List.map_toArray, List.map_cons, List.map_nil, hs, hx, hr]
  exact h v' w' h2 h3 h4 h5

/-- 'append(dst, src...)' of bytes onto bytes of one's own: dst may grow; src whatever. -/
theorem wp_append_bytes {w : World} (d s : Operand) (ho : o.op = .call { callee := .builtin .append, args := #[d, s], argTypes := #[22, 22] }) (hu : P.underlying 22 = some (.slice 5)) (h5 : (P.info? 5).map (fun i => (i.zero, i.size, i.bytes)) = some (some (.int .u8 0), 1, 1))
    (base : Nat) (dv sv : Value) (xs ys : Bytes) (hd : a.eval d = dv) (hs : a.eval s = sv) (hD : OwnB w base dv xs) (hS : SlB w sv ys) (hb : base ≤ w.heap.size) (hlen : xs.length + ys.length ≤ 140737488355328)
    (h : ∀ v' w', OwnB w' base v' (xs ++ ys) → w.grownBy w' dv.ownBlock → (v' = .slice none 0 0 ↔ dv = .slice none 0 0 ∧ ys = []) → FreshOr w dv v' → K (a.put o.dst v') w') : o.wp P a w K Q := by
  obtain ⟨i0, hi, hz0, hz1, hz2⟩ := info_parts h5
  rcases hS with ⟨rfl, rfl⟩ | ⟨b, o', cap, rfl, hc, hr, _⟩
  · have hrun := run_append_owned_none (P := P) w base 22 o.type 5 i0 1 hu hi dv xs.length (vals xs) hD
    unfold Oper.wp
    simp [execOp, ho, resolve, invoke, builtin, hd, hs, hrun, Result.andThen]
    exact h dv w (by simpa using hD) ⟨rfl, rfl, rfl, Nat.le_refl _, fun _ _ _ => rfl⟩ (by simp) (.inl rfl)
  · refine wp_append_own2 w d s 22 ho base 5 i0 (.int .u8 0) 1 1 hu hi hz0 hz1 hz2 rfl (by decide) dv xs.length (vals xs) hd hD ⟨b, o', none⟩ ys.length cap (vals ys) hs (by simp) (fun j v hv => by rw [Addr.add_mid]; exact hr j v hv) (oneCell_vals ys) (by unfold maxLen; omega) (by omega) hb ?_
    intro v' w' ho' hg' hn' hf'
    refine h v' w' ?_ hg' ?_ hf'
    · unfold OwnB
      rw [List.length_append, vals_append]
      exact ho'
    · rw [hn']
      constructor
      · rintro ⟨h1, h2⟩; exact ⟨h1, List.eq_nil_of_length_eq_zero h2⟩
      · rintro ⟨h1, h2⟩; exact ⟨h1, by simp [h2]⟩
theorem wpList_append_bytes {w : World} (hgd : o.guard = none) (d s : Operand) (ho : o.op = .call { callee := .builtin .append, args := #[d, s], argTypes := #[22, 22] }) (hu : P.underlying 22 = some (.slice 5)) (h5 : (P.info? 5).map (fun i => (i.zero, i.size, i.bytes)) = some (some (.int .u8 0), 1, 1))
    (base : Nat) (dv sv : Value) (xs ys : Bytes) (hd : a.eval d = dv) (hs : a.eval s = sv) (hD : OwnB w base dv xs) (hS : SlB w sv ys) (hb : base ≤ w.heap.size) (hlen : xs.length + ys.length ≤ 140737488355328)
    (h : ∀ v' w', OwnB w' base v' (xs ++ ys) → w.grownBy w' dv.ownBlock → (v' = .slice none 0 0 ↔ dv = .slice none 0 0 ∧ ys = []) → FreshOr w dv v' → wpList P ops Q rest (a.put o.dst v') w') : wpList P ops Q (o :: rest) a w :=
  wpList_plain hgd fun _ hK => wp_append_bytes d s ho hu h5 base dv sv xs ys hd hs hD hS hb hlen (fun v' w' h1 h2 h3 h4 => hK _ _ (h v' w' h1 h2 h3 h4))

/-- 'append(dst, src...)' of bytes where there is room, dst at the head of a block known whole. -/
theorem wp_append_room_bytes {w : World} (d s : Operand) (ho : o.op = .call { callee := .builtin .append, args := #[d, s], argTypes := #[22, 22] }) (hu : P.underlying 22 = some (.slice 5)) (h5 : (P.info? 5).map (fun i => (i.zero, i.size, i.bytes)) = some (some (.int .u8 0), 1, 1))
    (g n cap b o' m c : Nat) (pre mid post : List Value) (ys : Bytes) (hd : a.eval d = .slice (some ⟨g, 0, none⟩) n cap) (hs : a.eval s = .slice (some ⟨b, o', none⟩) m c)
    (hg : w.heap[g]? = some (.cells (pre ++ mid ++ post).toArray 5 (0, 0))) (hr : w.rangeAt b o' (vals ys)) (hn : pre.length = n) (hm : ys.length = m) (hmid : mid.length = m) (hroom : n + m ≤ cap)
    (h : ∀ w', w'.heap[g]? = some (.cells (pre ++ vals ys ++ post).toArray 5 (0, 0)) → Chg [g] w w' → K (a.put o.dst (.slice (some ⟨g, 0, none⟩) (n + m) cap)) w') : o.wp P a w K Q := by
  obtain ⟨i0, hi, hz0, hz1, hz2⟩ := info_parts h5
  subst hm
  have hr2 := run_append_room (P := P) w 22 o.type 5 i0 hu hi g n cap _ hg ⟨b, o', none⟩ ys.length c (vals ys) (by rw [hz1]; simp) (fun j v hv => by rw [Addr.add_mid]; exact hr j v hv) (oneCell_vals ys) hroom (by rw [hz1]; simp; omega)
  have e : ((pre ++ mid ++ post).toArray.toList.take (n * i0.size) ++ vals ys ++ (pre ++ mid ++ post).toArray.toList.drop (n * i0.size + (vals ys).length)).toArray = (pre ++ vals ys ++ post).toArray := by
    rw [hz1, Nat.mul_one]
    congr 1
    have e1 : (pre ++ mid ++ post).take n = pre := by rw [List.append_assoc, ← hn]; exact List.take_left
    have e2 : (pre ++ mid ++ post).drop (n + (vals ys).length) = post := by rw [vals_length, ← hn, ← hmid, ← List.length_append]; exact List.drop_left
    simp only [e1, e2]
  rw [e] at hr2
  have hk := h _ (setRow_heap w g _ (pre ++ vals ys ++ post).toArray 5 _ hg) ((Chg.refl _ _).setRow (.inl (by simp)) _)
  generalize (pre ++ vals ys ++ post).toArray = R at hr2 hk
  unfold Oper.wp execOp
  simp only [ho, resolve, invoke, builtin, Sem.run_bind, Sem.run_pure, Result.andThen_ok, List.map_toArray, List.map_cons, List.map_nil, hs, hd, hr2]
  exact hk
theorem wpList_append_room_bytes {w : World} (hgd : o.guard = none) (d s : Operand) (ho : o.op = .call { callee := .builtin .append, args := #[d, s], argTypes := #[22, 22] }) (hu : P.underlying 22 = some (.slice 5)) (h5 : (P.info? 5).map (fun i => (i.zero, i.size, i.bytes)) = some (some (.int .u8 0), 1, 1))
    (g n cap b o' m c : Nat) (pre mid post : List Value) (ys : Bytes) (hd : a.eval d = .slice (some ⟨g, 0, none⟩) n cap) (hs : a.eval s = .slice (some ⟨b, o', none⟩) m c)
    (hg : w.heap[g]? = some (.cells (pre ++ mid ++ post).toArray 5 (0, 0))) (hr : w.rangeAt b o' (vals ys)) (hn : pre.length = n) (hm : ys.length = m) (hmid : mid.length = m) (hroom : n + m ≤ cap)
    (h : ∀ w', w'.heap[g]? = some (.cells (pre ++ vals ys ++ post).toArray 5 (0, 0)) → Chg [g] w w' → wpList P ops Q rest (a.put o.dst (.slice (some ⟨g, 0, none⟩) (n + m) cap)) w') : wpList P ops Q (o :: rest) a w :=
  wpList_plain hgd fun _ hK => wp_append_room_bytes d s ho hu h5 g n cap b o' m c pre mid post ys hd hs hg hr hn hm hmid hroom (fun w' h1 h2 => hK _ _ (h w' h1 h2))

theorem foldl_sets (xs : List Value) : ∀ (k : Nat) (base : Array Value) (i : Nat), k + xs.length ≤ base.size →
    ((xs.zipIdx k).foldl (fun (cs : Array Value) (x : Value × Nat) => cs.setIfInBounds (0 + x.2) x.1) base)[i]? = if k ≤ i ∧ i < k + xs.length then xs[i - k]? else base[i]? := by
  induction xs with
  | nil => intro k base i _; simp; intro h1 h2; omega
  | cons x xs ih =>
    intro k base i h
    simp only [List.length_cons] at h
    rw [List.zipIdx_cons, List.foldl_cons, ih (k + 1) _ i (by simp; omega)]
    simp only [Nat.zero_add, List.length_cons]
    by_cases h1 : k + 1 ≤ i ∧ i < k + 1 + xs.length
    · rw [if_pos h1, if_pos (by omega), show i - k = (i - (k + 1)) + 1 by omega, List.getElem?_cons_succ]
    · rw [if_neg h1]
      by_cases h2 : i = k
      · subst h2
        rw [if_pos (by omega)]
        simp [show i < base.size by omega]
      · rw [if_neg (by omega), Array.getElem?_setIfInBounds_ne (Ne.symm h2)]

/-- '[]T{x}', T of many cells: one element laid whole. -/
theorem run_buildSlice_one (w : World) (t e : TypeId) (i : TypeInfo) (z cells : Array Value) (ht : P.underlying t = some (.slice e)) (hi : P.info? e = some i) (hz : i.zero = some (.agg z)) (hsize : i.size = cells.size) (hzs : z.size = cells.size)
    (hpos : 0 < cells.size) (hsm : cells.size ≤ 1000) :
    (Instr.buildSlice t 1 #[(0, .agg cells)]).run P w = .ok (.slice (some ⟨w.heap.size, 0, none⟩) 1 1) (w.alloc (.cells cells e)) := by
  have hfill : Instr.fill (fun j => some (j * cells.size, cells.size)) ((Array.range (1 * cells.size)).map (z[· % z.size]!)) [(0, .agg cells)] = some cells := by
    simp only [Instr.fill, Value.cells, Nat.zero_mul, Nat.one_mul, Array.size_map, Array.size_range, Nat.zero_add]
    rw [if_neg (by simp)]
    congr 1
    apply Array.ext_getElem?
    intro j
    have := foldl_sets cells.toList 0 ((Array.range cells.size).map (z[· % z.size]!)) j (by simp)
    simp only [Nat.zero_add, Array.length_toList, Nat.zero_le, true_and, Nat.sub_zero, Array.getElem?_toList] at this
    rw [← Array.foldl_toList, Array.toList_zipIdx, this]
    split
    · rfl
    · rename_i hge
      have : cells.size ≤ j := by omega
      simp [this]
  have h1 : ¬ (1 * cells.size > 2 ^ 24) := by omega
  have h2 : ¬ (1 * cells.size = 0) := by omega
  have e1 : (sizeOf e).run P w = .ok cells.size w := by simp [sizeOf, typeInfo, hi, hsize]
  have e2 : (zeroValue e).run P w = .ok (.agg z) w := by simp [zeroValue, typeInfo, hi, hz]
  simp only [Instr.buildSlice, Sem.run_bind, run_underlying ht, Result.andThen_ok, e1, if_neg h1, if_neg h2, e2, Sem.run_pure, Value.cells]
  rw [hfill]
  simp [newRow, newObj]
  rfl

theorem wp_buildSlice_one {w : World} (t : TypeId) (x : Operand) (ho : o.op = .buildSlice t 1 #[(0, x)]) (e : TypeId) (i : TypeInfo) (z cells : Array Value) (hx : a.eval x = .agg cells) (ht : P.underlying t = some (.slice e)) (hi : P.info? e = some i) (hz : i.zero = some (.agg z))
    (hsize : i.size = cells.size) (hzs : z.size = cells.size) (hpos : 0 < cells.size) (hsm : cells.size ≤ 1000)
    (h : K (a.put o.dst (.slice (some ⟨w.heap.size, 0, none⟩) 1 1)) (w.alloc (.cells cells e))) : o.wp P a w K Q := by
  have hr := run_buildSlice_one (P := P) w t e i z cells ht hi hz hsize hzs hpos hsm
  unfold Oper.wp execOp
  simp only [ho, List.map_toArray, List.map_cons, List.map_nil, hx, Sem.run_bind, hr, Result.andThen_ok, Sem.run_pure]
  exact h
end

end Go.Proofs.YtaacejpienbkgaaDoor
