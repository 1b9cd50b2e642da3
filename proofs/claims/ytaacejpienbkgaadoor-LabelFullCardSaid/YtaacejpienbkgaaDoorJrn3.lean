/- The journal's read: the sectors, the next number; walked. -/
import Derived.Test.YtaacejpienbkgaaDoorJrn2
namespace Go.Proofs.YtaacejpienbkgaaDoor
open Go.RowKit

/-- A number that none of the first k sectors has. -/
def nextTo (d : Dsk) (n0 : Nat) : Nat → Nat
  | 0 => n0
  | k + 1 => max (nextTo d n0 k) (num4 (d.cur k) + 1)
theorem _root_.Go.World.ownsRow.chg0 {base e size n : Nat} {v : Value} {xs : List Value} {w w' : World} (h : w.ownsRow base e size v n xs) (hC : Chg [] w w') : w'.ownsRow base e size v n xs := hC.owns h (by simp)
theorem num4_lt (p : Bytes) : num4 p < 4294967296 := by
  unfold num4
  have h0 := (p.getD 0 0).toNat_lt
  have h1 := (p.getD 1 0).toNat_lt
  have h2 := (p.getD 2 0).toNat_lt
  have h3 := (p.getD 3 0).toNat_lt
  omega
theorem nextTo_le (d : Dsk) (n0 : Nat) : ∀ k, nextTo d n0 k ≤ max n0 4294967296
  | 0 => by simp only [nextTo]; omega
  | k + 1 => by
    have h1 := nextTo_le d n0 k
    have h2 := num4_lt (d.cur k)
    simp only [nextTo]; omega

theorem JAt.setNext {w : World} {jb b : Nat} {m : DMem} {d : Dsk} {next : Nat} (h : JAt w jb b m d next) (n : Nat) (v : Value) (hv : v = .int .i64 (n : Int)) :
    JAt (w.setCell ⟨jb, 1, none⟩ v) jb b m d n := by
  subst hv
  have hC : Chg [jb] w (w.setCell ⟨jb, 1, none⟩ (.int .i64 (n : Int))) := (Chg.refl _ _).setCell (.inl (by simp)) _
  refine ⟨?_, h.disk.chg hC (fun k hk => ?_), h.ap⟩
  · rw [head_set _ h.head]; rfl
  · simp only [List.mem_singleton]; rintro rfl; exact h.ap hk

theorem number_slb {w : World} {v : Value} {p : Bytes} (hS : SlB w v p) (h4 : 4 ≤ p.length) (hl : p.length ≤ 1000000) :
    Calls Tryd.prog 95 #[v] w fun e w' => e = .returned (.int .i64 (num4 p)) ∧ w' = w := by
  rcases hS with ⟨rfl, rfl⟩ | ⟨b, o, cap, rfl, hc, hr, _⟩
  · simp at h4
  · exact (number_spec p p.length b o cap w hr rfl h4 hl).mono fun _ _ h => ⟨h.1, h.2.symm⟩

theorem number_eq {w : World} {v v' : Value} {p : Bytes} (hv : v = v') (hS : SlB w v' p) (h4 : 4 ≤ p.length) (hl : p.length ≤ 1000000) :
    Calls Tryd.prog 95 #[v] w fun e w' => e = .returned (.int .i64 (num4 p)) ∧ w' = w := by
  subst hv; exact number_slb hS h4 hl
def jnum (d : Dsk) : Nat := num4 (d.cur 0)
def jcnt (d : Dsk) : Nat := num4 ((d.cur 0).drop 4)
def jpage (d : Dsk) (i : Nat) : Nat × Bytes := (num4 ((d.cur (1 + 2 * i)).drop 4), ((d.cur (1 + 2 * i)).drop 8).take 32 ++ ((d.cur (2 + 2 * i)).drop 8).take 32)
def jok (d : Dsk) (i : Nat) : Prop := num4 (d.cur (1 + 2 * i)) = jnum d ∧ num4 (d.cur (2 + 2 * i)) = jnum d
instance (d : Dsk) (i : Nat) : Decidable (jok d i) := inferInstanceAs (Decidable (_ ∧ _))
/-- What the journal tells to be written. -/
def jlist (d : Dsk) : List (Nat × Bytes) :=
  if 24 < jcnt d ∨ jnum d = 0 then [] else if ∀ i, i < jcnt d → jok d i then (List.range (jcnt d)).map (jpage d) else []

structure Pgs (d : Dsk) (w2 wr : World) (lv : Value) (k : Nat) (pvs : List Value) : Prop where
  len : pvs.length = k
  owns : wr.ownsRow w2.heap.size 109 2 lv k (pvs.zipIdx.flatMap fun x => [.int .i64 ((jpage d x.2).1 : Int), x.1])
  bytes : ∀ i (hi : i < pvs.length), OwnB wr w2.heap.size pvs[i] (jpage d i).2

def PgRel (d : Dsk) (w2 : World) (lv x : Value) (wr : World) : Prop :=
  ∃ k pvs, k ≤ jcnt d ∧ x = .int .i64 (k : Nat) ∧ (∀ i, i < k → jok d i) ∧ Pgs d w2 wr lv k pvs ∧ Chg [] w2 wr

theorem Pgs.chg {d : Dsk} {w2 wr w' : World} {lv : Value} {k : Nat} {pvs : List Value} (h : Pgs d w2 wr lv k pvs) (hC : Chg [] wr w') : Pgs d w2 w' lv k pvs :=
  ⟨h.len, hC.owns h.owns (by simp), fun i hi => hC.owns (h.bytes i hi) (by simp)⟩
theorem Pgs.grew {d : Dsk} {w2 wr w4 w5 : World} {lv v : Value} {k : Nat} {pvs : List Value} {xs : Bytes} (h : Pgs d w2 wr lv k pvs) (hC : Chg [] wr w4) (hO : OwnB w4 wr.heap.size v xs) (hG : w4.grownBy w5 v.ownBlock) : Pgs d w2 w5 lv k pvs := by
  have hC5 : Chg v.ownBlock.toList wr w5 := (hC.mono (by simp) : Chg v.ownBlock.toList wr w4).grown hG (fun x hx => .inl (by simp [hx]))
  refine ⟨h.len, hC5.owns h.owns (fun x hx hin => ?_), fun i hi => hC5.owns (h.bytes i hi) (fun x hx hin => ?_)⟩
  · have h1 := (hO.lt x (by simpa using hin)).1
    have h2 := (h.owns.lt x hx).2
    omega
  · have h1 := (hO.lt x (by simpa using hin)).1
    have h2 := ((h.bytes i hi).lt x hx).2
    omega
theorem OwnB.low {w : World} {b b' : Nat} {v : Value} {xs : Bytes} (h : OwnB w b v xs) (hb : b' ≤ b) : OwnB w b' v xs := by
  refine ⟨h.1, ?_⟩
  rcases h.2 with h0 | ⟨g, cap, cur, hv, h1, r⟩
  · exact .inl h0
  · exact .inr ⟨g, cap, cur, hv, Nat.le_trans hb h1, r⟩
theorem Pgs.snoc {d : Dsk} {w2 wr w6 : World} {lv lv2 v : Value} {k : Nat} {pvs : List Value} (h : Pgs d w2 wr lv k pvs) (hO : OwnB wr w2.heap.size v (jpage d k).2)
    (ho : w6.ownsRow w2.heap.size 109 2 lv2 (k + 1) ((pvs.zipIdx.flatMap fun x => [.int .i64 ((jpage d x.2).1 : Int), x.1]) ++ [.int .i64 ((jpage d k).1 : Int), v])) (hG : wr.grownBy w6 lv.ownBlock) :
    Pgs d w2 w6 lv2 (k + 1) (pvs ++ [v]) := by
  have hl := h.len
  have hne : ∀ (x : Nat) (v' : Value) (xs : Bytes), OwnB wr w2.heap.size v' xs → v'.ownBlock = some x → lv.ownBlock ≠ some x := by
    intro x v' xs hO' hx hp
    rcases h.owns.2 with ⟨rfl, _⟩ | ⟨q, cap, cur, rfl, _, hq, _⟩
    · simp [Value.ownBlock] at hp
    · simp only [Value.ownBlock, Option.some.injEq] at hp
      subst hp
      rcases hO'.2 with ⟨rfl, _⟩ | ⟨q', cap', cur', rfl, _, hq', _⟩
      · simp [Value.ownBlock] at hx
      · simp only [Value.ownBlock, Option.some.injEq] at hx
        subst hx
        rw [hq] at hq'; cases hq'
  have hC : Chg lv.ownBlock.toList wr w6 := (Chg.refl _ wr).grown hG (fun x hx => .inl (by simp [hx]))
  have keep : ∀ (v' : Value) (xs : Bytes), OwnB wr w2.heap.size v' xs → OwnB w6 w2.heap.size v' xs := fun v' xs hO' =>
    hC.owns hO' (fun x hx hin => hne x v' xs hO' hx (by simpa using hin))
  refine ⟨by simp [hl], ?_, fun i hi => ?_⟩
  · rw [List.zipIdx_append, List.flatMap_append, hl]
    simpa using ho
  · rcases Nat.lt_or_ge i pvs.length with h1 | h1
    · rw [List.getElem_append_left h1]; exact keep _ _ (h.bytes i h1)
    · have hik : i = k := by simp at hi; omega
      rw [List.getElem_append_right h1]
      subst hik
      simp only [hl, Nat.sub_self, List.getElem_cons_zero]
      exact keep _ _ hO
theorem Pgs.drawn {d : Dsk} {w2 wr : World} {lv : Value} {k : Nat} {pvs : List Value} (h : Pgs d w2 wr lv k pvs) (n : Nat) : Pgs d w2 (wr.drewN n) lv k pvs := h.chg ((Chg.refl [] wr).drewN n)
theorem _root_.Go.World.ownsRow.shape {w : World} {base e size n : Nat} {v : Value} {xs : List Value} (h : w.ownsRow base e size v n xs) : ∃ sp cap, v = .slice sp n cap := by
  rcases h.2 with ⟨rfl, h0⟩ | ⟨g, cap, cur, rfl, _⟩
  · subst h0; exact ⟨_, _, rfl⟩
  · exact ⟨_, _, rfl⟩
theorem pairs_get (f : Nat → Int) : ∀ (pvs : List Value) (o k j : Nat) (hk : k < pvs.length), j < 2 →
    (((pvs.zipIdx o).flatMap fun x => [Value.int .i64 (f x.2), x.1]))[k * 2 + j]? = [Value.int .i64 (f (o + k)), pvs[k]][j]? := by
  intro pvs
  induction pvs with
  | nil => intro o k j hk; cases hk
  | cons v r ih =>
    intro o k j hk hj
    rw [List.zipIdx_cons, List.flatMap_cons]
    cases k with
    | zero => rw [List.getElem?_append_left (by simp; omega)]; simp
    | succ k =>
      rw [List.getElem?_append_right (by simp; omega)]
      have := ih (o + 1) k j (by simpa using hk) hj
      simp only [List.length_cons, List.length_nil]
      rw [show (k + 1) * 2 + j - (0 + 1 + 1) = k * 2 + j by omega, this, show o + 1 + k = o + (k + 1) by omega]
      rfl
theorem Pgs.at_ {F : List Nat} {d : Dsk} {w2 wr : World} {sp : Option Addr} {k cap : Nat} {pvs : List Value} (h : Pgs d w2 wr (.slice sp k cap) k pvs) (hF : ∀ x, x ∈ F → x < w2.heap.size) :
    PgsAt F wr sp ((List.range k).map (jpage d)) := by
  intro i hi
  have hik : i < k := by simpa using hi
  have hpl := h.len
  have hb := h.bytes i (by omega)
  rcases h.owns.2 with ⟨h0, h1⟩ | ⟨g, cap', cur, hv, hbase, _⟩
  · omega
  · cases hv
    refine ⟨g, pvs[i]'(by omega), rfl, fun hg => by have := hF g hg; omega, ?_, ?_, ?_⟩
    · intro j v hj
      have hj2 : j < 2 := by have := (List.getElem?_eq_some_iff.1 hj).1; simpa using this
      have hc := World.ownsRow.cells h.owns (g := g) rfl (i * 2 + j) v (by
        rw [pairs_get (fun i => ((jpage d i).1 : Int)) pvs 0 i j (by omega) hj2, Nat.zero_add]
        simpa using hj)
      rw [Addr.add_mid, Nat.zero_add] at hc
      exact hc
    · simpa using hb.slb
    · intro x hx hin
      have h1 := (hb.lt x hx).1
      have h2 := hF x hin
      omega

section
variable {P : Program} {ops : Array Oper} {Q : Exit → Act → World → Prop} {rest : List Oper} {o : Oper} {a : Act}
theorem wpList_buildSlice_one (hgd : o.guard = none) {w : World} (t : TypeId) (x : Operand) (ho : o.op = .buildSlice t 1 #[(0, x)]) (e : TypeId) (i : TypeInfo) (z cells : Array Value) (hx : a.eval x = .agg cells) (ht : P.underlying t = some (.slice e)) (hi : P.info? e = some i) (hz : i.zero = some (.agg z))
    (hsize : i.size = cells.size) (hzs : z.size = cells.size) (hpos : 0 < cells.size) (hsm : cells.size ≤ 1000)
    (h : wpList P ops Q rest (a.put o.dst (.slice (some ⟨w.heap.size, 0, none⟩) 1 1)) (w.alloc (.cells cells e))) : wpList P ops Q (o :: rest) a w :=
  wpList_plain hgd fun _ hK => wp_buildSlice_one t x ho e i z cells hx ht hi hz hsize hzs hpos hsm (hK _ _ h)
end

/-- A sector's parts, as slices. -/
theorem secs_slb {w : World} {g : Nat} {p : Bytes} (h : w.heap[g]? = some (Obj.cells (vals p).toArray 115 (0, 0))) (hl : p.length = 64) :
    SlB w (.slice (some ⟨g, 0, none⟩) 64 64) p ∧ SlB w (.slice (some ⟨g, 4, none⟩) 60 60) (p.drop 4) ∧ SlB w (.slice (some ⟨g, 8, none⟩) 32 56) ((p.drop 8).take 32) := by
  have r0 := range_of_row h
  have hlt := heap_lt h
  refine ⟨.inr ⟨g, 0, 64, by rw [hl], by rw [hl]; decide, r0, hlt⟩, .inr ⟨g, 4, 60, by rw [List.length_drop, hl], by rw [List.length_drop, hl]; decide, ?_, hlt⟩, .inr ⟨g, 8, 56, by simp [hl], by simp [hl], ?_, hlt⟩⟩
  · intro j v hv
    rw [← vals_drop, List.getElem?_drop] at hv
    have := r0 _ _ hv
    rwa [Nat.zero_add] at this
  · intro j v hv
    rw [← vals_take, List.getElem?_take] at hv
    split at hv
    · rw [← vals_drop, List.getElem?_drop] at hv
      have := r0 _ _ hv
      rwa [Nat.zero_add] at this
    · cases hv

/-- What read leaves. -/
def RdPost (jb b : Nat) (m : DMem) (d : Dsk) (n0 : Nat) (w : World) (e : Ending) (w' : World) : Prop :=
  ∃ sp cap, e = .returned (.tuple #[.slice sp (jlist d).length cap, .int .i64 0]) ∧ PgsAt (jb :: m.foot b) w' sp (jlist d) ∧ JAt w' jb b m d (nextTo d n0 49) ∧ Chg [jb] w w'

theorem PgsAt.nil (F : List Nat) (w : World) (sp : Option Addr) : PgsAt F w sp [] := fun k hk => by cases hk
theorem info109 : (Tryd.prog.info? 109).map (fun i => (i.zero, i.size, i.bytes)) = some (some (.agg #[.int .i64 0, .slice none 0 0]), 2, 32) := by kernel_rfl

/-- A sector that was read. -/
def secv (g : Nat) : Value := .slice (some ⟨g, 0, none⟩) 64 64
structure Secs (w0 w : World) (d : Dsk) (pv : Value) (k : Nat) (gs : List Nat) : Prop where
  len : gs.length = k
  owns : w.ownsRow w0.heap.size 22 1 pv k (gs.map secv)
  secs : ∀ j (hj : j < gs.length), w.heap[gs[j]]? = some (.cells (vals (d.cur j)).toArray 115 (0, 0)) ∧ w0.heap.size ≤ gs[j]

def RdRel (jb b : Nat) (m : DMem) (d : Dsk) (n0 : Nat) (w : World) (pv x : Value) (wr : World) : Prop :=
  ∃ k gs, k ≤ 49 ∧ x = .int .i64 (k : Nat) ∧ Secs w wr d pv k gs ∧ JAt wr jb b m d (nextTo d n0 k) ∧ Chg [jb] w wr

theorem info22 : (Tryd.prog.info? 22).map (fun i => (i.zero, i.size, i.bytes)) = some (some (.slice none 0 0), 1, 24) := by kernel_rfl

theorem Secs.chg {F : List Nat} {w0 w w' : World} {d : Dsk} {pv : Value} {k : Nat} {gs : List Nat} (h : Secs w0 w d pv k gs) (hC : Chg F w w') (hF : ∀ x, x ∈ F → x < w0.heap.size) : Secs w0 w' d pv k gs where
  len := h.len
  owns := hC.owns h.owns (fun x hx hin => by have := (h.owns.lt x hx).1; have := hF x hin; omega)
  secs := fun j hj => ⟨hC.heap (h.secs j hj).1 (fun hin => by have := (h.secs j hj).2; have := hF _ hin; omega), (h.secs j hj).2⟩

/-- One more. -/
theorem Secs.snoc {w0 w w' : World} {d : Dsk} {pv pv' : Value} {k g : Nat} {gs : List Nat} (h : Secs w0 w d pv k gs) (hg : w.heap[g]? = some (.cells (vals (d.cur k)).toArray 115 (0, 0))) (hg0 : w0.heap.size ≤ g)
    (ho : w'.ownsRow w0.heap.size 22 1 pv' (k + 1) (gs.map secv ++ [secv g])) (hG : w.grownBy w' pv.ownBlock) : Secs w0 w' d pv' (k + 1) (gs ++ [g]) := by
  have hne : ∀ (x : Nat) (cs : Array Value), w.heap[x]? = some (Obj.cells cs 115 (0, 0)) → pv.ownBlock ≠ some x := by
    intro x cs hx hp
    rcases h.owns.2 with ⟨rfl, _⟩ | ⟨q, cap, cur, rfl, _, hq, _⟩
    · simp [Value.ownBlock] at hp
    · simp only [Value.ownBlock, Option.some.injEq] at hp
      subst hp
      rw [hx] at hq; cases hq
  have hk : ∀ (x : Nat) (cs : Array Value), w.heap[x]? = some (Obj.cells cs 115 (0, 0)) → w'.heap[x]? = some (Obj.cells cs 115 (0, 0)) := fun x cs hx =>
    (hG.block x (heap_lt hx) (Ne.symm (hne x cs hx))).trans hx
  have hl := h.len
  refine ⟨by simp [hl], by rw [List.map_append]; exact ho, fun j hj => ?_⟩
  rcases Nat.lt_or_ge j gs.length with h1 | h1
  · rw [List.getElem_append_left h1]
    exact ⟨hk _ _ (h.secs j h1).1, (h.secs j h1).2⟩
  · have hjk : j = k := by simp at hj; omega
    rw [List.getElem_append_right h1]
    subst hjk
    simp only [hl, Nat.sub_self, List.getElem_cons_zero]
    exact ⟨hk _ _ hg, hg0⟩

section
variable {P : Program} {ops : Array Oper} {Q : Exit → Act → World → Prop} {rest : List Oper} {o : Oper} {a : Act}
theorem wpList_append_own2 (hgd : o.guard = none) (w : World) (s x : Operand) (t : TypeId)
    (ho : o.op = .call { callee := .builtin .append, args := #[s, x], argTypes := #[t, t] })
    (base : Nat) (e : TypeId) (i : TypeInfo) (z : Value) (size bytes : Nat) (ht : P.underlying t = some (.slice e)) (hi : P.info? e = some i) (hz : i.zero = some z)
    (hsize : i.size = size) (hby : i.bytes = bytes) (hzs : z.cells.size = size) (hsz : 0 < size)
    (v : Value) (n : Nat) (xs : List Value) (hs : a.eval s = v) (hown : w.ownsRow base e size v n xs)
    (ad : Addr) (m c : Nat) (news : List Value) (hx : a.eval x = .slice (some ad) m c) (hl : news.length = m * size) (hnews : ∀ j u, news[j]? = some u → w.cell? (ad.add j) = some u) (h1 : ∀ u ∈ news, u.oneCell' = true)
    (h63 : n + m ≤ maxLen) (hbytes : (n + m) * bytes ≤ 140737488355328) (hbase : base ≤ w.heap.size)
    (h : ∀ v' w', w'.ownsRow base e size v' (n + m) (xs ++ news) → w.grownBy w' v.ownBlock → (v' = .slice none 0 0 ↔ v = .slice none 0 0 ∧ m = 0) → FreshOr w v v' → wpList P ops Q rest (a.put o.dst v') w') : wpList P ops Q (o :: rest) a w :=
  wpList_plain hgd fun _ hK => wp_append_own2 w s x t ho base e i z size bytes ht hi hz hsize hby hzs hsz v n xs hs hown ad m c news hx hl hnews h1 h63 hbytes hbase (fun v' w' h1 h2 h3 h4 => hK _ _ (h v' w' h1 h2 h3 h4))
end

set_option maxRecDepth 100000 in
set_option maxHeartbeats 1000000 in
theorem jrd_spec (jb b : Nat) (m : DMem) (d : Dsk) (n0 : Nat) (w : World) (h : JAt w jb b m d n0) (hoff : d.off = false) (hn : 49 < d.n) (hwl : d.wet.length < 1000000) :
    Calls Tryd.prog 68 #[.pointer (some ⟨jb, 0, none⟩)] w (RdPost jb b m d n0 w) := by
  have H := Lib.hid h
  have Hoff := Lib.hid hoff
  have hn4 := h.disk.ok.n
  have hjlt := h.jlt
  obtain ⟨i0, hi0, hz0, hz1, hz2⟩ := info_parts info22
  obtain ⟨j0, hj0, hjz0, hjz1, hjz2⟩ := info_parts info109
  clear h hoff
  go_enter Tryd.func68, Tryd.ntmps68
  go_wp2
  go_loopw [4, 15] (fun pv x wr => RdRel jb b m d n0 w pv x wr) (fun _ x _ => 49 - (intOf x).toNat)
  case atStart => exact ⟨0, [], by omega, rfl, ⟨rfl, World.ownsRow_nil _ _ _ _, fun j hj => by cases hj⟩, H.out, Chg.refl _ _⟩
  case round =>
    obtain ⟨k, gs, hk, rfl, hS, hJ, hC⟩ := hrel
    by_cases hlt : k < 49
    · have j0 := hJ.cells.1
      have HS := Lib.hid hS
      have HJ := Lib.hid hJ
      have HC := Lib.hid hC
      have hnx := nextTo_le d n0 k
      clear hS hJ hC
      go_wp2_with (first
        | (go_at_call 20; refine (read_on_spec b m d k wr HJ.out.disk (by omega) Hoff.out hwl).mono ?_; rintro e w1 ⟨g, hg0, rfl, hg, hC1⟩)
        | (refine wpList_append_own2 rfl _ (.tmp 30) (.tmp 32) 84 rfl w.heap.size 22 i0 _ 1 24 Tryd.underlying84 hi0 hz0 hz1 hz2 rfl (by decide) u4 k (gs.map secv) (by rfl) ?ho ⟨w1.heap.size, 0, none⟩ 1 1 [secv g] (by rfl) rfl ?hc ?h1 ?hm ?hb ?hs ?_; rotate_left 6; intro pv2 w2 hO2 hG2 hN2 hF2))
      case ho => exact (HS.out.owns.chg0 hC1).alloc _
      case hc =>
        intro j u hu
        rw [Addr.add_mid, Nat.zero_add, cell_of_row _ _ _ _ _ _ (heap_alloc_new _ _)]
        simpa [secv] using hu
      case h1 => intro u hu; rcases List.mem_singleton.1 hu with rfl; rfl
      case hm => unfold maxLen; omega
      case hb => omega
      case hs =>
        have h1 := HC.out.size
        have h2 := hC1.size
        simp; omega
      have hg1 : (w1.alloc (Obj.cells #[Value.slice (some { block := g, off := 0 }) 64 64] 22)).heap[g]? = some (Obj.cells (vals (d.cur k)).toArray 115 (0, 0)) := (Below.heap_alloc _ _ _ (heap_lt hg)).trans hg
      have hS2 : Secs w w2 d pv2 (k + 1) (gs ++ [g]) := ((HS.out.chg hC1 (by simp)).chg ((Chg.refl [] w1).alloc _) (by simp)).snoc hg1 (Nat.le_trans HC.out.size hg0) hO2 hG2
      have hown : ∀ x, u4.ownBlock = some x → w.heap.size ≤ x := fun x hx => (HS.out.owns.lt x hx).1
      have hC2 : Chg u4.ownBlock.toList wr w2 := ((Chg.mono hC1 (by simp)).alloc _).grown hG2 (fun x hx => .inl (by simp [hx]))
      have hJ2 : JAt w2 jb b m d (nextTo d n0 k) := HJ.out.chg hC2 (fun hin => by have := hown jb (by simpa using hin); omega) (fun x hx hin => by have := hown x (by simpa using hin); have := H.out.disk.footlt x hx; omega)
      have hCw : Chg [jb] w w2 := HC.out.step hC2 (fun x hx => .inr (hown x (by simpa using hx)))
      have hg2 : w2.heap[g]? = some (Obj.cells (vals (d.cur k)).toArray 115 (0, 0)) := by
        have h3 := (hS2.secs k (by simp [HS.out.len])).1
        rw [List.getElem_append_right (by rw [HS.out.len]; exact Nat.le_refl _)] at h3
        simpa [HS.out.len] using h3
      have j1 := hJ2.cells.2
      have f1 : w2.frozen? ⟨jb, 1, none⟩ = false := frozen_of_row _ _ _ _ _ hJ2.head
      have hcl : (d.cur k).length = 64 := cur_len d HJ.out.disk.ok k
      have hr2 : w2.rangeAt g 0 (vals (d.cur k)) := range_of_row hg2
      have HS2 := Lib.hid hS2
      have HJ2 := Lib.hid hJ2
      have HCw := Lib.hid hCw
      have Hcl := Lib.hid hcl
      have Hr2 := Lib.hid hr2
      have hq := num4_lt (d.cur k)
      obtain ⟨nk, hnk⟩ : ∃ n, n = nextTo d n0 k := ⟨_, rfl⟩
      obtain ⟨qk, hqk⟩ : ∃ n, n = num4 (d.cur k) := ⟨_, rfl⟩
      rw [← hnk] at j1 hnx
      rw [← hqk] at hq
      have Hqk := Lib.hid hqk
      have Hnk := Lib.hid hnk
      clear hS2 hJ2 hCw hg1 hg2 hG2 hO2 hN2 hF2 hC2 hg hC1 hg0 hown hnk hqk hcl hr2
      refine wp_region_keys [(11, fun W => W.cell? ⟨jb, 1, none⟩ = some (.int .i64 (nk : Int)))] (by kernel_rfl) ⟨fun _ => j1, trivial⟩ ?_
      refine kTake (i := 0) (v := ?_) rfl (by kernel_rfl) (by kernel_rfl) (some 34) rfl (fun _ _ _ h => h) (Or.inl ⟨by rfl, ?_⟩) ?_
      rotate_left 1
      · (intro w; go_simp; try rfl)
      try simp only [Act.put, List.setIfInBounds_toArray, List.set_cons_zero, List.set_cons_succ]
      refine kTake (i := 1) (v := ?_) rfl (by kernel_rfl) (by kernel_rfl) (some 35) rfl (fun _ _ _ h => h) (Or.inl ⟨by rfl, ?_⟩) ?_
      rotate_left 1
      · (intro w; go_simp; try rfl)
      try simp only [Act.put, List.setIfInBounds_toArray, List.set_cons_zero, List.set_cons_succ]
      refine kTake (i := 2) (v := ?_) rfl (by kernel_rfl) (by kernel_rfl) (some 36) rfl (fun _ _ _ h => h) (Or.inl ⟨by rfl, ?_⟩) ?_
      rotate_left 1
      · (intro w; go_simp; try rfl)
      try simp only [Act.put, List.setIfInBounds_toArray, List.set_cons_zero, List.set_cons_succ]
      refine kTake (i := 3) (v := ?_) rfl (by kernel_rfl) (by kernel_rfl) (some 37) rfl (fun _ _ _ h => h) (Or.inl ⟨by rfl, ?_⟩) ?_
      rotate_left 1
      · (intro w; go_simp; try rfl)
      try simp only [Act.put, List.setIfInBounds_toArray, List.set_cons_zero, List.set_cons_succ]
      refine kLoad (i := 4) 11 _ (v := ?_) rfl (by kernel_rfl) (by kernel_rfl) (.head _) (some 38) rfl (fun _ _ _ h => h) (Or.inl ⟨by rfl, ?_⟩) ?_
      rotate_left 1
      · (intro w hT; go_simp; try rfl)
      try simp only [Act.put, List.setIfInBounds_toArray, List.set_cons_zero, List.set_cons_succ]
      refine kTake (i := 5) (v := ?_) rfl (by kernel_rfl) (by kernel_rfl) (some 39) rfl (fun _ _ _ h => h) (Or.inl ⟨by rfl, ?_⟩) ?_
      rotate_left 1
      · (intro w; go_simp; try rfl)
      try simp only [Act.put, List.setIfInBounds_toArray, List.set_cons_zero, List.set_cons_succ]
      refine kOnly (i := 6) (oi := { dst := (some 40), op := (Go.Op.call { callee := (Go.Callee.value (Go.Operand.func 95)), args := #[(Go.Operand.tmp 39)], argTypes := #[22] }), type := 3, pos := "journal.go:56", after := #[{ on := 5, ground := Go.Ground.data }], guard := none }) (by kernel_rfl) rfl (by rfl) (fun K hK => ?_)
      go_simp; go_at_call 95; refine (number_spec (d.cur k) 64 g 0 64 w2.drew Hr2.out Hcl.out (by decide) (by decide)).mono ?_; rintro e w3 ⟨rfl, rfl⟩; rw [← Hqk.out]
      refine hK _ _ ⟨fun _ => j1, trivial⟩ ?_; clear hK K
      try simp only [Act.put, List.setIfInBounds_toArray, List.set_cons_zero, List.set_cons_succ]
      refine kTake (i := 7) (v := ?_) rfl (by kernel_rfl) (by kernel_rfl) (some 41) rfl (fun _ _ _ h => h) (Or.inl ⟨by rfl, ?_⟩) ?_
      rotate_left 1
      · (intro w; go_simp; try rfl)
      try simp only [Act.put, List.setIfInBounds_toArray, List.set_cons_zero, List.set_cons_succ]
      refine kOnly (i := 8) (oi := { dst := (some 42), op := (Go.Op.call { callee := (Go.Callee.builtin Go.Builtin.max), args := #[(Go.Operand.tmp 38), (Go.Operand.tmp 41)], argTypes := #[3, 3] }), type := 3, pos := "journal.go:56", after := #[{ on := 4, ground := Go.Ground.data }, { on := 7, ground := Go.Ground.data }], guard := none }) (by kernel_rfl) rfl (by rfl) (fun K hK => ?_)
      go_simp; refine hK _ _ ⟨fun _ => j1, trivial⟩ ?_; clear hK K
      try simp only [Act.put, List.setIfInBounds_toArray, List.set_cons_zero, List.set_cons_succ]
      refine kTake (i := 9) (v := ?_) rfl (by kernel_rfl) (by kernel_rfl) (some 43) rfl (fun _ _ _ h => h) (Or.inl ⟨by rfl, ?_⟩) ?_
      rotate_left 1
      · (intro w; go_simp; try rfl)
      try simp only [Act.put, List.setIfInBounds_toArray, List.set_cons_zero, List.set_cons_succ]
      refine kTake (i := 10) (v := ?_) rfl (by kernel_rfl) (by kernel_rfl) (some 44) rfl (fun _ _ _ h => h) (Or.inl ⟨by rfl, ?_⟩) ?_
      rotate_left 1
      · (intro w; go_simp; try rfl)
      try simp only [Act.put, List.setIfInBounds_toArray, List.set_cons_zero, List.set_cons_succ]
      refine kOnly (i := 11) (oi := { dst := none, op := (Go.Op.store 3 (Go.Operand.tmp 44) (Go.Operand.tmp 42)), type := 0, pos := "journal.go:56", after := #[{ on := 10, ground := Go.Ground.data }, { on := 8, ground := Go.Ground.data }, { on := 6, ground := Go.Ground.chain }, { on := 0, ground := Go.Ground.phase }, { on := 1, ground := Go.Ground.phase }, { on := 2, ground := Go.Ground.phase }, { on := 3, ground := Go.Ground.phase }, { on := 4, ground := Go.Ground.phase }, { on := 5, ground := Go.Ground.phase }, { on := 6, ground := Go.Ground.phase }, { on := 7, ground := Go.Ground.phase }, { on := 8, ground := Go.Ground.phase }], guard := none }) (by kernel_rfl) rfl (by rfl) (fun K hK => ?_)
      go_simp; refine hK _ _ ⟨fun h => absurd h (by decide), trivial⟩ ?_; clear hK K
      refine kDone (by kernel_rfl) ?_
      have hval : (if (nk : Int) < IntKind.i64.wrap ((qk : Int) + 1) then IntKind.i64.wrap ((qk : Int) + 1) else (nk : Int)) = ((max nk (qk + 1) : Nat) : Int) := by
        rw [wrapI ((qk : Int) + 1) (by omega) (by omega)]
        split <;> omega
      generalize (if (nk : Int) < IntKind.i64.wrap ((qk : Int) + 1) then IntKind.i64.wrap ((qk : Int) + 1) else (nk : Int)) = V at hval ⊢
      have hJ3 : JAt (w2.setCell ⟨jb, 1, none⟩ (.int .i64 V)).drew jb b m d (nextTo d n0 (k + 1)) := by
        rw [nextTo, ← Hnk.out, ← Hqk.out]
        exact (HJ2.out.setNext _ _ (by rw [hval])).chg ((Chg.refl [] _).drew) (by simp) (by simp)
      have hS3 : Secs w (w2.setCell ⟨jb, 1, none⟩ (.int .i64 V)).drew d pv2 (k + 1) (gs ++ [g]) := HS2.out.chg (((Chg.refl [jb] w2).setCell (.inl (by simp)) _).drew) (by simp; exact hjlt)
      have hC3 : Chg [jb] w (w2.setCell ⟨jb, 1, none⟩ (.int .i64 V)).drew := (HCw.out.setCell (.inl (by simp)) _).drew
      have HJ3 := Lib.hid hJ3
      have HS3 := Lib.hid hS3
      have HC3 := Lib.hid hC3
      clear hJ3 hS3 hC3 hval
      go_wp2
      go_roundw
      case rel => exact ⟨k + 1, gs ++ [g], by omega, by go_num, HS3.out, HJ3.out, HC3.out⟩
      case measure => simp [intOf]; omega
    · obtain rfl : k = 49 := by omega
      rw [show ((49 : Nat) : Int) = 49 from rfl]
      have hgl := hS.len
      obtain ⟨gp, cap, rfl, hcell⟩ : ∃ gp cap, u4 = .slice (some ⟨gp, 0, none⟩) 49 cap ∧ ∀ j (hj : j < gs.length), wr.cell? ⟨gp, j, none⟩ = some (secv gs[j]) := by
        rcases hS.owns.2 with ⟨rfl, h0⟩ | ⟨gp, cap, cur, rfl, _⟩
        · cases h0
        · refine ⟨gp, cap, rfl, fun j hj => ?_⟩
          have := World.ownsRow.cells hS.owns (g := gp) rfl j (secv gs[j]) (by rw [List.getElem?_map, List.getElem?_eq_getElem hj]; rfl)
          rwa [Addr.add_mid, Nat.zero_add] at this
      have c0 := hcell 0 (by omega)
      have hsec := fun j hj => (hS.secs j hj).1
      have HS := Lib.hid hS
      have HJ := Lib.hid hJ
      have HC := Lib.hid hC
      have Hcell := Lib.hid hcell
      have Hsec := Lib.hid hsec
      have Hgl := Lib.hid hgl
      obtain ⟨g0, hg0⟩ : ∃ g, g = gs[0]'(by omega) := ⟨_, rfl⟩
      have s0 : wr.heap[g0]? = some (Obj.cells (vals (d.cur 0)).toArray 115 (0, 0)) := by rw [hg0]; exact hsec 0 (by omega)
      have hcl : (d.cur 0).length = 64 := cur_len d hJ.disk.ok 0
      have r0 := range_of_row s0
      have r4 : wr.rangeAt g0 4 (vals ((d.cur 0).drop 4)) := by
        intro j v hv
        rw [← vals_drop, List.getElem?_drop] at hv
        have := r0 _ _ hv
        rwa [Nat.zero_add] at this
      rw [← hg0] at c0
      have h0s : g0 < wr.heap.size := heap_lt s0
      have S0 := Lib.hid (show SlB wr (.slice (some ⟨g0, 0, none⟩) 64 64) (d.cur 0) from .inr ⟨g0, 0, 64, by rw [hcl], by rw [hcl]; decide, r0, h0s⟩)
      have S4 := Lib.hid (show SlB wr (.slice (some ⟨g0, 4, none⟩) 60 60) ((d.cur 0).drop 4) from .inr ⟨g0, 4, 60, by rw [List.length_drop, hcl], by rw [List.length_drop, hcl]; decide, r4, h0s⟩)
      have Hcl := Lib.hid hcl
      unfold secv at c0
      clear hS hJ hC hcell hsec s0 r0 r4 hcl hgl hg0
      go_wp2
      go_quiet (first | (go_at_call 95; exact Calls.quiet_of_same (number_slb (S0.out.chg ((Chg.refl [] wr).drewN _) (by simp)) (by rw [Hcl.out]; decide) (by rw [Hcl.out]; decide))) | (go_at_call 95; exact Calls.quiet_of_same (number_slb (S4.out.chg ((Chg.refl [] wr).drewN _) (by simp)) (by rw [List.length_drop, Hcl.out]; decide) (by rw [List.length_drop, Hcl.out]; decide))))
      obtain ⟨w2, hw2⟩ : ∃ w2, w2 = wr.drewN nq := ⟨_, rfl⟩
      have hq : Chg [] wr w2 := by rw [hw2]; exact (Chg.refl [] wr).drewN nq
      rw [← hw2]
      have HJ2 := Lib.hid (HJ.out.chg hq (by simp) (by simp))
      have HC2 := Lib.hid (HC.out.step hq (fun x hx => by cases hx))
      have Hcell2 : Hid (∀ (j : Nat) (hj : j < gs.length), w2.cell? ⟨gp, j, none⟩ = some (secv gs[j])) := Lib.hid fun j hj => hq.cell (Hcell.out j hj) (by simp)
      have Hsec2 : Hid (∀ (j : Nat) (hj : j < gs.length), w2.heap[gs[j]]? = some (Obj.cells (vals (d.cur j)).toArray 115 (0, 0))) := Lib.hid fun j hj => hq.heap (Hsec.out j hj) (by simp)
      have Hw : Hid (w.heap.size ≤ w2.heap.size) := Lib.hid HC2.out.size
      obtain ⟨qn, hqn⟩ : ∃ n, n = jnum d := ⟨_, rfl⟩
      obtain ⟨cn, hcn⟩ : ∃ n, n = jcnt d := ⟨_, rfl⟩
      rw [show num4 (d.cur 0) = qn from hqn.symm, show num4 (List.drop 4 (d.cur 0)) = cn from hcn.symm]
      have hqb : qn < 4294967296 := by rw [hqn]; exact num4_lt _
      have hcb : cn < 4294967296 := by rw [hcn]; exact num4_lt _
      have Hqn := Lib.hid hqn
      have Hcn := Lib.hid hcn
      clear hq hw2 S0 S4 Hcl c0 h0s HS HJ HC Hcell Hsec hqn hcn
      by_cases hbig : 24 < cn
      · have h1 : decide (24 < (cn : Int)) = true := by simp; omega
        go_wp2
        go_ret2
        have hl : jlist d = [] := by rw [jlist, if_pos (.inl (by rw [← Hcn.out]; exact hbig))]
        refine ⟨none, 0, by rw [hl]; rfl, by rw [hl]; exact PgsAt.nil _ _ _, HJ2.out, HC2.out⟩
      · by_cases hz : qn = 0
        · subst hz
          have h1 : decide (24 < (cn : Int)) = false := by simp; omega
          go_wp2
          go_ret2
          have hl : jlist d = [] := by rw [jlist, if_pos (.inr Hqn.out.symm)]
          refine ⟨none, 0, by rw [hl]; rfl, by rw [hl]; exact PgsAt.nil _ _ _, HJ2.out, HC2.out⟩
        · have h1 : decide (24 < (cn : Int)) = false := by simp; omega
          have h2 : ((qn : Int) == 0) = false := by have : (qn : Int) ≠ 0 := by omega
                                                    simpa using this
          have hnb : ¬ (24 < jcnt d ∨ jnum d = 0) := by rw [← Hcn.out, ← Hqn.out]; omega
          have Hnb := Lib.hid hnb
          clear hnb
          go_wp2
          go_loopw [10, 62] (fun lv x wr => PgRel d w2 lv x wr) (fun _ x _ => cn - (intOf x).toNat)
          case atStart => exact ⟨0, [], by omega, rfl, fun i hi => by omega, ⟨rfl, World.ownsRow_nil _ _ _ _, fun i hi => by cases hi⟩, Chg.refl _ _⟩
          case round =>
            obtain ⟨k, pvs, hk, rfl, hoks, hP, hCk⟩ := hrel
            have hkc : k ≤ cn := by rw [Hcn.out]; exact hk
            have HP := Lib.hid hP
            have HCk := Lib.hid hCk
            have Hoks := Lib.hid hoks
            clear hP hCk hoks hk
            by_cases hlt : k < cn
            · have hgl := Hgl.out
              obtain ⟨ga, hga⟩ : ∃ g, g = gs[1 + 2 * k]'(by omega) := ⟨_, rfl⟩
              obtain ⟨gb, hgb⟩ : ∃ g, g = gs[2 + 2 * k]'(by omega) := ⟨_, rfl⟩
              have ca : wr.cell? ⟨gp, 1 + 2 * k, none⟩ = some (.slice (some ⟨ga, 0, none⟩) 64 64) := by rw [hga]; exact HCk.out.cell (Hcell2.out (1 + 2 * k) (by omega)) (by simp)
              have cb : wr.cell? ⟨gp, 2 + 2 * k, none⟩ = some (.slice (some ⟨gb, 0, none⟩) 64 64) := by rw [hgb]; exact HCk.out.cell (Hcell2.out (2 + 2 * k) (by omega)) (by simp)
              have sa : w2.heap[ga]? = some (Obj.cells (vals (d.cur (1 + 2 * k))).toArray 115 (0, 0)) := by rw [hga]; exact Hsec2.out _ _
              have sb : w2.heap[gb]? = some (Obj.cells (vals (d.cur (2 + 2 * k))).toArray 115 (0, 0)) := by rw [hgb]; exact Hsec2.out _ _
              have Ca := Lib.hid (secs_slb sa (cur_len d HJ2.out.disk.ok _))
              have Cb := Lib.hid (secs_slb sb (cur_len d HJ2.out.disk.ok _))
              obtain ⟨an, han⟩ : ∃ n, n = num4 (d.cur (1 + 2 * k)) := ⟨_, rfl⟩
              obtain ⟨bn, hbn⟩ : ∃ n, n = num4 (d.cur (2 + 2 * k)) := ⟨_, rfl⟩
              have Han := Lib.hid han
              have Hbn := Lib.hid hbn
              clear hga hgb sa sb hgl han hbn
              go_wp2
              go_quiet (fail)
              obtain ⟨w3, hw3⟩ : ∃ w3, w3 = wr.drewN nq := ⟨_, rfl⟩
              have hC3 : Chg [] w2 w3 := by rw [hw3]; exact HCk.out.drewN nq
              have hP3 : Pgs d w2 w3 u10 k pvs := by rw [hw3]; exact HP.out.drawn nq
              rw [← hw3]
              have HC3 := Lib.hid hC3
              have HP3 := Lib.hid hP3
              have Sa := Lib.hid (Ca.out.1.chg hC3 (by simp))
              have Sb := Lib.hid (Cb.out.1.chg hC3 (by simp))
              have S4 := Lib.hid (Ca.out.2.1.chg hC3 (by simp))
              have S8 := Lib.hid (Ca.out.2.2.chg hC3 (by simp))
              have T8 := Lib.hid (Cb.out.2.2.chg hC3 (by simp))
              have Ha := Lib.hid (cur_len d HJ2.out.disk.ok (1 + 2 * k))
              have Hb := Lib.hid (cur_len d HJ2.out.disk.ok (2 + 2 * k))
              clear hw3 hC3 hP3 HP HCk Ca Cb ca cb
              have hbad : (an ≠ qn ∨ bn ≠ qn) → jlist d = [] := by
                intro h
                rw [jlist, if_neg Hnb.out, if_neg]
                intro hall
                have h3 := hall k (by rw [← Hcn.out]; exact hlt)
                rw [jok, ← Han.out, ← Hbn.out, ← Hqn.out] at h3
                omega
              have Hbad := Lib.hid hbad
              clear hbad
              by_cases ha : an = qn
              · by_cases hb : bn = qn
                · have e1 : ((an : Int) == (qn : Int)) = true := by rw [ha]; simp
                  have e2 : ((bn : Int) == (qn : Int)) = true := by rw [hb]; simp
                  have e3 : ((an : Int) != (qn : Int)) = false := by rw [ha]; simp
                  have e4 : ((bn : Int) != (qn : Int)) = false := by rw [hb]; simp
                  have hok : jok d k := by rw [jok, ← Han.out, ← Hbn.out, ← Hqn.out]; exact ⟨ha, hb⟩
                  have Hok := Lib.hid hok
                  clear hok ha hb
                  go_wp2_with (first
                    | (go_at_call 95; refine (number_eq (by rfl) Sa.out (by rw [Ha.out]; decide) (by rw [Ha.out]; decide)).mono ?_; rintro e w' ⟨rfl, hw'⟩; rw [hw']; clear hw' w'; rw [← Han.out])
                    | (go_at_call 95; refine (number_eq (by rfl) Sb.out (by rw [Hb.out]; decide) (by rw [Hb.out]; decide)).mono ?_; rintro e w' ⟨rfl, hw'⟩; rw [hw']; clear hw' w'; rw [← Hbn.out]))
                  refine wp_region_keys [] (by kernel_rfl) trivial ?_
                  refine kTake (i := 0) (v := ?_) rfl (by kernel_rfl) (by kernel_rfl) (some 87) rfl (fun _ _ _ h => h) (Or.inl ⟨by rfl, ?_⟩) ?_
                  rotate_left 1
                  · (intro w; go_simp; try rfl)
                  try simp only [Act.put, List.setIfInBounds_toArray, List.set_cons_zero, List.set_cons_succ]
                  refine kTake (i := 1) (v := ?_) rfl (by kernel_rfl) (by kernel_rfl) (some 88) rfl (fun _ _ _ h => h) (Or.inl ⟨by rfl, ?_⟩) ?_
                  rotate_left 1
                  · (intro w; go_simp; try rfl)
                  try simp only [Act.put, List.setIfInBounds_toArray, List.set_cons_zero, List.set_cons_succ]
                  refine kTake (i := 3) (v := ?_) rfl (by kernel_rfl) (by kernel_rfl) (some 90) rfl (fun _ _ _ h => h) (Or.inl ⟨by rfl, ?_⟩) ?_
                  rotate_left 1
                  · (intro w; go_simp; try rfl)
                  try simp only [Act.put, List.setIfInBounds_toArray, List.set_cons_zero, List.set_cons_succ]
                  refine kTake (i := 4) (v := ?_) rfl (by kernel_rfl) (by kernel_rfl) (some 91) rfl (fun _ _ _ h => h) (Or.inl ⟨by rfl, ?_⟩) ?_
                  rotate_left 1
                  · (intro w; go_simp; try rfl)
                  try simp only [Act.put, List.setIfInBounds_toArray, List.set_cons_zero, List.set_cons_succ]
                  refine kOnly (i := 2) (oi := { dst := (some 89), op := (Go.Op.call { callee := (Go.Callee.builtin Go.Builtin.append), args := #[(Go.Operand.const (Go.Value.slice none 0 0)), (Go.Operand.tmp 88)], argTypes := #[22, 22] }), type := 22, pos := "journal.go:68", after := #[{ on := 1, ground := Go.Ground.data }], guard := none }) (by kernel_rfl) rfl (by rfl) (fun K hK => ?_)
                  refine wp_append_bytes (.const (.slice none 0 0)) (.tmp 88) rfl Tryd.underlying22 info5 w3.heap.size (.slice none 0 0) (.slice (some ⟨ga, 8, none⟩) 32 56) [] (((d.cur (1 + 2 * k)).drop 8).take 32) (by rfl) (by rfl) (World.ownsRow_nil _ _ _ _) (S8.out.chg (Chg.refl [] w3).drew (by simp)) (Nat.le_refl _) (by simp; omega) ?_; intro v4 w4 hO4 hG4 hN4 hF4
                  have hC4 : Chg [] w3 w4 := (Chg.refl [] w3).drew.grown hG4 (by simp [Value.ownBlock])
                  rw [List.nil_append] at hO4
                  refine hK _ _ trivial ?_; clear hK K
                  try simp only [Act.put, List.setIfInBounds_toArray, List.set_cons_zero, List.set_cons_succ]
                  refine kOnly (i := 5) (oi := { dst := (some 92), op := (Go.Op.call { callee := (Go.Callee.builtin Go.Builtin.append), args := #[(Go.Operand.tmp 89), (Go.Operand.tmp 91)], argTypes := #[22, 22] }), type := 22, pos := "journal.go:68", after := #[{ on := 2, ground := Go.Ground.data }, { on := 4, ground := Go.Ground.data }, { on := 2, ground := Go.Ground.chain }], guard := none }) (by kernel_rfl) rfl (by rfl) (fun K hK => ?_)
                  refine wp_append_bytes (.tmp 89) (.tmp 91) rfl Tryd.underlying22 info5 w3.heap.size v4 (.slice (some ⟨gb, 8, none⟩) 32 56) (((d.cur (1 + 2 * k)).drop 8).take 32) (((d.cur (2 + 2 * k)).drop 8).take 32) (by rfl) (by rfl) hO4 (T8.out.chg hC4 (by simp)) hC4.size (by simp; omega) ?_; intro v5 w5 hO5 hG5 hN5 hF5
                  refine hK _ _ trivial ?_; clear hK K
                  have hP5 : Pgs d w2 w5 u10 k pvs := HP3.out.grew hC4 hO4 hG5
                  have hC5 : Chg [] w2 w5 := (HC3.out.trans hC4).step ((Chg.refl v4.ownBlock.toList w4).grown hG5 (fun x hx => .inl (by simp [hx]))) (fun x hx => .inr (Nat.le_trans HC3.out.size (hO4.lt x (by simpa using hx)).1))
                  have hS45 := S4.out.chg ((hC4.mono (by simp) : Chg v4.ownBlock.toList w3 w4).grown hG5 (fun x hx => .inl (by simp [hx]))) (fun x hx hin => by have h7 := (hO4.lt x (by simpa using hin)).1; have h8 := S4.out.lt x hx; omega)
                  try simp only [Act.put, List.setIfInBounds_toArray, List.set_cons_zero, List.set_cons_succ]
                  refine kTake (i := 6) (v := ?_) rfl (by kernel_rfl) (by kernel_rfl) (some 14) rfl (fun _ _ _ h => h) (Or.inl ⟨by rfl, ?_⟩) ?_
                  rotate_left 1
                  · (intro w; go_simp; try rfl)
                  try simp only [Act.put, List.setIfInBounds_toArray, List.set_cons_zero, List.set_cons_succ]
                  refine kDone (by kernel_rfl) ?_
                  have hl5 : (((d.cur (1 + 2 * k)).drop 8).take 32 ++ ((d.cur (2 + 2 * k)).drop 8).take 32).length = 64 := by simp [Ha.out, Hb.out]
                  obtain ⟨s5, c5, hv5⟩ := World.ownsRow.shape hO5
                  rw [hl5] at hv5
                  subst hv5
                  have HP5 := Lib.hid hP5
                  have HC5 := Lib.hid hC5
                  have HO5 := Lib.hid hO5
                  have S45 := Lib.hid hS45
                  obtain ⟨at_, hat_⟩ : ∃ a, a = num4 ((d.cur (1 + 2 * k)).drop 4) := ⟨_, rfl⟩
                  have Hat := Lib.hid hat_
                  clear hP5 hC5 hO5 hS45 hO4 hG4 hN4 hF4 hC4 hG5 hN5 hF5 hat_ hl5
                  go_wp2_with (first
                    | (go_at_call 95; refine (number_eq (by rfl) S45.out (by rw [List.length_drop, Ha.out]; decide) (by rw [List.length_drop, Ha.out]; decide)).mono ?_; rintro e w' ⟨rfl, hw'⟩; rw [hw']; clear hw' w'; rw [← Hat.out])
                    | (refine wpList_buildSlice_one rfl 105 (.tmp 98) rfl 109 j0 _ #[.int .i64 (at_ : Int), .slice s5 64 c5] (by rfl) Tryd.underlying105 hj0 hjz0 hjz1 rfl (by decide) (by decide) ?_)
                    | (refine wpList_append_own2 rfl _ (.tmp 93) (.tmp 99) 105 rfl w2.heap.size 109 j0 _ 2 32 Tryd.underlying105 hj0 hjz0 hjz1 hjz2 rfl (by decide) u10 k _ (by rfl) (HP5.out.owns.alloc _) ⟨w5.heap.size, 0, none⟩ 1 1 [.int .i64 (at_ : Int), .slice s5 64 c5] (by rfl) rfl ?hc ?h1 (by unfold maxLen; omega) (by omega) ?hs ?_; rotate_left 3; intro lv2 w6 hO6 hG6 hN6 hF6))
                  case hc =>
                    intro j u hu
                    rw [Addr.add_mid, Nat.zero_add, cell_of_row _ _ _ _ _ _ (heap_alloc_new _ _)]
                    simpa using hu
                  case h1 => intro u hu; simp only [List.mem_cons, List.mem_nil_iff, or_false] at hu; rcases hu with rfl | rfl <;> rfl
                  case hs => exact Nat.le_trans HC5.out.size (by simp)
                  have hpg : jpage d k = (at_, ((d.cur (1 + 2 * k)).drop 8).take 32 ++ ((d.cur (2 + 2 * k)).drop 8).take 32) := by rw [jpage, Hat.out]
                  have hP6 : Pgs d w2 w6 lv2 (k + 1) (pvs ++ [.slice s5 64 c5]) := (HP5.out.chg ((Chg.refl [] w5).alloc _)).snoc (by rw [hpg]; exact (OwnB.low HO5.out HC3.out.size).chg0 ((Chg.refl [] w5).alloc _)) (by rw [hpg]; exact hO6) hG6
                  have hC6 : Chg [] w2 w6 := (HC5.out.alloc _).grown hG6 (fun x hx => .inr (HP5.out.owns.lt x hx).1)
                  have HP6 := Lib.hid hP6
                  have HC6 := Lib.hid hC6
                  clear hP6 hC6 hO6 hG6 hN6 hF6 hpg
                  go_roundw
                  case rel => exact ⟨k + 1, _, by rw [← Hcn.out]; omega, by go_num, fun i hi => by
                    by_cases hik : i < k
                    · exact Hoks.out i hik
                    · rw [show i = k by omega]; exact Hok.out, HP6.out, HC6.out⟩
                  case measure => simp [intOf]; omega
                · have e1 : ((an : Int) == (qn : Int)) = true := by rw [ha]; simp
                  have e2 : ((bn : Int) == (qn : Int)) = false := by
                    have h3 : (bn : Int) ≠ (qn : Int) := by omega
                    simpa using h3
                  have e3 : ((an : Int) != (qn : Int)) = false := by rw [ha]; simp
                  have e4 : ((bn : Int) != (qn : Int)) = true := by rw [bne, e2]; rfl
                  have hl := Hbad.out (.inr hb)
                  have Hl := Lib.hid hl
                  clear ha hb hl
                  go_wp2_with (first
                    | (go_at_call 95; refine (number_eq (by rfl) Sa.out (by rw [Ha.out]; decide) (by rw [Ha.out]; decide)).mono ?_; rintro e w' ⟨rfl, hw'⟩; rw [hw']; clear hw' w'; rw [← Han.out])
                    | (go_at_call 95; refine (number_eq (by rfl) Sb.out (by rw [Hb.out]; decide) (by rw [Hb.out]; decide)).mono ?_; rintro e w' ⟨rfl, hw'⟩; rw [hw']; clear hw' w'; rw [← Hbn.out]))
                  go_ret2
                  refine ⟨none, 0, by rw [Hl.out]; rfl, by rw [Hl.out]; exact PgsAt.nil _ _ _, HJ2.out.chg HC3.out (by simp) (by simp), HC2.out.step HC3.out (fun x hx => by cases hx)⟩
              · have e1 : ((an : Int) == (qn : Int)) = false := by
                  have h3 : (an : Int) ≠ (qn : Int) := by omega
                  simpa using h3
                have e3 : ((an : Int) != (qn : Int)) = true := by rw [bne, e1]; rfl
                have hl := Hbad.out (.inl ha)
                have Hl := Lib.hid hl
                clear ha hl
                go_wp2_with (first
                  | (go_at_call 95; refine (number_eq (by rfl) Sa.out (by rw [Ha.out]; decide) (by rw [Ha.out]; decide)).mono ?_; rintro e w' ⟨rfl, hw'⟩; rw [hw']; clear hw' w'; rw [← Han.out])
                  | (go_at_call 95; refine (number_eq (by rfl) Sb.out (by rw [Hb.out]; decide) (by rw [Hb.out]; decide)).mono ?_; rintro e w' ⟨rfl, hw'⟩; rw [hw']; clear hw' w'; rw [← Hbn.out]))
                go_ret2
                refine ⟨none, 0, by rw [Hl.out]; rfl, by rw [Hl.out]; exact PgsAt.nil _ _ _, HJ2.out.chg HC3.out (by simp) (by simp), HC2.out.step HC3.out (fun x hx => by cases hx)⟩
            · obtain rfl : k = cn := by omega
              have hl : jlist d = (List.range (jcnt d)).map (jpage d) := by
                rw [jlist, if_neg Hnb.out, if_pos]
                intro i hi
                exact Hoks.out i (by rw [Hcn.out]; exact hi)
              obtain ⟨sp, cap2, hlv⟩ : ∃ sp cap2, u10 = .slice sp k cap2 := HP.out.owns.shape
              subst hlv
              have hlen : (jlist d).length = k := by rw [hl, List.length_map, List.length_range, ← Hcn.out]
              have hpg : PgsAt (jb :: m.foot b) wr sp (jlist d) := by
                have := HP.out.at_ (F := jb :: m.foot b) (fun x hx => by
                  have h5 := Hw.out
                  rcases List.mem_cons.1 hx with rfl | hx
                  · omega
                  · have := H.out.disk.footlt x hx; omega)
                rw [← Hcn.out] at hl
                rw [hl]; exact this
              have Hlen := Lib.hid hlen
              have Hpg := Lib.hid hpg
              clear hl hlen hpg
              go_wp2
              go_ret2
              exact ⟨sp, cap2, by rw [Hlen.out]; rfl, Hpg.out, HJ2.out.chg HCk.out (by simp) (by simp), HC2.out.step HCk.out (fun x hx => by cases hx)⟩

end Go.Proofs.YtaacejpienbkgaaDoor
