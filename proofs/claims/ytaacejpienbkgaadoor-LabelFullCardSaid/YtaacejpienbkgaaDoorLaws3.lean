/- More laws: a copy that fills what it copies to; appends of strings and noughts in a list. -/
import Derived.Test.YtaacejpienbkgaaDoorLaws2
namespace Go.Proofs.YtaacejpienbkgaaDoor
open Go.RowKit

theorem ba_append (xs ys : Bytes) : ((⟨xs.toArray⟩ : ByteArray) ++ ⟨ys.toArray⟩) = ⟨(xs ++ ys).toArray⟩ := by
  apply ByteArray.ext
  simp
theorem toList_arr (xs : Bytes) : (⟨xs.toArray⟩ : ByteArray).toList = xs := by
  rw [ByteArray.toList_eq]
theorem slb_one {w : World} {x : Int} {c : UInt8} (hc : B c = .int .u8 x) : SlB (w.alloc (Obj.cells #[.int .u8 x] 5)) (.slice (some ⟨w.heap.size, 0, none⟩) 1 1) [c] := by
  have h : (w.alloc (Obj.cells #[.int .u8 x] 5)).heap[w.heap.size]? = some (Obj.cells (vals [c]).toArray 5 (0, 0)) := by
    rw [heap_alloc_new]
    simp [vals, hc]
  exact slb_block h rfl
theorem B_ofNat (i : Nat) (h : i < 256) : B (UInt8.ofNat i) = .int .u8 (i : Int) := by
  unfold B
  rw [UInt8.toNat_ofNat', Nat.mod_eq_of_lt h]
section
variable {P : Program} {ops : Array Oper} {Q : Exit → Act → World → Prop} {o : Oper} {a : Act} {K : Act → World → Prop} {rest : List Oper}
/-- 'copy(dst, src)', bytes: src is as long as dst at least. -/
theorem wp_copy_cut {w : World} (d s : Operand) (ho : o.op = .call { callee := .builtin .copy, args := #[d, s], argTypes := #[22, 22] }) (hu : P.underlying 22 = some (.slice 5)) (hsz : (P.info? 5).map (·.size) = some 1)
    (g off dLen dCap : Nat) (sv : Value) (hd : a.eval d = .slice (some ⟨g, off, none⟩) dLen dCap) (hs : a.eval s = sv) (xs : Bytes) (hS : SlB w sv xs) (hle : dLen ≤ xs.length) (hpos : 0 < dLen)
    (pre mid post : List Value) (t : TypeId) (hg : w.heap[g]? = some (.cells (pre ++ mid ++ post).toArray t (0, 0))) (hoff : pre.length = off) (hmid : mid.length = dLen)
    (h : ∀ w', w'.heap[g]? = some (.cells (pre ++ vals (xs.take dLen) ++ post).toArray t (0, 0)) → Chg [g] w w' → K (a.put o.dst (.int .i64 dLen)) w') : o.wp P a w K Q := by
  subst hs
  rcases hS with ⟨_, h0⟩ | ⟨b, o', cap, hsv, _, hr, _⟩
  · subst h0; simp at hle; omega
  · have hl : (vals (xs.take dLen)).length = dLen := by simp; omega
    have hrun := run_copy_row (P := P) w 22 22 o.type 5 g off dLen dCap ⟨b, o', none⟩ xs.length cap _ t (vals (xs.take dLen)) hu hsz hg (by rw [hl]; exact (Nat.min_eq_right hle).symm)
      (fun j v hv => by rw [Addr.add_mid]; exact hr j v (by rw [vals_getElem?] at hv ⊢; rw [List.getElem?_take] at hv; split at hv; exact hv; simp at hv)) (by rw [hl]; simp; omega) (oneCell_vals _)
    have e : (((pre ++ mid ++ post).toArray.toList.take off) ++ vals (xs.take dLen) ++ ((pre ++ mid ++ post).toArray.toList.drop (off + (vals (xs.take dLen)).length))).toArray = (pre ++ vals (xs.take dLen) ++ post).toArray := by
      congr 1
      have e1 : (pre ++ mid ++ post).take off = pre := by
        rw [List.append_assoc, ← hoff]; exact List.take_left
      have e2 : (pre ++ mid ++ post).drop (off + (vals (xs.take dLen)).length) = post := by
        rw [hl, ← hoff, ← hmid, ← List.length_append]; exact List.drop_left
      simp only [e1, e2]
    rw [e, hl] at hrun
    have hk := h _ (setRow_heap w g _ (pre ++ vals (xs.take dLen) ++ post).toArray t _ hg) ((Chg.refl _ _).setRow (.inl (by simp)) _)
    generalize (pre ++ vals (xs.take dLen) ++ post).toArray = R at hrun hk
    unfold Oper.wp
    simp [execOp, ho, resolve, invoke, builtin, hd, hsv, hrun, Result.andThen]
    exact hk
theorem wpList_append_str {w : World} (hgd : o.guard = none) (d x : Operand) (ho : o.op = .call { callee := .builtin .append, args := #[d, x], argTypes := #[22, 9] }) (hu : P.underlying 22 = some (.slice 5)) (h9 : P.underlying 9 = some .string) (h5 : (P.info? 5).map (fun i => (i.zero, i.size, i.bytes)) = some (some (.int .u8 0), 1, 1))
    (base : Nat) (dv : Value) (xs ys : Bytes) (hd : a.eval d = dv) (hx : a.eval x = str ys) (hD : OwnB w base dv xs) (hb : base ≤ w.heap.size) (hlen : xs.length + ys.length ≤ 1000000)
    (h : ∀ v' w', OwnB w' base v' (xs ++ ys) → w.grownBy w' dv.ownBlock → wpList P ops Q rest (a.put o.dst v') w') : wpList P ops Q (o :: rest) a w :=
  wpList_plain hgd fun _ hK => wp_append_str d x ho hu h9 h5 base dv xs ys hd hx hD hb hlen (fun v' w' h1 h2 => hK _ _ (h v' w' h1 h2))
theorem wpList_append_zeros {w : World} (hgd : o.guard = none) (d x : Operand) (ho : o.op = .call { callee := .builtin .append, args := #[d, x], argTypes := #[22, 3] }) (hu : P.underlying 22 = some (.slice 5)) (h3 : P.underlying 3 = some (.int .i64)) (h9 : P.underlying 9 = some .string) (h5 : (P.info? 5).map (fun i => (i.zero, i.size, i.bytes)) = some (some (.int .u8 0), 1, 1))
    (base : Nat) (dv : Value) (xs : Bytes) (k : Nat) (hd : a.eval d = dv) (hx : a.eval x = .int .i64 k) (hD : OwnB w base dv xs) (hb : base ≤ w.heap.size) (hlen : xs.length + k ≤ 1000000)
    (h : ∀ v' w', OwnB w' base v' (xs ++ zeros k) → w.grownBy w' dv.ownBlock → wpList P ops Q rest (a.put o.dst v') w') : wpList P ops Q (o :: rest) a w :=
  wpList_plain hgd fun _ hK => wp_append_zeros d x ho hu h3 h9 h5 base dv xs k hd hx hD hb hlen (fun v' w' h1 h2 => hK _ _ (h v' w' h1 h2))
end
end Go.Proofs.YtaacejpienbkgaaDoor
