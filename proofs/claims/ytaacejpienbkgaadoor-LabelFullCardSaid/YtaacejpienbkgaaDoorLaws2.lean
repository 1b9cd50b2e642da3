/- Appends of a string's bytes, and of noughts, to bytes of one's own. -/
import Derived.Test.YtaacejpienbkgaaDoorLab2
import Derived.Lib.AppendStr
import Derived.Lib.AppendZerosOnto
namespace Go.Proofs.YtaacejpienbkgaaDoor
open Go.RowKit

theorem strCells_vals (xs : Bytes) : Lib.strCells ⟨xs.toArray⟩ = vals xs := by
  simp [Lib.strCells, vals, B]

theorem zeroCells_vals (k : Nat) : Builtin.zeroCells (Value.int .u8 0).cells k = (vals (zeros k)).toArray := by
  apply Array.ext'
  simp [Builtin.zeroCells, vals, zeros, B, Value.cells]
  apply List.ext_getElem
  · simp
  · intro j h1 h2
    simp [Nat.mod_one]

theorem run_append_zeros_eq {P : Program} (w : World) (ty : TypeId) (i : TypeInfo) (hu : P.underlying 22 = some (.slice 5)) (h3 : P.underlying 3 = some (.int .i64)) (h9 : P.underlying 9 = some .string)
    (hi : P.info? 5 = some i) (hz : i.zero = some (.int .u8 0)) (hs : i.size = 1) (hb : i.bytes = 1) (sp : Option Addr) (n c k : Nat) (hk : k ≤ 1000000) (hn : n ≤ 1000000000000) :
    (Builtin.append_ #[22, 3] ty #[.slice sp n c, .int .i64 k]).run P w = (Builtin.append_ #[22, 9] ty #[.slice sp n c, str (zeros k)]).run P w := by
  have hw : IntKind.i64.wrap (k : Int) = k := by rw [IntKind.wrap_i64]; omega
  have hneg : ¬ ((k : Int) < 0) := by omega
  have h48i : ¬ (281474976710656 < (k : Int)) := by omega
  have hsz : (⟨(zeros k).toArray⟩ : ByteArray).size = k := by show (zeros k).toArray.size = k; simp
  have hf : ∀ w' : World, (Builtin.firstCells 1 k (str (zeros k))).run P w' = .ok (vals (zeros k)).toArray w' := by
    intro w'
    have := Lib.run_firstCells_string (P := P) w' 1 ⟨(zeros k).toArray⟩
    rw [hsz, strCells_vals] at this
    exact this
  have hz0 : k = 0 → (vals (zeros k)).toArray = #[] := by rintro rfl; rfl
  have h63 : ¬ (9223372036854775807 < (n : Int) + (k : Int)) := by omega
  unfold str at hf ⊢
  generalize hzz : vals (zeros k) = Z at *
  have hw0 : IntKind.i64.wrap 0 = 0 := by rw [IntKind.wrap_i64]; rfl
  have h63' : ¬ (9223372036854775807 < (n : Int)) := by omega
  have hfit : ¬ n + k ≤ c → ¬ (281474976710656 < Builtin.nextslicecap (n + k) c) := by
    intro h
    have := growslice_fits (need := n + k) (old := c) (bytes := 1) (by omega) (by omega)
    omega
  by_cases hk0 : k = 0
  · subst hk0
    obtain rfl : Z = [] := by rw [← hzz]; rfl
    by_cases hroom : n ≤ c
    · simp [Builtin.append_, run_underlying hu, run_underlying h3, run_underlying h9, sizeOf, typeInfo, zeroValue, hi, hz, hs, hb, asInt, asIntOf, hw0, Builtin.lenOf, hsz, hf, hroom]
    · have hf1 := hfit hroom
      rw [Nat.add_zero] at hf1
      simp [Builtin.append_, run_underlying hu, run_underlying h3, run_underlying h9, sizeOf, typeInfo, zeroValue, hi, hz, hs, hb, asInt, asIntOf, hw0, h63', Builtin.lenOf, hsz, hf, hroom, hf1]
  · by_cases hroom : n + k ≤ c
    · simp [Builtin.append_, run_underlying hu, run_underlying h3, run_underlying h9, sizeOf, typeInfo, zeroValue, hi, hz, hs, hb, asInt, asIntOf, hw, hneg, h48i, Builtin.lenOf, hsz, hf, hk0, zeroCells_vals, hzz, hroom]
    · have hf1 := hfit hroom
      simp [Builtin.append_, run_underlying hu, run_underlying h3, run_underlying h9, sizeOf, typeInfo, zeroValue, hi, hz, hs, hb, asInt, asIntOf, hw, hneg, h48i, Builtin.lenOf, hsz, hf, h63, hk0, zeroCells_vals, hzz, hroom, hf1]

section
variable {P : Program} {ops : Array Oper} {Q : Exit → Act → World → Prop} {o : Oper} {a : Act} {K : Act → World → Prop}
/-- 'append(p, s...)' of a string's bytes onto bytes of one's own. -/
theorem wp_append_str {w : World} (d x : Operand) (ho : o.op = .call { callee := .builtin .append, args := #[d, x], argTypes := #[22, 9] }) (hu : P.underlying 22 = some (.slice 5)) (h9 : P.underlying 9 = some .string) (h5 : (P.info? 5).map (fun i => (i.zero, i.size, i.bytes)) = some (some (.int .u8 0), 1, 1))
    (base : Nat) (dv : Value) (xs ys : Bytes) (hd : a.eval d = dv) (hx : a.eval x = str ys) (hD : OwnB w base dv xs) (hb : base ≤ w.heap.size) (hlen : xs.length + ys.length ≤ 1000000)
    (h : ∀ v' w', OwnB w' base v' (xs ++ ys) → w.grownBy w' dv.ownBlock → K (a.put o.dst v') w') : o.wp P a w K Q := by
  obtain ⟨i0, hi, hz0, hz1, hz2⟩ := info_parts h5
  have hsz : (⟨ys.toArray⟩ : ByteArray).size = ys.length := by show ys.toArray.size = _; simp
  obtain ⟨v', w', hr, h2, h3, h4⟩ := Lib.run_append_own_string (P := P) w base 22 9 o.type 5 i0 hu h9 hi hz0 hz1 hz2 dv xs.length (vals xs) hD ⟨ys.toArray⟩ (by rw [hsz]; unfold maxLen; omega) (by rw [hsz]; omega) hb
  unfold Oper.wp execOp
  simp only [ho, resolve, invoke, builtin, Sem.run_bind, Sem.run_pure, Result.andThen_ok, List.map_toArray, List.map_cons, List.map_nil, hd, hx, str, hr]
  refine h v' w' ?_ h3
  unfold OwnB
  rw [hsz, strCells_vals] at h2
  rw [List.length_append, vals_append]
  exact h2
/-- 'append(p, make([]byte, k)...)' onto bytes of one's own. -/
theorem wp_append_zeros {w : World} (d x : Operand) (ho : o.op = .call { callee := .builtin .append, args := #[d, x], argTypes := #[22, 3] }) (hu : P.underlying 22 = some (.slice 5)) (h3 : P.underlying 3 = some (.int .i64)) (h9 : P.underlying 9 = some .string) (h5 : (P.info? 5).map (fun i => (i.zero, i.size, i.bytes)) = some (some (.int .u8 0), 1, 1))
    (base : Nat) (dv : Value) (xs : Bytes) (k : Nat) (hd : a.eval d = dv) (hx : a.eval x = .int .i64 k) (hD : OwnB w base dv xs) (hb : base ≤ w.heap.size) (hlen : xs.length + k ≤ 1000000)
    (h : ∀ v' w', OwnB w' base v' (xs ++ zeros k) → w.grownBy w' dv.ownBlock → K (a.put o.dst v') w') : o.wp P a w K Q := by
  obtain ⟨i0, hi, hz0, hz1, hz2⟩ := info_parts h5
  have hsz : (⟨(zeros k).toArray⟩ : ByteArray).size = k := by show (zeros k).toArray.size = _; simp
  obtain ⟨v', w', hr, h2, h3', h4⟩ := Lib.run_append_own_string (P := P) w base 22 9 o.type 5 i0 hu h9 hi hz0 hz1 hz2 dv xs.length (vals xs) hD ⟨(zeros k).toArray⟩ (by rw [hsz]; unfold maxLen; omega) (by rw [hsz]; omega) hb
  obtain ⟨sp, c, hdv⟩ := World.ownsRow.shape hD
  have he := run_append_zeros_eq (P := P) w o.type i0 hu h3 h9 hi hz0 hz1 hz2 sp xs.length c k (by omega) (by omega)
  rw [← hdv] at he
  unfold str at he
  rw [hr] at he
  unfold Oper.wp execOp
  simp only [ho, resolve, invoke, builtin, Sem.run_bind, Sem.run_pure, Result.andThen_ok, List.map_toArray, List.map_cons, List.map_nil, hd, hx, he]
  refine h v' w' ?_ h3'
  unfold OwnB
  rw [hsz, strCells_vals] at h2
  rw [List.length_append, vals_append, zeros_length]
  exact h2
end
end Go.Proofs.YtaacejpienbkgaaDoor
