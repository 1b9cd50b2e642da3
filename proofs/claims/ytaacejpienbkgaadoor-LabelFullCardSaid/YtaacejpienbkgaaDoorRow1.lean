/- Opening a row's arguments: keys, bytes; reading them again behind the call. -/
import Derived.Test.YtaacejpienbkgaaDoorRow0
import Derived.WideKeyArgs
import Derived.ChangeMaps5
import Derived.SizedLaws
namespace Go.Proofs.YtaacejpienbkgaaDoor
open Go.ChangeShapes Go.WideShapes Go.ChangeAt Go.RowKit Go.ChangeMaps

theorem laidOut : laidOutB Tryd.prog = true := by kernel_rfl
theorem cells28 : Tryd.prog.cellsOf 28 = 32 := by kernel_rfl
theorem cells5 : Tryd.prog.cellsOf 5 = 1 := by kernel_rfl

section
variable {H : Type} {enc : TypeId × Value → H} {W W' : World}
/-- The arguments read behind the call as they read ahead of it. -/
theorem args_stay (hb : Below W.heap.size W W') : ∀ (ts : List TypeId) (vs : List Value) (ds : List (DataW H)) (ps : List MemPlace), (∀ t ∈ ts, Tryd.prog.readableRec t = true ∧ t < Tryd.prog.types.size) → (∀ p ∈ ps, p.block < W.heap.size) →
    DataW.TrodAll enc Tryd.prog W 0 (fun _ => true) true ts vs ds ps → ∀ sp : Nat → Bool, (∀ p ∈ ps, sp p.block = true) → DataW.TrodAll enc Tryd.prog W' 0 sp true ts vs ds ps
  | [], vs, ds, ps, _, _, h, _, _ => by
    obtain ⟨rfl, rfl, rfl⟩ := trodAll_nil h
    exact trodAll_mk0
  | t :: ts, vs, ds, ps, ht, hl, h, sp, hs => by
    obtain ⟨v, vs', d, ds', p, q, rfl, rfl, rfl, h0, h1⟩ := trodAll_cons h
    obtain ⟨hr, hrow⟩ := ht t (by simp)
    exact trodAll_cons_mk (WideElems.Trod_stays laidOut hr hrow h0 (fun x hx => hb.same (hl x (List.mem_append_left _ hx))) (fun x hx => hs x (List.mem_append_left _ hx)))
      (args_stay hb ts vs' ds' q (fun u hu => ht u (by simp [hu])) (fun x hx => hl x (List.mem_append_right _ hx)) h1 sp (fun x hx => hs x (List.mem_append_right _ hx)))

set_option maxRecDepth 100000 in
/-- A law's row, out of its walk. -/
theorem law_post {f : Func} {k : Nat} {s : ChangeSpec} {args : Array Value} {ds gs : List (DataW H)} {before : List MemPlace} (hvars : s.vars = []) (hres : f.resultTypes = #[4]) (hspec : s.fn H ds = { results := [.lit (.bool true)], args := ds })
    (hts : ∀ t ∈ f.params.toList, Tryd.prog.readableRec t = true ∧ t < Tryd.prog.types.size)
    (hW : DataW.Whole enc Tryd.prog f.params.toList s.vars false W args.toList ds gs before)
    (walk : Calls Tryd.prog k args W fun e w' => e = .returned (.bool true) ∧ Chg [] W w') :
    Calls Tryd.prog k args W fun e W' => ∃ v, e = .returned v ∧ s.post enc Tryd.prog f false true false false W args v W' := by
  have hW' := hW
  obtain ⟨p, q, hA, hV, rfl, hfz, hnd⟩ := hW
  rw [hvars] at hV
  obtain ⟨rfl, rfl⟩ := trodVars_none hV
  simp only [List.append_nil] at hW'
  have hlt : ∀ x ∈ p, x.block < W.heap.size := fun x hx => hW'.lt x hx
  refine walk.mono fun e W' ⟨he, hC⟩ => ?_
  subst he
  refine ⟨_, rfl, post_chg (pa := p) (pv := []) hW' (fun _ _ _ => ?_) (fun sp hs => ?_) (fun _ _ => ?_) (by simp) hC ?_⟩
  · rw [hres, List.append_nil, hspec]
    exact trodAll_cons_mk (shut_bool Tryd.underlying4 _) trodAll_mk0
  · rw [List.append_nil, hspec]
    exact args_stay hC.below _ _ _ _ hts hlt hA sp hs
  · rw [hvars, List.append_nil, hspec]; rfl
  · rw [hres]
    intro j t r ht hr
    cases j with
    | zero =>
      have h1 : t = 4 := (Option.some.inj ht).symm
      have h2 : r = .bool true := (Option.some.inj hr).symm
      rw [h1, h2]
      exact okWide_bool_mk Tryd.underlying4 _
    | succ j => simp at ht

theorem u8_wf {n : Int} (h : (Lit.int .u8 n).wf = true) : ∃ b : UInt8, Value.int .u8 n = B b := by
  have h1 : 0 ≤ n ∧ n ≤ 255 := by
    simp [Lit.wf, IntKind.min, IntKind.max, IntKind.signed, IntKind.bits] at h
    omega
  refine ⟨by8 n, ?_⟩
  rw [B_by8]
  congr 1
  omega
def byteOf : Value → UInt8
  | .int .u8 n => by8 n
  | _ => 0
theorem byteOf_B (b : UInt8) : B (byteOf (B b)) = B b := by
  show B (by8 (b.toNat : Int)) = _
  rw [by8_toNat]
set_option maxRecDepth 100000 in
/-- A key by value. -/
theorem open_key {r : Reach} {b0 : Nat} {v : Value} {d : DataW H} {ps : List MemPlace} {sp : Nat → Bool} (hval : Value.okWide Tryd.prog W r b0 28 v) (hd : DataW.Trod enc Tryd.prog W 0 sp true 28 v d ps) : ∃ k : Bytes, k.length = 32 ∧ v = .agg (vals k).toArray := by
  unfold Value.okWide at hval
  rw [Tryd.underlying28] at hval
  obtain ⟨cs, rfl, hs, -⟩ := hval
  rw [cells28] at hs
  obtain ⟨fuel, hf⟩ := hd
  cases fuel with
  | zero => simp [DataW.trod] at hf
  | succ m =>
    rw [DataW.trod_step] at hf
    unfold DataW.trodStep at hf
    simp only [Tryd.underlying28, Value.cells, cells28, cells5] at hf
    rw [if_pos (by simp [hs])] at hf
    obtain ⟨xs, hm, -⟩ := Option.map_eq_some_iff.1 hf
    refine ⟨cs.toList.map byteOf, by simp [hs], ?_⟩
    congr 1
    apply Array.ext'
    apply List.ext_getElem
    · simp
    · intro i h1 h2
      have hi : i < 32 := by simpa [hs] using h1
      obtain ⟨y, -, hy⟩ := Lib.mapM_at hm i i (by simp [hi])
      obtain ⟨n, hn, -, hw⟩ := DataW.trod_int Tryd.underlying5 hy
      rw [Nat.mul_one] at hn
      have hc : cs.toList[i] = .int .u8 n := by
        have h3 : (cs.toList.drop i).take 1 = [cs.toList[i]] := by
          rw [List.drop_eq_getElem_cons h1]; rfl
        rw [h3] at hn
        exact List.head_eq_of_cons_eq hn
      obtain ⟨b, hb⟩ := u8_wf hw
      simp only [vals, List.getElem_map, hc, hb]
      rw [byteOf_B]

set_option maxRecDepth 100000 in
/-- A slice of bytes. -/
theorem open_bytes {r : Reach} {b0 : Nat} {v : Value} {d : DataW H} {ps : List MemPlace} (hval : Value.okWide Tryd.prog W r b0 22 v) (hd : DataW.Trod enc Tryd.prog W 0 (fun _ => true) true 22 v d ps) : ∃ xs : Bytes, SlB W v xs ∧
    ((v = .slice none 0 0 ∧ d = .nil) ∨ ∃ el sp, d = .slice el sp ∧ el.length = xs.length) := by
  obtain ⟨fuel, hf⟩ := hd
  obtain ⟨a0, l0, c0, rfl⟩ := okWide_slice Tryd.underlying22 hval
  rcases open_ints Tryd.underlying22 Tryd.underlying5 cells5 hf with ⟨h1, h2⟩ | ⟨a, len, cap, zs, h1, -, hl, -, hz, hx, hc, hw⟩
  · simp [Value.cells] at h1
    obtain ⟨rfl, rfl, rfl⟩ := h1
    exact ⟨[], .inl ⟨rfl, rfl⟩, .inl ⟨rfl, by simpa using congrArg Prod.fst h2⟩⟩
  · simp [Value.cells] at h1
    obtain ⟨rfl, rfl, rfl⟩ := h1
    simp only [Value.okWide, Cell.okWide, Cell.ok, Tryd.underlying22] at hval
    obtain ⟨-, -, -, hsp, row, cells, hsh, -⟩ := hval
    have ha : a = ⟨a.block, a.off, none⟩ := by cases a; simp_all
    have hlt : a.block < W.heap.size := by
      unfold World.shape? at hsh
      by_cases h : a.block < W.heap.size
      · exact h
      · rw [Array.getElem?_eq_none (by omega)] at hsh; simp at hsh
    simp only [if_true] at hz
    refine ⟨(zs.take l0).map by8, .inr ⟨a.block, a.off, c0, ?_, ?_, ?_, hlt⟩, .inr ⟨_, _, congrArg Prod.fst hx, ?_⟩⟩
    · rw [← ha]; congr 1; simp; omega
    · simp; omega
    · intro j u hu
      simp only [vals, List.map_map, List.getElem?_map] at hu
      obtain ⟨n, hn, rfl⟩ := Option.map_eq_some_iff.1 hu
      have hj : j < l0 := by
        have := (List.getElem?_eq_some_iff.1 hn).1
        simp at this; omega
      have hjz : j < zs.length := by omega
      have h3 := hc j hjz
      rw [ha, Addr.add_mid] at h3
      rw [h3]
      rw [List.getElem?_take, if_pos hj, List.getElem?_eq_getElem hjz] at hn
      have e : zs.getD j 0 = n := by
        rw [List.getD_eq_getElem?_getD, List.getElem?_eq_getElem hjz]; exact Option.some.inj hn
      rw [e]
      obtain ⟨b, hb⟩ := u8_wf (hw n (by rw [← Option.some.inj hn]; exact List.getElem_mem hjz))
      rw [Function.comp_apply, B_by8, hb]
      cases hb
      have := b.toNat_lt
      unfold B
      congr 2
      omega
    · simp [lits]
end
end Go.Proofs.YtaacejpienbkgaaDoor
