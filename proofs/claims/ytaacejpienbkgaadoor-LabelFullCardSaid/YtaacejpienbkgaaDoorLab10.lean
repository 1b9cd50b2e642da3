/- label.All's sort: refs by their names; out of the library's contract. -/
import Derived.Test.YtaacejpienbkgaaDoorShelf0
-- @@NT
import Derived.Test.YtaacejpienbkgaaDoorLab2
namespace Go.Proofs.YtaacejpienbkgaaDoor
open Go.RowKit Go.Sort

theorem cmpB_lt : ∀ (a b : Bytes), Lib.compareBytes a b < 0 ↔ a < b
  | [], [] => by simp [Lib.compareBytes]
  | [], _ :: _ => by simp [Lib.compareBytes]
  | _ :: _, [] => by simp [Lib.compareBytes]
  | a :: r, b :: s => by
    have ih := cmpB_lt r s
    unfold Lib.compareBytes
    rw [List.cons_lt_cons_iff]
    by_cases h1 : a < b
    · simp [h1]
    · rw [if_neg h1]
      by_cases h2 : b < a
      · rw [if_pos h2]
        simp only [h1, false_or]
        constructor
        · intro h; omega
        · rintro ⟨rfl, _⟩; exact absurd h2 h1
      · rw [if_neg h2, ih]
        have e : a = b := UInt8.le_antisymm (UInt8.not_lt.1 h2) (UInt8.not_lt.1 h1)
        simp [e]

/-- A ref whose key is a key. -/
def Rx : Type := { r : Rf // r.key.length = 32 }
instance : Inhabited Rx := ⟨⟨Rf.none, rfl⟩⟩
def Rx.enc (x : Rx) : List Value := rcells x.1
def Rx.cf (x y : Rx) : Int := Lib.compareBytes x.1.name y.1.name
theorem Rx.lt (x y : Rx) : ltOf Rx.cf x y = decide (x.1.name < y.1.name) := by
  unfold ltOf Rx.cf
  exact decide_eq_decide.2 (cmpB_lt _ _)
theorem Rx.swo : SWO (ltOf Rx.cf) where
  irrefl x := by rw [Rx.lt]; exact decide_eq_false (List.lt_irrefl _)
  trans x y z h1 h2 := by
    rw [Rx.lt] at *
    exact decide_eq_true (List.lt_trans (of_decide_eq_true h1) (of_decide_eq_true h2))
  ntrans x y z h1 h2 := by
    rw [Rx.lt] at *
    have h1 := of_decide_eq_false h1
    have h2 := of_decide_eq_false h2
    rw [List.not_lt] at h1 h2
    exact decide_eq_false (List.not_lt.2 (List.le_trans h2 h1))

set_option maxRecDepth 100000 in
set_option maxHeartbeats 1000000 in
theorem cmpref_spec (x y : Rf) (w : World) (hx : x.key.length = 32) (hy : y.key.length = 32) :
    Calls Tryd.prog 74 #[.agg (rcells x).toArray, .agg (rcells y).toArray] w fun e w' => e = .returned (.int .i64 (Lib.compareBytes x.name y.name)) ∧ ∃ q os', w' = grow (w.drewN q) os' := by
  have hcon := fun w' => Any.strings_Compare Tryd.lays106 ⟨x.name.toArray⟩ ⟨y.name.toArray⟩ w'
  change ∀ w', Calls Tryd.prog 75 _ _ _ at hcon
  simp only at hcon
  generalize Lib.compareBytes x.name y.name = r at hcon ⊢
  have h0 : (rcells x)[0]? = some (.string ⟨x.name.toArray⟩) := rfl
  have h1 : (rcells y)[0]? = some (.string ⟨y.name.toArray⟩) := rfl
  have Hx := Lib.hid (rcells_length hx)
  have Hy := Lib.hid (rcells_length hy)
  clear hx hy
  have Hcon := Lib.hid hcon
  clear hcon
  go_enter Tryd.func74, Tryd.ntmps74
  go_wp2_with (go_at_call 75; refine (Hcon.out _).mono ?_; rintro e w' ⟨rfl, rfl⟩)
  go_ret
  exact ⟨rfl, 0, _, by rw [alloc_eq_grow, alloc_eq_grow, grow_grow]; rfl⟩

theorem chg_sortWorldK {α : Type} [Inhabited α] (enc : α → List Value) (k : Nat) (w : World) (blk off n : Nat) (d : Array α) (os : Array Obj) : Chg [blk] w (sortWorldK enc k w blk off n d os) := by
  unfold sortWorldK putRowK putRow
  refine ⟨rfl, rfl, rfl, ?_, fun i hi hn => ?_⟩
  · simp [grow, mapBlock]
  · have hb : i ≠ blk := by simpa using hn
    simp only [grow, mapBlock]
    rw [Array.getElem?_append_left (by simpa using hi), Array.getElem?_modify, if_neg (Ne.symm hb)]
    rfl

/-- A slice's refs, at the head of a block. -/
def RowAt (w : World) (g : Nat) (l : List Rf) : Prop := ∀ (k : Nat) (hk : k < l.length), w.rangeAt g (k * 34) (rcells l[k])

theorem sortref_spec (g cap : Nat) (cs : Array Value) (ds : List Rx) (w : World) (hg : w.heap[g]? = some (.cells cs 48 (0, 0))) (hr : RowAt w g (ds.map (·.1))) (hsz : ds.length < 1000000) :
    Calls Tryd.prog 73 #[.slice (some ⟨g, 0, none⟩) ds.length cap, .func (.func 74) #[] #[]] w fun e w' =>
      e = .returned (.tuple #[]) ∧ ∃ ds' : List Rx, ds'.Perm ds ∧ (∀ (i j : Nat) (hij : i < j) (hj : j < ds'.length), ¬ ds'[j].1.name < (ds'[i]'(by omega)).1.name) ∧ RowAt w' g (ds'.map (·.1)) ∧ Chg [g] w w' := by
  have eg : ∀ args w, (callFunc 74 args).run Tryd.prog w = .ok (.enter 74 args) w := enters_of Tryd.func74 (by kernel_rfl) rfl
  have hk : ∀ x : Rx, x.enc.length = 34 := fun x => rcells_length x.2
  have hH : HoldsK Rx.enc 34 w g 0 ds.toArray := by
    intro j hj
    have hj' : j < ds.length * 34 := by simpa using hj
    have hlt : j / 34 < ds.length := by omega
    have hm : j % 34 < 34 := Nat.mod_lt _ (by decide)
    have he : (flatK Rx.enc 34 ds.toArray)[j]! = (rcells ds[j / 34].1)[j % 34]! := by
      rw [get_flatK Rx.enc 34 ds.toArray j (by simpa using hj')]
      rw [getElem!_pos ds.toArray (j / 34) (by simpa using hlt)]
      rfl
    refine ⟨?_, frozen_of_row _ _ _ _ _ hg⟩
    show w.cell? _ = some ((flatK Rx.enc 34 ds.toArray)[j]!)
    rw [he]
    have hc := hr (j / 34) (by simpa using hlt) (j % 34) ((rcells ds[j / 34].1)[j % 34]!) (by
      rw [List.getElem_map, getElem!_pos _ _ (by rw [rcells_length ds[j / 34].2]; exact hm), List.getElem?_eq_getElem (by rw [rcells_length ds[j / 34].2]; exact hm)])
    rw [← hc, Nat.zero_add]
    congr 2
    omega
  have hcmp : CmpLays Tryd.prog 74 #[] Rx.enc 34 Rx.cf g 0 ds.toArray.size w := fun m os dk _ x y => cmpref_spec x.1 y.1 _ x.2 y.2
  have hlt : g < w.heap.size := heap_lt hg
  have hcon := AnyQ.slices_SortFunc Tryd.sortRef 34 Tryd.isAgg48 Tryd.sizeOf48 Rx.enc hk (fun x v hv => rcells_one x.1 v hv) Rx.cf Rx.swo 74 #[] g 0 cap ds.toArray w eg hcmp hH hlt (by simp; omega)
  change Calls Tryd.prog 73 #[.slice (some ⟨g, 0, none⟩) ds.length cap, .func (.func 74) #[] #[]] w _ at hcon
  refine hcon.mono ?_
  rintro e w' ⟨rfl, d', n, os, hp, hs, rfl⟩
  have hds : d'.size = ds.length := by simpa using hp.1
  have hH' := holdsK_sortWorldK_c Rx.enc 34 w g 0 ds.toArray d' n os hH hlt (by simpa using hds)
  refine ⟨rfl, d'.toList, ?_, ?_, ?_, chg_sortWorldK _ _ _ _ _ _ _ _⟩
  · have := hp.2.2
    have e : d'.toList.take ds.length = d'.toList := List.take_of_length_le (by simp [hds])
    simp at this
    rwa [e] at this
  · intro i j hij hj
    have hj' : j < d'.size := by simpa using hj
    have h1 := hs i j (Nat.zero_le _) hij (by simpa [hds] using hj')
    rw [Rx.lt, getElem!_pos d' j hj', getElem!_pos d' i (by omega)] at h1
    exact of_decide_eq_false h1
  · intro k hk' j v hv
    have hk2 : k < d'.size := by simpa using hk'
    have hj : j < 34 := by
      have := (List.getElem?_eq_some_iff.1 hv).1
      rwa [List.getElem_map, rcells_length (d'.toList[k]'(by simpa using hk2)).2] at this
    have h1 := (hH'.cell hk2 hj).1
    rw [Nat.zero_add] at h1
    rw [h1, getElem!_pos d' k hk2]
    rw [List.getElem_map] at hv
    have e : (Rx.enc d'[k])[j]? = some v := by simpa [Rx.enc] using hv
    rw [getElem!_def, e]

end Go.Proofs.YtaacejpienbkgaaDoor
