/- The journal's Write, walked. -/
import Derived.Test.YtaacejpienbkgaaDoorJrn1
namespace Go.Proofs.YtaacejpienbkgaaDoor
open Go.RowKit

/-- Write: what is to be written stands in the journal; then it is written. -/
def jwrite (d : Dsk) (next : Nat) (l : List (Nat × Bytes)) : Dsk × Int :=
  if (commit d (laid next l)).2 = 0 then commit (commit d (laid next l)).1 (behind l) else commit d (laid next l)
def jnext (d : Dsk) (next : Nat) (l : List (Nat × Bytes)) : Nat := if (commit d (laid next l)).2 = 0 then next + 1 else next

theorem flush_err (d : Dsk) : d.flush.2 = 0 ∨ d.flush.2 = 9 := by unfold Dsk.flush; split; exact .inl rfl; exact .inr rfl
theorem writes_err : ∀ (l : List (Nat × Bytes)) (d : Dsk), (writes d l).2 = 0 ∨ (writes d l).2 = 9
  | [], _ => .inl rfl
  | x :: r, d => by
    unfold writes
    split
    · exact writes_err r _
    · exact write_err _ _ _
theorem commit_err (d : Dsk) (l : List (Nat × Bytes)) : (commit d l).2 = 0 ∨ (commit d l).2 = 9 := by
  unfold commit; split
  · exact flush_err _
  · exact writes_err _ _
@[simp] theorem flush_n (d : Dsk) : d.flush.1.n = d.n := by unfold Dsk.flush; split <;> simp [Dsk.keep]
@[simp] theorem commit_n (d : Dsk) (l : List (Nat × Bytes)) : (commit d l).1.n = d.n := by unfold commit; split <;> simp
theorem commit_dry (d : Dsk) (l : List (Nat × Bytes)) (h : (commit d l).2 = 0) : (commit d l).1.wet = [] := by
  unfold commit at h ⊢
  split at h
  · rename_i h1
    rw [if_pos h1]
    unfold Dsk.flush at h ⊢
    split
    · rfl
    · rename_i h2; rw [if_neg h2] at h; cases h
  · rename_i h1; exact absurd h h1

theorem PgsAt.after {jb b : Nat} {m m' : DMem} {w w' : World} {sp : Option Addr} {l : List (Nat × Bytes)} (h : PgsAt (jb :: m.foot b) w sp l) (hS : DStep b w m w' m') : PgsAt (jb :: m'.foot b) w' sp l := by
  have h1 : PgsAt (jb :: (m.foot b ++ m'.foot b)) w sp l := h.off fun k hk => by
    rcases List.mem_cons.1 hk with rfl | hk
    · exact .inl (by simp)
    · rcases List.mem_append.1 hk with hk | hk
      · exact .inl (List.mem_cons_of_mem _ hk)
      · exact (hS.2 k hk).imp (List.mem_cons_of_mem _) id
  refine (h1.chg hS.1 (fun k hk => List.mem_cons_of_mem _ (List.mem_append_left _ hk))).off fun k hk => .inl ?_
  rcases List.mem_cons.1 hk with rfl | hk
  · simp
  · exact List.mem_cons_of_mem _ (List.mem_append_right _ hk)
theorem JAt.bump {w : World} {jb b : Nat} {m : DMem} {d : Dsk} {next : Nat} (h : JAt w jb b m d next) :
    JAt (w.setCell ⟨jb, 1, none⟩ (.int .i64 ((next : Int) + 1))) jb b m d (next + 1) := by
  have hC : Chg [jb] w (w.setCell ⟨jb, 1, none⟩ (.int .i64 ((next : Int) + 1))) := (Chg.refl _ _).setCell (.inl (by simp)) _
  refine ⟨?_, h.disk.chg hC (fun k hk => ?_), h.ap⟩
  · rw [head_set _ h.head]; rfl
  · simp only [List.mem_singleton]; rintro rfl; exact h.ap hk

set_option maxRecDepth 100000 in
set_option maxHeartbeats 1000000 in
theorem jwrite_spec (jb b : Nat) (m : DMem) (d : Dsk) (next : Nat) (l : List (Nat × Bytes)) (sp : Option Addr) (cap : Nat) (w : World) (h : JAt w jb b m d next)
    (hl : PgsAt (jb :: m.foot b) w sp l) (hll : l.length ≤ 24) (hl0 : 0 < l.length) (hat : ∀ x ∈ l, 49 + x.1 < d.n ∧ x.2.length ≤ 64) (hwl : d.wet.length ≤ 1000) (hnx : next < 1000000000000) :
    Calls Tryd.prog 54 #[.pointer (some ⟨jb, 0, none⟩), .slice sp l.length cap] w fun e w' =>
      e = .returned (.int .i64 (jwrite d next l).2) ∧ ∃ m', JAt w' jb b m' (jwrite d next l).1 (jnext d next l) ∧ Chg (jb :: m.foot b) w w' ∧ ∀ k, k ∈ m'.foot b → k ∈ m.foot b ∨ w.heap.size ≤ k := by
  have H := Lib.hid h
  have HL := Lib.hid hl
  have HA := Lib.hid hat
  have hn4 := h.disk.ok.n
  have hn : 49 < d.n := by
    have := (hat l[0] (List.getElem_mem hl0)).1; omega
  clear h hl hat
  go_enter Tryd.func54, Tryd.ntmps54
  go_wp2
  go_loopw [17] (fun x wr => ∃ k : Nat, k ≤ l.length ∧ x = .int .i64 k ∧ Chg [] w wr) (fun x _ => l.length - (intOf x).toNat)
  case atStart => exact ⟨0, Nat.zero_le _, rfl, Chg.refl _ _⟩
  case round =>
    obtain ⟨k, hk, rfl, hCk⟩ := hrel
    by_cases hlt : k < l.length
    · obtain ⟨g, pv, rfl, hgF, hrg0, hpS0, hpF⟩ := HL.out k hlt
      have hrg := hCk.range hrg0 (by simp)
      have hA := HA.out l[k] (List.getElem_mem hlt)
      obtain ⟨ps, pc, rfl⟩ := hpS0.shape
      obtain ⟨at_, hat_⟩ : ∃ a, a = l[k].1 := ⟨_, rfl⟩
      obtain ⟨pn, hpb⟩ : ∃ p, p = l[k].2.length := ⟨_, rfl⟩
      rw [← hat_, ← hpb] at hA hrg
      obtain ⟨hA1, hA2⟩ := hA
      have HCk := Lib.hid hCk
      have Hrg := Lib.hid hrg
      have HJ := Lib.hid (H.out.chg hCk (by simp) (by simp))
      clear hrg hpS0 hpF hrg0 hgF hat_ hpb hCk
      go_wp2_with (first | (refine wpList_load_mid rfl 109 (.tmp 19) rfl g (k * 2) (by rfl) [.int .i64 (at_ : Int), .slice ps pn pc] _ Hrg.out Tryd.underlying109 rfl size109 ?_) | (refine wpList_store_new rfl 109 (.tmp 6) (.tmp 20) rfl _ _ rfl 109 _ _ #[.int .i64 (at_ : Int), .slice ps pn pc] rfl (by rfl) rfl rfl size109 rfl ?_))
      obtain ⟨nb, hnb⟩ : ∃ nb, nb = wr.heap.size := ⟨_, rfl⟩
      have hnew : (wr.alloc (.cells #[.int .i64 (at_ : Int), .slice ps pn pc] 109)).heap[nb]? = some (.cells #[.int .i64 (at_ : Int), .slice ps pn pc] 109 (0, 0)) := by rw [hnb]; exact heap_alloc_new _ _
      have hC1 : Chg [] wr (wr.alloc (.cells #[.int .i64 (at_ : Int), .slice ps pn pc] 109)) := (Chg.refl _ _).alloc _
      rw [← hnb]
      generalize (wr.alloc (.cells #[.int .i64 (at_ : Int), .slice ps pn pc] 109)) = w1 at hnew hC1 ⊢
      have n0 : w1.cell? ⟨nb, 0, none⟩ = some (.int .i64 (at_ : Int)) := by rw [cell_of_row _ _ _ _ _ _ hnew]; rfl
      have n1 : w1.cell? ⟨nb, 1, none⟩ = some (.slice ps pn pc) := by rw [cell_of_row _ _ _ _ _ _ hnew]; rfl
      have HJ1 := Lib.hid (HJ.out.chg hC1 (by simp) (by simp))
      have HC1 := Lib.hid (HCk.out.trans hC1)
      clear hnew hC1 hnb
      have d1 : decide ((at_ : Int) < 0) = false := by simp; try omega
      have d2 : decide ((d.n : Int) - 49 ≤ (at_ : Int)) = false := by simp; try omega
      have d3 : decide (64 < (pn : Int)) = false := by simp; try omega
      go_quiet (first | (go_at_call 70; refine Calls.quiet_of_same ((jsectors_spec jb b m d next _ (HJ1.out.chg ((Chg.refl [] _).drewN _) (by simp) (by simp))).mono (fun _ _ h => ⟨h.1, h.2.symm⟩))))
      go_wp2
      go_roundw
      case rel => exact ⟨k + 1, by omega, by go_num, HC1.out.drewN nq⟩
      case measure => simp [intOf]; omega
    · have hJk := H.out.chg hCk (by simp) (by simp)
      have hLk := HL.out.chg hCk (by simp)
      have HCk := Lib.hid hCk
      have HJk := Lib.hid hJk
      have HLk := Lib.hid hLk
      clear hCk hJk hLk
      have h0 : ((l.length : Int) == 0) = false := by
        have h1 : (l.length : Int) ≠ 0 := by omega
        simpa using h1
      rcases commit_err d (laid next l) with he | he
      · have He := Lib.hid he
        have hjw : jwrite d next l = commit (commit d (laid next l)).1 (behind l) := by rw [jwrite, if_pos he]
        have hjn : jnext d next l = next + 1 := by rw [jnext, if_pos he]
        have Hjw := Lib.hid hjw
        have Hjn := Lib.hid hjn
        clear he hjw hjn
        go_wp2_with (first
          | (go_at_call 87; refine (lay_spec jb b m d next l sp cap wr HJk.out HLk.out hll (fun x hx => by have := HA.out x hx; omega) hn hwl).mono ?_; rintro e w2 ⟨he2, m2, hJ2, hS2⟩; rw [He.out] at he2; subst he2; have HJ2 := Lib.hid hJ2; have HS2 := Lib.hid hS2; have HL2 := Lib.hid ((HLk.out.after hS2).chg ((Chg.refl [jb] w2).setCell (p := ⟨jb, 1, none⟩) (.inl (by simp)) (.int .i64 ((next : Int) + 1))) (fun x hx => by simp at hx; simp [hx])); clear hJ2 hS2; have c1 := HJ2.out.cells.2; have f1 : w2.frozen? ⟨jb, 1, none⟩ = false := frozen_of_row _ _ _ _ _ HJ2.out.head)
          | (go_at_call 69; refine (apply_spec jb b m2 _ (next + 1) l sp cap _ HJ2.out.bump HL2.out (by omega) (fun x hx => by rw [commit_n]; exact HA.out x hx) (by rw [commit_dry _ _ He.out]; decide)).mono ?_; rintro e w4 ⟨rfl, m4, hJ4, hS4⟩))
        go_ret
        rw [Hjw.out, Hjn.out]
        have hCa : Chg (jb :: m.foot b) w w2 := (HCk.out.mono (by simp)).step HS2.out.1 (fun x hx => .inl (List.mem_cons_of_mem _ hx))
        have hCb : Chg (jb :: m.foot b) w (w2.setCell ⟨jb, 1, none⟩ (.int .i64 ((next : Int) + 1))) := hCa.setCell (.inl (by simp)) _
        have hf : ∀ k, k ∈ m2.foot b → k ∈ m.foot b ∨ w.heap.size ≤ k := fun k hk => (HS2.out.2 k hk).imp id (Nat.le_trans HCk.out.size)
        refine ⟨rfl, m4, hJ4, hCb.step hS4.1 (fun x hx => (hf x hx).imp (List.mem_cons_of_mem _) id), fun k hk => ?_⟩
        rcases hS4.2 k hk with h1 | h1
        · exact hf k h1
        · exact .inr (Nat.le_trans hCb.size h1)
      · have He := Lib.hid he
        have hjw : jwrite d next l = commit d (laid next l) := by rw [jwrite, if_neg (by rw [he]; decide)]
        have hjn : jnext d next l = next := by rw [jnext, if_neg (by rw [he]; decide)]
        have Hjw := Lib.hid hjw
        have Hjn := Lib.hid hjn
        clear he hjw hjn
        go_wp2_with (first
          | (go_at_call 87; refine (lay_spec jb b m d next l sp cap wr HJk.out HLk.out hll (fun x hx => by have := HA.out x hx; omega) hn hwl).mono ?_; rintro e w2 ⟨he2, m2, hJ2, hS2⟩; rw [He.out] at he2; subst he2; have HJ2 := Lib.hid hJ2; have HS2 := Lib.hid hS2; clear hJ2 hS2))
        go_ret
        rw [Hjw.out, Hjn.out]
        refine ⟨by rw [He.out]; rfl, m2, HJ2.out, ?_, ?_⟩
        · exact (HCk.out.mono (by simp)).step HS2.out.1 (fun x hx => .inl (List.mem_cons_of_mem _ hx))
        · intro k hk
          rcases HS2.out.2 k hk with h1 | h1
          · exact .inl h1
          · exact .inr (Nat.le_trans HCk.out.size h1)

end Go.Proofs.YtaacejpienbkgaaDoor
