/- The journal's Open, walked. -/
import Derived.Test.YtaacejpienbkgaaDoorJrn3
namespace Go.Proofs.YtaacejpienbkgaaDoor
open Go.RowKit

/-- What Open does to the disk. -/
def jopened (d : Dsk) : Dsk × Int := if 0 < (jlist d).length then commit d (behind (jlist d)) else (d, 0)

def JOpenPost (b : Nat) (m : DMem) (d : Dsk) (w : World) (e : Ending) (w' : World) : Prop :=
  ∃ jb m', e = .returned (.tuple #[.pointer (some ⟨jb, 0, none⟩), .int .i64 0]) ∧ JAt w' jb b m' (jopened d).1 (nextTo d 0 49) ∧ w.heap.size ≤ jb ∧ DStep b w m w' m'

theorem jlist_len (d : Dsk) : (jlist d).length ≤ 24 := by
  unfold jlist
  split
  · simp
  · rename_i h
    split
    · simp; omega
    · simp

theorem JAt.boxed {w : World} {b : Nat} {m : DMem} {d : Dsk} (h : DiskAt w b m d) : JAt (w.alloc (.cells #[.pointer (some ⟨b, 0, none⟩), .int .i64 0] 129)) w.heap.size b m d 0 :=
  ⟨heap_alloc_new _ _, h.chg ((Chg.refl [] w).alloc _) (by simp), fun hin => absurd (h.footlt _ hin) (Nat.lt_irrefl _)⟩

set_option maxRecDepth 100000 in
set_option maxHeartbeats 1000000 in
theorem jopen_spec (b : Nat) (m : DMem) (d : Dsk) (w : World) (h : DiskAt w b m d) (hoff : d.off = false) (hn : 49 < d.n) (hwl : d.wet.length ≤ 1000)
    (hat : ∀ x ∈ jlist d, 49 + x.1 < d.n ∧ x.2.length ≤ 64) (hr : (jopened d).2 = 0) :
    Calls Tryd.prog 31 #[.pointer (some ⟨b, 0, none⟩)] w (JOpenPost b m d w) := by
  have H := Lib.hid h
  have Hoff := Lib.hid hoff
  have HA := Lib.hid hat
  have Hr := Lib.hid hr
  have hn4 := h.ok.n
  have hll := jlist_len d
  have hlen0 : d.wet.length < 1000000 := by omega
  clear h hoff hat hr
  by_cases hl0 : 0 < (jlist d).length
  · have hl1 : decide (0 < ((jlist d).length : Int)) = true := decide_eq_true (by omega)
    have hjo : jopened d = commit d (behind (jlist d)) := by rw [jopened, if_pos hl0]
    have Hjo := Lib.hid hjo
    clear hjo
    go_enter Tryd.func31, Tryd.ntmps31
    go_wp2_with (first
      | (go_at_call 58; refine (sectors_spec b m d _ H.out).mono ?_; rintro e w' ⟨rfl, hw'⟩; rw [← hw']; clear hw' w')
      | (go_at_call 68; refine (jrd_spec w.heap.size b m d 0 _ (JAt.boxed H.out) Hoff.out hn hlen0).mono ?_; rintro e w2 ⟨sp, cap, rfl, hP2, hJ2, hC2⟩; have HP2 := Lib.hid hP2; have HJ2 := Lib.hid hJ2; have HC2 := Lib.hid hC2; clear hP2 hJ2 hC2)
      | (go_at_call 69; refine (apply_spec _ b m d _ _ sp cap _ HJ2.out HP2.out (by omega) HA.out hwl).mono ?_; rintro e w3 ⟨he3, m3, hJ3, hS3⟩; rw [← Hjo.out, Hr.out] at he3; subst he3; have HJ3 := Lib.hid hJ3; have HS3 := Lib.hid hS3; clear hJ3 hS3))
    go_ret2
    have hC : Chg [] w w2 := ((Chg.refl [] w).alloc _).step HC2.out (fun x hx => .inr (by simp at hx; omega))
    refine ⟨w.heap.size, m3, rfl, ?_, Nat.le_refl _, ⟨(hC.mono (by simp)).trans HS3.out.1, fun k hk => (HS3.out.2 k hk).imp id (Nat.le_trans hC.size)⟩⟩
    rw [Hjo.out]; exact HJ3.out
  · have hl1 : decide (0 < ((jlist d).length : Int)) = false := decide_eq_false (by omega)
    have hjo : jopened d = (d, 0) := by rw [jopened, if_neg hl0]
    have Hjo := Lib.hid hjo
    clear hjo
    go_enter Tryd.func31, Tryd.ntmps31
    go_wp2_with (first
      | (go_at_call 58; refine (sectors_spec b m d _ H.out).mono ?_; rintro e w' ⟨rfl, hw'⟩; rw [← hw']; clear hw' w')
      | (go_at_call 68; refine (jrd_spec w.heap.size b m d 0 _ (JAt.boxed H.out) Hoff.out hn hlen0).mono ?_; rintro e w2 ⟨sp, cap, rfl, hP2, hJ2, hC2⟩; have HP2 := Lib.hid hP2; have HJ2 := Lib.hid hJ2; have HC2 := Lib.hid hC2; clear hP2 hJ2 hC2))
    go_ret2
    have hC : Chg [] w w2 := ((Chg.refl [] w).alloc _).step HC2.out (fun x hx => .inr (by simp at hx; omega))
    refine ⟨w.heap.size, m, rfl, ?_, Nat.le_refl _, ⟨hC.mono (by simp), fun k hk => .inl hk⟩⟩
    rw [Hjo.out]; exact HJ2.out

end Go.Proofs.YtaacejpienbkgaaDoor
