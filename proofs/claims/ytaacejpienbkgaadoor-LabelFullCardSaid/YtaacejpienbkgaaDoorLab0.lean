/- label.Right and the law's own: which names may be; walked. -/
import Derived.Test.YtaacejpienbkgaaDoorJrn4
import Derived.Laws.RangeAny
namespace Go.Proofs.YtaacejpienbkgaaDoor
open Go.RowKit

def smallN (r : Nat) : Bool := decide (97 ≤ r) && decide (r ≤ 122)
/-- May a letter stand there? -/
def okAt (i r : Nat) : Bool := smallN r || (decide (0 < i) && ((decide (48 ≤ r) && decide (r ≤ 57)) || decide (r = 46)))
def okFrom : Nat → Bytes → Bool
  | _, [] => true
  | i, c :: l => okAt i c.toNat && okFrom (i + 1) l
/-- May a name be? -/
def rightB (xs : Bytes) : Bool := decide (xs ≠ []) && decide (xs.length ≤ 12) && okFrom 0 xs
theorem okFrom_append (a b : Bytes) : ∀ i, okFrom i (a ++ b) = (okFrom i a && okFrom (i + a.length) b) := by
  induction a with
  | nil => intro i; simp [okFrom]
  | cons x r ih =>
    intro i
    simp only [List.cons_append, okFrom, ih, List.length_cons, Bool.and_assoc]
    rw [show i + 1 + r.length = i + (r.length + 1) by omega]
theorem okFrom_to (xs : Bytes) (k : Nat) (hk : k < xs.length) : okFrom 0 (xs.take (k + 1)) = (okFrom 0 (xs.take k) && okAt k xs[k].toNat) := by
  have e : (xs.take k).length = k := by simp; omega
  rw [List.take_succ_eq_append_getElem hk, okFrom_append, e, Nat.zero_add]
  simp [okFrom]
theorem okFrom_no (xs : Bytes) (k : Nat) (hk : k < xs.length) (h : okAt k xs[k].toNat = false) : okFrom 0 xs = false := by
  have e : xs = xs.take (k + 1) ++ xs.drop (k + 1) := (List.take_append_drop _ _).symm
  rw [e, okFrom_append, okFrom_to xs k hk, h]
  simp

/-- What a string's range hands on at a byte. -/
theorem decode_byte (s : ByteArray) (pos : Nat) (h : pos < s.size) : ((s[pos]'h).toNat < 128 ∧ Utf8.decode s pos = ((s[pos]'h).toNat, 1)) ∨ (128 ≤ (s[pos]'h).toNat ∧ 128 ≤ (Utf8.decode s pos).1 ∧ (Utf8.decode s pos).1 < 2147483648) := by
  by_cases ha : (s[pos]'h).toNat < 128
  · exact .inl ⟨ha, decode_ascii s pos h ha⟩
  · refine .inr ⟨by omega, ?_⟩
    have e : s.get! (pos + 0) = s[pos]'h := by
      show s.get! pos = _
      simp [ByteArray.get!, getElem!_pos, h]
      rfl
    have hb := (s[pos]'h).toNat_lt
    have m1 := (s.get! (pos + 1)).toNat_lt
    have m2 := (s.get! (pos + 2)).toNat_lt
    have m3 := (s.get! (pos + 3)).toNat_lt
    simp only [Utf8.decode, e, if_neg ha]
    generalize (s[pos]'h).toNat = b0 at *
    generalize (s.get! (pos + 1)).toNat = b1 at *
    generalize (s.get! (pos + 2)).toNat = b2 at *
    generalize (s.get! (pos + 3)).toNat = b3 at *
    unfold Utf8.runeError
    split
    · split <;> (dsimp only; omega)
    · split
      · split
        · rename_i h2
          simp only [Bool.and_eq_true, decide_eq_true_eq] at h2
          dsimp only; omega
        · dsimp only; omega
      · split
        · split
          · rename_i h2
            simp only [Bool.and_eq_true, decide_eq_true_eq] at h2
            dsimp only; omega
          · dsimp only; omega
        · dsimp only; omega

set_option maxHeartbeats 400000 in
theorem small_spec (r : Nat) (w : World) : Calls Tryd.prog 62 #[.int .i32 r] w fun e w' => e = .returned (.bool (smallN r)) ∧ w' = w := by
  by_cases h1 : 97 ≤ r
  · by_cases h2 : r ≤ 122
    · have e1 : decide ((97 : Int) ≤ (r : Int)) = true := decide_eq_true (by omega)
      have e2 : decide ((r : Int) ≤ 122) = true := decide_eq_true (by omega)
      have e : smallN r = true := by simp [smallN, h1, h2]
      rw [e]
      clear e h1 h2
      go_enter Tryd.func62, Tryd.ntmps62
      go_wp2
      go_ret
      exact ⟨rfl, rfl⟩
    · have e1 : decide ((97 : Int) ≤ (r : Int)) = true := decide_eq_true (by omega)
      have e2 : decide ((r : Int) ≤ 122) = false := decide_eq_false (by omega)
      have e : smallN r = false := by simp [smallN, h2]
      rw [e]
      clear e h1 h2
      go_enter Tryd.func62, Tryd.ntmps62
      go_wp2
      go_ret
      exact ⟨rfl, rfl⟩
  · have e1 : decide ((97 : Int) ≤ (r : Int)) = false := decide_eq_false (by omega)
    have e : smallN r = false := by simp [smallN, h1]
    rw [e]
    clear e h1
    go_enter Tryd.func62, Tryd.ntmps62
    go_wp2
    go_ret
    exact ⟨rfl, rfl⟩

set_option maxRecDepth 100000 in
set_option maxHeartbeats 1000000 in
theorem right_spec (xs : Bytes) (w : World) : Calls Tryd.prog 25 #[str xs] w fun e w' => e = .returned (.bool (rightB xs)) ∧ Chg [] w w' := by
  obtain ⟨s, hs⟩ : ∃ s : ByteArray, s = ⟨xs.toArray⟩ := ⟨_, rfl⟩
  have hsz : s.size = xs.length := by rw [hs]; rfl
  have hat : ∀ (k : Nat) (h : k < s.size) (h' : k < xs.length), s[k]'h = xs[k]'h' := by subst hs; intro k h h'; rfl
  rw [show str xs = .string s by rw [hs]; rfl]
  have Hs := Lib.hid hs
  have Hsz := Lib.hid hsz
  have Hat := Lib.hid hat
  clear hs hsz hat
  go_enter Tryd.func25, Tryd.ntmps25
  go_wp2
  go_loopw [7] (fun _ wr => ∃ k : Nat, k ≤ s.size ∧ wr = w.iter s k ∧ okFrom 0 (xs.take k) = true) (fun _ wr => s.size - wr.iterPos w.heap.size)
  case atStart => exact ⟨0, Nat.zero_le _, rfl, rfl⟩
  case round =>
    obtain ⟨k, hk, rfl, hok⟩ := hrel
    by_cases hlt : k < s.size
    · have hxk : k < xs.length := by rw [← Hsz.out]; exact hlt
      have hnx := fun ty => run_next_any (P := Tryd.prog) w s k ty hlt
      obtain ⟨r, hr⟩ : ∃ r, r = (Utf8.decode s k).1 := ⟨_, rfl⟩
      obtain ⟨n, hn⟩ : ∃ n, n = (Utf8.decode s k).2 := ⟨_, rfl⟩
      rw [← hr, ← hn] at hnx
      have hbyte := decode_byte s k hlt
      have hkk := Hat.out k hlt hxk
      rw [hkk] at hbyte
      have hgood : okAt k r = true → n = 1 ∧ okFrom 0 (xs.take (k + 1)) = true := by
        intro hg
        rcases hbyte with ⟨h1, h2⟩ | ⟨h1, h2, _⟩
        · rw [h2] at hr hn
          refine ⟨hn, ?_⟩
          rw [okFrom_to xs k hxk, hok, ← show r = xs[k].toNat from hr, hg]; rfl
        · rw [← hr] at h2
          simp [okAt, smallN] at hg
          omega
      have hbad : okAt k r = false → rightB xs = false := by
        intro hg
        have : okFrom 0 xs = false := by
          apply okFrom_no xs k hxk
          rcases hbyte with ⟨h1, h2⟩ | ⟨h1, h2, _⟩
          · rw [h2] at hr
            rw [← show r = xs[k].toNat from hr]; exact hg
          · simp [okAt, smallN]; omega
        simp [rightB, this]
      have hr31 : r < 2147483648 := by
        rcases hbyte with ⟨h1, h2⟩ | ⟨h1, h2, h3⟩
        · rw [h2] at hr; dsimp only at hr; omega
        · rw [← hr] at h3; exact h3
      have Hgood := Lib.hid hgood
      have Hbad := Lib.hid hbad
      have Hlt := Lib.hid hlt
      clear hgood hbad hbyte hkk hr hn hok
      have hsm := small_spec r
      have Hsm := Lib.hid hsm
      clear hsm
      have good : ∀ (hg : okAt k r = true), ∃ j : Nat, j ≤ s.size ∧ w.iter s (k + n) = w.iter s j ∧ okFrom 0 (xs.take j) = true := by
        intro hg
        obtain ⟨h1, h2⟩ := Hgood.out hg
        subst h1
        exact ⟨k + 1, Hlt.out, rfl, h2⟩
      have meas : ∀ (hg : okAt k r = true), s.size - (w.iter s (k + n)).iterPos w.heap.size < s.size - (w.iter s k).iterPos w.heap.size := by
        intro hg
        obtain ⟨h1, h2⟩ := Hgood.out hg
        subst h1
        have := Hlt.out
        simp only [World.iterPos, World.iter_heap]
        omega
      have Good := Lib.hid good
      have Meas := Lib.hid meas
      have chg : ∀ j, Chg [] w (w.iter s j) := fun j => (Chg.refl [] w).alloc _
      clear good meas hxk hlt
      cases hs1 : smallN r with
      | true =>
        have hok : okAt k r = true := by simp [okAt, hs1]
        have Hok := Lib.hid hok
        have Hs1 := Lib.hid hs1
        clear hok hs1
        go_wp2_with (go_at_call 62; refine (Hsm.out _).mono ?_; rintro e w' ⟨rfl, hw'⟩; rw [hw', Hs1.out]; clear hw' w')
        go_roundw
        case rel => exact Good.out Hok.out
        case measure => exact Meas.out Hok.out
      | false =>
        have Hs1 := Lib.hid hs1
        by_cases hk0 : k = 0
        · subst hk0
          have hok : okAt 0 r = false := by simp [okAt, hs1]
          have Hr := Lib.hid (Hbad.out hok)
          clear hok hs1
          go_wp2_with (go_at_call 62; refine (Hsm.out _).mono ?_; rintro e w' ⟨rfl, hw'⟩; rw [hw', Hs1.out]; clear hw' w')
          go_ret
          exact ⟨by rw [Hr.out]; rfl, chg _⟩
        · have hz : ((k : Int) == 0) = false := by
            have h1 : (k : Int) ≠ 0 := by omega
            simpa using h1
          have hkp : 0 < k := by omega
          by_cases hd1 : 48 ≤ r
          · by_cases hd2 : r ≤ 57
            · have e1 : decide ((48 : Int) ≤ (r : Int)) = true := decide_eq_true (by omega)
              have e2 : decide ((r : Int) ≤ 57) = true := decide_eq_true (by omega)
              have hok : okAt k r = true := by simp [okAt, hs1, hkp, hd1, hd2]
              have Hok := Lib.hid hok
              clear hok hs1 hk0 hkp
              go_wp2_with (go_at_call 62; refine (Hsm.out _).mono ?_; rintro e w' ⟨rfl, hw'⟩; rw [hw', Hs1.out]; clear hw' w')
              go_roundw
              case rel => exact Good.out Hok.out
              case measure => exact Meas.out Hok.out
            · have e1 : decide ((48 : Int) ≤ (r : Int)) = true := decide_eq_true (by omega)
              have e2 : decide ((r : Int) ≤ 57) = false := decide_eq_false (by omega)
              have h3 : (r : Int) ≠ 46 := by omega
              have e3 : ((r : Int) == 46) = false := by simpa using h3
              have e4 : ((r : Int) != 46) = true := by rw [bne, e3]; rfl
              have hok : okAt k r = false := by simp [okAt, hs1, hd2]; omega
              have Hr := Lib.hid (Hbad.out hok)
              clear hok hs1 hk0 hkp h3
              go_wp2_with (go_at_call 62; refine (Hsm.out _).mono ?_; rintro e w' ⟨rfl, hw'⟩; rw [hw', Hs1.out]; clear hw' w')
              go_ret
              exact ⟨by rw [Hr.out]; rfl, chg _⟩
          · have e1 : decide ((48 : Int) ≤ (r : Int)) = false := decide_eq_false (by omega)
            by_cases hp : r = 46
            · subst hp
              have hok : okAt k 46 = true := by simp [okAt, hkp]
              have Hok := Lib.hid hok
              clear hok hs1 hk0 hkp
              go_wp2_with (go_at_call 62; refine (Hsm.out _).mono ?_; rintro e w' ⟨rfl, hw'⟩; rw [hw', Hs1.out]; clear hw' w')
              go_roundw
              case rel => exact Good.out Hok.out
              case measure => exact Meas.out Hok.out
            · have h3 : (r : Int) ≠ 46 := by omega
              have e3 : ((r : Int) == 46) = false := by simpa using h3
              have e4 : ((r : Int) != 46) = true := by rw [bne, e3]; rfl
              have hok : okAt k r = false := by simp [okAt, hs1, hd1, hp]
              have Hr := Lib.hid (Hbad.out hok)
              clear hok hs1 hk0 hkp h3
              go_wp2_with (go_at_call 62; refine (Hsm.out _).mono ?_; rintro e w' ⟨rfl, hw'⟩; rw [hw', Hs1.out]; clear hw' w')
              go_ret
              exact ⟨by rw [Hr.out]; rfl, chg _⟩
    · have hnx := fun ty => run_next_end (P := Tryd.prog) w s k ty hlt
      have hfull : xs.take k = xs := List.take_of_length_le (by rw [← Hsz.out]; omega)
      rw [hfull] at hok
      have chg : Chg [] w (w.iter s k) := (Chg.refl [] w).alloc _
      have Hok := Lib.hid hok
      have hl : s.toList = xs := by rw [Hs.out]; simp
      clear hfull hok
      cases hx0 : xs with
      | nil =>
        rw [hx0] at hl
        have he : s.toList.isEmpty = true := by rw [hl]; rfl
        have Hr := Lib.hid (show rightB xs = false by rw [hx0]; rfl)
        clear hl hx0
        go_wp2
        go_ret
        exact ⟨by rw [Hr.out]; rfl, chg⟩
      | cons x r =>
        have he : s.toList.isEmpty = false := by rw [hl, hx0]; rfl
        have hsz := Hsz.out
        have hr : rightB xs = decide ((s.size : Int) ≤ 12) := by
          have hok := Hok.out
          rw [hx0] at hok hsz ⊢
          unfold rightB
          rw [hok, Bool.and_true, hsz]
          simp only [ne_eq, reduceCtorEq, not_false_eq_true, decide_true, Bool.true_and]
          exact decide_eq_decide.2 (by omega)
        have Hr := Lib.hid hr
        clear hl hx0 hsz hr
        go_wp2
        go_ret
        exact ⟨by rw [Hr.out]; rfl, chg⟩

end Go.Proofs.YtaacejpienbkgaaDoor
