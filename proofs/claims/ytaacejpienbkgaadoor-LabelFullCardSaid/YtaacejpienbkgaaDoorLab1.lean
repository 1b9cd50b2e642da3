/- The law's own right, walked. -/
import Derived.Test.YtaacejpienbkgaaDoorLab0
namespace Go.Proofs.YtaacejpienbkgaaDoor
open Go.RowKit

def okLen (xs : Bytes) : Bool := decide (xs ≠ []) && decide (xs.length ≤ 12)

def RgRel (xs : Bytes) (r i : Value) : Prop := ∃ k : Nat, k ≤ xs.length ∧ i = .int .i64 k ∧ r = .bool (okLen xs && okFrom 0 (xs.take k))

set_option maxRecDepth 100000 in
set_option maxHeartbeats 1000000 in
theorem lawright_spec (xs : Bytes) (w : World) (hx : xs.length ≤ 140737488355328) : Calls Tryd.prog 26 #[str xs] w fun e w' => e = .returned (.bool (rightB xs)) ∧ w' = w := by
  obtain ⟨s, hs⟩ : ∃ s : ByteArray, s = ⟨xs.toArray⟩ := ⟨_, rfl⟩
  have hsz : s.size = xs.length := by rw [hs]; rfl
  have hat : ∀ (k : Nat) (h : k < s.size) (h' : k < xs.length), s[k]'h = xs[k]'h' := by subst hs; intro k h h'; rfl
  have hl : s.toList = xs := by rw [hs]; simp
  rw [show str xs = .string s by rw [hs]; rfl]
  have hlen : (s.size : Int) = (xs.length : Int) := by rw [hsz]
  have hsm : s.size ≤ 140737488355328 := by rw [hsz]; exact hx
  have hstart : (!s.toList.isEmpty && decide ((s.size : Int) ≤ 12)) = okLen xs := by
    rw [hl, hsz]
    unfold okLen
    congr 1
    · cases xs <;> rfl
    · exact decide_eq_decide.2 (by omega)
  have hstart2 : s.toList.isEmpty = true → okLen xs = false := by
    intro h
    rw [hl] at h
    have : xs = [] := by simpa using h
    subst this; rfl
  have Hel := Lib.hid (show s.toList.isEmpty = xs.isEmpty by rw [hl])
  have Hat := Lib.hid hat
  have Hsz := Lib.hid hsz
  have Hst := Lib.hid hstart
  have Hst2 := Lib.hid hstart2
  clear hs hl hstart hstart2 hlen
  cases he : s.toList.isEmpty with
  | true =>
    go_enter Tryd.func26, Tryd.ntmps26
    go_wp2
    have hr := Hst2.out he
    have h0 : s.size = 0 := by
      by_cases h : s.size = 0
      · exact h
      · exfalso
        rw [Hel.out] at he
        have h1 := hsz
        cases xs with
        | nil => exact h h1
        | cons x r => cases he
    have h0' : decide ((0 : Int) < (s.size : Int)) = false := decide_eq_false (by omega)
    have hri : rightB xs = false := by
      rw [rightB, show (decide (xs ≠ []) && decide (xs.length ≤ 12)) = okLen xs from rfl, hr]; rfl
    have Hri := Lib.hid hri
    clear hr hri h0'
    go_loop [3, 4] (fun r i => r = .bool false ∧ i = .int .i64 0) (fun _ _ => 0)
    case atStart => exact ⟨rfl, rfl⟩
    case round =>
      obtain ⟨rfl, rfl⟩ := hrel
      go_wp2
      go_ret
      exact ⟨by rw [Hri.out]; rfl, rfl⟩
  | false =>
    go_enter Tryd.func26, Tryd.ntmps26
    go_wp2
    go_loop [3, 4] (fun r i => RgRel xs r i) (fun _ i => xs.length - (intOf i).toNat)
    case atStart =>
      have h := Hst.out
      rw [he] at h
      refine ⟨0, Nat.zero_le _, rfl, ?_⟩
      rw [← h]
      simp [okFrom]
      omega
    case round =>
      obtain ⟨k, hk, rfl, rfl⟩ := hrel
      by_cases hlt : k < xs.length
      · have hks : k < s.size := by rw [Hsz.out]; exact hlt
        have hkk := Hat.out k hks hlt
        have hto : (okLen xs && okFrom 0 (xs.take (k + 1))) = (okLen xs && okFrom 0 (xs.take k) && okAt k xs[k].toNat) := by rw [okFrom_to xs k hlt, Bool.and_assoc]
        have hcb := xs[k].toNat_lt
        have Hkk := Lib.hid hkk
        have hck : (s[k]'hks).toNat = xs[k].toNat := by rw [hkk]
        obtain ⟨c, hc⟩ : ∃ c, c = xs[k].toNat := ⟨_, rfl⟩
        obtain ⟨cb, hcbb⟩ : ∃ cb, cb = (okLen xs && okFrom 0 (xs.take k)) := ⟨_, rfl⟩
        have Hcx := Lib.hid hc
        rw [← hc] at hto hcb hck
        rw [← hcbb] at hto ⊢
        have Hto := Lib.hid hto
        clear hkk hc hcbb hto
        cases cb with
        | false =>
          go_wp2
          go_round
          case rel => exact ⟨k + 1, by omega, by go_num, by rw [Hto.out]; rfl⟩
          case measure => simp [intOf]; omega
        | true =>
          go_wp2
          all_goals go_round
          all_goals first
            | (have hcx := Hcx.out.symm
               try simp only [hcx]
               refine ⟨k + 1, by omega, by go_num, ?_⟩
               rw [Hto.out, Bool.true_and]
               refine congrArg Value.bool ?_
               rw [Bool.eq_iff_iff]
               simp [okAt, smallN]
               omega)
            | (simp [intOf]; omega)
      · have hke : xs.take k = xs := List.take_of_length_le (by omega)
        rw [hke]
        go_wp2
        go_ret
        exact ⟨rfl, rfl⟩

end Go.Proofs.YtaacejpienbkgaaDoor
