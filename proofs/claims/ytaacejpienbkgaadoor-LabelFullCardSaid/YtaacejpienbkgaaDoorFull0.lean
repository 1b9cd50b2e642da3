/- The law LabelFull: what its table holds behind each act. -/
import Derived.Test.YtaacejpienbkgaaDoorLab12
namespace Go.Proofs.YtaacejpienbkgaaDoor
open Go.RowKit

def fullName (i : Nat) : Bytes := [110, UInt8.ofNat (97 + i)]
def fullRf (i : Nat) : Rf := ⟨fullName i, zeros 32, false⟩
def fullL (i : Nat) : List Rf := (List.range 12).map fun k => if k < i then fullRf k else Rf.none
def zRf : Rf := ⟨[122], zeros 32, true⟩
theorem full_step : ∀ i, i < 12 → rightB (fullName i) = true ∧ findN (fullName i) (fullL i) 0 = -1 ∧ findN [] (fullL i) 0 = (i : Int) ∧ (fullL i).set i (fullRf i) = fullL (i + 1) := by decide
theorem full_end : rightB (fullName 12) = true ∧ findN (fullName 12) (fullL 12) 0 = -1 ∧ findN [] (fullL 12) 0 = -1 := by decide
theorem full_zero : fullL 0 = noRefs := by decide
theorem full_rest : ∀ j, j < 12 → findN (fullName j) (fullL 12) 0 = (j : Int) ∧ (fullL 12).getD j Rf.none = fullRf j ∧ findN [122] ((fullL 12).set j Rf.none) 0 = -1 ∧ findN [] ((fullL 12).set j Rf.none) 0 = (j : Int) ∧
    findN [122] (((fullL 12).set j Rf.none).set j zRf) 0 = (j : Int) ∧ (((fullL 12).set j Rf.none).set j zRf).getD j Rf.none = zRf ∧ (there (((fullL 12).set j Rf.none).set j zRf)).length = 12 := by decide

theorem full_make {d : Dsk} (hd : Free d) (hw : d.wet = []) (i : Nat) (hi : i < 12) (n : Nat) : ∃ d', Tb.make ⟨d, n, fullL i⟩ (fullRf i) = (⟨d', n + 1, fullL (i + 1)⟩, 0) ∧ Free d' ∧ d'.wet = [] := by
  obtain ⟨h1, h2, h3, h4⟩ := full_step i hi
  obtain ⟨d', h5, h6, h7⟩ := Tb.write_free (t := ⟨d, n, fullL i⟩) ⟨hd, hw⟩ i (fullRf i)
  refine ⟨d', ?_, h6, h7⟩
  have e2 : Tb.fd ⟨d, n, fullL i⟩ (fullRf i).name = -1 := h2
  have e3 : Tb.fd ⟨d, n, fullL i⟩ [] = (i : Int) := h3
  have e1 : rightB (fullRf i).name = true := h1
  unfold Tb.make
  rw [e1, e2, e3, if_neg (by decide), if_neg (by decide), if_neg (by omega), Int.toNat_natCast, h5]
  show ((⟨d', n + 1, (fullL i).set i (fullRf i)⟩, 0) : Tb × Int) = _
  rw [h4]
theorem full_stop (d : Dsk) (n : Nat) : Tb.make ⟨d, n, fullL 12⟩ (fullRf 12) = (⟨d, n, fullL 12⟩, 4) := by
  obtain ⟨h1, h2, h3⟩ := full_end
  have e2 : Tb.fd ⟨d, n, fullL 12⟩ (fullRf 12).name = -1 := h2
  have e3 : Tb.fd ⟨d, n, fullL 12⟩ [] = -1 := h3
  have e1 : rightB (fullRf 12).name = true := h1
  unfold Tb.make
  rw [e1, e2, e3, if_neg (by decide), if_neg (by decide), if_pos (by decide)]
theorem full_drop {d : Dsk} (hd : Free d) (hw : d.wet = []) (j : Nat) (hj : j < 12) (n : Nat) : ∃ d', Tb.drop ⟨d, n, fullL 12⟩ (fullName j) = (⟨d', n + 1, (fullL 12).set j Rf.none⟩, 0) ∧ Free d' ∧ d'.wet = [] := by
  obtain ⟨h1, h2, -⟩ := full_rest j hj
  obtain ⟨d', h5, h6, h7⟩ := Tb.write_free (t := ⟨d, n, fullL 12⟩) ⟨hd, hw⟩ j Rf.none
  refine ⟨d', ?_, h6, h7⟩
  have e1 : Tb.fd ⟨d, n, fullL 12⟩ (fullName j) = (j : Int) := h1
  have e2 : Tb.get ⟨d, n, fullL 12⟩ (fullName j) = some (fullRf j) := by
    unfold Tb.get
    rw [e1, if_neg (by simp [fullName]), Int.toNat_natCast]
    exact congrArg some h2
  unfold Tb.drop
  rw [e2]
  dsimp only
  rw [e1, Int.toNat_natCast, h5]
theorem full_z {d : Dsk} (hd : Free d) (hw : d.wet = []) (j : Nat) (hj : j < 12) (n : Nat) : ∃ d', Tb.make ⟨d, n, (fullL 12).set j Rf.none⟩ zRf = (⟨d', n + 1, ((fullL 12).set j Rf.none).set j zRf⟩, 0) ∧ Free d' ∧ d'.wet = [] := by
  obtain ⟨-, -, h2, h3, -⟩ := full_rest j hj
  obtain ⟨d', h5, h6, h7⟩ := Tb.write_free (t := ⟨d, n, (fullL 12).set j Rf.none⟩) ⟨hd, hw⟩ j zRf
  refine ⟨d', ?_, h6, h7⟩
  have e2 : Tb.fd ⟨d, n, (fullL 12).set j Rf.none⟩ zRf.name = -1 := h2
  have e3 : Tb.fd ⟨d, n, (fullL 12).set j Rf.none⟩ [] = (j : Int) := h3
  have e1 : rightB zRf.name = true := by decide
  unfold Tb.make
  rw [e1, e2, e3, if_neg (by decide), if_neg (by decide), if_neg (by omega), Int.toNat_natCast, h5]
theorem full_kind (d : Dsk) (j : Nat) (hj : j < 12) (n : Nat) (k : Bytes) : Tb.move ⟨d, n, ((fullL 12).set j Rf.none).set j zRf⟩ [122] k = (⟨d, n, ((fullL 12).set j Rf.none).set j zRf⟩, 13) := by
  obtain ⟨-, -, -, -, h1, h2, -⟩ := full_rest j hj
  have e1 : Tb.fd ⟨d, n, ((fullL 12).set j Rf.none).set j zRf⟩ [122] = (j : Int) := h1
  have e2 : Tb.get ⟨d, n, ((fullL 12).set j Rf.none).set j zRf⟩ [122] = some zRf := by
    unfold Tb.get
    rw [e1, if_neg (by simp), Int.toNat_natCast]
    exact congrArg some h2
  unfold Tb.move
  rw [e2]
  rfl
end Go.Proofs.YtaacejpienbkgaaDoor
