/-
  AM: bytes and texts.
-/
import Derived.Test.YtpkgpldgoajphaaSa
import Derived.Test.YtpkgpldgoajphaaAm26
set_option linter.unusedVariables false
set_option linter.unusedSimpArgs false
namespace Go.Proofs.Ytpkgpldgoajphaa.AM
open Go

def strL (s : ByteArray) : List Int := s.data.toList.map fun b => (b.toNat : Int)
def bstr (l : List Int) : ByteArray := ⟨(l.map fun n => UInt8.ofNat n.toNat).toArray⟩
theorem strL_len (s : ByteArray) : (strL s).length = s.size := by unfold strL; rw [List.length_map]; rfl
theorem rows_str (H : Heap) (s : ByteArray) : rowsIn H 1 (.str s) = some ((strL s).map rU8) := by
  simp [rowsIn, strL, rU8, Function.comp_def]
theorem bytesOf_map (l : List Int) : bytesOf (l.map rU8) = some (l.map fun n => UInt8.ofNat n.toNat) := by
  induction l with
  | nil => rfl
  | cons x l ih => simp only [List.map_cons, rU8, bytesOf]; rw [ih]; rfl
theorem conv_bytes {H : Heap} (l : List Int) : Option.map (fun a => (a, H)) (if 1 = 1 ∨ (l.map rU8).isEmpty = true then (bytesOf (l.map rU8)).map fun l => AV.str ⟨l.toArray⟩ else none) = some (.str (bstr l), H) := by
  rw [if_pos (.inl rfl), bytesOf_map]; rfl
theorem bstr_size (l : List Int) : (bstr l).size = l.length := by show (List.toArray _).size = _; simp
theorem slice_str {H : Heap} {s : ByteArray} {lo hi : Int} {l h : Nat} (hlo : lo = (l : Int)) (hhi : hi = (h : Int)) (h1 : l ≤ h) (h2 : h ≤ s.size) :
    Option.map (fun a => (a, H)) ((bounds lo hi s.size).map fun p => AV.str (s.extract p.1 p.2)) = some (.str (s.extract l h), H) := by
  subst hlo hhi
  unfold bounds
  rw [if_pos ⟨by omega, by omega, by omega⟩]
  simp
end Go.Proofs.Ytpkgpldgoajphaa.AM
