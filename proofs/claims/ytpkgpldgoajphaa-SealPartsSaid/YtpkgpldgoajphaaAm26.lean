/-
  AM: a slice of which it is not known whether it is nil.
-/
import Derived.Test.YtpkgpldgoajphaaSb
set_option linter.unusedVariables false
set_option linter.unusedSimpArgs false
namespace Go.Proofs.Ytpkgpldgoajphaa.AM
open Go

theorem ACalls.orNil {P : Program} {f : FuncId} {k : Nat} {xs : List (List AV)} {as_ : List AV} {H : Heap} {r : AV × Heap} (h1 : xs = [] → ACalls P f (.sl .nil 0 [] :: as_) H r) (h2 : ACalls P f (.sl .op k xs :: as_) H r) :
    ACalls P f (.sl .any k xs :: as_) H r := by
  intro G w C vs hsz hargs hH
  have h0 := hargs 0 (by simp)
  have hr : ∀ i, 0 < i → i < as_.length + 1 → ∀ v : AV, (v :: as_).getD i .skip = (AV.sl .any k xs :: as_).getD i .skip := by
    intro i hi _ v
    cases i with
    | zero => omega
    | succ i => rfl
  have key : ∀ v : AV, VR G w C v (vs.getD 0 undef) → ∀ i, i < (v :: as_).length → VR G w C ((v :: as_).getD i .skip) (vs.getD i undef) := by
    intro v hv i hi
    cases i with
    | zero => exact hv
    | succ i =>
      have := hargs (i + 1) (by simpa using hi)
      rw [hr (i + 1) (by omega) (by simpa using hi) v]
      exact this
  simp only [List.getD_cons_zero] at h0
  generalize hv0 : vs.getD 0 undef = v0 at h0
  cases h0 with
  | nils _ _ _ hg => exact h1 rfl G w C vs (by simpa using hsz) (key _ (by rw [hv0]; exact .nils _ _ _ (.inl rfl))) hH
  | sl _ _ _ _ ad cap hg hclip hle hs cv hk hc h1' h => exact h2 G w C vs (by simpa using hsz) (key _ (by rw [hv0]; exact .sl _ _ _ _ ad cap (by simp) (by simp) hle hs cv hk hc h1' h)) hH
theorem slice_max {H : Heap} {k : Nat} {rows xs : List (List AV)} {g : Tg} {lo hi mx : Int} {l h : Nat} (hlo : lo = (l : Int)) (hhi : hi = (h : Int)) (h1 : l ≤ h) (h2 : h ≤ rows.length) (hx : (rows.take h).drop l = xs) (hm : hi = mx) :
    Option.map (fun a => (a, H)) (if k = k ∨ rows.isEmpty = true then (if hi = mx then (bounds lo hi rows.length).map fun p => AV.sl g k ((List.take p.2 rows).drop p.1) else none) else none) = some (.sl g k xs, H) := by
  rw [if_pos hm]
  exact slice_sl hlo hhi h1 h2 hx
end Go.Proofs.Ytpkgpldgoajphaa.AM
