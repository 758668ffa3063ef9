/-
  Plain laws: sweep.Pick is the reference's.
-/
import Derived.Test.YtpkgpldgoajphaaSw
import Derived.Test.YtpkgpldgoajphaaPg
set_option linter.unusedVariables false
set_option linter.unusedSimpArgs false
set_option maxRecDepth 100000
namespace Go.Proofs.Ytpkgpldgoajphaa.AM
open Go
attribute [local irreducible] Tp.card Tp.cardT Tp.next Tp.step Tp.cards Tp.cardsT Tp.key Tp.keyT
theorem pickFw (now late : Int) (l : List Entry) : ∀ (s : Nat × List Entry × Nat), (l.foldl (pickStep now late) s).2.1 = s.2.1 ++ l.filter (fun e => decide (lateE e now > late)) ∧ (l.foldl (pickStep now late) s).1 = s.1 + liveN l := by
  induction l with
  | nil => intro s; simp [liveN]
  | cons e l ih =>
    intro s
    obtain ⟨h1, h2⟩ := ih (pickStep now late s e)
    rw [List.foldl_cons, h1, h2]
    simp only [pickStep, liveN, List.filter_cons]
    constructor
    · split <;> simp
    · split <;> omega
theorem pickSw (l : List Entry) (now late : Int) : (pickS l now late).2.1 = l.filter (fun e => decide (lateE e now > late)) ∧ (pickS l now late).1 = liveN l := by
  have := pickFw now late l (0, [], 0)
  exact ⟨by simpa [pickS] using this.1, by simpa [pickS] using this.2⟩
theorem posE_posG (now : Int) (e : Entry) (out : List Entry) (k : Nat) : posE now e out k = posG (earlK now) e out k := by
  induction k with
  | zero => rfl
  | succ k ih => simp only [posE, posG, ih]
theorem insE_insG (now : Int) : insE now = insG (earlK now) := by funext out e; unfold insE insG; rw [posE_posG]
theorem earlK_cmpL (now : Int) : (fun a b : Entry => decide (cmpL now a b < 0)) = earlK now := by
  funext a b
  unfold cmpL earlK
  by_cases h : lateE a now = lateE b now
  · have h1 : cmpI (lateE b now) (lateE a now) = 0 := by simp [cmpI, h]
    have h2 : (lateE a now != lateE b now) = false := by simp [h]
    rw [if_pos h1, h2]
    simp only [Bool.false_eq_true, if_false]
    rw [← less_before]
    unfold orderK
    cases h3 : lessK a.card.key b.card.key
    · simp only [Bool.false_eq_true, if_false]; split <;> simp
    · simp
  · have h2 : (lateE a now != lateE b now) = true := by simp [h]
    rw [h2]
    simp only [if_true]
    by_cases h3 : lateE b now < lateE a now
    · have h1 : cmpI (lateE b now) (lateE a now) = -1 := by simp [cmpI, h3]
      rw [h1]; simp [h3]
    · have h1 : cmpI (lateE b now) (lateE a now) = 1 := by
        have : lateE b now > lateE a now := by omega
        simp [cmpI, h3, this]
      rw [h1]; simp [h3]
theorem pick_same (l : List Entry) (now late : Int) : pickK l now late = rpickK l now late := by
  obtain ⟨h1, h2⟩ := pickSw l now (max 0 late)
  have hm : max late 0 = max 0 late := by omega
  have hf : (l.filter fun e => !decide (lateE e now ≤ max 0 late)) = l.filter (fun e => decide (lateE e now > max 0 late)) := by
    congr 1; funext e
    by_cases h : lateE e now ≤ max 0 late
    · have : ¬ lateE e now > max 0 late := by omega
      simp only [h, this, decide_true, decide_false, Bool.not_true]
    · have : lateE e now > max 0 late := by omega
      simp only [h, this, decide_true, decide_false, Bool.not_false]
  have key : pickL l now late = someK l now (max late 0) := by
    unfold pickL someK
    rw [h1, hm, hf, insSort_sortG, earlK_cmpL, insE_insG]; rfl
  unfold pickK rpickK pickN
  rw [key, h2]
theorem pickK_le (l : List Entry) (now late : Int) : (pickK l now late).length ≤ l.length := by
  rw [pick_same]
  have := someK_len l now (max late 0)
  unfold rpickK; simp; omega
end Go.Proofs.Ytpkgpldgoajphaa.AM
