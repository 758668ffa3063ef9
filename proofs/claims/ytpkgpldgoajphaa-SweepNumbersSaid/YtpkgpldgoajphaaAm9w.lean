/-
  AM: weaker values.
-/
import Derived.Test.YtpkgpldgoajphaaAm1
set_option linter.unusedVariables false
set_option linter.unusedSimpArgs false
namespace Go.Proofs.Ytpkgpldgoajphaa.AM
open Go

def Tg.le : Tg → Tg → Bool
  | _, .any => true
  | .nil, .nil => true
  | .clip, .clip => true
  | .op, .op => true
  | .cn, .cn => true
  | .nil, .cn => true
  | .clip, .cn => true
  | _, _ => false
mutual
/-- What the first stands for the second stands for. -/
def AV.wk : AV → AV → Prop
  | .sl g k xs, b => match b with
    | .sl g' k' ys => g.le g' = true ∧ xs = ys ∧ (k = k' ∨ xs = [])
    | .unk => True
    | _ => False
  | .agg xs, b => match b with
    | .agg ys => AV.wks xs ys
    | .unk => True
    | _ => False
  | .tup xs, b => match b with
    | .tup ys => AV.wks xs ys
    | .unk => True
    | _ => False
  | a, b => match b with
    | .unk => True
    | b => a = b
def AV.wks : List AV → List AV → Prop
  | [], ys => match ys with
    | [] => True
    | _ => False
  | a :: as, ys => match ys with
    | b :: bs => AV.wk a b ∧ AV.wks as bs
    | [] => False
end
theorem AV.wks_get : ∀ {xs ys : List AV}, AV.wks xs ys → xs.length = ys.length ∧ ∀ i, i < xs.length → AV.wk (xs.getD i .skip) (ys.getD i .skip)
  | [], [], _ => ⟨rfl, fun i hi => by simp at hi⟩
  | [], _ :: _, h => by simp [AV.wks] at h
  | _ :: _, [], h => by simp [AV.wks] at h
  | a :: as, b :: bs, h => by
    simp only [AV.wks] at h
    obtain ⟨h1, h2⟩ := AV.wks_get h.2
    refine ⟨by simp [h1], fun i hi => ?_⟩
    cases i with
    | zero => simpa using h.1
    | succ i => simpa using h2 i (by simpa using hi)
theorem AV.wk_refl_any (a : AV) : AV.wk a a := by
  have key : (∀ a : AV, AV.wk a a) ∧ True := ⟨fun a => by
    induction a using AV.rec (motive_2 := fun l => AV.wks l l) (motive_3 := fun _ => True) with
    | nil => simp [AV.wks]
    | cons a l h1 h2 => exact ⟨h1, h2⟩
    | agg cs h => exact h
    | tup cs h => exact h
    | sl g k xs _ => exact ⟨by cases g <;> rfl, rfl, .inl rfl⟩
    | _ => first | exact rfl | trivial, trivial⟩
  exact key.1 a
theorem AV.wks_refl : ∀ (l : List AV), AV.wks l l
  | [] => trivial
  | a :: l => ⟨AV.wk_refl_any a, AV.wks_refl l⟩
theorem VR.wk {G : Nat → Prop} {w : World} {C : Cx} {a : AV} {v : Value} (h : VR G w C a v) : ∀ {b : AV}, AV.wk a b → VR G w C b v := by
  induction h with
  | agg C xs vs hs h1 h ih =>
    intro b hb
    cases b <;> simp only [AV.wk] at hb <;> try exact .unk ..
    obtain ⟨e, hw⟩ := AV.wks_get hb
    exact .agg _ _ _ (by omega) (fun i hi => h1 i (by omega)) fun i hi => ih i (by omega) (hw i (by omega))
  | tup C xs vs hs h ih =>
    intro b hb
    cases b <;> simp only [AV.wk] at hb <;> try exact .unk ..
    obtain ⟨e, hw⟩ := AV.wks_get hb
    exact .tup _ _ _ (by omega) fun i hi => ih i (by omega) (hw i (by omega))
  | nils C g k hg =>
    intro b hb
    cases b <;> simp only [AV.wk] at hb <;> try exact .unk ..
    rename_i g' k' ys
    obtain ⟨h1, rfl, _⟩ := hb
    refine .nils _ _ _ ?_
    rcases hg with rfl | rfl | rfl <;> cases g' <;> simp [Tg.le] at h1 ⊢
  | sl C g xs k ad cap hg hclip hle hs cv hk hc h1 h ih =>
    intro b hb
    cases b <;> simp only [AV.wk] at hb <;> try exact .unk ..
    rename_i g' k' ys
    obtain ⟨h2, rfl, h3⟩ := hb
    have hg' : g' ≠ .nil := by cases g <;> cases g' <;> simp [Tg.le] at h2 hg ⊢
    have hcl' : g' = .clip ∨ g' = .cn → cap = xs.length := by
      intro h4
      apply hclip
      cases g <;> cases g' <;> simp [Tg.le] at h2 hg h4 ⊢
    rcases h3 with rfl | rfl
    · exact .sl _ _ _ _ _ _ hg' hcl' hle hs cv hk hc h1 h
    · exact .sl _ _ _ _ _ _ hg' hcl' hle hs cv (fun i hi => by simp at hi) (fun i j hi => by simp at hi) (fun i j hi => by simp at hi) (fun i j hi => by simp at hi)
  | func C f xs vs hs h ih =>
    intro b hb
    cases b <;> simp only [AV.wk] at hb <;> first | exact .unk .. | (simp at hb; done) | skip
    simp at hb
    obtain ⟨rfl, rfl⟩ := hb
    exact .func _ _ _ _ hs h
  | iface C t a v h ih =>
    intro b hb
    cases b <;> simp only [AV.wk] at hb <;> first | exact .unk .. | (simp at hb; done) | skip
    simp at hb
    obtain ⟨rfl, rfl⟩ := hb
    exact .iface _ _ _ _ h
  | ref C cs c b o hG cv hc h1 h ih =>
    intro b hb
    cases b <;> simp only [AV.wk] at hb <;> first | exact .unk .. | (simp at hb; done) | skip
    simp at hb
    obtain ⟨rfl, rfl⟩ := hb
    exact .ref _ _ _ _ _ hG cv hc h1 h
  | obj C id g e c ad hle h =>
    intro b hb
    cases b <;> simp only [AV.wk] at hb <;> first | exact .unk .. | (simp at hb; done) | skip
    simp at hb
    obtain ⟨rfl, rfl, rfl, rfl⟩ := hb
    exact .obj _ _ _ _ _ _ hle h
  | osl C id g k e n ad cap hnc hle h =>
    intro b hb
    cases b <;> simp only [AV.wk] at hb <;> first | exact .unk .. | (simp at hb; done) | skip
    simp at hb
    obtain ⟨rfl, rfl, rfl, rfl, rfl⟩ := hb
    exact .osl _ _ _ _ _ _ _ _ hnc hle h
  | osl0 C id g k e base hle h =>
    intro b hb
    cases b <;> simp only [AV.wk] at hb <;> first | exact .unk .. | (simp at hb; done) | skip
    simp at hb
    obtain ⟨rfl, rfl, rfl, rfl, rfl⟩ := hb
    exact .osl0 _ _ _ _ _ _ hle h
  | skip C => intro b hb; cases b <;> simp [AV.wk] at hb <;> first | exact .unk .. | exact .skip _
  | unk C v => intro b hb; cases b <;> simp [AV.wk] at hb <;> exact .unk ..
  | bool C x => intro b hb; cases b <;> simp [AV.wk] at hb <;> first | exact .unk .. | (subst hb; exact .bool ..)
  | int C k x => intro b hb; cases b <;> simp [AV.wk] at hb <;> first | exact .unk .. | (obtain ⟨rfl, rfl⟩ := hb; exact .int ..)
  | str C x => intro b hb; cases b <;> simp [AV.wk] at hb <;> first | exact .unk .. | (subst hb; exact .str ..)
  | nilp C => intro b hb; cases b <;> simp [AV.wk] at hb <;> first | exact .unk .. | exact .nilp _
  | nilf C => intro b hb; cases b <;> simp [AV.wk] at hb <;> first | exact .unk .. | exact .nilf _
  | nili C => intro b hb; cases b <;> simp [AV.wk] at hb <;> first | exact .unk .. | exact .nili _

end Go.Proofs.Ytpkgpldgoajphaa.AM
