/-
  AM: an operation asks only its operands; one that asks no object does the same whatever they hold.
-/
import Derived.Test.YtpkgpldgoajphaaAm16
set_option linter.unusedVariables false
set_option linter.unusedSimpArgs false
namespace Go.Proofs.Ytpkgpldgoajphaa.AM
open Go

section
variable {T : TT} {F F' : Fr}
theorem opvs_congr : ∀ {xs : List Operand}, (∀ x ∈ xs, opv F x = opv F' x) → opvs F xs = opvs F' xs
  | [], _ => rfl
  | x :: xs, h => by
    simp only [opvs]
    rw [h x (by simp), opvs_congr fun y hy => h y (by simp [hy])]
theorem evBuild_congr {place : Nat → Option (Nat × Nat)} : ∀ {l : List (Nat × Operand)} {cs : List AV}, (∀ p ∈ l, opv F p.2 = opv F' p.2) → evBuild T F place l cs = evBuild T F' place l cs
  | [], _, _ => rfl
  | (i, x) :: l, cs, h => by
    have h0 : opv F x = opv F' x := h (i, x) List.mem_cons_self
    have ih := fun cs => evBuild_congr (place := place) (cs := cs) fun p hp => h p (List.mem_cons_of_mem _ hp)
    simp only [evBuild, h0, ih]
theorem optInt_congr {o : Option Operand} {d : Int} (h : ∀ x, o = some x → opv F x = opv F' x) : optInt F o d = optInt F' o d := by
  cases o with
  | none => rfl
  | some x => simp only [optInt]; rw [h x rfl]
theorem evSlice_congr {k : Option Nat} {v : AV} {lo hi mx : Option Operand} (h1 : ∀ x, lo = some x → opv F x = opv F' x) (h2 : ∀ x, hi = some x → opv F x = opv F' x) (h3 : ∀ x, mx = some x → opv F x = opv F' x) :
    evSlice F k v lo hi mx = evSlice F' k v lo hi mx := by
  have e1 := fun d => optInt_congr (d := d) h1
  have e2 := fun d => optInt_congr (d := d) h2
  cases mx with
  | none => cases v <;> cases k <;> first | rfl | simp only [evSlice, e1, e2]
  | some m =>
    have e3 : ∀ d, optInt F (some m) d = optInt F' (some m) d := fun d => optInt_congr (d := d) fun x hx => h3 x hx
    cases v <;> cases k <;> first | rfl | simp only [evSlice, e1, e2, e3]

theorem evP_congr {op : Op} (h : ∀ x ∈ op.operands, opv F x = opv F' x) : evP T F op = evP T F' op := by
  cases op <;> simp only [Op.operands] at h
  case move x => simp only [evP]; exact h x (by simp)
  case assign x => simp only [evP]; exact h x (by simp)
  case pick c a b => simp only [evP]; rw [h c (by simp), h a (by simp), h b (by simp)]
  case nilCheck x => simp only [evP]; rw [h x (by simp)]
  case binOp op t x y _ => simp only [evP]; rw [h x (by simp), h y (by simp)]
  case unOp op _ x => simp only [evP]; rw [h x (by simp)]
  case convert s d x => simp only [evP]; rw [h x (by simp)]
  case makeInterface t x => simp only [evP]; rw [h x (by simp)]
  case makeFunc fn first captured =>
    cases fn <;> simp only [evP]
    rw [opvs_congr (F := F) (F' := F') fun x hx => h x (by simpa using hx)]
  case slice t x lo hi mx =>
    have hx := h x (by simp)
    have e : ∀ k v, evSlice F k v lo hi mx = evSlice F' k v lo hi mx := fun k v => evSlice_congr (fun y hy => h y (by simp [hy])) (fun y hy => h y (by simp [hy])) (fun y hy => h y (by simp [hy]))
    simp only [evP, hx, e]
  case fieldAddr s x f => simp only [evP]; rw [h x (by simp)]
  case field s x f => simp only [evP]; rw [h x (by simp)]
  case indexAddr t x i => simp only [evP]; rw [h x (by simp), h i (by simp)]
  case index t x i => simp only [evP]; rw [h x (by simp), h i (by simp)]
  case extract x i => simp only [evP]; rw [h x (by simp)]
  case build t parts =>
    have e : ∀ place cs, evBuild T F place parts.toList cs = evBuild T F' place parts.toList cs := fun place cs => evBuild_congr fun p hp => h p.2 (by simp; exact ⟨p.1, by simpa using hp⟩)
    simp only [evP, e]
  case buildSlice t n parts =>
    have e : ∀ place cs, evBuild T F place parts.toList cs = evBuild T F' place parts.toList cs := fun place cs => evBuild_congr fun p hp => h p.2 (by simp; exact ⟨p.1, by simpa using hp⟩)
    simp only [evP, e]
  case load t x => simp only [evP]; rw [h x (by simp)]
  case call c =>
    obtain ⟨callee, args, argTypes⟩ := c
    have ha : ∀ x ∈ args.toList, opv F x = opv F' x := fun x hx => h x (by simp [Call.operands]; simp at hx; simp [hx])
    cases callee with
    | builtin b =>
      cases b <;> first | rfl | skip
      case len =>
        simp only [evP]
        split
        · rename_i x t hx _
          rw [ha x (by rw [hx]; simp)]
        · rfl
      case max =>
        simp only [evP]
        split
        · rename_i x y hx
          rw [ha x (by rw [hx]; simp), ha y (by rw [hx]; simp)]
        · rfl
      case min =>
        simp only [evP]
        split
        · rename_i x y hx
          rw [ha x (by rw [hx]; simp), ha y (by rw [hx]; simp)]
        · rfl
    | _ => rfl
  all_goals rfl

variable {X : Env} {H : Heap}
theorem ev1_congr {ar : Nat} {o : Oper} (h : ∀ x ∈ o.op.operands, opv F x = opv F' x) : ev1 X F H ar o = ev1 X F' H ar o := by
  obtain ⟨dst, op, type, pos, after, guard⟩ := o
  simp only at h
  have he : (evP X.T F op).map (fun a => (a, H)) = (evP X.T F' op).map (fun a => (a, H)) := by rw [evP_congr h]
  cases op with
  | alloc t => rfl
  | box t x => simp only [ev1]; rw [h x (by simp [Op.operands])]
  | load t x => simp only [ev1]; rw [h x (by simp [Op.operands])]
  | store t x y => simp only [ev1]; rw [h x (by simp [Op.operands]), h y (by simp [Op.operands])]
  | call c =>
    obtain ⟨callee, args, argTypes⟩ := c
    have ha : ∀ x ∈ args.toList, opv F x = opv F' x := fun x hx => h x (by simp [Op.operands, Call.operands]; simp at hx; simp [hx])
    cases callee with
    | value f => rfl
    | invoke r m => rfl
    | builtin b =>
      cases b with
      | append =>
        simp only [ev1]
        split
        · rename_i s x t t' hx _
          rw [ha s (by rw [hx]; simp), ha x (by rw [hx]; simp)]
        · rfl
      | _ => exact he
  | _ => exact he

theorem Sat_congr {P : Program} {ar : Nat} {o : Oper} {a : AV} {H' : Heap} (h : ∀ x ∈ o.op.operands, opv F x = opv F' x) : Sat P X F H ar o a H' = Sat P X F' H ar o a H' := by
  have he := ev1_congr (X := X) (H := H) (ar := ar) h
  obtain ⟨dst, op, type, pos, after, guard⟩ := o
  cases op with
  | call c =>
    obtain ⟨callee, args, argTypes⟩ := c
    have ha : ∀ x ∈ args.toList, opv F x = opv F' x := fun x hx => h x (by simp [Op.operands, Call.operands]; simp at hx; simp [hx])
    cases callee with
    | value f => simp only [Sat]; rw [h f (by simp [Op.operands, Call.operands]), opvs_congr ha]
    | invoke r m => simp only [Sat]; rw [h r (by simp [Op.operands, Call.operands]), opvs_congr ha]
    | builtin b => simp only [Sat]; rw [he]
  | _ => simp only [Sat]; rw [he]
/-- What asks no object. -/
theorem ev1_P {ar : Nat} {o : Oper} {a : AV} {H' : Heap} (hc : clsOf X F o = .P) (h : ev1 X F H ar o = some (a, H')) : H' = H ∧ ∀ H2, ev1 X F H2 ar o = some (a, H2) := by
  obtain ⟨dst, op, type, pos, after, guard⟩ := o
  have he : (evP X.T F op).map (fun a => (a, H)) = some (a, H') → H' = H ∧ ∀ H2 : Heap, (evP X.T F op).map (fun a => (a, H2)) = some (a, H2) := by
    intro h
    cases hp : evP X.T F op with
    | none => simp [hp] at h
    | some b =>
      simp [hp] at h
      exact ⟨h.2.symm, fun H2 => by simp [h.1]⟩
  cases op with
  | alloc t => simp only [ev1, Option.some.injEq, Prod.mk.injEq] at h ⊢; exact ⟨h.2.symm, fun _ => ⟨h.1, trivial⟩⟩
  | box t x =>
    simp only [clsOf] at hc
    simp only [ev1] at h ⊢
    split at h
    case h_2 => simp at h
    rename_i v ti hv ht
    split at h
    case h_2 => simp at h
    rename_i cs d hfit
    simp only at hc
    split at hc
    · rename_i hm
      rw [if_pos hm] at h
      split at h
      case isFalse => simp at h
      rename_i hb
      simp only [Option.some.injEq, Prod.mk.injEq] at h
      refine ⟨h.2.symm, fun H2 => ?_⟩
      simp only [hv, ht, hfit, hm, if_true, hb, h.1]
    · simp at hc
  | load t x =>
    simp only [clsOf] at hc
    simp only [ev1] at h ⊢
    split at h
    · rename_i cs c hx
      cases hp : part X.T t cs c with
      | none => simp [hp] at h
      | some b => simp [hp] at h ⊢; exact ⟨h.2.symm, h.1⟩
    · rename_i hx
      simp [hx] at hc
    · simp at h
  | store t x y => simp [clsOf] at hc
  | call c =>
    obtain ⟨callee, args, argTypes⟩ := c
    cases callee with
    | value f => simp [clsOf] at hc
    | invoke r m => simp [clsOf] at hc
    | builtin b =>
      cases b with
      | append => simp [clsOf] at hc
      | _ => exact he h
  | _ => exact he h
/-- What reads objects turns none. -/
theorem map_pair {o : Option AV} {a : AV} {H H' : Heap} (h : o.map (fun a => (a, H)) = some (a, H')) : H' = H := by
  cases o with
  | none => simp at h
  | some b => simp only [Option.map_some, Option.some.injEq, Prod.mk.injEq] at h; exact h.2.symm
theorem ev1_load {ar : Nat} {o : Oper} {a : AV} {H H' : Heap} (hl : ∃ t x, o.op = .load t x) (h : ev1 X F H ar o = some (a, H')) : H' = H ∧ ∀ ar2, ev1 X F H ar2 o = some (a, H) := by
  obtain ⟨dst, op, type, pos, after, guard⟩ := o
  obtain ⟨t, x, ht⟩ := hl
  simp only at ht
  subst ht
  have key : H' = H := by
    simp only [ev1] at h
    split at h
    · exact map_pair h
    · split at h
      · exact map_pair h
      · simp at h
    · simp at h
  subst key
  exact ⟨rfl, fun ar2 => h⟩
theorem clsOf_R {o : Oper} (hc : clsOf X F o = .R) : ∃ t x, o.op = .load t x := by
  obtain ⟨dst, op, type, pos, after, guard⟩ := o
  cases op with
  | load t x => exact ⟨t, x, rfl⟩
  | box t x =>
    simp only [clsOf] at hc
    split at hc
    · split at hc <;> simp at hc
    · simp at hc
  | store t x y => simp [clsOf] at hc
  | call c =>
    obtain ⟨callee, args, argTypes⟩ := c
    cases callee with
    | value f => simp [clsOf] at hc
    | invoke r m => simp [clsOf] at hc
    | builtin b => cases b <;> simp [clsOf] at hc
  | _ => simp [clsOf] at hc
end
theorem Sat.ev1_of {P : Program} {X : Env} {F : Fr} {H H' : Heap} {ar : Nat} {o : Oper} {a : AV} (hc : clsOf X F o ≠ .E) (h : Sat P X F H ar o a H') : ev1 X F H ar o = some (a, H') := by
  obtain ⟨dst, op, type, pos, after, guard⟩ := o
  cases op with
  | call c =>
    obtain ⟨callee, args, argTypes⟩ := c
    cases callee with
    | value f => exact absurd rfl hc
    | invoke r m => exact absurd rfl hc
    | builtin b => exact h
  | _ => exact h
theorem isAlloc_P {X : Env} {F : Fr} {o : Oper} (h : isAlloc o = true) : clsOf X F o = .P := by
  obtain ⟨t, ht⟩ := isAlloc_iff.1 h
  unfold clsOf
  rw [ht]
end Go.Proofs.Ytpkgpldgoajphaa.AM
