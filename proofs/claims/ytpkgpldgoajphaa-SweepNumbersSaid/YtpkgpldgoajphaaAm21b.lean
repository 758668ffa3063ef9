/-
  AM: what code comes to, told by a tree: at each region what is told of its operations, at each fork two trees.
-/
import Derived.Test.YtpkgpldgoajphaaAm21a
set_option linter.unusedVariables false
set_option linter.unusedSimpArgs false
namespace Go.Proofs.Ytpkgpldgoajphaa.AM
open Go

inductive Tr where
  | nil
  | reg (hs : Hs) (rows rows' : List (Nat × List (List AV))) (t : Tr)
  | two (a b : Tr)
  | loop (e : Ex) (F : Fr) (H : Heap) (t : Tr)
  | roll (n : Nat) (t : Tr)
abbrev Tr.r1 (hs : Hs) (t : Tr) : Tr := .reg hs [] [] t
def Tr.l : Tr → Tr
  | .two a _ => a
  | t => t
def Tr.r : Tr → Tr
  | .two _ b => b
  | t => t

/-- 'opsP', with the tree. -/
def opsT (P : Program) (X : Env) (all : List Oper) (ab : Nat) (hs : Hs) : List Oper → Nat → Nat → (Tr → Fr → Heap → Prop) → Tr → Fr → Heap → Prop
  | [], _, _, K, t, F, H => K t F H
  | o :: rest, i, r, K, t, F, H =>
    match o.guard with
    | none => doP P X (assoc i hs) F H (ab + r) o fun a H' => opsT P X all ab hs rest (i + 1) (up o r) K t (putF F o.dst a) H'
    | some (j, want) => match dstOf all j with
      | some d => match F[d]? with
        | some (some (.bool c)) => match c with
          | true => match want with
            | true => doP P X (assoc i hs) (F.set d (some (.bool true))) H (ab + r) o fun a H' => opsT P X all ab hs rest (i + 1) (up o r) K t.l (putF (F.set d (some (.bool true))) o.dst a) H'
            | false => opsT P X all ab hs rest (i + 1) (up o r) K t.l (putF (F.set d (some (.bool true))) o.dst .skip) H
          | false => match want with
            | true => opsT P X all ab hs rest (i + 1) (up o r) K t.r (putF (F.set d (some (.bool false))) o.dst .skip) H
            | false => doP P X (assoc i hs) (F.set d (some (.bool false))) H (ab + r) o fun a H' => opsT P X all ab hs rest (i + 1) (up o r) K t.r (putF (F.set d (some (.bool false))) o.dst a) H'
        | some (some .skip) => opsT P X all ab hs rest (i + 1) (up o r) K t (putF F o.dst .skip) H
        | _ => False
      | none => False
/-- 'opsD', with the tree. -/
def opsDT (P : Program) (X : Env) (all : List Oper) (nd : List Nat) (ab : Nat) (hs : Hs) : List Oper → Nat → Nat → Dr → (Tr → Fr → Heap → Prop) → Tr → Fr → Heap → Prop
  | [], _, _, D, K, t, F, H => match chain nd D.es with
    | true => readsP X nd D D.rs (K t F H)
    | false => False
  | o :: rest, i, r, D, K, t, F, H =>
    match o.guard with
    | none => doP P X (assoc i hs) F H (ab + r) o fun a H' => opsDT P X all nd ab hs rest (i + 1) (up o r) (noteD X F i o a H' D) K t (putF F o.dst a) H'
    | some (j, want) => match dstOf all j with
      | some d => match F[d]? with
        | some (some (.bool c)) => match c with
          | true => match want with
            | true => doP P X (assoc i hs) (F.set d (some (.bool true))) H (ab + r) o fun a H' => opsDT P X all nd ab hs rest (i + 1) (up o r) (noteD X (F.set d (some (.bool true))) i o a H' D) K t.l (putF (F.set d (some (.bool true))) o.dst a) H'
            | false => opsDT P X all nd ab hs rest (i + 1) (up o r) D K t.l (putF (F.set d (some (.bool true))) o.dst .skip) H
          | false => match want with
            | true => opsDT P X all nd ab hs rest (i + 1) (up o r) D K t.r (putF (F.set d (some (.bool false))) o.dst .skip) H
            | false => doP P X (assoc i hs) (F.set d (some (.bool false))) H (ab + r) o fun a H' => opsDT P X all nd ab hs rest (i + 1) (up o r) (noteD X (F.set d (some (.bool false))) i o a H' D) K t.r (putF (F.set d (some (.bool false))) o.dst a) H'
        | some (some .skip) => opsDT P X all nd ab hs rest (i + 1) (up o r) D K t (putF F o.dst .skip) H
        | _ => False
      | none => False
def iterT (run : (Tr → Ex → Fr → Heap → Prop) → Tr → Fr → Heap → Prop) (live out : Option (List Nat)) : Nat → (Tr → Ex → Fr → Heap → Prop) → Tr → Fr → Heap → Prop
  | 0, _, _, _, _ => False
  | n + 1, K, t, F, H => run (fun t e F H => match e with
    | .normal => iterT run live out n K t (cutF live F) H
    | e => K t e (cutF out F) H) t F H
def regT (P : Program) (X : Env) (id : Nat) (ops : Array Oper) (draw : Bool) (hs : Hs) (rows rows' : List (Nat × List (List AV))) (K : Tr → Fr → Heap → Prop) (t : Tr) (F : Fr) (H : Heap) : Prop :=
  ghP X.ann.base rows X.ann.gh id (fun F H => match allocs X.T ops.toList with
    | some al => match draw with
      | false => opsT P X ops.toList H.length hs ops.toList 0 0 (fun t => ghP X.ann.base rows' X.ann.gha id (K t)) t F (addObs H al)
      | true => opsDT P X ops.toList (needs ops.toList []) H.length hs ops.toList 0 0 ⟨[addObs H al], [], []⟩ (fun t => ghP X.ann.base rows' X.ann.gha id (K t)) t F (addObs H al)
    | none => False) F H
def codeT (P : Program) (X : Env) : Code → (Tr → Ex → Fr → Heap → Prop) → Tr → Fr → Heap → Prop
  | .skip, K, t, F, H => K t .normal F H
  | .region id ops draw, K, t, F, H => match t with
    | .reg hs rows rows' t => regT P X id ops draw hs rows rows' (fun t => K t .normal) t F H
    | _ => regT P X id ops draw [] [] [] (fun t => K t .normal) t F H
  | .seq a b, K, t, F, H => codeT P X a (fun t e F H => match e with
    | .normal => codeT P X b K t F H
    | e => K t e F H) t F H
  | .cond c x y, K, t, F, H => match opv F c with
    | some (.bool b) => match b with
      | true => codeT P X x K t.l F H
      | false => codeT P X y K t.r F H
    | _ => False
  | .block id c, K, t, F, H => codeT P X c (fun t e F H => match e with
    | .exit j => match Nat.beq j id with
      | true => K t .normal F H
      | false => K t (.exit j) F H
    | e => K t e F H) t F H
  | .loop c, K, t, F, H => match t with
    | .loop e F' H' t => LoopTo (codeQ P X c) (liveOf X c) (outOf X c) (cutF (liveOf X c) F) H e F' H' ∧ K t e F' H'
    | .roll n t => iterT (codeT P X c) (liveOf X c) (outOf X c) n K t (cutF (liveOf X c) F) H
    | _ => False
  | .exit id, K, t, F, H => K t (.exit id) F H
  | .ret, K, t, F, H => K t .ret F H
  | _, _, _, _, _ => False

section
variable {P : Program} {X : Env}
/-- What is asked of an operation's yield may be told later. -/
theorem doP_ex {α : Sort _} {t : Option (AV × Heap)} {F : Fr} {H : Heap} {ar : Nat} {o : Oper} {K : AV → Heap → Prop} {K' : α → AV → Heap → Prop} (hk : ∀ a H, K a H → ∃ x, K' x a H) (h : doP P X t F H ar o K) : ∃ x, doP P X t F H ar o (K' x) := by
  unfold doP at h
  split at h
  · obtain ⟨x, hx⟩ := hk _ _ h.2
    exact ⟨x, h.1, hx⟩
  · split at h
    · rename_i a H' he
      obtain ⟨x, hx⟩ := hk _ _ h
      refine ⟨x, ?_⟩
      unfold doP
      simp only [he]
      exact hx
    · exact h.elim
theorem opsP_ex {α : Sort _} {all : List Oper} {ab : Nat} {hs : Hs} {K : Fr → Heap → Prop} {K' : α → Fr → Heap → Prop} (hk : ∀ F H, K F H → ∃ x, K' x F H) (rest : List Oper) : ∀ {i r : Nat} {F : Fr} {H : Heap}, opsP P X all ab hs rest i r K F H → ∃ x, opsP P X all ab hs rest i r (K' x) F H := by
  induction rest with
  | nil => exact fun h => hk _ _ h
  | cons o rest ih =>
    intro i r F H h
    unfold opsP at h
    split at h
    · obtain ⟨x, hx⟩ := doP_ex (K' := fun x a H' => opsP P X all ab hs rest (i + 1) (up o r) (K' x) (putF F o.dst a) H') (fun _ _ => ih) h
      refine ⟨x, ?_⟩
      unfold opsP
      split
      · exact hx
      · simp_all
    · rename_i j want hgd
      split at h
      case h_2 => exact h.elim
      rename_i d hd
      split at h
      · rename_i c hc
        split at h
        · split at h
          · obtain ⟨x, hx⟩ := doP_ex (K' := fun x a H' => opsP P X all ab hs rest (i + 1) (up o r) (K' x) (putF (F.set d (some (.bool true))) o.dst a) H') (fun _ _ => ih) h
            exact ⟨x, by unfold opsP; simp only [hgd, hd, hc]; exact hx⟩
          · obtain ⟨x, hx⟩ := ih h
            exact ⟨x, by unfold opsP; simp only [hgd, hd, hc]; exact hx⟩
        · split at h
          · obtain ⟨x, hx⟩ := ih h
            exact ⟨x, by unfold opsP; simp only [hgd, hd, hc]; exact hx⟩
          · obtain ⟨x, hx⟩ := doP_ex (K' := fun x a H' => opsP P X all ab hs rest (i + 1) (up o r) (K' x) (putF (F.set d (some (.bool false))) o.dst a) H') (fun _ _ => ih) h
            exact ⟨x, by unfold opsP; simp only [hgd, hd, hc]; exact hx⟩
      · rename_i hc
        obtain ⟨x, hx⟩ := ih h
        exact ⟨x, by unfold opsP; simp only [hgd, hd, hc]; exact hx⟩
      · exact h.elim
theorem opsT_ex {all : List Oper} {ab : Nat} {hs : Hs} {K : Tr → Fr → Heap → Prop} (rest : List Oper) : ∀ {i r : Nat} {t : Tr} {F : Fr} {H : Heap}, opsT P X all ab hs rest i r K t F H → ∃ t, opsP P X all ab hs rest i r (K t) F H := by
  induction rest with
  | nil => exact fun {i r t F H} h => ⟨t, h⟩
  | cons o rest ih =>
    intro i r t F H h
    unfold opsT at h
    split at h
    · obtain ⟨x, hx⟩ := doP_ex (K' := fun x a H' => opsP P X all ab hs rest (i + 1) (up o r) (K x) (putF F o.dst a) H') (fun _ _ => ih) h
      refine ⟨x, ?_⟩
      unfold opsP
      split
      · exact hx
      · simp_all
    · rename_i j want hgd
      split at h
      case h_2 => exact h.elim
      rename_i d hd
      split at h
      · rename_i c hc
        split at h
        · split at h
          · obtain ⟨x, hx⟩ := doP_ex (K' := fun x a H' => opsP P X all ab hs rest (i + 1) (up o r) (K x) (putF (F.set d (some (.bool true))) o.dst a) H') (fun _ _ => ih) h
            exact ⟨x, by unfold opsP; simp only [hgd, hd, hc]; exact hx⟩
          · obtain ⟨x, hx⟩ := ih h
            exact ⟨x, by unfold opsP; simp only [hgd, hd, hc]; exact hx⟩
        · split at h
          · obtain ⟨x, hx⟩ := ih h
            exact ⟨x, by unfold opsP; simp only [hgd, hd, hc]; exact hx⟩
          · obtain ⟨x, hx⟩ := doP_ex (K' := fun x a H' => opsP P X all ab hs rest (i + 1) (up o r) (K x) (putF (F.set d (some (.bool false))) o.dst a) H') (fun _ _ => ih) h
            exact ⟨x, by unfold opsP; simp only [hgd, hd, hc]; exact hx⟩
      · rename_i hc
        obtain ⟨x, hx⟩ := ih h
        exact ⟨x, by unfold opsP; simp only [hgd, hd, hc]; exact hx⟩
      · exact h.elim
theorem readP_ex {α : Sort _} {r : Rd} {lo hi : Nat} {Q : Prop} {Q' : α → Prop} (hq : Q → ∃ x, Q' x) (hs : List Heap) : ∀ {k : Nat}, readP X r lo hi hs k Q → ∃ x, readP X r lo hi hs k (Q' x) := by
  induction hs with
  | nil => exact fun h => hq h
  | cons H hs ih =>
    intro k h
    unfold readP at h
    split at h
    · rename_i hc
      obtain ⟨x, hx⟩ := ih h.2
      exact ⟨x, by unfold readP; simp only [hc]; exact ⟨h.1, hx⟩⟩
    · rename_i hc
      obtain ⟨x, hx⟩ := ih h
      exact ⟨x, by unfold readP; simp only [hc]; exact hx⟩
theorem readsP_ex {α : Sort _} {nd : List Nat} {D : Dr} {Q : Prop} {Q' : α → Prop} (hq : Q → ∃ x, Q' x) (rs : List Rd) : readsP X nd D rs Q → ∃ x, readsP X nd D rs (Q' x) := by
  induction rs with
  | nil => exact fun h => hq h
  | cons r rs ih => exact fun h => readP_ex ih _ h
theorem opsD_ex {α : Sort _} {all : List Oper} {nd : List Nat} {ab : Nat} {hs : Hs} {K : Fr → Heap → Prop} {K' : α → Fr → Heap → Prop} (hk : ∀ F H, K F H → ∃ x, K' x F H) (rest : List Oper) : ∀ {i r : Nat} {D : Dr} {F : Fr} {H : Heap}, opsD P X all nd ab hs rest i r D K F H → ∃ x, opsD P X all nd ab hs rest i r D (K' x) F H := by
  induction rest with
  | nil =>
    intro i r D F H h
    unfold opsD at h
    split at h
    · rename_i hc
      obtain ⟨x, hx⟩ := readsP_ex (hk _ _) _ h
      exact ⟨x, by unfold opsD; simp only [hc]; exact hx⟩
    · exact h.elim
  | cons o rest ih =>
    intro i r D F H h
    unfold opsD at h
    split at h
    · obtain ⟨x, hx⟩ := doP_ex (K' := fun x a H' => opsD P X all nd ab hs rest (i + 1) (up o r) (noteD X F i o a H' D) (K' x) (putF F o.dst a) H') (fun _ _ => ih) h
      refine ⟨x, ?_⟩
      unfold opsD
      split
      · exact hx
      · simp_all
    · rename_i j want hgd
      split at h
      case h_2 => exact h.elim
      rename_i d hd
      split at h
      · rename_i c hc
        split at h
        · split at h
          · obtain ⟨x, hx⟩ := doP_ex (K' := fun x a H' => opsD P X all nd ab hs rest (i + 1) (up o r) (noteD X (F.set d (some (.bool true))) i o a H' D) (K' x) (putF (F.set d (some (.bool true))) o.dst a) H') (fun _ _ => ih) h
            exact ⟨x, by unfold opsD; simp only [hgd, hd, hc]; exact hx⟩
          · obtain ⟨x, hx⟩ := ih h
            exact ⟨x, by unfold opsD; simp only [hgd, hd, hc]; exact hx⟩
        · split at h
          · obtain ⟨x, hx⟩ := ih h
            exact ⟨x, by unfold opsD; simp only [hgd, hd, hc]; exact hx⟩
          · obtain ⟨x, hx⟩ := doP_ex (K' := fun x a H' => opsD P X all nd ab hs rest (i + 1) (up o r) (noteD X (F.set d (some (.bool false))) i o a H' D) (K' x) (putF (F.set d (some (.bool false))) o.dst a) H') (fun _ _ => ih) h
            exact ⟨x, by unfold opsD; simp only [hgd, hd, hc]; exact hx⟩
      · rename_i hc
        obtain ⟨x, hx⟩ := ih h
        exact ⟨x, by unfold opsD; simp only [hgd, hd, hc]; exact hx⟩
      · exact h.elim
theorem opsDT_ex {all : List Oper} {nd : List Nat} {ab : Nat} {hs : Hs} {K : Tr → Fr → Heap → Prop} (rest : List Oper) : ∀ {i r : Nat} {D : Dr} {t : Tr} {F : Fr} {H : Heap}, opsDT P X all nd ab hs rest i r D K t F H → ∃ t, opsD P X all nd ab hs rest i r D (K t) F H := by
  induction rest with
  | nil =>
    intro i r D t F H h
    unfold opsDT at h
    split at h
    · rename_i hc
      exact ⟨t, by unfold opsD; simp only [hc]; exact h⟩
    · exact h.elim
  | cons o rest ih =>
    intro i r D t F H h
    unfold opsDT at h
    split at h
    · obtain ⟨x, hx⟩ := doP_ex (K' := fun x a H' => opsD P X all nd ab hs rest (i + 1) (up o r) (noteD X F i o a H' D) (K x) (putF F o.dst a) H') (fun _ _ => ih) h
      refine ⟨x, ?_⟩
      unfold opsD
      split
      · exact hx
      · simp_all
    · rename_i j want hgd
      split at h
      case h_2 => exact h.elim
      rename_i d hd
      split at h
      · rename_i c hc
        split at h
        · split at h
          · obtain ⟨x, hx⟩ := doP_ex (K' := fun x a H' => opsD P X all nd ab hs rest (i + 1) (up o r) (noteD X (F.set d (some (.bool true))) i o a H' D) (K x) (putF (F.set d (some (.bool true))) o.dst a) H') (fun _ _ => ih) h
            exact ⟨x, by unfold opsD; simp only [hgd, hd, hc]; exact hx⟩
          · obtain ⟨x, hx⟩ := ih h
            exact ⟨x, by unfold opsD; simp only [hgd, hd, hc]; exact hx⟩
        · split at h
          · obtain ⟨x, hx⟩ := ih h
            exact ⟨x, by unfold opsD; simp only [hgd, hd, hc]; exact hx⟩
          · obtain ⟨x, hx⟩ := doP_ex (K' := fun x a H' => opsD P X all nd ab hs rest (i + 1) (up o r) (noteD X (F.set d (some (.bool false))) i o a H' D) (K x) (putF (F.set d (some (.bool false))) o.dst a) H') (fun _ _ => ih) h
            exact ⟨x, by unfold opsD; simp only [hgd, hd, hc]; exact hx⟩
      · rename_i hc
        obtain ⟨x, hx⟩ := ih h
        exact ⟨x, by unfold opsD; simp only [hgd, hd, hc]; exact hx⟩
      · exact h.elim
theorem ghP1_ex {α : Sort _} {base : Nat} {rows : List (Nat × List (List AV))} {s : Gh} {K : Fr → Heap → Prop} {K' : α → Fr → Heap → Prop} (hk : ∀ F H, K F H → ∃ x, K' x F H) {F : Fr} {H : Heap} (h : ghP1 base rows s K F H) : ∃ x, ghP1 base rows s (K' x) F H := by
  have hk' := hk
  cases s with
  | frz t =>
    simp only [ghP1] at h ⊢
    split at h
    · rename_i hs
      try simp only [hs]
      split at h
      · rename_i hr
        try simp only [hr]
        obtain ⟨x, hx⟩ := hk _ _ h.2
        exact ⟨x, h.1, hx⟩
      · rename_i hr
        try simp only [hr]
        split at h
        case h_2 => exact h.elim
        rename_i hi
        try simp only [hi]
        split at h
        case h_2 => exact h.elim
        rename_i hb
        try simp only [hb]
        exact hk _ _ h
    · rename_i hs
      try simp only [hs]
      exact hk _ _ h
    · exact h.elim
  | vir t k =>
    simp only [ghP1] at h ⊢
    split at h
    · rename_i hs
      try simp only [hs]
      exact hk _ _ h
    · rename_i hs
      try simp only [hs]
      exact hk _ _ h
    · exact h.elim
  | gen t g =>
    simp only [ghP1] at h ⊢
    split at h
    · rename_i hs
      try simp only [hs]
      split at h
      case h_2 => exact h.elim
      rename_i ho
      try simp only [ho]
      obtain ⟨x, hx⟩ := hk _ _ h.2
      exact ⟨x, h.1, hx⟩
    · rename_i hs
      try simp only [hs]
      exact hk _ _ h
    · exact h.elim
  | any t k =>
    simp only [ghP1] at h ⊢
    split at h
    case h_2 => exact h.elim
    rename_i hs
    try simp only [hs]
    split at h
    · rename_i hk
      try simp only [hk]
      exact hk' _ _ h
    · rename_i hk
      try simp only [hk]
      split at h
      · exact hk' _ _ h
      · exact h.elim
  | cut n =>
    simp only [ghP1] at h ⊢
    split at h
    · rename_i hs
      try simp only [hs]
      obtain ⟨x, hx⟩ := hk _ _ h.2
      exact ⟨x, h.1, hx⟩
    · exact h.elim
theorem ghP_ex {α : Sort _} {base : Nat} {rows : List (Nat × List (List AV))} : ∀ (l : List (Nat × Gh)) {id : Nat} {K : Fr → Heap → Prop} {K' : α → Fr → Heap → Prop} (hk : ∀ F H, K F H → ∃ x, K' x F H) {F : Fr} {H : Heap}, ghP base rows l id K F H → ∃ x, ghP base rows l id (K' x) F H
  | [], id, K, K', hk, F, H, h => hk _ _ h
  | (r, s) :: l, id, K, K', hk, F, H, h => by
    unfold ghP at h
    split at h
    · rename_i hc
      obtain ⟨x, hx⟩ := ghP1_ex (fun _ _ => ghP_ex l hk) h
      exact ⟨x, by unfold ghP; simp only [hc]; exact hx⟩
    · rename_i hc
      obtain ⟨x, hx⟩ := ghP_ex l hk h
      exact ⟨x, by unfold ghP; simp only [hc]; exact hx⟩
theorem regP_ex {α : Sort _} {id : Nat} {ops : Array Oper} {draw : Bool} {hs : Hs} {rows rows' : List (Nat × List (List AV))} {K : Fr → Heap → Prop} {K' : α → Fr → Heap → Prop} (hk : ∀ F H, K F H → ∃ x, K' x F H) {F : Fr} {H : Heap}
    (h : regP P X id ops draw hs rows rows' K F H) : ∃ x, regP P X id ops draw hs rows rows' (K' x) F H := by
  unfold regP at h ⊢
  refine ghP_ex _ (fun F H h => ?_) h
  split at h
  case h_2 => exact h.elim
  rename_i hal
  try simp only [hal]
  split at h
  · exact opsP_ex (fun _ _ => ghP_ex _ hk) _ h
  · exact opsD_ex (fun _ _ => ghP_ex _ hk) _ h
theorem regT_ex {id : Nat} {ops : Array Oper} {draw : Bool} {hs : Hs} {rows rows' : List (Nat × List (List AV))} {K : Tr → Fr → Heap → Prop} {t : Tr} {F : Fr} {H : Heap}
    (h : regT P X id ops draw hs rows rows' K t F H) : regP P X id ops draw hs rows rows' (fun F H => ∃ t, K t F H) F H := by
  unfold regT at h
  unfold regP
  have mono1 : ∀ {K K' : Fr → Heap → Prop} {base : Nat} {rows : List (Nat × List (List AV))} {l : List (Nat × Gh)} {id : Nat} {F : Fr} {H : Heap}, (∀ F H, K F H → K' F H) → ghP base rows l id K F H → ghP base rows l id K' F H := fun hk h => by
    obtain ⟨_, h⟩ := ghP_ex (α := Unit) (K' := fun _ => _) _ (fun F H h => ⟨(), hk F H h⟩) h
    exact h
  refine mono1 (fun F H h => ?_) h
  split at h
  case h_2 => exact h.elim
  rename_i hal
  try simp only [hal]
  split at h
  · obtain ⟨t, h⟩ := opsT_ex _ h
    obtain ⟨_, h⟩ := opsP_ex (α := Unit) (K' := fun _ => _) (fun F H h => ⟨(), mono1 (fun F H h => (⟨t, h⟩ : ∃ t, K t F H)) h⟩) _ h
    exact h
  · obtain ⟨t, h⟩ := opsDT_ex _ h
    obtain ⟨_, h⟩ := opsD_ex (α := Unit) (K' := fun _ => _) (fun F H h => ⟨(), mono1 (fun F H h => (⟨t, h⟩ : ∃ t, K t F H)) h⟩) _ h
    exact h
/-- What is asked behind code may be told later. -/
theorem codeQ_ex : ∀ (c : Code) {α : Sort _} {K : Ex → Fr → Heap → Prop} {K' : α → Ex → Fr → Heap → Prop} (hk : ∀ e F H, K e F H → ∃ x, K' x e F H) {F : Fr} {H : Heap}, codeQ P X c K F H → ∃ x, codeQ P X c (K' x) F H
  | .skip, α, K, K', hk, F, H, h => hk _ _ _ h
  | .exit id, α, K, K', hk, F, H, h => hk _ _ _ h
  | .ret, α, K, K', hk, F, H, h => hk _ _ _ h
  | .seq a b, α, K, K', hk, F, H, h => by
    simp only [codeQ] at h ⊢
    refine codeQ_ex a (K' := fun x e F H => match e with | .normal => codeQ P X b (K' x) F H | e => K' x e F H) (fun e F H h => ?_) h
    cases e with
    | normal => exact codeQ_ex b hk h
    | exit id => exact hk _ _ _ h
    | ret => exact hk _ _ _ h
  | .cond c x y, α, K, K', hk, F, H, h => by
    simp only [codeQ] at h
    split at h
    · rename_i b hb
      split at h
      · obtain ⟨x, hx⟩ := codeQ_ex x hk h
        exact ⟨x, by simp only [codeQ, hb]; exact hx⟩
      · obtain ⟨x, hx⟩ := codeQ_ex y hk h
        exact ⟨x, by simp only [codeQ, hb]; exact hx⟩
    · exact h.elim
  | .block id c, α, K, K', hk, F, H, h => by
    simp only [codeQ] at h ⊢
    refine codeQ_ex c (K' := fun x e F H => match e with | .exit j => (match Nat.beq j id with | true => K' x .normal F H | false => K' x (.exit j) F H) | e => K' x e F H) (fun e F H h => ?_) h
    cases e with
    | normal => exact hk _ _ _ h
    | ret => exact hk _ _ _ h
    | exit j =>
      simp only at h ⊢
      split at h
      · rename_i hj
        try simp only [hj]
        exact hk _ _ _ h
      · rename_i hj
        try simp only [hj]
        exact hk _ _ _ h
  | .loop c, α, K, K', hk, F, H, h => by
    simp only [codeQ] at h ⊢
    obtain ⟨n, h⟩ := h
    have key : ∀ (n : Nat) {F : Fr} {H : Heap}, iterK (codeQ P X c) (liveOf X c) (outOf X c) n K F H → ∃ x, iterK (codeQ P X c) (liveOf X c) (outOf X c) n (K' x) F H := by
      intro n
      induction n with
      | zero => exact fun h => h.elim
      | succ n ih =>
        intro F H h
        simp only [iterK] at h ⊢
        refine codeQ_ex c (K' := fun x e F H => match e with | .normal => iterK (codeQ P X c) (liveOf X c) (outOf X c) n (K' x) (cutF (liveOf X c) F) H | e => K' x e (cutF (outOf X c) F) H) (fun e F H h => ?_) h
        cases e with
        | normal => exact ih h
        | exit id => exact hk _ _ _ h
        | ret => exact hk _ _ _ h
    obtain ⟨x, hx⟩ := key n h
    exact ⟨x, n, hx⟩
  | .region id ops draw, α, K, K', hk, F, H, h => by
    simp only [codeQ] at h ⊢
    obtain ⟨hs, rows, rows', h⟩ := h
    obtain ⟨x, hx⟩ := regP_ex (hk .normal) h
    exact ⟨x, hs, rows, rows', hx⟩
  | .label _, α, K, K', hk, F, H, h => by simp [codeQ] at h
  | .goto _, α, K, K', hk, F, H, h => by simp [codeQ] at h
  | .rangeFunc .., α, K, K', hk, F, H, h => by simp [codeQ] at h
  | .refuse _, α, K, K', hk, F, H, h => by simp [codeQ] at h
  | .scope .., α, K, K', hk, F, H, h => by simp [codeQ] at h
theorem codeQ_mono (c : Code) {K K' : Ex → Fr → Heap → Prop} (hk : ∀ e F H, K e F H → K' e F H) {F : Fr} {H : Heap} (h : codeQ P X c K F H) : codeQ P X c K' F H := by
  obtain ⟨_, h⟩ := codeQ_ex c (α := Unit) (K' := fun _ => K') (fun e F H h => ⟨(), hk e F H h⟩) h
  exact h
theorem codeT_Q : ∀ (c : Code) {K : Tr → Ex → Fr → Heap → Prop} {t : Tr} {F : Fr} {H : Heap}, codeT P X c K t F H → codeQ P X c (fun e F H => ∃ t, K t e F H) F H
  | .skip, K, t, F, H, h => ⟨t, h⟩
  | .exit id, K, t, F, H, h => ⟨t, h⟩
  | .ret, K, t, F, H, h => ⟨t, h⟩
  | .seq a b, K, t, F, H, h => by
    simp only [codeT] at h
    simp only [codeQ]
    refine codeQ_mono a (fun e F H h => ?_) (codeT_Q a h)
    obtain ⟨t, h⟩ := h
    cases e with
    | normal => exact codeT_Q b h
    | exit id => exact ⟨t, h⟩
    | ret => exact ⟨t, h⟩
  | .cond c x y, K, t, F, H, h => by
    simp only [codeT] at h
    split at h
    · rename_i b hb
      split at h
      · simp only [codeQ, hb]; exact codeT_Q x h
      · simp only [codeQ, hb]; exact codeT_Q y h
    · exact h.elim
  | .block id c, K, t, F, H, h => by
    simp only [codeT] at h
    simp only [codeQ]
    refine codeQ_mono c (fun e F H h => ?_) (codeT_Q c h)
    obtain ⟨t, h⟩ := h
    cases e with
    | normal => exact ⟨t, h⟩
    | ret => exact ⟨t, h⟩
    | exit j =>
      simp only at h ⊢
      split at h
      · rename_i hj
        try simp only [hj]
        exact ⟨t, h⟩
      · rename_i hj
        try simp only [hj]
        exact ⟨t, h⟩
  | .loop c, K, t, F, H, h => by
    simp only [codeT] at h
    simp only [codeQ]
    split at h
    · rename_i e F' H' t
      exact h.1 _ ⟨t, h.2⟩
    · rename_i n t
      refine ⟨n, ?_⟩
      generalize cutF (liveOf X c) F = F1 at h ⊢
      have key : ∀ (n : Nat) {t : Tr} {F : Fr} {H : Heap}, iterT (codeT P X c) (liveOf X c) (outOf X c) n K t F H → iterK (codeQ P X c) (liveOf X c) (outOf X c) n (fun e F H => ∃ t, K t e F H) F H := by
        intro n
        induction n with
        | zero => exact fun h => h
        | succ n ih =>
          intro t F H h
          simp only [iterT] at h
          simp only [iterK]
          refine codeQ_mono c (fun e F H h => ?_) (codeT_Q c h)
          obtain ⟨t, h⟩ := h
          cases e with
          | normal => exact ih h
          | exit id => exact ⟨t, h⟩
          | ret => exact ⟨t, h⟩
      exact key n h
    · exact h.elim
  | .region id ops draw, K, t, F, H, h => by
    simp only [codeT] at h
    simp only [codeQ]
    split at h
    · exact ⟨_, _, _, regT_ex h⟩
    · exact ⟨_, _, _, regT_ex h⟩
  | .label _, K, t, F, H, h => by simp [codeT] at h
  | .goto _, K, t, F, H, h => by simp [codeT] at h
  | .rangeFunc .., K, t, F, H, h => by simp [codeT] at h
  | .refuse _, K, t, F, H, h => by simp [codeT] at h
  | .scope .., K, t, F, H, h => by simp [codeT] at h

/-- A round of a loop, told by a tree: it goes on, or ends. -/
theorem LoopTo.step {c : Code} {live out : Option (List Nat)} {F F' : Fr} {H H' : Heap} {e : Ex} (t : Tr)
    (h : codeT P X c (fun _ e2 F2 H2 => match e2 with | .normal => LoopTo (codeQ P X c) live out (cutF live F2) H2 e F' H' | e2 => (e2, cutF out F2, H2) = (e, F', H')) t F H) : LoopTo (codeQ P X c) live out F H e F' H' := by
  intro K hk
  have h1 := codeT_Q c h
  obtain ⟨n, h2⟩ := codeQ_ex c (K' := fun n e2 F2 H2 => match e2 with | .normal => iterK (codeQ P X c) live out n K (cutF live F2) H2 | e2 => K e2 (cutF out F2) H2) (fun e2 F2 H2 h => by
    obtain ⟨_, h⟩ := h
    cases e2 with
    | normal => exact h K hk
    | exit id =>
      simp only [Prod.mk.injEq] at h
      obtain ⟨rfl, rfl, rfl⟩ := h
      exact ⟨0, hk⟩
    | ret =>
      simp only [Prod.mk.injEq] at h
      obtain ⟨rfl, rfl, rfl⟩ := h
      exact ⟨0, hk⟩) h1
  exact ⟨n + 1, h2⟩
end
end Go.Proofs.Ytpkgpldgoajphaa.AM
