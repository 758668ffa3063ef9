/-
  AM: steps that change what is said and not the world; what code comes to.
-/
import Derived.Test.YtpkgpldgoajphaaAm21
import Derived.Test.YtpkgpldgoajphaaAm9w
set_option linter.unusedVariables false
set_option linter.unusedSimpArgs false
namespace Go.Proofs.Ytpkgpldgoajphaa.AM
open Go

section
variable {P : Program} {X : Env} {G G' : Nat → Prop} {w w' : World} {C C' : Cx} {F F' : Fr} {act : Act} {H H' : Heap}

/-- A nil slice is an exclusive one, of no room. -/
theorem vir_sound (hH : HR G w C H) {k0 : Nat} {v : Value} (hv : VR G w C (.sl .nil k0 []) v) (k : Nat) :
    ∃ C', Ev G w C G w C' ∧ HR G w C' (H ++ [{ gen := 0, k := k, els := [] }]) ∧ VR G w C' (.osl H.length 0 k 0 0) v ∧ Pd AnyId C H C' (H ++ [{ gen := 0, k := k, els := [] }]) := by
  obtain ⟨C', h1, h2, h3, h4⟩ := hH.virt k none
  cases hv with
  | nils _ _ _ hg => exact ⟨C', h1, h2, h3, h4⟩
  | sl _ _ _ _ _ _ hg => exact absurd rfl hg
/-- An object's number of turns is raised. -/
theorem gen_sound (hH : HR G w C H) {id g k e n : Nat} {v : Value} (hv : VR G w C (.osl id g k e n) v) {o : Ob} (ho : H[id]? = some o) (hg : o.gen = g) {g' : Nat} (hgg : g ≤ g') :
    ∃ C', Ev G w C G w C' ∧ HR G w C' (H.set id { o with gen := g' }) ∧ VR G w C' (.osl id g' k e n) v ∧ Pd AnyId C H C' (H.set id { o with gen := g' }) := by
  have hγ := hH.gen id o ho
  have hloc : ∃ l, C.ι id = some l := by
    cases hv with
    | osl _ _ _ _ _ _ ad cap hnc hle hl => obtain ⟨l, b, h, _⟩ := hl (by omega); exact ⟨l, h⟩
    | osl0 _ _ _ _ _ base hle hl => obtain ⟨l, h, _⟩ := hl (by omega); exact ⟨l, h⟩
  obtain ⟨l, hι⟩ := hloc
  have hlt := hH.lt hι
  have hCle : CxLe C (C.lay id (some l) g') := fun j => by
    by_cases e' : j = id
    · subst e'
      rw [Cx.lay_γ, Cx.lay_ι]
      exact ⟨by omega, fun _ l2 hl2 => by rw [hι] at hl2; exact hl2⟩
    · rw [(Cx.lay_ne _ _ _ _ e').1, (Cx.lay_ne _ _ _ _ e').2]; exact ⟨Nat.le_refl _, fun _ _ h => h⟩
  have hHH := hH.upd (G' := G) (w' := w) (C' := C.lay id (some l) g') (H' := H.set id { o with gen := g' }) id { o with gen := g' } rfl rfl rfl
    (fun j hj => Cx.lay_ne _ _ _ _ hj) (by rw [Cx.lay_γ]; omega) (fun _ l2 hl2 => by rw [Cx.lay_ι]; rw [hι] at hl2; exact hl2) (fun j hj => by rw [List.getElem?_set_ne (Ne.symm hj)]) (by rw [List.getElem?_set_self hlt]) (by simp) (by omega)
    (by rw [Cx.lay_γ]) (fun _ h => h) (fun b hb => .inl hb) (fun _ _ _ => rfl) (Nat.le_refl _) (fun b hb => hH.gsz b hb) (fun l' b hl' hb => by rw [Cx.lay_ι] at hl'; simp at hl'; subst hl'; exact .inl ⟨l, hι, hb⟩) (fun _ => rfl)
    (fun l' hl' => by
      rw [Cx.lay_ι] at hl'
      simp only [Option.some.injEq] at hl'
      subst hl'
      obtain ⟨hk, hrm, hno, hlen, hrow, hcs⟩ := hH.ob id o l ho hι
      refine ⟨fun b hb => ⟨(hH.own id l b hι hb).1, (hH.own id l b hι hb).2, fun j hj l2 hl2 e' => hj (hH.inj _ _ _ _ b hl2 hι e' hb)⟩, hk, hrm, hno, hlen, hrow, fun b hb => ?_⟩
      obtain ⟨cs, t, hc, hcs, hcell⟩ := hcs b hb
      exact ⟨cs, t, hc, hcs, fun i j hi hj => ⟨(hcell i j hi hj).1, (hcell i j hi hj).2.mono (fun _ h => h) (fun _ _ => rfl) hCle⟩⟩)
  refine ⟨_, hHH.1, hHH.2, ?_, ⟨by simp, fun j hj _ hi => ?_⟩⟩
  · cases hv with
    | osl _ _ _ _ _ _ ad cap hnc hle hl =>
      refine .osl _ _ _ _ _ _ _ _ hnc (by rw [Cx.lay_γ]; exact Nat.le_refl _) fun _ => ?_
      rw [Cx.lay_ι]
      obtain ⟨l2, b, h, hr⟩ := hl (by omega)
      exact ⟨l, b, rfl, by rw [hι] at h; simp at h; subst h; exact hr⟩
    | osl0 _ _ _ _ _ base hle hl =>
      refine .osl0 _ _ _ _ _ _ (by rw [Cx.lay_γ]; exact Nat.le_refl _) fun _ => ?_
      rw [Cx.lay_ι]
      obtain ⟨l2, h, hr⟩ := hl (by omega)
      exact ⟨l, rfl, by rw [hι] at h; simp at h; subst h; exact hr⟩
  · have hne : j ≠ id := fun e => by subst e; rw [hι] at hi; simp at hi
    exact ⟨by rw [(Cx.lay_ne _ _ _ _ hne).1]; exact hi, (Cx.lay_ne _ _ _ _ hne).2, by rw [List.getElem?_set_ne (Ne.symm hne)]⟩

/-- Objects name none of number n or more. -/
def obsB (n : Nat) : Heap → Bool
  | [] => true
  | o :: H => AV.bddss n o.els && obsB n H
theorem obsB_get {n : Nat} : ∀ {H : Heap}, obsB n H = true → ∀ {id : Nat} {o : Ob}, H[id]? = some o → AV.bddss n o.els = true
  | [], _, id, o, ho => by simp at ho
  | o1 :: H, h, 0, o, ho => by
    simp only [obsB, Bool.and_eq_true] at h
    simp at ho
    subst ho
    exact h.1
  | o1 :: H, h, id + 1, o, ho => by
    simp only [obsB, Bool.and_eq_true] at h
    exact obsB_get h.2 (by simpa using ho)
def dropF (n : Nat) : Fr → Fr
  | [] => []
  | a :: F => (match a with
    | some v => match AV.bdd n v with
      | true => some v
      | false => none
    | none => none) :: dropF n F
theorem dropF_len (n : Nat) : ∀ (F : Fr), (dropF n F).length = F.length
  | [] => rfl
  | a :: F => by simp [dropF, dropF_len n F]
theorem dropF_get (n : Nat) : ∀ (F : Fr) (t : Nat) (a : AV), (dropF n F)[t]? = some (some a) → F[t]? = some (some a) ∧ AV.bdd n a = true
  | [], t, a, h => by simp [dropF] at h
  | x :: F, 0, a, h => by
    simp only [dropF, List.getElem?_cons_zero, Option.some.injEq] at h ⊢
    split at h
    · rename_i v
      split at h
      · rename_i hb
        simp only [Option.some.injEq] at h
        subst h
        exact ⟨rfl, hb⟩
      · simp at h
    · simp at h
  | x :: F, t + 1, a, h => by
    simp only [dropF, List.getElem?_cons_succ] at h ⊢
    exact dropF_get n F t a h
/-- Objects that were made since the start are let go: nobody names them. -/
theorem cut_sound {G0 : Nat → Prop} {w0 : World} {C0 : Cx} {H0 : Heap} (hH0 : HR G0 w0 C0 H0) (he : Ev G0 w0 C0 G w C) (hp : Pd AnyId C0 H0 C H) (hF : FrR G w C F act.tmps) (hH : HR G w C H) {n : Nat} (hn : H0.length ≤ n) (hb : obsB n (H.take n) = true) :
    Ev G0 w0 C0 G w (C.cut n) ∧ FrR G w (C.cut n) (dropF n F) act.tmps ∧ HR G w (C.cut n) (H.take n) ∧ Pd AnyId C0 H0 (C.cut n) (H.take n) := by
  have hcle : CxLe C0 (C.cut n) := fun id => by
    have h1 := he.cx id
    simp only [Cx.cut]
    by_cases hid : id < n
    · simp only [hid, if_true]; exact h1
    · simp only [hid, if_false]
      obtain ⟨h2, h3⟩ := hH0.out id (by omega)
      exact ⟨by omega, fun _ l hl => by rw [h3] at hl; simp at hl⟩
  have hι : ∀ id l, (C.cut n).ι id = some l → id < n ∧ C.ι id = some l := fun id l hl => by
    simp only [Cx.cut] at hl
    split at hl
    · rename_i h; exact ⟨h, hl⟩
    · simp at hl
  have hget : ∀ id, id < n → (H.take n)[id]? = H[id]? := fun id hid => by rw [List.getElem?_take, if_pos hid]
  refine ⟨⟨he.os, he.tape, he.output, he.size, he.lock, he.same, hcle, he.rest, he.grow, fun id l b hl hlb => he.own id l b (hι id l hl).2 hlb, he.frz⟩, ⟨by rw [dropF_len]; exact hF.1, fun t a ht => ?_⟩, ⟨fun id o ho => ?_, fun id hid => ?_, fun id l b hl hlb => hH.own id l b (hι id l hl).2 hlb, fun i j l l' b h1 h2 => hH.inj i j l l' b (hι i l h1).2 (hι j l' h2).2, fun id o l ho hl => ?_, hH.gsz⟩, ⟨?_, fun id hid hs hi => ?_⟩⟩
  · obtain ⟨h1, h2⟩ := dropF_get n F t a ht
    exact (hF.2 t a h1).cut n h2
  · have hid : id < n := by
      rcases Nat.lt_or_ge id n with h' | h'
      · exact h'
      · rw [List.getElem?_eq_none (by simp; omega)] at ho; simp at ho
    simp only [Cx.cut, hid, if_true]
    exact hH.gen id o (by rw [← hget id hid]; exact ho)
  · simp only [Cx.cut]
    by_cases h : id < n
    · simp only [h, if_true]
      exact hH.out id (by simp at hid; omega)
    · simp [h]
  · obtain ⟨hid, hl'⟩ := hι id l hl
    obtain ⟨hk, hrm, hno, hlen', hrow, hcs0⟩ := hH.ob id o l (by rw [← hget id hid]; exact ho) hl'
    have hbo := obsB_get hb ho
    refine ⟨hk, hrm, hno, hlen', hrow, fun b hlb => ?_⟩
    obtain ⟨cs, e, hc, hcs, hcell⟩ := hcs0 b hlb
    refine ⟨cs, e, hc, hcs, fun i j hi hj => ⟨(hcell i j hi hj).1, (hcell i j hi hj).2.cut _ ?_⟩⟩
    exact bdds_get _ (bddss_get _ hbo i hi) j (by rw [hrow i hi]; exact hj)
  · have := hp.1
    simp
    omega
  · obtain ⟨h1, h2, h3⟩ := hp.2 id hid hs hi
    have : id < n := by omega
    simp only [Cx.cut, this, if_true]
    exact ⟨h1, h2, by rw [hget id this]; exact h3⟩

/-- One such step. rows: what is told of the rows of slots that are frozen. -/
def ghP1 (base : Nat) (rows : List (Nat × List (List AV))) (s : Gh) (K : Fr → Heap → Prop) (F : Fr) (H : Heap) : Prop :=
  match s with
  | .frz t => match F[t]? with
    | some (some (.osl id g k e n)) => match assoc t rows with
      | some xs => (rowsIn H k (.osl id g k e n) = some xs ∧ AV.bddss 0 xs = true) ∧ K (F.set t (some (.sl .any k xs))) (H.modify id fun o => { gen := o.gen + 1, k := o.k, els := [] })
      | none => match rowsIn H k (.osl id g k e n) with
        | some xs => match AV.bddss 0 xs with
          | true => K (F.set t (some (.sl .any k xs))) (H.modify id fun o => { gen := o.gen + 1, k := o.k, els := [] })
          | false => False
        | none => False
    | some (some (.sl _ _ _)) => K F H
    | _ => False
  | .vir t k => match F[t]? with
    | some (some (.sl .nil _ [])) => K (F.set t (some (.osl H.length 0 k 0 0))) (H ++ [{ gen := 0, k := k, els := [] }])
    | some (some (.osl _ _ _ _ _)) => K F H
    | _ => False
  | .gen t g' => match F[t]? with
    | some (some (.osl id g k e n)) => match H[id]? with
      | some o => (o.gen = g ∧ g ≤ g') ∧ K (F.set t (some (.osl id g' k e n))) (H.set id { o with gen := g' })
      | none => False
    | some (some (.sl _ _ _)) => K F H
    | _ => False
  | .any t k => match F[t]? with
    | some (some (.sl _ k' xs)) => match Nat.beq k' k with
      | true => K (F.set t (some (.sl .any k xs))) H
      | false => match xs with
        | [] => K (F.set t (some (.sl .any k []))) H
        | _ => False
    | _ => False
  | .cut n => match Nat.ble base n with
    | true => obsB n (H.take n) = true ∧ K (dropF n F) (H.take n)
    | false => False
def ghP (base : Nat) (rows : List (Nat × List (List AV))) : List (Nat × Gh) → Nat → (Fr → Heap → Prop) → Fr → Heap → Prop
  | [], _, K, F, H => K F H
  | (r, s) :: l, id, K, F, H => match Nat.beq r id with
    | true => ghP1 base rows s (ghP base rows l id K) F H
    | false => ghP base rows l id K F H
section
variable {G0 : Nat → Prop} {w0 : World} {C0 : Cx} {H0 : Heap}
theorem ghP1_sound {base : Nat} {rows : List (Nat × List (List AV))} (hH0 : HR G0 w0 C0 H0) (hb0 : H0.length ≤ base) (he : Ev G0 w0 C0 G w C) (hp : Pd AnyId C0 H0 C H) (hF : FrR G w C F act.tmps) (hH : HR G w C H) {s : Gh} {K : Fr → Heap → Prop} (h : ghP1 base rows s K F H) :
    ∃ G' C' F' H', Ev G0 w0 C0 G' w C' ∧ FrR G' w C' F' act.tmps ∧ HR G' w C' H' ∧ Pd AnyId C0 H0 C' H' ∧ K F' H' := by
  cases s with
  | frz t =>
    simp only [ghP1] at h
    split at h
    · rename_i id g k e n hs
      split at h
      · rename_i xs _
        obtain ⟨⟨hr, hb⟩, hk⟩ := h
        obtain ⟨G', C', h1, h2, h3, h4⟩ := freeze_sound hH (hF.2 t _ hs) hr hb
        exact ⟨G', C', _, _, he.trans h1, (hF.ev h1).told t _ h3, h2, hp.trans h4, hk⟩
      · split at h
        case h_2 => exact h.elim
        rename_i xs hr
        split at h
        case h_2 => exact h.elim
        rename_i hb
        obtain ⟨G', C', h1, h2, h3, h4⟩ := freeze_sound hH (hF.2 t _ hs) hr hb
        exact ⟨G', C', _, _, he.trans h1, (hF.ev h1).told t _ h3, h2, hp.trans h4, h⟩
    · exact ⟨G, C, F, H, he, hF, hH, hp, h⟩
    · exact h.elim
  | vir t k =>
    simp only [ghP1] at h
    split at h
    · rename_i hs
      obtain ⟨C', h1, h2, h3, h4⟩ := vir_sound hH (hF.2 t _ hs) k
      exact ⟨G, C', _, _, he.trans h1, (hF.ev h1).told t _ h3, h2, hp.trans h4, h⟩
    · exact ⟨G, C, F, H, he, hF, hH, hp, h⟩
    · exact h.elim
  | gen t g' =>
    simp only [ghP1] at h
    split at h
    · rename_i id g k e n hs
      split at h
      case h_2 => exact h.elim
      rename_i o ho
      obtain ⟨⟨hg, hgg⟩, h⟩ := h
      obtain ⟨C', h1, h2, h3, h4⟩ := gen_sound hH (hF.2 t _ hs) ho hg hgg
      exact ⟨G, C', _, _, he.trans h1, (hF.ev h1).told t _ h3, h2, hp.trans h4, h⟩
    · exact ⟨G, C, F, H, he, hF, hH, hp, h⟩
    · exact h.elim
  | any t k =>
    simp only [ghP1] at h
    split at h
    case h_2 => exact h.elim
    rename_i g k' xs hs
    have hle : g.le .any = true := by cases g <;> rfl
    split at h
    · rename_i hk
      exact ⟨G, C, _, _, he, hF.told t _ ((hF.2 t _ hs).wk (b := .sl .any k xs) ⟨hle, rfl, .inl (Nat.eq_of_beq_eq_true hk)⟩), hH, hp, h⟩
    · split at h
      · exact ⟨G, C, _, _, he, hF.told t _ ((hF.2 t _ hs).wk (b := .sl .any k []) ⟨hle, rfl, .inr rfl⟩), hH, hp, h⟩
      · exact h.elim
  | cut n =>
    simp only [ghP1] at h
    split at h
    · rename_i hn
      obtain ⟨h1, h2, h3, h4⟩ := cut_sound (n := n) hH0 he hp hF hH (Nat.le_trans hb0 (Nat.le_of_ble_eq_true hn)) h.1
      exact ⟨G, _, _, _, h1, h2, h3, h4, h.2⟩
    · exact h.elim
theorem ghP_sound {base : Nat} {rows : List (Nat × List (List AV))} {K : Fr → Heap → Prop} (hH0 : HR G0 w0 C0 H0) (hb0 : H0.length ≤ base) : ∀ (l : List (Nat × Gh)) (id : Nat) (G : Nat → Prop) (C : Cx) (F : Fr) (H : Heap), Ev G0 w0 C0 G w C → Pd AnyId C0 H0 C H → FrR G w C F act.tmps → HR G w C H → ghP base rows l id K F H →
    ∃ G' C' F' H', Ev G0 w0 C0 G' w C' ∧ FrR G' w C' F' act.tmps ∧ HR G' w C' H' ∧ Pd AnyId C0 H0 C' H' ∧ K F' H'
  | [], id, G, C, F, H, he, hp, hF, hH, h => ⟨G, C, F, H, he, hF, hH, hp, h⟩
  | (r, t) :: l, id, G, C, F, H, he, hp, hF, hH, h => by
    unfold ghP at h
    split at h
    · obtain ⟨G1, C1, F1, H1, a1, a2, a3, a4, a5⟩ := ghP1_sound hH0 hb0 he hp hF hH h
      exact ghP_sound hH0 hb0 l id G1 C1 F1 H1 a1 a4 a2 a3 a5
    · exact ghP_sound hH0 hb0 l id G C F H he hp hF hH h
end

theorem keepF_get (live : List Nat) : ∀ (F : Fr) (i t : Nat) (a : AV), (keepF live i F)[t]? = some (some a) → F[t]? = some (some a)
  | [], i, t, a, h => by simp [keepF] at h
  | x :: F, i, 0, a, h => by
    simp only [keepF, List.getElem?_cons_zero, Option.some.injEq] at h ⊢
    split at h
    · exact h
    · simp at h
  | x :: F, i, t + 1, a, h => by
    simp only [keepF, List.getElem?_cons_succ] at h ⊢
    exact keepF_get live F (i + 1) t a h
theorem keepF_len (live : List Nat) : ∀ (F : Fr) (i : Nat), (keepF live i F).length = F.length
  | [], _ => rfl
  | x :: F, i => by simp [keepF, keepF_len live F]
theorem FrR.keep {tmps : Array Value} (h : FrR G w C F tmps) (live : List Nat) : FrR G w C (keepF live 0 F) tmps := ⟨by rw [keepF_len]; exact h.1, fun t a ht => h.2 t a (keepF_get _ _ _ _ _ ht)⟩
theorem FrR.cut {tmps : Array Value} (h : FrR G w C F tmps) (out : Option (List Nat)) : FrR G w C (cutF out F) tmps := by
  cases out with
  | none => exact h
  | some l => exact h.keep l

/-- Rounds of a loop. The frame is cut ahead of each, and behind the last. -/
def iterK (run : (Ex → Fr → Heap → Prop) → Fr → Heap → Prop) (live out : Option (List Nat)) : Nat → (Ex → Fr → Heap → Prop) → Fr → Heap → Prop
  | 0, _, _, _ => False
  | n + 1, K, F, H => run (fun e F H => match e with
    | .normal => iterK run live out n K (cutF live F) H
    | e => K e (cutF out F) H) F H
def LoopTo (run : (Ex → Fr → Heap → Prop) → Fr → Heap → Prop) (live out : Option (List Nat)) (F : Fr) (H : Heap) (e : Ex) (F' : Fr) (H' : Heap) : Prop :=
  ∀ K : Ex → Fr → Heap → Prop, K e F' H' → ∃ n, iterK run live out n K F H
def liveOf (X : Env) (c : Code) : Option (List Nat) := assoc (firstReg c) X.ann.live
def outOf (X : Env) (c : Code) : Option (List Nat) := assoc (firstReg c) X.ann.out
/-- What a region comes to, with what is told of its operations and of rows that are frozen. -/
def regP (P : Program) (X : Env) (id : Nat) (ops : Array Oper) (draw : Bool) (hs : Hs) (rows rows' : List (Nat × List (List AV))) (K : Fr → Heap → Prop) (F : Fr) (H : Heap) : Prop :=
  ghP X.ann.base rows X.ann.gh id (fun F H => match allocs X.T ops.toList with
    | some al => match draw with
      | false => opsP P X ops.toList H.length hs ops.toList 0 0 (ghP X.ann.base rows' X.ann.gha id K) F (addObs H al)
      | true => opsD P X ops.toList (needs ops.toList []) H.length hs ops.toList 0 0 ⟨[addObs H al], [], []⟩ (ghP X.ann.base rows' X.ann.gha id K) F (addObs H al)
    | none => False) F H
/-- What code comes to. -/
def codeQ (P : Program) (X : Env) : Code → (Ex → Fr → Heap → Prop) → Fr → Heap → Prop
  | .skip, K, F, H => K .normal F H
  | .region id ops draw, K, F, H => ∃ hs rows rows', regP P X id ops draw hs rows rows' (K .normal) F H
  | .seq a b, K, F, H => codeQ P X a (fun e F H => match e with
    | .normal => codeQ P X b K F H
    | e => K e F H) F H
  | .cond c x y, K, F, H => match opv F c with
    | some (.bool b) => match b with
      | true => codeQ P X x K F H
      | false => codeQ P X y K F H
    | _ => False
  | .block id c, K, F, H => codeQ P X c (fun e F H => match e with
    | .exit j => match Nat.beq j id with
      | true => K .normal F H
      | false => K (.exit j) F H
    | e => K e F H) F H
  | .loop c, K, F, H => ∃ n, iterK (codeQ P X c) (liveOf X c) (outOf X c) n K (cutF (liveOf X c) F) H
  | .exit id, K, F, H => K (.exit id) F H
  | .ret, K, F, H => K .ret F H
  | _, _, _, _ => False

section
variable {G0 : Nat → Prop} {w0 : World} {C0 : Cx} {H0 : Heap}
/-- What code must come to, as from the start. -/
def Good (P : Program) (defers : List Deferred) (G0 : Nat → Prop) (w0 : World) (C0 : Cx) (H0 : Heap) (K : Ex → Fr → Heap → Prop) (Q : Exit → Act → World → Prop) : Prop :=
  ∀ (e : Ex) (F' : Fr) (H' : Heap) (act' : Act) (w' : World) (G' : Nat → Prop) (C' : Cx), Ev G0 w0 C0 G' w' C' → FrR G' w' C' F' act'.tmps → HR G' w' C' H' → Pd AnyId C0 H0 C' H' → act'.defers = defers → K e F' H' → Q e.exit' act' w'

theorem regP_sound (hT : TOk P X.T) (hM : Mok P X.M) (hmo : P.follows .mixedOrders = true) {defers : List Deferred} {id : Nat} {ops : Array Oper} {draw : Bool} {hs : Hs} {rows rows' : List (Nat × List (List AV))} (hok : codeOk (.region id ops draw) = true)
    (hH0 : HR G0 w0 C0 H0) (hb0 : H0.length ≤ X.ann.base) (he : Ev G0 w0 C0 G w C) (hp : Pd AnyId C0 H0 C H)
    {K : Ex → Fr → Heap → Prop} {Q : Exit → Act → World → Prop} (hF : FrR G w C F act.tmps) (hH : HR G w C H) (hd : act.defers = defers) (h : regP P X id ops draw hs rows rows' (K .normal) F H) (hg : Good P defers G0 w0 C0 H0 K Q) : (Code.region id ops draw).wp P Q act w := by
  unfold regP at h
  obtain ⟨G1, C1, F1, H1, a1, a2, a3, a4, h⟩ := ghP_sound hH0 hb0 _ id G C F H he hp hF hH h
  split at h
  case h_2 => exact h.elim
  rename_i al hal
  have hadd : addObs H1 al = H1 ++ al := by cases al <;> simp [addObs]
  rw [hadd] at h
  have hH2 : HR G1 w C1 (H1 ++ al) := a3.add al (allocs_gen hal)
  have hout : ∀ m, C1.ι (H1.length + m) = none := fun m => (a3.out _ (by omega)).2
  have hpend : Pend X.T ops.toList H1.length (H1 ++ al) C1 := ⟨al, hal, fun m o hm => ⟨by rw [List.getElem?_append_right (by omega)]; simpa using hm, hout m⟩⟩
  have hpd : ∀ {C' : Cx} {H' : Heap}, Pd (fun id => id < H1.length) C1 (H1 ++ al) C' H' → Pd AnyId C1 H1 C' H' := fun {C' H'} hp =>
    ⟨Nat.le_trans (by simp) hp.1, fun j hj _ hi => by
      obtain ⟨h1, h2, h3⟩ := hp.2 j (by simp; omega) hj hi
      exact ⟨h1, h2, by rw [h3, List.getElem?_append_left hj]⟩⟩
  have fin : ∀ (F' : Fr) (H' : Heap) (act' : Act) (w' : World) (G' : Nat → Prop) (C' : Cx), Ev G1 w C1 G' w' C' → FrR G' w' C' F' act'.tmps → HR G' w' C' H' → Pd (fun id => id < H1.length) C1 (H1 ++ al) C' H' → act'.defers = defers → ghP X.ann.base rows' X.ann.gha id (K .normal) F' H' → Q .normal act' w' := by
    intro F' H' act' w' G' C' h1 h2 h3 h4 h5 h6
    obtain ⟨G2, C2, F2, H2, b1, b2, b3, b4, h6⟩ := ghP_sound (act := act') hH0 hb0 _ id G' C' F' H' (a1.trans h1) (a4.trans (hpd h4)) h2 h3 h6
    exact hg .normal F2 H2 act' w' G2 C2 b1 b2 b3 b4 h5 h6
  split at h
  · -- in the text's order
    refine wp_region ?_
    have := opsP_sound (P := P) (Q := Q) (defers := defers) (ops := ops) (ab := H1.length) hT hM ops.toList 0 0 G1 w C1 F1 act (H1 ++ al) (by simp) (by simpa using hpend) a2 hH2 hd h
      fun F' H' act' w' G' C' h1 h2 h3 h4 h5 h6 => fin F' H' act' w' G' C' h1 h2 h3 h4 h5 h6
    rwa [Nat.sub_zero, ← List.range_eq_range'] at this
  · -- drawn
    refine wp_region_any hmo ?_
    have hev0 : Ev G1 w C1 G1 { w with drawn := w.drawn + 1 } C1 := ⟨rfl, rfl, rfl, Nat.le_refl _, fun _ h => h, fun _ _ => rfl, CxLe.refl _, fun _ _ _ => rfl, fun _ h => .inl h, fun id l b hl hb => .inl ⟨id, l, hl, hb⟩, fun _ => rfl⟩
    refine opsD_sound (P := P) (defers := defers) (G0 := G1) (C0 := C1) (w0 := { w with drawn := w.drawn + 1 }) hT hM hok hpend (a2.world rfl) (hH2.world rfl) hd h
      fun F' H' act' w' G' C' h1 h2 h3 h4 h5 h6 => fin F' H' act' w' G' C' (hev0.trans h1) h2 h3 h4 h5 h6

theorem codeQ_sound (hT : TOk P X.T) (hM : Mok P X.M) (hmo : P.follows .mixedOrders = true) {defers : List Deferred} (hH0 : HR G0 w0 C0 H0) (hb0 : H0.length ≤ X.ann.base) :
    ∀ (c : Code), codeOk c = true → ∀ (K : Ex → Fr → Heap → Prop) (F : Fr) (H : Heap) (G : Nat → Prop) (w : World) (C : Cx) (act : Act) (Q : Exit → Act → World → Prop), Ev G0 w0 C0 G w C → Pd AnyId C0 H0 C H → FrR G w C F act.tmps → HR G w C H → act.defers = defers →
      codeQ P X c K F H → Good P defers G0 w0 C0 H0 K Q → c.wp P Q act w
  | .skip, _, K, F, H, G, w, C, act, Q, he, hp, hF, hH, hd, h, hg => wp_skip (hg .normal F H act w G C he hF hH hp hd h)
  | .exit id, _, K, F, H, G, w, C, act, Q, he, hp, hF, hH, hd, h, hg => wp_exit (hg (.exit id) F H act w G C he hF hH hp hd h)
  | .ret, _, K, F, H, G, w, C, act, Q, he, hp, hF, hH, hd, h, hg => wp_ret (hg .ret F H act w G C he hF hH hp hd h)
  | .seq a b, hok, K, F, H, G, w, C, act, Q, he, hp, hF, hH, hd, h, hg => by
    simp only [codeQ] at h
    simp only [codeOk] at hok
    split at hok
    case h_2 => simp at hok
    rename_i hoa
    refine wp_seq (codeQ_sound hT hM hmo hH0 hb0 a hoa _ F H G w C act _ he hp hF hH hd h fun e F' H' act' w' G' C' h1 h2 h3 h4 h5 h6 => ?_)
    cases e with
    | normal => exact codeQ_sound hT hM hmo hH0 hb0 b hok K F' H' G' w' C' act' Q h1 h4 h2 h3 h5 h6 hg
    | exit id => exact hg (.exit id) F' H' act' w' G' C' h1 h2 h3 h4 h5 h6
    | ret => exact hg .ret F' H' act' w' G' C' h1 h2 h3 h4 h5 h6
  | .cond c x y, hok, K, F, H, G, w, C, act, Q, he, hp, hF, hH, hd, h, hg => by
    simp only [codeQ] at h
    simp only [codeOk] at hok
    split at hok
    case h_2 => simp at hok
    rename_i hox
    split at h
    case h_2 => exact h.elim
    rename_i b hb
    have hv := opv_sound (act := act) hF hb
    generalize hu : act.eval c = u at hv
    cases hv
    split at h
    · exact wp_cond_true hu (codeQ_sound hT hM hmo hH0 hb0 x hox K F H G w C act Q he hp hF hH hd h hg)
    · exact wp_cond_false hu (codeQ_sound hT hM hmo hH0 hb0 y hok K F H G w C act Q he hp hF hH hd h hg)
  | .block id c, hok, K, F, H, G, w, C, act, Q, he, hp, hF, hH, hd, h, hg => by
    simp only [codeQ] at h
    simp only [codeOk] at hok
    refine wp_block (codeQ_sound hT hM hmo hH0 hb0 c hok _ F H G w C act _ he hp hF hH hd h fun e F' H' act' w' G' C' h1 h2 h3 h4 h5 h6 => ?_)
    cases e with
    | normal => exact hg .normal F' H' act' w' G' C' h1 h2 h3 h4 h5 h6
    | ret => exact hg .ret F' H' act' w' G' C' h1 h2 h3 h4 h5 h6
    | exit j =>
      simp only at h6
      simp only [Ex.exit', Exit.inBlock]
      split at h6
      · rename_i hj
        rw [if_pos (Nat.eq_of_beq_eq_true hj)]
        exact hg .normal F' H' act' w' G' C' h1 h2 h3 h4 h5 h6
      · rename_i hj
        rw [if_neg (fun e => by subst e; rw [Nat.beq_refl] at hj; simp at hj)]
        exact hg (.exit j) F' H' act' w' G' C' h1 h2 h3 h4 h5 h6
  | .loop c, hok, K, F, H, G, w, C, act, Q, he, hp, hF, hH, hd, h, hg => by
    simp only [codeQ] at h
    simp only [codeOk] at hok
    have key : ∀ (n : Nat) (F : Fr) (H : Heap) (G : Nat → Prop) (w : World) (C : Cx) (act : Act), Ev G0 w0 C0 G w C → Pd AnyId C0 H0 C H → FrR G w C F act.tmps → HR G w C H → act.defers = defers →
        iterK (codeQ P X c) (liveOf X c) (outOf X c) n K F H → Good P defers G0 w0 C0 H0 K Q → Code.rounds P c Q n act w := by
      intro n
      induction n with
      | zero => intro F H G w C act he hp hF hH hd h hg; exact h.elim
      | succ n ih =>
        intro F H G w C act he hp hF hH hd h hg
        simp only [iterK] at h
        rw [rounds_succ]
        refine codeQ_sound hT hM hmo hH0 hb0 c hok _ _ H G w C act _ he hp hF hH hd h fun e F' H' act' w' G' C' h1 h2 h3 h4 h5 h6 => ?_
        cases e with
        | normal => exact ih _ H' G' w' C' act' h1 h4 (h2.cut _) h3 h5 h6 hg
        | exit id => exact hg (.exit id) _ H' act' w' G' C' h1 (h2.cut _) h3 h4 h5 h6
        | ret => exact hg .ret _ H' act' w' G' C' h1 (h2.cut _) h3 h4 h5 h6
    obtain ⟨n, h⟩ := h
    exact wp_loop_rounds n (key n _ H G w C act he hp (hF.cut _) hH hd h hg)
  | .region id ops draw, hok, K, F, H, G, w, C, act, Q, he, hp, hF, hH, hd, h, hg => by
    simp only [codeQ] at h
    obtain ⟨hs, rows, rows', h⟩ := h
    exact regP_sound hT hM hmo hok hH0 hb0 he hp hF hH hd h hg
  | .label _, _, K, F, H, G, w, C, act, Q, he, hp, hF, hH, hd, h, hg => by simp [codeQ] at h
  | .goto _, _, K, F, H, G, w, C, act, Q, he, hp, hF, hH, hd, h, hg => by simp [codeQ] at h
  | .rangeFunc .., _, K, F, H, G, w, C, act, Q, he, hp, hF, hH, hd, h, hg => by simp [codeQ] at h
  | .refuse _, _, K, F, H, G, w, C, act, Q, he, hp, hF, hH, hd, h, hg => by simp [codeQ] at h
  | .scope .., _, K, F, H, G, w, C, act, Q, he, hp, hF, hH, hd, h, hg => by simp [codeQ] at h
end
end
end Go.Proofs.Ytpkgpldgoajphaa.AM
