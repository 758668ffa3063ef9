/-
  Texts of this claim, part 7 of 7: an abstract machine over the model; what functions come to; plain laws.
-/
import Derived.Test.YtpkgpldgoajphaaMGossipNumbers6
import Derived.Laws.Externs
import Derived.Below
import Derived.Carry
import Derived.ChangeSlices
set_option linter.unusedVariables false
set_option linter.unusedSimpArgs false
namespace Go.Proofs.Ytpkgpldgoajphaa.AM
open Go

theorem osl_alive {G : Nat → Prop} {w : World} {C : Cx} {id g k e n : Nat} {v : Value} (h : VR G w C (.osl id g k e n) v) (hg : g = C.γ id) : ∃ l, C.ι id = some l ∧ l.k = k := by
  cases h with
  | osl _ _ _ _ _ _ ad cap hnc hle h => obtain ⟨l, b, h1, _, h2, _⟩ := h hg; exact ⟨l, h1, h2⟩
  | osl0 _ _ _ _ _ base hle h => obtain ⟨l, h1, _, h2⟩ := h hg; exact ⟨l, h1, h2⟩
theorem HR.set_ob {G : Nat → Prop} {w : World} {C : Cx} {H : Heap} (hH : HR G w C H) {id : Nat} {o o' : Ob} (ho : H[id]? = some o) (hg : o'.gen = o.gen) (hob : ∀ l, C.ι id = some l → ObR G w C o l → ObR G w C o' l) : HR G w C (H.set id o') := by
  have hlt : id < H.length := by
    rcases Nat.lt_or_ge id H.length with h' | h'
    · exact h'
    · rw [List.getElem?_eq_none h'] at ho; simp at ho
  refine ⟨fun j oj hj => ?_, fun j hj => hH.out j (by simpa using hj), hH.own, hH.inj, fun j oj l hj hl => ?_, hH.gsz⟩
  · by_cases hji : id = j
    · subst hji
      rw [List.getElem?_set_self hlt] at hj
      obtain rfl : o' = oj := by simpa using hj
      rw [hg]; exact hH.gen id o ho
    · rw [List.getElem?_set_ne hji] at hj
      exact hH.gen j oj hj
  · by_cases hji : id = j
    · subst hji
      rw [List.getElem?_set_self hlt] at hj
      obtain rfl : o' = oj := by simpa using hj
      exact hob l hl (hH.ob id o l ho hl)
    · rw [List.getElem?_set_ne hji] at hj
      exact hH.ob j oj l hj hl
/-- How many rows there is place for is a number: it may be given a name. -/
theorem ACalls.room {P : Program} {f : FuncId} {args : List AV} {H : Heap} {r : AV × Heap} {id i g k e n : Nat} {els : List (List AV)} (ho : H[id]? = some ⟨g, k, els, none⟩) (hi : args[i]? = some (.osl id g k e n))
    (h : ∀ rm, els.length ≤ rm → ACalls P f args (H.set id ⟨g, k, els, some rm⟩) r) : ACalls P f args H r := by
  intro G w C vs hsz hargs hH
  have hlt : i < args.length := by
    rcases Nat.lt_or_ge i args.length with h' | h'
    · exact h'
    · rw [List.getElem?_eq_none h'] at hi; simp at hi
  have hv := hargs i hlt
  rw [List.getD_eq_getElem?_getD, hi] at hv
  have hgen := hH.gen id _ ho
  obtain ⟨l, hl, _⟩ := osl_alive hv hgen
  have hob := hH.ob id _ l ho hl
  have hH2 : HR G w C (H.set id ⟨g, k, els, some l.room⟩) := hH.set_ob ho rfl fun l' hl' hx => by
    obtain rfl : l = l' := by rw [hl] at hl'; simpa using hl'
    exact ⟨hx.k, fun r hr => by simpa using hr, hx.no, hx.len, hx.row, hx.cells⟩
  refine (h l.room hob.len G w C vs hsz hargs hH2).mono fun v w' ⟨G', C', he, hh, hv', hp⟩ => ⟨G', C', he, hh, hv', by simpa using hp.1, fun j hj hs hι => ?_⟩
  obtain ⟨h1, h2, h3⟩ := hp.2 j (by simpa using hj) hs hι
  have hne : id ≠ j := fun e => by subst e; rw [hl] at hι; simp at hι
  rw [List.getElem?_set_ne hne] at h3
  exact ⟨h1, h2, h3⟩
end Go.Proofs.Ytpkgpldgoajphaa.AM

set_option linter.unusedVariables false
set_option linter.unusedSimpArgs false
namespace Go.Proofs.Ytpkgpldgoajphaa.AM
open Go

end Go.Proofs.Ytpkgpldgoajphaa.AM

set_option linter.unusedVariables false
set_option linter.unusedSimpArgs false
namespace Go.Proofs.Ytpkgpldgoajphaa.AM
open Go

end Go.Proofs.Ytpkgpldgoajphaa.AM

set_option linter.unusedVariables false
set_option linter.unusedSimpArgs false
namespace Go.Proofs.Ytpkgpldgoajphaa.AM
open Go

end Go.Proofs.Ytpkgpldgoajphaa.AM

set_option linter.unusedVariables false
set_option linter.unusedSimpArgs false
namespace Go.Proofs.Ytpkgpldgoajphaa.AM
open Go

end Go.Proofs.Ytpkgpldgoajphaa.AM

set_option linter.unusedVariables false
set_option linter.unusedSimpArgs false
namespace Go.Proofs.Ytpkgpldgoajphaa.AM
open Go

theorem heap_lt {H : Heap} {i : Nat} {o : Ob} (ho : H[i]? = some o) : i < H.length := by
  rcases Nat.lt_or_ge i H.length with h' | h'
  · exact h'
  · rw [List.getElem?_eq_none h'] at ho; simp at ho

section
variable {P : Program} {G : Nat → Prop} {w : World} {C : Cx} {H : Heap}

end

/-- The number of an object among more of them. -/
def tauOf (ids : List Nat) (n : Nat) (i : Nat) : Nat := if i < ids.length then ids.getD i 0 else n + (i - ids.length)
def RenL (τ : Nat → Nat) : Heap → Heap → Prop
  | [], [] => True
  | o :: l, o' :: l' => o.ren τ = o' ∧ RenL τ l l'
  | _, _ => False
theorem RenL.get {τ : Nat → Nat} : ∀ {l l' : Heap}, RenL τ l l' → l.length = l'.length ∧ ∀ (i : Nat) (o : Ob), l[i]? = some o → l'[i]? = some (o.ren τ)
  | [], [], _ => ⟨rfl, fun i o h => by simp at h⟩
  | o :: l, o' :: l', h => by
    obtain ⟨h1, h2⟩ := RenL.get h.2
    refine ⟨by simp [h1], fun i oi hi => ?_⟩
    cases i with
    | zero => simp at hi; subst hi; simp [h.1]
    | succ i => simpa using h2 i oi (by simpa using hi)
def setAll (H : Heap) : List Nat → Heap → Heap
  | i :: ids, o :: os => setAll (H.set i o) ids os
  | _, _ => H
theorem setAll_len : ∀ (ids : List Nat) (os : Heap) (H : Heap), (setAll H ids os).length = H.length
  | [], _, H => by simp [setAll]
  | _ :: _, [], H => by simp [setAll]
  | i :: ids, o :: os, H => by rw [setAll, setAll_len ids os]; simp
theorem setAll_other : ∀ (ids : List Nat) (os : Heap) (H : Heap) (j : Nat), (∀ i ∈ ids, i ≠ j) → (setAll H ids os)[j]? = H[j]?
  | [], _, H, j, _ => by simp [setAll]
  | _ :: _, [], H, j, _ => by simp [setAll]
  | i :: ids, o :: os, H, j, h => by
    rw [setAll, setAll_other ids os _ j (fun i hi => h i (by simp [hi])), List.getElem?_set_ne (h i (by simp))]
def nodupB : List Nat → Bool
  | [] => true
  | i :: ids => !ids.contains i && nodupB ids
theorem setAll_get : ∀ (ids : List Nat) (os : Heap) (H : Heap), nodupB ids = true → (∀ i ∈ ids, i < H.length) → ids.length = os.length → ∀ (q : Nat) (o : Ob), os[q]? = some o → (setAll H ids os)[ids.getD q 0]? = some o
  | [], [], H, _, _, _, q, o, hq => by simp at hq
  | i :: ids, o :: os, H, hn, hlt, hlen, q, o', hq => by
    simp only [nodupB, Bool.and_eq_true, Bool.not_eq_true', List.contains_eq_mem, decide_eq_false_iff_not] at hn
    simp only [setAll]
    cases q with
    | zero =>
      simp at hq; subst hq
      simp only [List.getD_cons_zero]
      rw [setAll_other ids os _ i (fun j hj e => hn.1 (e ▸ hj)), List.getElem?_set_self (hlt i (by simp))]
    | succ q =>
      simp only [List.getD_cons_succ]
      exact setAll_get ids os _ hn.2 (fun j hj => by simpa using hlt j (by simp [hj])) (by simpa using hlen) q o' (by simpa using hq)
theorem nodup_get : ∀ (ids : List Nat), nodupB ids = true → ∀ i j, i < ids.length → j < ids.length → ids.getD i 0 = ids.getD j 0 → i = j
  | [], _, i, _, hi, _, _ => by simp at hi
  | a :: ids, hn, i, j, hi, hj, e => by
    simp only [nodupB, Bool.and_eq_true, Bool.not_eq_true', List.contains_eq_mem, decide_eq_false_iff_not] at hn
    have hmem : ∀ q, q < ids.length → ids.getD q 0 ∈ ids := fun q hq => by
      rw [List.getD_eq_getElem?_getD, List.getElem?_eq_getElem hq]; exact List.getElem_mem _
    cases i with
    | zero =>
      cases j with
      | zero => rfl
      | succ j => simp only [List.getD_cons_zero, List.getD_cons_succ] at e; exact absurd (e ▸ hmem j (by simpa using hj)) hn.1
    | succ i =>
      cases j with
      | zero => simp only [List.getD_cons_zero, List.getD_cons_succ] at e; exact absurd (e.symm ▸ hmem i (by simpa using hi)) hn.1
      | succ j => simp only [List.getD_cons_succ] at e; rw [nodup_get ids hn.2 i j (by simpa using hi) (by simpa using hj) e]
/-- A call over objects Hs is known of objects that lie at ids among Hb. -/
theorem ACalls.put {P : Program} {f : FuncId} {args args' : List AV} {a a' : AV} {Hs H1 N Hb Hg H1' N' : Heap} (ids : List Nat) (h : ACalls P f args Hs (a, H1 ++ N)) (hids : (nodupB ids && ids.all (fun i => decide (i < Hb.length))) = true)
    (hlen : ids.length = Hs.length) (hn : H1.length = Hs.length) (hargs : AV.bdds Hs.length args = true) (hbs : obsB Hs.length Hs = true) (hg : (ids.map fun i => Hb.getD i default) = Hg) (hget : RenL (tauOf ids Hb.length) Hs Hg)
    (h1 : RenL (tauOf ids Hb.length) H1 H1') (h2 : RenL (tauOf ids Hb.length) N N') (ha : AV.rens (tauOf ids Hb.length) args = args') (hr : a.ren (tauOf ids Hb.length) = a') : ACalls P f args' Hb (a', setAll Hb ids H1' ++ N') := by
  simp only [Bool.and_eq_true, List.all_eq_true, decide_eq_true_eq] at hids
  obtain ⟨hnd, hlt⟩ := hids
  subst ha hr hg
  have hτ : ∀ i, i < Hs.length → tauOf ids Hb.length i = ids.getD i 0 := fun i hi => by simp [tauOf, hlen, hi]
  have hτ2 : ∀ i, Hs.length ≤ i → tauOf ids Hb.length i = Hb.length + (i - Hs.length) := fun i hi => by
    have : ¬ i < Hs.length := by omega
    simp [tauOf, hlen, this]
  have hmem : ∀ q, q < Hs.length → ids.getD q 0 ∈ ids := fun q hq => by
    rw [List.getD_eq_getElem?_getD, List.getElem?_eq_getElem (by omega)]; exact List.getElem_mem _
  obtain ⟨g1, g2⟩ := hget.get
  obtain ⟨p1, p2⟩ := h1.get
  obtain ⟨n1, n2⟩ := h2.get
  refine h.frame (τ := tauOf ids Hb.length) (Hb := Hb) (Hb' := setAll Hb ids H1' ++ N') ⟨fun i hi => by rw [hτ i hi]; exact hlt _ (hmem i hi), hτ2, fun i j hi hj e => by
      rw [hτ i hi, hτ j hj] at e; exact nodup_get ids hnd i j (by omega) (by omega) e, fun i o ho => ?_⟩ hargs (fun i o ho => obsB_get hbs ho) (by simp [setAll_len, hn, n1]) (fun i o ho => ?_) fun j hj hj2 => ?_
  · have hi := heap_lt ho
    rw [hτ i hi]
    have := g2 i o ho
    rw [List.getElem?_map] at this
    have hi' : i < ids.length := by omega
    rw [List.getElem?_eq_getElem hi'] at this
    simp only [Option.map_some, Option.some.injEq] at this
    have hlt' := hlt _ (List.getElem_mem hi')
    rw [List.getD_eq_getElem?_getD (l := ids), List.getElem?_eq_getElem hi', Option.getD_some, ← this, List.getD_eq_getElem?_getD, List.getElem?_eq_getElem hlt', Option.getD_some]
  · rcases Nat.lt_or_ge i H1.length with hi | hi
    · rw [List.getElem?_append_left hi] at ho
      rw [hτ i (by omega), List.getElem?_append_left (by rw [setAll_len]; exact hlt _ (hmem i (by omega)))]
      exact setAll_get ids H1' Hb hnd hlt (by omega) i _ (p2 i o ho)
    · rw [List.getElem?_append_right hi] at ho
      rw [hτ2 i (by omega), List.getElem?_append_right (by rw [setAll_len]; omega), setAll_len]
      have : Hb.length + (i - Hs.length) - Hb.length = i - H1.length := by omega
      rw [this]
      exact n2 _ o ho
  · rw [List.getElem?_append_left (by rw [setAll_len]; exact hj)]
    refine setAll_other ids H1' Hb j fun i hi e => ?_
    obtain ⟨q, hq, e2⟩ := List.getElem_of_mem hi
    refine hj2 q (by omega) ?_
    rw [hτ q (by omega), List.getD_eq_getElem?_getD, List.getElem?_eq_getElem hq, Option.getD_some, e2, e]
end Go.Proofs.Ytpkgpldgoajphaa.AM

set_option linter.unusedVariables false
set_option linter.unusedSimpArgs false
namespace Go.Proofs.Ytpkgpldgoajphaa.AM
open Go

end Go.Proofs.Ytpkgpldgoajphaa.AM

set_option linter.unusedVariables false
set_option linter.unusedSimpArgs false
namespace Go.Proofs.Ytpkgpldgoajphaa.AM
open Go

def regsOf : Code → Nat → Option (Array Oper)
  | .region id ops _, r => bif Nat.beq id r then some ops else none
  | .seq a b, r => match regsOf a r with
    | some x => some x
    | none => regsOf b r
  | .cond _ a b, r => match regsOf a r with
    | some x => some x
    | none => regsOf b r
  | .block _ c, r => regsOf c r
  | .loop c, r => regsOf c r
  | _, _ => none
def opIn (fn : Func) (r i : Nat) : Oper := match (fn.body.bind (regsOf · r)).bind (·[i]?) with
  | some o => o
  | none => ⟨none, .move (.tmp 0), 0, "", #[], none⟩
section
variable {P : Program} {X : Env} {F : Fr} {H H2 : Heap} {ar : Nat} {o : Oper} {a : AV}
theorem Sat.sem (hs : isSem X o = true) (h : SSem P F H o (a, H2)) : Sat P X F H ar o a H2 := by
  unfold Sat
  rw [hs]
  exact .inl h
theorem tok_int {T : TT} (hT : TOk P T) {t : TypeId} {ti : TI} {k : IntKind} (ht : T t = some ti) (hd : ti.d = .int k) : P.underlying t = some (.int k) := by
  have := (hT t ti ht).und
  rw [hd] at this
  exact this
end

section
variable {α : Type} (row : α → List AV) (x : α) (u : List AV)
end
end Go.Proofs.Ytpkgpldgoajphaa.AM

set_option linter.unusedVariables false
set_option linter.unusedSimpArgs false
namespace Go.Proofs.Ytpkgpldgoajphaa.AM
open Go

end Go.Proofs.Ytpkgpldgoajphaa.AM

set_option linter.unusedVariables false
set_option linter.unusedSimpArgs false
namespace Go.Proofs.Ytpkgpldgoajphaa.AM
open Go

end Go.Proofs.Ytpkgpldgoajphaa.AM

set_option linter.unusedVariables false
set_option linter.unusedSimpArgs false
namespace Go.Proofs.Ytpkgpldgoajphaa.AM
open Go

end Go.Proofs.Ytpkgpldgoajphaa.AM

set_option linter.unusedVariables false
set_option linter.unusedSimpArgs false
namespace Go.Proofs.Ytpkgpldgoajphaa.AM
open Go

def convO (o : Oper) : Operand := match o.op with
  | .convert _ _ x => x
  | _ => .tmp 0
theorem sat_rune {P : Program} {X : Env} {F : Fr} {H : Heap} {ar : Nat} {o : Oper} (hT : TOk P X.T) {src dst' : TypeId} {ts td : TI} {k : IntKind} {n : Int} (hop : o.op = .convert src dst' (convO o)) (hsem : isSem X o = true) (hs : X.T src = some ts) (hsd : ts.d = .int k) (hd : X.T dst' = some td) (hdd : td.d = .string)
    (hx : opv F (convO o) = some (.int k n)) : Sat P X F H ar o (.str (Utf8.encode n)) H := by
  refine Sat.sem hsem ?_
  obtain ⟨dst, op, type, pos, after, guard⟩ := o
  simp only at hop
  generalize convO _ = x at hop hx
  subst hop
  intro G w C f hf hH
  have hv := hf x (by simp [Op.operands]) _ hx
  generalize hu : f x = u at hv
  cases hv
  have h1 := tok_int hT hs hsd
  have h2 : P.underlying dst' = some .string := by
    have := (hT _ _ hd).und
    rw [hdd] at this
    exact this
  have hr : (Go.convert src dst' (f x)).run P w = .ok (.string (Utf8.encode n)) w := by
    rw [hu]
    simp [Go.convert, run_underlying h1, run_underlying h2, Conv.intToString]
  exact ⟨_, w, by simp [execOp, hr], G, C, Ev.refl .., hH, .str .., Pd.refl⟩
end Go.Proofs.Ytpkgpldgoajphaa.AM

set_option maxRecDepth 100000
set_option linter.unusedVariables false
set_option linter.unusedSimpArgs false
namespace Go.Proofs.Ytpkgpldgoajphaa.AM
open Go Go.Proofs.Ytpkgpldgoajphaa
attribute [local irreducible] ACalls funT codeT codeQ LoopTo
attribute [local irreducible] Tp.card Tp.cardT Tp.next Tp.step Tp.cards Tp.cardsT Tp.key Tp.keyT sink insSort sortK insK posK beforeK onceStep sortP lastS lastK cmpK ixI findC inC isKey cmpSt aheadB aheadK ansK digK rfO rfC rinC hasK wantK tellK answerK raB keysC
def gnum_ann : Ann := { big := [51], gh := [(9, .frz 2), (9, .cut 0), (17, .frz 5)], gha := [(4, .vir 2 1), (3, .cut 0), (12, .vir 5 9), (15, .cut 1)], fin := some 0, live := [(2, [1]), (6, [1, 2, 3]), (14, [5, 6])], out := [(2, [1]), (6, [1, 2, 3]), (14, [5, 6])] }
set_option maxRecDepth 100000 in
theorem gnum6_step (q : Nat) (out : List Int) (k : Nat) (g : Nat) (i : Nat) (hq : q < 1000) (hk : k = out.length) (hki : k ≤ i) (hle_ : i ≤ 250) {eX : Ex} {FX : Fr} {HX : Heap} (k1 : (decide (((i : Nat) : Int) < 250)) = true → LoopTo (codeQ Try.prog (X gnum_ann) (loopOf Try.f15 1)) (some [1, 2, 3]) (some [1, 2, 3]) (mkF 68 [(1, (AV.int .i64 ((q : Nat) : Int))), (2, (AV.osl 0 (g + 1) 1 0 (k + 1))), (3, (AV.int .i64 ((i + 1 : Nat) : Int)))]) ([⟨(g + 1), 1, (List.map rI64 (out ++ [(Int.tmod (IntKind.i64.wrap ((IntKind.i64.wrap ((IntKind.i64.wrap ((IntKind.i64.wrap (((i : Nat) : Int) * ((i : Nat) : Int))) * 7)) + (IntKind.i64.wrap (((q : Nat) : Int) * 59)))) + (IntKind.i64.wrap (((i : Nat) : Int) * ((q : Nat) : Int))))) 211)])), none⟩] : Heap) eX FX HX) (k2 : (decide (((i : Nat) : Int) < 250)) = false → ((.exit 2 : Ex), (mkF 68 [(1, (AV.int .i64 ((q : Nat) : Int))), (2, (AV.osl 0 g 1 0 k)), (3, (AV.int .i64 ((i : Nat) : Int)))]), ([⟨g, 1, (List.map rI64 out), none⟩] : Heap)) = (eX, FX, HX)) : LoopTo (codeQ Try.prog (X gnum_ann) (loopOf Try.f15 1)) (some [1, 2, 3]) (some [1, 2, 3]) (mkF 68 [(1, (AV.int .i64 ((q : Nat) : Int))), (2, (AV.osl 0 g 1 0 k)), (3, (AV.int .i64 ((i : Nat) : Int)))]) ([⟨g, 1, (List.map rI64 out), none⟩] : Heap) eX FX HX := by
  refine LoopTo.step (.reg [] [] [] (.two (.reg [(14, ((AV.osl 0 (g + 1) 1 0 (k + 1)), ([⟨(g + 1), 1, (List.map rI64 (out ++ [(Int.tmod (IntKind.i64.wrap ((IntKind.i64.wrap ((IntKind.i64.wrap ((IntKind.i64.wrap (((i : Nat) : Int) * ((i : Nat) : Int))) * 7)) + (IntKind.i64.wrap (((q : Nat) : Int) * 59)))) + (IntKind.i64.wrap (((i : Nat) : Int) * ((q : Nat) : Int))))) 211)])), none⟩] : Heap)))] [] [] (.reg [(1, ((AV.int .i64 ((i + 1 : Nat) : Int)), ([⟨(g + 1), 1, (List.map rI64 (out ++ [(Int.tmod (IntKind.i64.wrap ((IntKind.i64.wrap ((IntKind.i64.wrap ((IntKind.i64.wrap (((i : Nat) : Int) * ((i : Nat) : Int))) * 7)) + (IntKind.i64.wrap (((q : Nat) : Int) * 59)))) + (IntKind.i64.wrap (((i : Nat) : Int) * ((q : Nat) : Int))))) 211)])), none⟩] : Heap)))] [] [] .nil)) .nil)) ?_
  refine Eq.mp (by kernel_rfl : (cond (decide (((i : Nat) : Int) < 250)) ((evAppend tt ([⟨g, 1, (List.map rI64 out), none⟩] : Heap) 22 (AV.osl 0 g 1 0 k) (AV.sl .clip 1 [[(AV.int .i64 (Int.tmod (IntKind.i64.wrap ((IntKind.i64.wrap ((IntKind.i64.wrap ((IntKind.i64.wrap (((i : Nat) : Int) * ((i : Nat) : Int))) * 7)) + (IntKind.i64.wrap (((q : Nat) : Int) * 59)))) + (IntKind.i64.wrap (((i : Nat) : Int) * ((q : Nat) : Int))))) 211))]]) = some ((AV.osl 0 (g + 1) 1 0 (k + 1)), ([⟨(g + 1), 1, (List.map rI64 (out ++ [(Int.tmod (IntKind.i64.wrap ((IntKind.i64.wrap ((IntKind.i64.wrap ((IntKind.i64.wrap (((i : Nat) : Int) * ((i : Nat) : Int))) * 7)) + (IntKind.i64.wrap (((q : Nat) : Int) * 59)))) + (IntKind.i64.wrap (((i : Nat) : Int) * ((q : Nat) : Int))))) 211)])), none⟩] : Heap))) ∧ (Yes (.int .i64 (IntKind.i64.wrap (((i : Nat) : Int) + 1))) ([⟨(g + 1), 1, (List.map rI64 (out ++ [(Int.tmod (IntKind.i64.wrap ((IntKind.i64.wrap ((IntKind.i64.wrap ((IntKind.i64.wrap (((i : Nat) : Int) * ((i : Nat) : Int))) * 7)) + (IntKind.i64.wrap (((q : Nat) : Int) * 59)))) + (IntKind.i64.wrap (((i : Nat) : Int) * ((q : Nat) : Int))))) 211)])), none⟩] : Heap) (AV.int .i64 ((i + 1 : Nat) : Int))) ∧ LoopTo (codeQ Try.prog (X gnum_ann) (loopOf Try.f15 1)) (some [1, 2, 3]) (some [1, 2, 3]) (mkF 68 [(1, (AV.int .i64 ((q : Nat) : Int))), (2, (AV.osl 0 (g + 1) 1 0 (k + 1))), (3, (AV.int .i64 ((i + 1 : Nat) : Int)))]) ([⟨(g + 1), 1, (List.map rI64 (out ++ [(Int.tmod (IntKind.i64.wrap ((IntKind.i64.wrap ((IntKind.i64.wrap ((IntKind.i64.wrap (((i : Nat) : Int) * ((i : Nat) : Int))) * 7)) + (IntKind.i64.wrap (((q : Nat) : Int) * 59)))) + (IntKind.i64.wrap (((i : Nat) : Int) * ((q : Nat) : Int))))) 211)])), none⟩] : Heap) eX FX HX) (((.exit 2 : Ex), (mkF 68 [(1, (AV.int .i64 ((q : Nat) : Int))), (2, (AV.osl 0 g 1 0 k)), (3, (AV.int .i64 ((i : Nat) : Int)))]), ([⟨g, 1, (List.map rI64 out), none⟩] : Heap)) = (eX, FX, HX))) = _) ?_
  refine cond_split (fun h1 => ?_) (fun h1 => ?_)
  · have h1' := h1
    try simp at h1'
    refine And.intro (evAppend_one (row := rI64) (l := out) (x := (Int.tmod (IntKind.i64.wrap ((IntKind.i64.wrap ((IntKind.i64.wrap ((IntKind.i64.wrap (((i : Nat) : Int) * ((i : Nat) : Int))) * 7)) + (IntKind.i64.wrap (((q : Nat) : Int) * 59)))) + (IntKind.i64.wrap (((i : Nat) : Int) * ((q : Nat) : Int))))) 211)) (T := tt) (e := 3) (te := { d := .int .i64, size := 1, bytes := 8, zero := [.int .i64 0] }) (z := 1) (b := 24) (y := [.sl .nil 0 []]) (by kernel_rfl) (by kernel_rfl) rfl (by decide) (by decide) (by kernel_rfl) (by first | assumption | omega | (simp; done) | (simp; omega)) rfl rfl (by first | omega | (show _ * 8 ≤ _; omega) | (simp; omega))) ?_
    refine And.intro (Yes.add (by omega) (by omega) (by omega)) ?_
    exact k1 h1
  · have h1' := h1
    try simp at h1'
    exact k2 h1
def gnum6_f (q : Nat) (i : Nat) (s : (List Int) × Nat × Nat) : (List Int) × Nat × Nat := (s.1 ++ [(Int.tmod (IntKind.i64.wrap ((IntKind.i64.wrap ((IntKind.i64.wrap ((IntKind.i64.wrap (((i : Nat) : Int) * ((i : Nat) : Int))) * 7)) + (IntKind.i64.wrap (((q : Nat) : Int) * 59)))) + (IntKind.i64.wrap (((i : Nat) : Int) * ((q : Nat) : Int))))) 211)], (s.2.1 + 1), (s.2.2 + 1))
theorem gnum6_loop (q : Nat) (hq : q < 1000)  (r_ : Nat) : ∀ (out : List Int) (k : Nat) (g : Nat) (i : Nat) (sF : (List Int) × Nat × Nat), i + r_ = 250 → k = out.length → k ≤ i → sF = iter (gnum6_f q) r_ i (out, k, g) →
    LoopTo (codeQ Try.prog (X gnum_ann) (loopOf Try.f15 1)) (some [1, 2, 3]) (some [1, 2, 3]) (mkF 68 [(1, (AV.int .i64 ((q : Nat) : Int))), (2, (AV.osl 0 g 1 0 k)), (3, (AV.int .i64 ((i : Nat) : Int)))]) ([⟨g, 1, (List.map rI64 out), none⟩] : Heap) (.exit 2) (mkF 68 [(1, (AV.int .i64 ((q : Nat) : Int))), (2, (AV.osl 0 sF.2.2 1 0 sF.2.1)), (3, (AV.int .i64 ((250 : Nat) : Int)))]) ([⟨sF.2.2, 1, (List.map rI64 sF.1), none⟩] : Heap) := by
  induction r_ with
  | zero =>
    intro out k g i sF hi_ hk hki  hF
    obtain rfl : 250 = i := by omega
    have e_ : sF = (out, k, g) := hF
    refine gnum6_step q out k g 250 hq hk hki (Nat.le_refl _) (fun h => by simp at h <;> omega) (fun _ => ?_)
    first | done | rfl | (rw [e_]; done) | (rw [e_]; rfl)
  | succ r_ ih =>
    intro out k g i sF hi_ hk hki  hF
    refine gnum6_step q out k g i hq hk hki (by omega) (fun h1 => ?_) (fun h => by simp at h <;> omega)
    · exact ih (out ++ [(Int.tmod (IntKind.i64.wrap ((IntKind.i64.wrap ((IntKind.i64.wrap ((IntKind.i64.wrap (((i : Nat) : Int) * ((i : Nat) : Int))) * 7)) + (IntKind.i64.wrap (((q : Nat) : Int) * 59)))) + (IntKind.i64.wrap (((i : Nat) : Int) * ((q : Nat) : Int))))) 211)]) (k + 1) (g + 1) (i + 1) sF (by omega) (by first | omega | assumption | (simp; done) | (simp; omega) | (simp [*]; done) | (simp [*]; omega)) (by first | omega | assumption | (simp; done) | (simp; omega) | (simp [*]; done) | (simp [*]; omega))  (by rw [hF] <;> simp only [iter, gnum6_f, if_true, Bool.false_eq_true, if_false])
def tapeG (q : Nat) : List Int := (iter (gnum6_f q) 250 0 ([], 0, 0)).1
theorem tapeG_len (q : Nat) : (tapeG q).length = 250 := by
  have := (iter_push (gnum6_f q) _ (fun i s => rfl) 250 0 ([], 0, 0)).1
  simpa [tapeG] using this
theorem tapeG_iter (q : Nat) : (tapeG q, 250, 250) = iter (gnum6_f q) 250 0 ([], 0, 0) := by
  have := (iter_push (gnum6_f q) _ (fun i s => rfl) 250 0 ([], 0, 0)).2
  unfold tapeG
  exact Prod.ext rfl (by rw [this])
set_option maxRecDepth 100000 in
theorem gnum14_step  (out : List Card) (k : Nat) (g : Nat) (i : Nat) (hk : k = out.length) (hki : k ≤ i) (hle_ : i ≤ 67) {eX : Ex} {FX : Fr} {HX : Heap} (k1 : (decide (((i : Nat) : Int) < 67)) = true → LoopTo (codeQ Try.prog (X gnum_ann) (loopOf Try.f15 2)) (some [5, 6]) (some [5, 6]) (mkF 68 [(5, (AV.osl 0 (g + 1) 9 0 (k + 1))), (6, (AV.int .i64 ((i + 1 : Nat) : Int)))]) ([⟨(g + 1), 9, (List.map Card.row (out ++ ([(Card.mk (Key.mk (ByteArray.mk #[97]) (Utf8.encode (IntKind.i32.wrap (IntKind.i64.wrap (97 + (Int.tmod (IntKind.i64.wrap (((i : Nat) : Int) * 7)) 70)))))) 0 0 0 (Stamp.mk 0 0 0) false)]))), none⟩] : Heap) eX FX HX) (k2 : (decide (((i : Nat) : Int) < 67)) = false → ((.exit 4 : Ex), (mkF 68 [(5, (AV.osl 0 g 9 0 k)), (6, (AV.int .i64 ((i : Nat) : Int)))]), ([⟨g, 9, (List.map Card.row out), none⟩] : Heap)) = (eX, FX, HX)) : LoopTo (codeQ Try.prog (X gnum_ann) (loopOf Try.f15 2)) (some [5, 6]) (some [5, 6]) (mkF 68 [(5, (AV.osl 0 g 9 0 k)), (6, (AV.int .i64 ((i : Nat) : Int)))]) ([⟨g, 9, (List.map Card.row out), none⟩] : Heap) eX FX HX := by
  refine LoopTo.step (.reg [] [] [] (.two (.reg [(6, ((AV.str (Utf8.encode (IntKind.i32.wrap (IntKind.i64.wrap (97 + (Int.tmod (IntKind.i64.wrap (((i : Nat) : Int) * 7)) 70)))))), ([⟨g, 9, (List.map Card.row out), none⟩] : Heap))), (10, ((AV.osl 0 (g + 1) 9 0 (k + 1)), ([⟨(g + 1), 9, (List.map Card.row (out ++ ([(Card.mk (Key.mk (ByteArray.mk #[97]) (Utf8.encode (IntKind.i32.wrap (IntKind.i64.wrap (97 + (Int.tmod (IntKind.i64.wrap (((i : Nat) : Int) * 7)) 70)))))) 0 0 0 (Stamp.mk 0 0 0) false)]))), none⟩] : Heap)))] [] [] (.reg [(1, ((AV.int .i64 ((i + 1 : Nat) : Int)), ([⟨(g + 1), 9, (List.map Card.row (out ++ ([(Card.mk (Key.mk (ByteArray.mk #[97]) (Utf8.encode (IntKind.i32.wrap (IntKind.i64.wrap (97 + (Int.tmod (IntKind.i64.wrap (((i : Nat) : Int) * 7)) 70)))))) 0 0 0 (Stamp.mk 0 0 0) false)]))), none⟩] : Heap)))] [] [] .nil)) .nil)) ?_
  refine Eq.mp (by kernel_rfl : (cond (decide (((i : Nat) : Int) < 67)) ((Sat Try.prog (X gnum_ann) (mkF 68 [(5, (AV.osl 0 g 9 0 k)), (6, (AV.int .i64 ((i : Nat) : Int))), (41, (AV.int .i64 ((i : Nat) : Int))), (42, (AV.bool (decide (((i : Nat) : Int) < 67)))), (45, (AV.osl 0 g 9 0 k)), (46, (AV.int .i64 ((i : Nat) : Int))), (47, (AV.int .i64 (IntKind.i64.wrap (((i : Nat) : Int) * 7)))), (48, (AV.int .i64 (Int.tmod (IntKind.i64.wrap (((i : Nat) : Int) * 7)) 70))), (49, (AV.int .i64 (IntKind.i64.wrap (97 + (Int.tmod (IntKind.i64.wrap (((i : Nat) : Int) * 7)) 70))))), (50, (AV.int .i32 (IntKind.i32.wrap (IntKind.i64.wrap (97 + (Int.tmod (IntKind.i64.wrap (((i : Nat) : Int) * 7)) 70))))))]) ([⟨g, 9, (List.map Card.row out), none⟩] : Heap) 1 (opIn Try.f15 16 6) (AV.str (Utf8.encode (IntKind.i32.wrap (IntKind.i64.wrap (97 + (Int.tmod (IntKind.i64.wrap (((i : Nat) : Int) * 7)) 70)))))) ([⟨g, 9, (List.map Card.row out), none⟩] : Heap)) ∧ (evAppend tt ([⟨g, 9, (List.map Card.row out), none⟩] : Heap) 48 (AV.osl 0 g 9 0 k) (AV.sl .clip 9 [[(AV.str (ByteArray.mk #[97])), (AV.str (Utf8.encode (IntKind.i32.wrap (IntKind.i64.wrap (97 + (Int.tmod (IntKind.i64.wrap (((i : Nat) : Int) * 7)) 70)))))), (AV.int .i64 0), (AV.int .i64 0), (AV.int .i64 0), (AV.int .i64 0), (AV.int .i64 0), (AV.int .i64 0), (AV.bool false)]]) = some ((AV.osl 0 (g + 1) 9 0 (k + 1)), ([⟨(g + 1), 9, (List.map Card.row (out ++ ([(Card.mk (Key.mk (ByteArray.mk #[97]) (Utf8.encode (IntKind.i32.wrap (IntKind.i64.wrap (97 + (Int.tmod (IntKind.i64.wrap (((i : Nat) : Int) * 7)) 70)))))) 0 0 0 (Stamp.mk 0 0 0) false)]))), none⟩] : Heap))) ∧ (Yes (.int .i64 (IntKind.i64.wrap (((i : Nat) : Int) + 1))) ([⟨(g + 1), 9, (List.map Card.row (out ++ ([(Card.mk (Key.mk (ByteArray.mk #[97]) (Utf8.encode (IntKind.i32.wrap (IntKind.i64.wrap (97 + (Int.tmod (IntKind.i64.wrap (((i : Nat) : Int) * 7)) 70)))))) 0 0 0 (Stamp.mk 0 0 0) false)]))), none⟩] : Heap) (AV.int .i64 ((i + 1 : Nat) : Int))) ∧ (obsB 1 ([⟨(g + 1), 9, (List.map Card.row (out ++ ([(Card.mk (Key.mk (ByteArray.mk #[97]) (Utf8.encode (IntKind.i32.wrap (IntKind.i64.wrap (97 + (Int.tmod (IntKind.i64.wrap (((i : Nat) : Int) * 7)) 70)))))) 0 0 0 (Stamp.mk 0 0 0) false)]))), none⟩] : Heap) = true) ∧ LoopTo (codeQ Try.prog (X gnum_ann) (loopOf Try.f15 2)) (some [5, 6]) (some [5, 6]) (mkF 68 [(5, (AV.osl 0 (g + 1) 9 0 (k + 1))), (6, (AV.int .i64 ((i + 1 : Nat) : Int)))]) ([⟨(g + 1), 9, (List.map Card.row (out ++ ([(Card.mk (Key.mk (ByteArray.mk #[97]) (Utf8.encode (IntKind.i32.wrap (IntKind.i64.wrap (97 + (Int.tmod (IntKind.i64.wrap (((i : Nat) : Int) * 7)) 70)))))) 0 0 0 (Stamp.mk 0 0 0) false)]))), none⟩] : Heap) eX FX HX) (((.exit 4 : Ex), (mkF 68 [(5, (AV.osl 0 g 9 0 k)), (6, (AV.int .i64 ((i : Nat) : Int)))]), ([⟨g, 9, (List.map Card.row out), none⟩] : Heap)) = (eX, FX, HX))) = _) ?_
  refine cond_split (fun h1 => ?_) (fun h1 => ?_)
  · have h1' := h1
    try simp at h1'
    refine And.intro (sat_rune (src := 21) (dst' := 9) (ts := { d := .int .i32, size := 1, bytes := 4, zero := [.int .i32 0] }) (td := { d := .string, size := 1, bytes := 16, zero := [.str ⟨#[]⟩] }) (k := .i32) (n := (IntKind.i32.wrap (IntKind.i64.wrap (97 + (Int.tmod (IntKind.i64.wrap (((i : Nat) : Int) * 7)) 70))))) ttOk (by kernel_rfl) (by kernel_rfl) (by kernel_rfl) rfl (by kernel_rfl) rfl (by kernel_rfl)) ?_
    refine And.intro (evAppend_one (row := Card.row) (l := out) (x := (Card.mk (Key.mk (ByteArray.mk #[97]) (Utf8.encode (IntKind.i32.wrap (IntKind.i64.wrap (97 + (Int.tmod (IntKind.i64.wrap (((i : Nat) : Int) * 7)) 70)))))) 0 0 0 (Stamp.mk 0 0 0) false)) (T := tt) (e := 34) (te := { d := .struct [(30, 0), (3, 2), (3, 3), (2, 4), (32, 5), (4, 8)], size := 9, bytes := 88, zero := [.str ⟨#[]⟩, .str ⟨#[]⟩, .int .i64 0, .int .i64 0, .int .i64 0, .int .i64 0, .int .i64 0, .int .i64 0, .bool false] }) (z := 1) (b := 24) (y := [.sl .nil 0 []]) (by kernel_rfl) (by kernel_rfl) rfl (by decide) (by decide) (by kernel_rfl) (by first | assumption | omega | (simp; done) | (simp; omega)) rfl rfl (by first | omega | (show _ * 88 ≤ _; omega) | (simp; omega))) ?_
    refine And.intro (Yes.add (by omega) (by omega) (by omega)) ?_
    refine And.intro (by first | (simp [obsB, AV.bddss, AV.bdds, AV.bdd]; done) | (simp [obsB, AV.bddss, AV.bdds, AV.bdd, -List.map_append]; done) | simp [obsB, AV.bddss, AV.bdds, AV.bdd, -List.map_append, -List.map_set, -List.map_take, -List.map_drop, -List.map_cons, -List.map_map]) ?_
    exact k1 h1
  · have h1' := h1
    try simp at h1'
    exact k2 h1
def gnum14_f  (i : Nat) (s : (List Card) × Nat × Nat) : (List Card) × Nat × Nat := (s.1 ++ ([(Card.mk (Key.mk (ByteArray.mk #[97]) (Utf8.encode (IntKind.i32.wrap (IntKind.i64.wrap (97 + (Int.tmod (IntKind.i64.wrap (((i : Nat) : Int) * 7)) 70)))))) 0 0 0 (Stamp.mk 0 0 0) false)]), (s.2.1 + 1), (s.2.2 + 1))
theorem gnum14_loop    (r_ : Nat) : ∀ (out : List Card) (k : Nat) (g : Nat) (i : Nat) (sF : (List Card) × Nat × Nat), i + r_ = 67 → k = out.length → k ≤ i → sF = iter (gnum14_f ) r_ i (out, k, g) →
    LoopTo (codeQ Try.prog (X gnum_ann) (loopOf Try.f15 2)) (some [5, 6]) (some [5, 6]) (mkF 68 [(5, (AV.osl 0 g 9 0 k)), (6, (AV.int .i64 ((i : Nat) : Int)))]) ([⟨g, 9, (List.map Card.row out), none⟩] : Heap) (.exit 4) (mkF 68 [(5, (AV.osl 0 sF.2.2 9 0 sF.2.1)), (6, (AV.int .i64 ((67 : Nat) : Int)))]) ([⟨sF.2.2, 9, (List.map Card.row sF.1), none⟩] : Heap) := by
  induction r_ with
  | zero =>
    intro out k g i sF hi_ hk hki  hF
    obtain rfl : 67 = i := by omega
    have e_ : sF = (out, k, g) := hF
    refine gnum14_step  out k g 67 hk hki (Nat.le_refl _) (fun h => by simp at h <;> omega) (fun _ => ?_)
    first | done | rfl | (rw [e_]; done) | (rw [e_]; rfl)
  | succ r_ ih =>
    intro out k g i sF hi_ hk hki  hF
    refine gnum14_step  out k g i hk hki (by omega) (fun h1 => ?_) (fun h => by simp at h <;> omega)
    · exact ih (out ++ ([(Card.mk (Key.mk (ByteArray.mk #[97]) (Utf8.encode (IntKind.i32.wrap (IntKind.i64.wrap (97 + (Int.tmod (IntKind.i64.wrap (((i : Nat) : Int) * 7)) 70)))))) 0 0 0 (Stamp.mk 0 0 0) false)])) (k + 1) (g + 1) (i + 1) sF (by omega) (by first | omega | assumption | (simp; done) | (simp; omega) | (simp [*]; done) | (simp [*]; omega)) (by first | omega | assumption | (simp; done) | (simp; omega) | (simp [*]; done) | (simp [*]; omega))  (by rw [hF] <;> simp only [iter, gnum14_f, if_true, Bool.false_eq_true, if_false])
def longG : List Card := (iter gnum14_f 67 0 ([], 0, 0)).1
theorem longG_len : longG.length = 67 := by
  have := (iter_push gnum14_f _ (fun i s => rfl) 67 0 ([], 0, 0)).1
  simpa [longG] using this
theorem longG_iter : (longG, 67, 67) = iter gnum14_f 67 0 ([], 0, 0) := by
  have := (iter_push gnum14_f _ (fun i s => rfl) 67 0 ([], 0, 0)).2
  unfold longG
  exact Prod.ext rfl (by rw [this])
attribute [local irreducible] tapeG longG
set_option maxRecDepth 100000 in
theorem gnum_step   (q : Nat)  (hle_ : q ≤ 60) {eX : Ex} {FX : Fr} {HX : Heap} (k1 : (decide (((q : Nat) : Int) < 60)) = true → LoopTo (codeQ Try.prog (X gnum_ann) (loopOf Try.f15 0)) (some [1]) (some [1]) (mkF 68 [(1, (AV.int .i64 ((q + 1 : Nat) : Int)))]) ([] : Heap) eX FX HX) (k2 : (decide (((q : Nat) : Int) < 60)) = false → ((.exit 0 : Ex), (mkF 68 [(1, (AV.int .i64 ((q : Nat) : Int)))]), ([] : Heap)) = (eX, FX, HX)) : LoopTo (codeQ Try.prog (X gnum_ann) (loopOf Try.f15 0)) (some [1]) (some [1]) (mkF 68 [(1, (AV.int .i64 ((q : Nat) : Int)))]) ([] : Heap) eX FX HX := by
  have l0 := tapeG_len q
  have x0 := Tp.next_lt (⟨tapeG q, 0⟩ : Tp) (12 + 1) (by omega)
  have x1 := Tp.next_lt (((⟨tapeG q, 0⟩ : Tp).step (12 + 1)).cardsT ((⟨tapeG q, 0⟩ : Tp).next (12 + 1))) (12 + 1) (by omega)
  have x2 := Tp.next_lt (((((⟨tapeG q, 0⟩ : Tp).step (12 + 1)).cardsT ((⟨tapeG q, 0⟩ : Tp).next (12 + 1))).step (12 + 1)).cardsT ((((⟨tapeG q, 0⟩ : Tp).step (12 + 1)).cardsT ((⟨tapeG q, 0⟩ : Tp).next (12 + 1))).next (12 + 1))) 9 (by omega)
  have la : (((⟨tapeG q, 0⟩ : Tp).step (12 + 1)).cards ((⟨tapeG q, 0⟩ : Tp).next (12 + 1))).length = ((⟨tapeG q, 0⟩ : Tp).next (12 + 1)) := Tp.cards_len _ _
  have lb : (((((⟨tapeG q, 0⟩ : Tp).step (12 + 1)).cardsT ((⟨tapeG q, 0⟩ : Tp).next (12 + 1))).step (12 + 1)).cards ((((⟨tapeG q, 0⟩ : Tp).step (12 + 1)).cardsT ((⟨tapeG q, 0⟩ : Tp).next (12 + 1))).next (12 + 1))).length = ((((⟨tapeG q, 0⟩ : Tp).step (12 + 1)).cardsT ((⟨tapeG q, 0⟩ : Tp).next (12 + 1))).next (12 + 1)) := Tp.cards_len _ _
  have lc : (((((((⟨tapeG q, 0⟩ : Tp).step (12 + 1)).cardsT ((⟨tapeG q, 0⟩ : Tp).next (12 + 1))).step (12 + 1)).cardsT ((((⟨tapeG q, 0⟩ : Tp).step (12 + 1)).cardsT ((⟨tapeG q, 0⟩ : Tp).next (12 + 1))).next (12 + 1))).step 9).keys ((((((⟨tapeG q, 0⟩ : Tp).step (12 + 1)).cardsT ((⟨tapeG q, 0⟩ : Tp).next (12 + 1))).step (12 + 1)).cardsT ((((⟨tapeG q, 0⟩ : Tp).step (12 + 1)).cardsT ((⟨tapeG q, 0⟩ : Tp).next (12 + 1))).next (12 + 1))).next 9)).length = (((((⟨tapeG q, 0⟩ : Tp).step (12 + 1)).cardsT ((⟨tapeG q, 0⟩ : Tp).next (12 + 1))).step (12 + 1)).cardsT ((((⟨tapeG q, 0⟩ : Tp).step (12 + 1)).cardsT ((⟨tapeG q, 0⟩ : Tp).next (12 + 1))).next (12 + 1))).next 9 := Tp.keys_len _ _
  refine LoopTo.step (.reg [] [] [] (.two (.reg [] [] [] (.reg [] [] [] (.loop (.exit 2) (mkF 68 [(1, (AV.int .i64 ((q : Nat) : Int))), (2, (AV.osl 0 250 1 0 250)), (3, (AV.int .i64 ((250 : Nat) : Int)))]) ([⟨250, 1, (List.map rI64 (tapeG q)), none⟩] : Heap) (.reg [] [(2, (List.map rI64 (tapeG q)))] [] (.reg [(1, ((AV.sl .any 9 (List.map Card.row ((Tp.mk (tapeG q) 0).step (12 + 1) |>.cards ((Tp.mk (tapeG q) 0).next (12 + 1))))), ([⟨0, 2, [(Tp.row (((Tp.mk (tapeG q) 0).step (12 + 1)).cardsT ((Tp.mk (tapeG q) 0).next (12 + 1))))], none⟩] : Heap))), (3, ((AV.sl .any 9 (List.map Card.row ((((Tp.mk (tapeG q) 0).step (12 + 1)).cardsT ((Tp.mk (tapeG q) 0).next (12 + 1))).step (12 + 1) |>.cards ((((Tp.mk (tapeG q) 0).step (12 + 1)).cardsT ((Tp.mk (tapeG q) 0).next (12 + 1))).next (12 + 1))))), ([⟨0, 2, [(Tp.row (((((Tp.mk (tapeG q) 0).step (12 + 1)).cardsT ((Tp.mk (tapeG q) 0).next (12 + 1))).step (12 + 1)).cardsT ((((Tp.mk (tapeG q) 0).step (12 + 1)).cardsT ((Tp.mk (tapeG q) 0).next (12 + 1))).next (12 + 1))))], none⟩] : Heap))), (5, ((AV.sl .any 2 (List.map Key.row (((((((Tp.mk (tapeG q) 0).step (12 + 1)).cardsT ((Tp.mk (tapeG q) 0).next (12 + 1))).step (12 + 1)).cardsT ((((Tp.mk (tapeG q) 0).step (12 + 1)).cardsT ((Tp.mk (tapeG q) 0).next (12 + 1))).next (12 + 1))).step 9).keys ((((((Tp.mk (tapeG q) 0).step (12 + 1)).cardsT ((Tp.mk (tapeG q) 0).next (12 + 1))).step (12 + 1)).cardsT ((((Tp.mk (tapeG q) 0).step (12 + 1)).cardsT ((Tp.mk (tapeG q) 0).next (12 + 1))).next (12 + 1))).next 9)))), ([⟨0, 2, [(Tp.row (((((((Tp.mk (tapeG q) 0).step (12 + 1)).cardsT ((Tp.mk (tapeG q) 0).next (12 + 1))).step (12 + 1)).cardsT ((((Tp.mk (tapeG q) 0).step (12 + 1)).cardsT ((Tp.mk (tapeG q) 0).next (12 + 1))).next (12 + 1))).step 9).keysT ((((((Tp.mk (tapeG q) 0).step (12 + 1)).cardsT ((Tp.mk (tapeG q) 0).next (12 + 1))).step (12 + 1)).cardsT ((((Tp.mk (tapeG q) 0).step (12 + 1)).cardsT ((Tp.mk (tapeG q) 0).next (12 + 1))).next (12 + 1))).next 9)))], none⟩] : Heap))), (6, ((AV.bool true), ([⟨0, 2, [(Tp.row (((((((Tp.mk (tapeG q) 0).step (12 + 1)).cardsT ((Tp.mk (tapeG q) 0).next (12 + 1))).step (12 + 1)).cardsT ((((Tp.mk (tapeG q) 0).step (12 + 1)).cardsT ((Tp.mk (tapeG q) 0).next (12 + 1))).next (12 + 1))).step 9).keysT ((((((Tp.mk (tapeG q) 0).step (12 + 1)).cardsT ((Tp.mk (tapeG q) 0).next (12 + 1))).step (12 + 1)).cardsT ((((Tp.mk (tapeG q) 0).step (12 + 1)).cardsT ((Tp.mk (tapeG q) 0).next (12 + 1))).next (12 + 1))).next 9)))], none⟩] : Heap)))] [] [] (.two .nil (.reg [(1, ((AV.int .i64 ((q + 1 : Nat) : Int)), ([⟨0, 2, [(Tp.row (((((((Tp.mk (tapeG q) 0).step (12 + 1)).cardsT ((Tp.mk (tapeG q) 0).next (12 + 1))).step (12 + 1)).cardsT ((((Tp.mk (tapeG q) 0).step (12 + 1)).cardsT ((Tp.mk (tapeG q) 0).next (12 + 1))).next (12 + 1))).step 9).keysT ((((((Tp.mk (tapeG q) 0).step (12 + 1)).cardsT ((Tp.mk (tapeG q) 0).next (12 + 1))).step (12 + 1)).cardsT ((((Tp.mk (tapeG q) 0).step (12 + 1)).cardsT ((Tp.mk (tapeG q) 0).next (12 + 1))).next (12 + 1))).next 9)))], none⟩] : Heap)))] [] [] .nil))))))) .nil)) ?_
  refine Eq.mp (by kernel_rfl : (cond (decide (((q : Nat) : Int) < 60)) ((LoopTo (codeQ Try.prog (X gnum_ann) (loopOf Try.f15 1)) (some [1, 2, 3]) (some [1, 2, 3]) (mkF 68 [(1, (AV.int .i64 ((q : Nat) : Int))), (2, (AV.osl 0 0 1 0 0)), (3, (AV.int .i64 0))]) ([⟨0, 1, (List.map rI64 []), none⟩] : Heap) (.exit 2) (mkF 68 [(1, (AV.int .i64 ((q : Nat) : Int))), (2, (AV.osl 0 250 1 0 250)), (3, (AV.int .i64 ((250 : Nat) : Int)))]) ([⟨250, 1, (List.map rI64 (tapeG q)), none⟩] : Heap)) ∧ (rowsIn ([⟨250, 1, (List.map rI64 (tapeG q)), none⟩] : Heap) 1 (AV.osl 0 250 1 0 250) = some (List.map rI64 (tapeG q)) ∧ AV.bddss 0 (List.map rI64 (tapeG q)) = true) ∧ (obsB 0 ([] : Heap) = true) ∧ (ACalls Try.prog 29 [(AV.obj 0 0 0 0), (AV.int .i64 12)] ([⟨0, 2, [[(AV.sl .any 1 (List.map rI64 (tapeG q))), (AV.int .i64 0)]], none⟩] : Heap) ((AV.sl .any 9 (List.map Card.row ((Tp.mk (tapeG q) 0).step (12 + 1) |>.cards ((Tp.mk (tapeG q) 0).next (12 + 1))))), ([⟨0, 2, [(Tp.row (((Tp.mk (tapeG q) 0).step (12 + 1)).cardsT ((Tp.mk (tapeG q) 0).next (12 + 1))))], none⟩] : Heap))) ∧ (ACalls Try.prog 29 [(AV.obj 0 0 0 0), (AV.int .i64 12)] ([⟨0, 2, [(Tp.row (((Tp.mk (tapeG q) 0).step (12 + 1)).cardsT ((Tp.mk (tapeG q) 0).next (12 + 1))))], none⟩] : Heap) ((AV.sl .any 9 (List.map Card.row ((((Tp.mk (tapeG q) 0).step (12 + 1)).cardsT ((Tp.mk (tapeG q) 0).next (12 + 1))).step (12 + 1) |>.cards ((((Tp.mk (tapeG q) 0).step (12 + 1)).cardsT ((Tp.mk (tapeG q) 0).next (12 + 1))).next (12 + 1))))), ([⟨0, 2, [(Tp.row (((((Tp.mk (tapeG q) 0).step (12 + 1)).cardsT ((Tp.mk (tapeG q) 0).next (12 + 1))).step (12 + 1)).cardsT ((((Tp.mk (tapeG q) 0).step (12 + 1)).cardsT ((Tp.mk (tapeG q) 0).next (12 + 1))).next (12 + 1))))], none⟩] : Heap))) ∧ (ACalls Try.prog 51 [(AV.obj 0 0 0 0)] ([⟨0, 2, [(Tp.row (((((Tp.mk (tapeG q) 0).step (12 + 1)).cardsT ((Tp.mk (tapeG q) 0).next (12 + 1))).step (12 + 1)).cardsT ((((Tp.mk (tapeG q) 0).step (12 + 1)).cardsT ((Tp.mk (tapeG q) 0).next (12 + 1))).next (12 + 1))))], none⟩] : Heap) ((AV.sl .any 2 (List.map Key.row (((((((Tp.mk (tapeG q) 0).step (12 + 1)).cardsT ((Tp.mk (tapeG q) 0).next (12 + 1))).step (12 + 1)).cardsT ((((Tp.mk (tapeG q) 0).step (12 + 1)).cardsT ((Tp.mk (tapeG q) 0).next (12 + 1))).next (12 + 1))).step 9).keys ((((((Tp.mk (tapeG q) 0).step (12 + 1)).cardsT ((Tp.mk (tapeG q) 0).next (12 + 1))).step (12 + 1)).cardsT ((((Tp.mk (tapeG q) 0).step (12 + 1)).cardsT ((Tp.mk (tapeG q) 0).next (12 + 1))).next (12 + 1))).next 9)))), ([⟨0, 2, [(Tp.row (((((((Tp.mk (tapeG q) 0).step (12 + 1)).cardsT ((Tp.mk (tapeG q) 0).next (12 + 1))).step (12 + 1)).cardsT ((((Tp.mk (tapeG q) 0).step (12 + 1)).cardsT ((Tp.mk (tapeG q) 0).next (12 + 1))).next (12 + 1))).step 9).keysT ((((((Tp.mk (tapeG q) 0).step (12 + 1)).cardsT ((Tp.mk (tapeG q) 0).next (12 + 1))).step (12 + 1)).cardsT ((((Tp.mk (tapeG q) 0).step (12 + 1)).cardsT ((Tp.mk (tapeG q) 0).next (12 + 1))).next (12 + 1))).next 9)))], none⟩] : Heap))) ∧ (ACalls Try.prog 50 [(AV.sl .any 9 (List.map Card.row ((Tp.mk (tapeG q) 0).step (12 + 1) |>.cards ((Tp.mk (tapeG q) 0).next (12 + 1))))), (AV.sl .any 9 (List.map Card.row ((((Tp.mk (tapeG q) 0).step (12 + 1)).cardsT ((Tp.mk (tapeG q) 0).next (12 + 1))).step (12 + 1) |>.cards ((((Tp.mk (tapeG q) 0).step (12 + 1)).cardsT ((Tp.mk (tapeG q) 0).next (12 + 1))).next (12 + 1))))), (AV.sl .any 2 (List.map Key.row (((((((Tp.mk (tapeG q) 0).step (12 + 1)).cardsT ((Tp.mk (tapeG q) 0).next (12 + 1))).step (12 + 1)).cardsT ((((Tp.mk (tapeG q) 0).step (12 + 1)).cardsT ((Tp.mk (tapeG q) 0).next (12 + 1))).next (12 + 1))).step 9).keys ((((((Tp.mk (tapeG q) 0).step (12 + 1)).cardsT ((Tp.mk (tapeG q) 0).next (12 + 1))).step (12 + 1)).cardsT ((((Tp.mk (tapeG q) 0).step (12 + 1)).cardsT ((Tp.mk (tapeG q) 0).next (12 + 1))).next (12 + 1))).next 9))))] ([⟨0, 2, [(Tp.row (((((((Tp.mk (tapeG q) 0).step (12 + 1)).cardsT ((Tp.mk (tapeG q) 0).next (12 + 1))).step (12 + 1)).cardsT ((((Tp.mk (tapeG q) 0).step (12 + 1)).cardsT ((Tp.mk (tapeG q) 0).next (12 + 1))).next (12 + 1))).step 9).keysT ((((((Tp.mk (tapeG q) 0).step (12 + 1)).cardsT ((Tp.mk (tapeG q) 0).next (12 + 1))).step (12 + 1)).cardsT ((((Tp.mk (tapeG q) 0).step (12 + 1)).cardsT ((Tp.mk (tapeG q) 0).next (12 + 1))).next (12 + 1))).next 9)))], none⟩] : Heap) ((AV.bool true), ([⟨0, 2, [(Tp.row (((((((Tp.mk (tapeG q) 0).step (12 + 1)).cardsT ((Tp.mk (tapeG q) 0).next (12 + 1))).step (12 + 1)).cardsT ((((Tp.mk (tapeG q) 0).step (12 + 1)).cardsT ((Tp.mk (tapeG q) 0).next (12 + 1))).next (12 + 1))).step 9).keysT ((((((Tp.mk (tapeG q) 0).step (12 + 1)).cardsT ((Tp.mk (tapeG q) 0).next (12 + 1))).step (12 + 1)).cardsT ((((Tp.mk (tapeG q) 0).step (12 + 1)).cardsT ((Tp.mk (tapeG q) 0).next (12 + 1))).next (12 + 1))).next 9)))], none⟩] : Heap))) ∧ (Yes (.int .i64 (IntKind.i64.wrap (((q : Nat) : Int) + 1))) ([⟨0, 2, [(Tp.row (((((((Tp.mk (tapeG q) 0).step (12 + 1)).cardsT ((Tp.mk (tapeG q) 0).next (12 + 1))).step (12 + 1)).cardsT ((((Tp.mk (tapeG q) 0).step (12 + 1)).cardsT ((Tp.mk (tapeG q) 0).next (12 + 1))).next (12 + 1))).step 9).keysT ((((((Tp.mk (tapeG q) 0).step (12 + 1)).cardsT ((Tp.mk (tapeG q) 0).next (12 + 1))).step (12 + 1)).cardsT ((((Tp.mk (tapeG q) 0).step (12 + 1)).cardsT ((Tp.mk (tapeG q) 0).next (12 + 1))).next (12 + 1))).next 9)))], none⟩] : Heap) (AV.int .i64 ((q + 1 : Nat) : Int))) ∧ (obsB 0 ([] : Heap) = true) ∧ LoopTo (codeQ Try.prog (X gnum_ann) (loopOf Try.f15 0)) (some [1]) (some [1]) (mkF 68 [(1, (AV.int .i64 ((q + 1 : Nat) : Int)))]) ([] : Heap) eX FX HX) (((.exit 0 : Ex), (mkF 68 [(1, (AV.int .i64 ((q : Nat) : Int)))]), ([] : Heap)) = (eX, FX, HX))) = _) ?_
  refine cond_split (fun h1 => ?_) (fun h1 => ?_)
  · have h1' := h1
    try simp at h1'
    refine And.intro ((gnum6_loop q (by omega) 250 [] 0 0 0 (tapeG q, 250, 250) (by omega) rfl (by omega) (tapeG_iter _))) ?_
    refine And.intro (And.intro (rowsIn_all (room := none) (by kernel_rfl) (by first | omega | (simp [Tp.cards_len, Tp.keys_len]; done) | (simp [Tp.cards_len, Tp.keys_len]; omega))) (rI64_bdd _ _)) ?_
    refine And.intro (by first | (simp [obsB, AV.bddss, AV.bdds, AV.bdd]; done) | (simp [obsB, AV.bddss, AV.bdds, AV.bdd, -List.map_append]; done) | simp [obsB, AV.bddss, AV.bdds, AV.bdd, -List.map_append, -List.map_set, -List.map_take, -List.map_drop, -List.map_cons, -List.map_map]) ?_
    refine And.intro ((cards_at (Tp.mk (tapeG q) 0) 12 (by first | omega | assumption | (simp; done) | (simp; omega) | (simp_all; done) | (simp_all; omega)) (by first | omega | assumption | (simp; done) | (simp; omega) | (simp_all; done) | (simp_all; omega)) ([] : Heap)).pre ⟨AV.wk_refl_any _, AV.wk_refl_any _, trivial⟩) ?_
    refine And.intro ((cards_at (((Tp.mk (tapeG q) 0).step (12 + 1)).cardsT ((Tp.mk (tapeG q) 0).next (12 + 1))) 12 (by rw [Tp.cardsT_l, Tp.step_l]; simp; omega) (by first | omega | assumption | (simp; done) | (simp; omega) | (simp_all; done) | (simp_all; omega)) ([] : Heap)).pre ⟨AV.wk_refl_any _, AV.wk_refl_any _, trivial⟩) ?_
    refine And.intro (tkeys_at (((((Tp.mk (tapeG q) 0).step (12 + 1)).cardsT ((Tp.mk (tapeG q) 0).next (12 + 1))).step (12 + 1)).cardsT ((((Tp.mk (tapeG q) 0).step (12 + 1)).cardsT ((Tp.mk (tapeG q) 0).next (12 + 1))).next (12 + 1))) (by rw [Tp.cardsT_l, Tp.step_l, Tp.cardsT_l, Tp.step_l]; simp; omega) ([] : Heap)) ?_
    refine And.intro (same18_at ((Tp.mk (tapeG q) 0).step (12 + 1) |>.cards ((Tp.mk (tapeG q) 0).next (12 + 1))) ((((Tp.mk (tapeG q) 0).step (12 + 1)).cardsT ((Tp.mk (tapeG q) 0).next (12 + 1))).step (12 + 1) |>.cards ((((Tp.mk (tapeG q) 0).step (12 + 1)).cardsT ((Tp.mk (tapeG q) 0).next (12 + 1))).next (12 + 1))) (((((((Tp.mk (tapeG q) 0).step (12 + 1)).cardsT ((Tp.mk (tapeG q) 0).next (12 + 1))).step (12 + 1)).cardsT ((((Tp.mk (tapeG q) 0).step (12 + 1)).cardsT ((Tp.mk (tapeG q) 0).next (12 + 1))).next (12 + 1))).step 9).keys ((((((Tp.mk (tapeG q) 0).step (12 + 1)).cardsT ((Tp.mk (tapeG q) 0).next (12 + 1))).step (12 + 1)).cardsT ((((Tp.mk (tapeG q) 0).step (12 + 1)).cardsT ((Tp.mk (tapeG q) 0).next (12 + 1))).next (12 + 1))).next 9)) (by first | omega | assumption | (simp; done) | (simp; omega) | (simp_all; done) | (simp_all; omega)) (by first | omega | assumption | (simp; done) | (simp; omega) | (simp_all; done) | (simp_all; omega)) (by first | omega | assumption | (simp; done) | (simp; omega) | (simp_all; done) | (simp_all; omega)) ([⟨0, 2, [(Tp.row (((((((Tp.mk (tapeG q) 0).step (12 + 1)).cardsT ((Tp.mk (tapeG q) 0).next (12 + 1))).step (12 + 1)).cardsT ((((Tp.mk (tapeG q) 0).step (12 + 1)).cardsT ((Tp.mk (tapeG q) 0).next (12 + 1))).next (12 + 1))).step 9).keysT ((((((Tp.mk (tapeG q) 0).step (12 + 1)).cardsT ((Tp.mk (tapeG q) 0).next (12 + 1))).step (12 + 1)).cardsT ((((Tp.mk (tapeG q) 0).step (12 + 1)).cardsT ((Tp.mk (tapeG q) 0).next (12 + 1))).next (12 + 1))).next 9)))], none⟩] : Heap)) ?_
    refine And.intro (Yes.add (by omega) (by omega) (by omega)) ?_
    refine And.intro (by first | (simp [obsB, AV.bddss, AV.bdds, AV.bdd]; done) | (simp [obsB, AV.bddss, AV.bdds, AV.bdd, -List.map_append]; done) | simp [obsB, AV.bddss, AV.bdds, AV.bdd, -List.map_append, -List.map_set, -List.map_take, -List.map_drop, -List.map_cons, -List.map_map]) ?_
    exact k1 h1
  · have h1' := h1
    try simp at h1'
    exact k2 h1
def gnum_f  (q : Nat) (s : Unit) : Unit := ()
theorem gnum_loop    (r_ : Nat) : ∀  (q : Nat) (sF : Unit), q + r_ = 60 → sF = iter (gnum_f ) r_ q () →
    LoopTo (codeQ Try.prog (X gnum_ann) (loopOf Try.f15 0)) (some [1]) (some [1]) (mkF 68 [(1, (AV.int .i64 ((q : Nat) : Int)))]) ([] : Heap) (.exit 0) (mkF 68 [(1, (AV.int .i64 ((60 : Nat) : Int)))]) ([] : Heap) := by
  induction r_ with
  | zero =>
    intro  q sF hi_   hF
    obtain rfl : 60 = q := by omega
    have e_ : sF = () := hF
    refine gnum_step   60  (Nat.le_refl _) (fun h => by simp at h <;> omega) (fun _ => ?_)
    first | done | rfl | (rw [e_]; done) | (rw [e_]; rfl)
  | succ r_ ih =>
    intro  q sF hi_   hF
    refine gnum_step   q  (by omega) (fun h1 => ?_) (fun h => by simp at h <;> omega)
    · exact ih  (q + 1) sF (by omega)   (by rw [hF] <;> simp only [iter, gnum_f, if_true, Bool.false_eq_true, if_false])
set_option maxRecDepth 100000 in
theorem gnum_spec   : ACalls Try.prog 15 [] ([] : Heap) ((AV.bool true), ([] : Heap)) := by
  have l1 := longG_len
  refine spec (fn := Try.f15) (ann := gnum_ann) (t := (.reg [] [] [] (.reg [] [] [] (.loop (.exit 0) (mkF 68 [(1, (AV.int .i64 ((60 : Nat) : Int)))]) ([] : Heap) (.reg [] [] [] (.reg [] [] [] (.loop (.exit 4) (mkF 68 [(5, (AV.osl 0 67 9 0 67)), (6, (AV.int .i64 ((67 : Nat) : Int)))]) ([⟨67, 9, (List.map Card.row longG), none⟩] : Heap) (.reg [(2, ((AV.sl .any 9 (List.map Card.row (longG.drop 1))), ([⟨(67 + 1), 9, [], none⟩] : Heap))), (4, ((AV.ref (Card.row (nth longG 3)) 0), ([⟨(67 + 1), 9, [], none⟩] : Heap))), (8, ((AV.bool true), ([⟨(67 + 1), 9, [], none⟩] : Heap))), (10, ((AV.bool true), ([⟨(67 + 1), 9, [], none⟩] : Heap)))] [(5, (List.map Card.row longG))] [] (.two .nil .nil))))))))) (Nat.le_of_ble_eq_true (by kernel_rfl)) ⟨Try.func15, by kernel_rfl, by kernel_rfl, by kernel_rfl⟩ ?_
  refine Eq.mp (by kernel_rfl : ((LoopTo (codeQ Try.prog (X gnum_ann) (loopOf Try.f15 0)) (some [1]) (some [1]) (mkF 68 [(1, (AV.int .i64 0))]) ([] : Heap) (.exit 0) (mkF 68 [(1, (AV.int .i64 ((60 : Nat) : Int)))]) ([] : Heap)) ∧ (LoopTo (codeQ Try.prog (X gnum_ann) (loopOf Try.f15 2)) (some [5, 6]) (some [5, 6]) (mkF 68 [(5, (AV.osl 0 0 9 0 0)), (6, (AV.int .i64 0))]) ([⟨0, 9, (List.map Card.row []), none⟩] : Heap) (.exit 4) (mkF 68 [(5, (AV.osl 0 67 9 0 67)), (6, (AV.int .i64 ((67 : Nat) : Int)))]) ([⟨67, 9, (List.map Card.row longG), none⟩] : Heap)) ∧ (rowsIn ([⟨67, 9, (List.map Card.row longG), none⟩] : Heap) 9 (AV.osl 0 67 9 0 67) = some (List.map Card.row longG) ∧ AV.bddss 0 (List.map Card.row longG) = true) ∧ (Option.map (fun a => (a, ([⟨(67 + 1), 9, [], none⟩] : Heap))) (if 9 = 9 ∨ ((List.map Card.row longG)).isEmpty = true then (bounds 1 ((List.length (List.map Card.row longG) : Nat) : Int) (List.length (List.map Card.row longG))).map fun p => AV.sl .any 9 ((List.take p.2 (List.map Card.row longG)).drop p.1) else none) = some ((AV.sl .any 9 (List.map Card.row (longG.drop 1))), ([⟨(67 + 1), 9, [], none⟩] : Heap))) ∧ (IdxSl 9 9 (List.map Card.row longG) 3 ([⟨(67 + 1), 9, [], none⟩] : Heap) (Card.row (nth longG 3))) ∧ (ACalls Try.prog 50 [(AV.sl .any 9 (List.map Card.row longG)), (AV.sl .any 9 (List.map Card.row (longG.drop 1))), (AV.sl .clip 2 [(Key.row (nth longG 3).key)])] ([⟨(67 + 1), 9, [], none⟩] : Heap) ((AV.bool true), ([⟨(67 + 1), 9, [], none⟩] : Heap))) ∧ (ACalls Try.prog 52 [] ([⟨(67 + 1), 9, [], none⟩] : Heap) ((AV.bool true), ([⟨(67 + 1), 9, [], none⟩] : Heap))) ∧ (AV.bdd 0 (AV.bool true) = true ∧ obsB 0 ([] : Heap) = true) ∧ ((AV.bool true), ([] : Heap)) = ((AV.bool true), ([] : Heap))) = _) ?_
  refine And.intro ((gnum_loop 60 0 () (by omega) rfl)) ?_
  refine And.intro ((gnum14_loop 67 [] 0 0 0 (longG, 67, 67) (by omega) rfl (by omega) longG_iter)) ?_
  refine And.intro (And.intro (rowsIn_all (room := none) (by kernel_rfl) (by first | omega | (simp [longG_len]; done) | (simp [longG_len]; omega))) (Card.rows_bdd _ _)) ?_
  refine And.intro (slice_sl (l := 1) (h := (List.length longG)) (by first | omega | (simp; done) | (simp; omega)) (by first | omega | (simp; done) | (simp; omega)) (by first | omega | (simp; done) | (simp; omega)) (by first | omega | (simp; done) | (simp; omega)) (by simp [List.map_take, List.map_drop, List.take_of_length_le])) ?_
  refine And.intro (IdxSl.mk _ (by omega) (by omega)) ?_
  refine And.intro ((same18_at longG (longG.drop 1) [(nth longG 3).key] (by first | omega | assumption | (simp; done) | (simp; omega) | (simp_all; done) | (simp_all; omega)) (by first | omega | assumption | (simp; done) | (simp; omega) | (simp_all; done) | (simp_all; omega)) (by first | omega | assumption | (simp; done) | (simp; omega) | (simp_all; done) | (simp_all; omega)) ([⟨(67 + 1), 9, [], none⟩] : Heap)).pre ⟨⟨rfl, rfl, .inl rfl⟩, ⟨rfl, rfl, .inl rfl⟩, ⟨rfl, rfl, .inl rfl⟩, trivial⟩) ?_
  refine And.intro (known18_at   ([⟨(67 + 1), 9, [], none⟩] : Heap)) ?_
  refine And.intro (by first | (simp [obsB, AV.bddss, AV.bdds, AV.bdd]; done) | (simp [obsB, AV.bddss, AV.bdds, AV.bdd, -List.map_append]; done) | simp [obsB, AV.bddss, AV.bdds, AV.bdd, -List.map_append, -List.map_set, -List.map_take, -List.map_drop, -List.map_cons, -List.map_map]) ?_
  rfl
end Go.Proofs.Ytpkgpldgoajphaa.AM

set_option linter.unusedVariables false
set_option linter.unusedSimpArgs false
namespace Go.Proofs.Ytpkgpldgoajphaa.AM
open Go Go.RowKit

theorem Ev.below {G G' : Nat → Prop} {w w' : World} {C' : Cx} (h : Ev G w Cx.none G' w' C') : Below w.heap.size w w' :=
  ⟨h.os, h.tape, h.output, h.size, fun b hb => h.rest b hb fun id l hl => by simp [Cx.none] at hl⟩
/-- A slice of whole numbers, as it is read. -/
def IsInts (w : World) (a : Option Addr) (len cap : Nat) (zs : List Int) : Prop :=
  (a = none ∧ len = 0 ∧ cap = 0 ∧ zs = []) ∨ ∃ x, a = some x ∧ len ≤ cap ∧ cap ≤ maxLen ∧ zs.length = cap ∧ ∀ i, i < zs.length → w.cell? (x.add i) = some (.int .i64 (zs.getD i 0))
theorem cell?_lt {w : World} {a : Addr} {v : Value} (h : w.cell? a = some v) : a.block < w.heap.size := by
  unfold World.cell? at h
  rcases Nat.lt_or_ge a.block w.heap.size with h' | h'
  · exact h'
  · rw [Array.getElem?_eq_none (by omega)] at h; simp at h
theorem cell?_plain {w : World} {a : Addr} {v : Value} (h : w.cell? a = some v) : a.spot = none := by
  unfold World.cell? at h
  split at h
  · split at h
    · simp at h
    · rename_i hs; simpa using hs
  · simp at h
theorem IsInts.rel {w : World} {a : Option Addr} {len cap : Nat} {zs : List Int} (h : IsInts w a len cap zs) : VR (fun b => b < w.heap.size) w Cx.none (.sl .any 1 ((zs.take len).map rI64)) (.slice a len cap) ∧ (zs.take len).length < 9223372036854775808 := by
  rcases h with ⟨rfl, rfl, rfl, rfl⟩ | ⟨x, rfl, hl, hm, hz, hc⟩
  · exact ⟨.nils _ _ _ (by simp), by simp⟩
  · have hm' : cap ≤ 9223372036854775807 := by simpa [maxLen] using hm
    have hlen : ((zs.take len).map rI64).length = len := by simp; omega
    refine ⟨?_, by simp; omega⟩
    have key := VR.sl (G := fun b => b < w.heap.size) (w := w) Cx.none .any ((zs.take len).map rI64) 1 x cap (by simp) (by simp) (by omega) (fun hne => ?_) (fun i _ => .int .i64 (zs.getD i 0)) (fun i hi => ?_) (fun i j hi hj => ?_) (fun _ _ _ _ => rfl) fun i j hi hj => ?_
    · rwa [hlen] at key
    · have h0 : 0 < zs.length := by
        rcases Nat.eq_zero_or_pos zs.length with h | h
        · have : zs = [] := List.eq_nil_of_length_eq_zero h
          subst this; simp at hne
        · exact h
      have := hc 0 h0
      simp only [Addr.add, if_true] at this
      exact ⟨cell?_plain this, cell?_lt this⟩
    · have : ((zs.take len).map rI64)[i]? = some (rI64 ((zs.take len)[i]'(by rw [hlen] at hi; simp; omega))) := by
        rw [List.getElem?_map, List.getElem?_eq_getElem (by rw [hlen] at hi; simp; omega)]; rfl
      rw [List.getD_eq_getElem?_getD, this]; rfl
    · obtain rfl : j = 0 := by omega
      have h0 : 0 < zs.length := by omega
      have hsp := cell?_plain (hc 0 h0)
      simp only [Addr.add, if_true] at hsp
      have := hc i (by omega)
      obtain ⟨xb, xo, xs⟩ := x
      simp only at hsp
      subst hsp
      rw [add_addr] at this
      simpa using this
    · obtain rfl : j = 0 := by omega
      have hi' : i < zs.length := by omega
      have : ((zs.take len).map rI64).getD i [] = [.int .i64 (zs.getD i 0)] := by
        simp [List.getD_eq_getElem?_getD, List.getElem?_take, show i < len by omega, hi', rI64]
      rw [this]
      exact .int ..
/-- A call over no objects that answers true. -/
theorem ACalls.yes {P : Program} {f : FuncId} {fn : Func} (hf : Has P f fn) {args : List AV} {H' : Heap} (h : ACalls P f args [] (.bool true, H')) {vs : Array Value} {w : World} (hsz : vs.size = args.length)
    (hargs : ∀ i, i < args.length → VR (fun b => b < w.heap.size) w Cx.none (args.getD i .skip) (vs.getD i undef)) :
    Calls P f vs w fun e w' => e = .returned (.bool true) ∧ Below w.heap.size w w' :=
  Calls.mono (h.calls hf hsz hargs (fun b hb => hb)) fun e w' ⟨v, G', C', he, h1, h2⟩ => by
    cases h2
    exact ⟨he, h1.below⟩
end Go.Proofs.Ytpkgpldgoajphaa.AM
