/-
  Texts of this claim, part 4 of 7: an abstract machine over the model; what functions come to; plain laws.
-/
import Derived.Test.YtcmfnfkahdconaaMFeedNumbers3
import Derived.Laws.Externs
set_option linter.unusedVariables false
set_option linter.unusedSimpArgs false
namespace Go.Proofs.Ytcmfnfkahdconaa.AM
open Go
theorem ssem_sliceR {P : Program} {F : Fr} {H : Heap} {dst : Option Tmp} {x y : Operand} {lo : Option Operand} {t e0 : TypeId} {type : TypeId} {pos : String} {after : Array Edge} {guard : Option (Nat × Bool)} {id g k e n l h : Nat} {els : List (List AV)} {room : Option Nat}
    (ht : P.underlying t = some (.slice e0)) (hk : ∀ w : World, (Go.sizeOf e0).run P w = .ok k w) (hx : opv F x = some (.osl id g k e n)) (ho : H[id]? = some ⟨g, k, els, room⟩)
    (hlo : optInt F lo 0 = some (l : Int)) (hhi : optInt F (some y) 0 = some (h : Int)) (h1 : l ≤ h) (h2 : e + h ≤ els.length) :
    SSem P F H ⟨dst, .slice t x lo (some y) none, type, pos, after, guard⟩ (.osl id g k (e + l) (h - l), H) := by
  intro G w C f hf hH
  have hv := hf x (by simp [Op.operands]) _ hx
  have hgen : g = C.γ id := hH.gen id _ ho
  have hl := optInt_f (G := G) (w := w) (C := C) (f := f) hlo fun z hz a ha => hf z (by simp [Op.operands, hz]) a ha
  have hh := optInt_f (G := G) (w := w) (C := C) (f := f) hhi fun z hz a ha => hf z (by simp [Op.operands]; simp at hz; simp [hz]) a ha
  have hb : ∀ len cap : Nat, h ≤ cap → (Instr.sliceBounds true len cap (lo.map f) (some (f y)) none).run P w = .ok (l, h, cap) w := by
    intro len cap hc
    rcases hh with ⟨hh, _⟩ | ⟨z, kz, hz, hfz⟩
    · simp at hh
    · simp only [Option.some.injEq] at hz
      subst hz
      rcases hl with ⟨rfl, h0⟩ | ⟨z, kz', rfl, hz⟩
      · have : l = 0 := by omega
        subst this
        simp [Instr.sliceBounds, hfz, run_sliceBound, hc]
      · simp [Instr.sliceBounds, hz, hfz, run_sliceBound, hc, h1]
  generalize hu : f x = u at hv
  cases hv with
  | osl _ _ _ _ _ _ ad cap hnc hle hl' =>
    obtain ⟨L, b, hι, hLb, hLk, hen, hcap, had⟩ := hl' hgen
    have hrm := (hH.ob id _ L ho hι).len
    simp only at hrm
    have hr : (Instr.sliceAt t (f x) (lo.map f) (some (f y)) none).run P w = .ok (.slice (if cap = l then some ad else (some ad).map (·.add (l * k))) (h - l) (cap - l)) w := by
      rw [hu]
      simp only [Instr.sliceAt, Instr.slice, Sem.run_bind, run_underlying ht, Result.andThen_ok]
      rw [hb n cap (by omega)]
      simp only [Result.andThen_ok, hk w, Sem.run_pure, Sem.run_bind]
    refine ⟨.slice (if cap = l then some ad else (some ad).map (·.add (l * k))) (h - l) (cap - l), w, ?_, G, C, Ev.refl .., hH, ?_, Pd.refl⟩
    · simp only [execOp, Option.map_some, Option.map_none, Sem.run_bind, hr, Result.andThen_ok, Sem.run_pure]
    · have hif : (if cap = l then some ad else (some ad).map (·.add (l * k))) = some (if cap = l then ad else ad.add (l * k)) := by split <;> rfl
      rw [hif]
      refine .osl _ _ _ _ _ _ _ _ (by omega) hle fun hg => ?_
      refine ⟨L, b, hι, hLb, hLk, by omega, by omega, fun hlt => ?_⟩
      rw [if_neg (by omega), had (by omega), add_addr, Nat.add_assoc, ← Nat.add_mul]
  | osl0 _ _ _ _ _ base hle hl' =>
    obtain ⟨L, hι, hLb, hLk⟩ := hl' hgen
    have hob := hH.ob id _ L ho hι
    have h4 := hob.no hLb
    have h5 := hob.len
    simp only at h5
    have hl0 : l = 0 := by omega
    have hh0 : h = 0 := by omega
    have hr : (Instr.sliceAt t (f x) (lo.map f) (some (f y)) none).run P w = .ok (.slice base 0 0) w := by
      rw [hu]
      simp only [Instr.sliceAt, Instr.slice, Sem.run_bind, run_underlying ht, Result.andThen_ok]
      rw [hb 0 0 (by omega)]
      simp [hk w, hl0, hh0]
    subst hl0; subst hh0
    refine ⟨.slice base 0 0, w, ?_, G, C, Ev.refl .., hH, .osl0 _ _ _ _ _ base hle hl', Pd.refl⟩
    simp only [execOp, Option.map_some, Option.map_none, Sem.run_bind, hr, Result.andThen_ok, Sem.run_pure]
theorem ssem_copyN {P : Program} {F : Fr} {H : Heap} {dst : Option Tmp} {x y : Operand} {t t' e0 : TypeId} {type : TypeId} {pos : String} {after : Array Edge} {guard : Option (Nat × Bool)} {id g k e n id2 g2 e2 n2 : Nat} {els els2 : List (List AV)} {room room2 : Option Nat}
    (ht : P.underlying t = some (.slice e0)) (hk : ∀ w : World, (Go.sizeOf e0).run P w = .ok k w) (hx : opv F x = some (.osl id g k e n)) (ho : H[id]? = some ⟨g, k, els, room⟩) (hy : opv F y = some (.osl id2 g2 k e2 n2)) (ho2 : H[id2]? = some ⟨g2, k, els2, room2⟩)
    (h0 : 0 < n) (hn : n ≤ n2) (he : e ≤ els.length) (he2 : e2 + n ≤ els2.length) :
    SSem P F H ⟨dst, .call { callee := .builtin .copy, args := #[x, y], argTypes := #[t, t'] }, type, pos, after, guard⟩ (.int .i64 (n : Int), H.set id ⟨g, k, els.take e ++ (els2.drop e2).take n ++ els.drop (e + n), room⟩) := by
  intro G w C f hf hH
  have hv := hf x (by simp [Op.operands, Call.operands]) _ hx
  have hvs := hf y (by simp [Op.operands, Call.operands]) _ hy
  have hgen : g = C.γ id := hH.gen id _ ho
  have hgen2 : g2 = C.γ id2 := hH.gen id2 _ ho2
  have hnl : ((els2.drop e2).take n).length = n := by simp; omega
  generalize hu2 : f y = u2 at hvs
  cases hvs with
  | osl0 => omega
  | osl _ _ _ _ _ _ ad2 cap2 hnc2 hle2 hl2 =>
  have hvs' : VR G w C (.osl id2 g2 k e2 n) (.slice (some ad2) n cap2) := .osl _ _ _ _ _ _ _ _ (by omega) hle2 fun hg => by
    obtain ⟨l, b, q1, q2, q3, q4, q5⟩ := hl2 hg
    exact ⟨l, b, q1, q2, q3, by omega, q5⟩
  obtain ⟨nv, hsrc⟩ := rowsIn_src (P := P) (k := k) (xs := (els2.drop e2).take n) hH hvs' (by simp [rowsIn, ho2, he2])
  generalize hu : f x = u at hv
  cases hv with
  | osl0 => omega
  | osl _ _ _ _ _ _ ad cap hnc hle h =>
    obtain ⟨l, bb, hι, hlb, hlk, hen, hcap, had⟩ := h hgen
    have had' := had (by omega)
    subst had'
    have hob := hH.ob id _ l ho hι
    obtain ⟨cur, et, hcur, hcsz, _⟩ := hob.cells bb hlb
    obtain ⟨h1, h2⟩ := place_sound hH ho hι hlb hlk hsrc.length hsrc.row hsrc.rel he (by omega) hcur
    rw [hnl] at h2
    have hm : (e + n) * l.k ≤ l.room * l.k := Nat.mul_le_mul_right _ (by omega)
    rw [Nat.add_mul] at hm
    have hnvl : nv.length = n * l.k := by rw [hsrc.length, hlk, hnl]
    have hst := run_storeCells_at P bb (l.sh + e * k) et nv 0 cur w hcur (by rw [← hlk]; simp; omega) hsrc.oneCell
    simp only [Nat.add_zero] at hst
    have hmin : Nat.min n2 n = n := Nat.min_eq_right hn
    have hfc : (Builtin.firstCells k n (.slice (some ad2) n2 cap2)).run P w = .ok nv.toArray w := by
      have := hsrc.cells w rfl
      rw [hnl] at this
      exact this
    have hr : (Builtin.copy_ #[t, t'] type #[f x, f y]).run P w = .ok (.int .i64 (n : Int)) (w.setRow bb (cur.toList.take (l.sh + e * l.k) ++ nv ++ cur.toList.drop (l.sh + e * l.k + nv.length)).toArray) := by
      rw [hu, hu2, hlk]
      simp [Builtin.copy_, run_underlying ht, Builtin.lenOf, hmin, hk w, hfc, hst, goInt]
    refine ⟨_, _, ?_, G, C, h1, h2, .int .., ?_⟩
    · simp [execOp, resolve, invoke, builtin, hr]
    · refine ⟨by simp, fun j hj _ hιj => ⟨hιj, rfl, ?_⟩⟩
      have hne : id ≠ j := fun e' => by subst e'; rw [hι] at hιj; simp at hιj
      exact List.getElem?_set_ne hne
theorem run_overlaps_b {P : Program} (w : World) (tS tR e : TypeId) (ht : P.underlying tS = some (.slice e)) (size : Nat) (hz : ∀ w, (Go.sizeOf e).run P w = .ok size w)
    (a b : Addr) (la ca lb cb : Nat) (hne : a.block ≠ b.block) (tA tB : TypeId) (kA kB : Nat)
    (hsa : w.shape? a.block = some (tA, kA)) (hsb : w.shape? b.block = some (tB, kB)) (hkB : kB ≠ 0) (hkA : kA ≠ 0)
    (hfb : w.frozen? b = false) (hfe : w.frozen? { block := b.block, off := kB } = false) :
    (Extern.SlicesOverlaps.overlaps #[tS, tS] #[tR] #[.slice (some a) la ca, .slice (some b) lb cb]).run P w = .ok (.bool false) w := by
  have hnb : (a.block != b.block) = true := by simpa using hne
  have hnb' : (a.block == b.block) = false := by simpa using hne
  change Sem.run P (α := Value) (do
    let some t := (#[tS, tS] : Array TypeId)[0]? | stuck "slices.overlaps: no parameter types"
    let .slice elem ← underlying t | stuck "slices.overlaps: slice type expected"
    let size ← Go.sizeOf elem
    match (some a : Option Addr), (some b : Option Addr) with
    | some a, some b =>
      if la = 0 ∨ lb = 0 ∨ size = 0 then pure (Value.bool false)
      else if a.block != b.block && (← frozen a) && (← frozen b) then unsupported .addressObserved
      else do
        if a.block != b.block then do
          noView a; noView b
          if ← mayBeOne a b then return Value.bool ((← choose (.extern "sameAddr.stringBytes" 2)) == 1)
        pure (Value.bool (a.block == b.block && a.off < b.off + lb * size && b.off < a.off + la * size))
    | _, _ => pure (Value.bool false)) w = _
  by_cases h0 : la = 0 ∨ lb = 0 ∨ size = 0
  · simp [run_underlying ht, hz, h0]
  · cases kB with
    | zero => exact absurd rfl hkB
    | succ kB =>
      cases kA with
      | zero => exact absurd rfl hkA
      | succ kA =>
      cases hfa : w.frozen? a <;> cases hfa2 : w.frozen? { block := a.block, off := kA + 1 } <;>
      simp [run_underlying ht, hz, h0, hnb, hnb', frozen, noView, viewAt, mayBeOne, stringish, shape, Sem.run, hsa, hsb, hfb, hfe, hfa, hfa2]
theorem acalls_overlaps {P : Program} {f : FuncId} {tS tR e0 : TypeId} {k : Nat} (hc : ∀ vs w, (callFunc f vs).run P w = ((Extern.SlicesOverlaps.overlaps #[tS, tS] #[tR] vs).run P w).andThen fun v w' => .ok (.value v) w')
    (ht : P.underlying tS = some (.slice e0)) (hk : ∀ w : World, (Go.sizeOf e0).run P w = .ok k w) (hk0 : 0 < k) {tg : Tg} {rows : List (List AV)} {id g e n : Nat} {H : Heap} {o : Ob} (ho : H[id]? = some o) (hg : o.gen = g) :
    ACalls P f [.sl tg k rows, .osl id g k e n] H (.bool false, H) := by
  intro G w C vs hsz hargs hH
  have h0 := hargs 0 (by simp)
  have h1 := hargs 1 (by simp)
  have hvs : vs = #[vs.getD 0 undef, vs.getD 1 undef] := by
    have hs2 : vs.size = 2 := by simpa using hsz
    apply Array.ext
    · simp [hs2]
    · intro i hi1 hi2
      rcases i with _ | _ | i
      · simp [Array.getD_eq_getD_getElem?, hs2]
      · simp [Array.getD_eq_getD_getElem?, hs2]
      · omega
  simp only [List.getD_cons_zero, List.getD_cons_succ] at h0 h1
  generalize vs.getD 0 undef = v0 at h0 hvs
  generalize vs.getD 1 undef = v1 at h1 hvs
  subst hvs
  have hdone : (Extern.SlicesOverlaps.overlaps #[tS, tS] #[tR] #[v0, v1]).run P w = .ok (.bool false) w → FCalls P f #[v0, v1] w (After G w C H (.bool false, H)) := fun hr => by
    unfold FCalls
    have := hc #[v0, v1] w
    rw [this]
    rw [hr, Result.andThen_ok]
    exact ⟨G, C, Ev.refl .., hH, .bool .., Pd.refl⟩
  apply hdone
  have hgen : g = C.γ id := by rw [← hg]; exact hH.gen id o ho
  have hsome : ∀ (a : Option Addr) la ca (b : Option Addr) lb cb, (a = none ∨ b = none ∨ la = 0 ∨ lb = 0) → (Extern.SlicesOverlaps.overlaps #[tS, tS] #[tR] #[.slice a la ca, .slice b lb cb]).run P w = .ok (.bool false) w := by
    intro a la ca b lb cb h
    change Sem.run P (α := Value) (do
      let some t := (#[tS, tS] : Array TypeId)[0]? | stuck "slices.overlaps: no parameter types"
      let .slice elem ← underlying t | stuck "slices.overlaps: slice type expected"
      let size ← Go.sizeOf elem
      match (a : Option Addr), (b : Option Addr) with
      | some a, some b =>
        if la = 0 ∨ lb = 0 ∨ size = 0 then pure (Value.bool false)
        else if a.block != b.block && (← frozen a) && (← frozen b) then unsupported .addressObserved
        else do
          if a.block != b.block then do
            noView a; noView b
            if ← mayBeOne a b then return Value.bool ((← choose (.extern "sameAddr.stringBytes" 2)) == 1)
          pure (Value.bool (a.block == b.block && a.off < b.off + lb * size && b.off < a.off + la * size))
      | _, _ => pure (Value.bool false)) w = _
    cases a <;> cases b <;> simp [run_underlying ht, hk w]
    intro h1 h2 h3
    rcases h with h | h | h | h
    · simp at h
    · simp at h
    · exact absurd h h1
    · exact absurd h h2
  generalize hu0 : v0 = u0 at h0
  cases h0 with
  | nils => 
    cases h1 with
    | osl => subst hu0; exact hsome _ _ _ _ _ _ (.inl rfl)
    | osl0 => subst hu0; exact hsome _ _ _ _ _ _ (.inl rfl)
  | sl _ _ _ _ ad cap htg hclip hle hs cv hkl hcl h1' hv =>
    subst hu0
    cases h1 with
    | osl0 => exact hsome _ _ _ _ _ _ (.inr (.inr (.inr rfl)))
    | osl _ _ _ _ _ _ ad2 cap2 hnc hle2 hl2 =>
      by_cases hr0 : rows.length = 0
      · exact hsome _ _ _ _ _ _ (.inr (.inr (.inl hr0)))
      by_cases hn0 : n = 0
      · exact hsome _ _ _ _ _ _ (.inr (.inr (.inr hn0)))
      obtain ⟨l, b, hι, hlb, hlk, hen, hcap, had⟩ := hl2 hgen
      have had' := had (by omega)
      have hne : rows ≠ [] := fun e => by simp [e] at hr0
      obtain ⟨hsp, hG⟩ := hs hne
      have hcell := hcl 0 0 (by omega) hk0
      obtain ⟨cs, et, hcs, hcsz, _⟩ := (hH.ob id o l ho hι).cells b hlb
      have hbG := (hH.own id l b hι hlb).2
      have hm : (e + n) * l.k ≤ l.room * l.k := Nat.mul_le_mul_right _ hen
      have hm2 : 1 * l.k ≤ (e + n) * l.k := Nat.mul_le_mul_right _ (by omega)
      have hsa : ∃ tA kA, w.shape? ad.block = some (tA, kA) ∧ kA ≠ 0 := by
        unfold World.cell? at hcell
        unfold World.shape?
        split at hcell
        · rename_i c t fr hw
          refine ⟨t, c.size, by simp only at hw; rw [hw], fun e0 => ?_⟩
          have : c = #[] := Array.eq_empty_of_size_eq_zero e0
          simp [this] at hcell
        · simp at hcell
      obtain ⟨tA, kA, hsa, hkA⟩ := hsa
      have hb2 : ad2.block = b := by rw [had']
      refine run_overlaps_b w tS tR e0 ht k hk ad ad2 _ _ _ _ (fun e' => ?_) tA et kA cs.size hsa (by rw [hb2]; simp [World.shape?, hcs]) (by omega) hkA (by simp [World.frozen?, hb2, hcs]) (by simp [World.frozen?, hb2, hcs])
      rw [hb2] at e'
      exact hbG (e' ▸ hG)
end Go.Proofs.Ytcmfnfkahdconaa.AM

set_option linter.unusedVariables false
set_option linter.unusedSimpArgs false
namespace Go.Proofs.Ytcmfnfkahdconaa.AM
open Go
def regsOf : Code → Nat → Option (Array Oper)
  | .region id ops _, r => bif Nat.beq id r then some ops else none
  | .seq a b, r => match regsOf a r with
    | some x => some x
    | none => regsOf b r
  | .cond _ a b, r => match regsOf a r with
    | some x => some x
    | none => regsOf b r
  | .block _ c, r => regsOf c r
  | .loop c, r => regsOf c r
  | _, _ => none
def opIn (fn : Func) (r i : Nat) : Oper := match (fn.body.bind (regsOf · r)).bind (·[i]?) with
  | some o => o
  | none => ⟨none, .move (.tmp 0), 0, "", #[], none⟩
def argO (o : Oper) (i : Nat) : Operand := match o.op with
  | .call c => c.args.getD i (.tmp 0)
  | .slice _ x _ _ _ => x
  | _ => .tmp 0
def loO (o : Oper) : Option Operand := match o.op with
  | .slice _ _ lo _ _ => lo
  | _ => none
def hiO (o : Oper) : Operand := match o.op with
  | .slice _ _ _ (some hi) _ => hi
  | _ => .tmp 0
def mxO (o : Oper) : Operand := match o.op with
  | .slice _ _ _ _ (some m) => m
  | _ => .tmp 0
section
variable {P : Program} {X : Env} {F : Fr} {H H2 : Heap} {ar : Nat} {o : Oper} {a : AV}
theorem Sat.sem (hs : isSem X o = true) (h : SSem P F H o (a, H2)) : Sat P X F H ar o a H2 := by
  unfold Sat
  rw [hs]
  exact .inl h
theorem tok_slice {T : TT} (hT : TOk P T) {t e : TypeId} {ti : TI} (ht : T t = some ti) (hd : ti.d = .slice e) : P.underlying t = some (.slice e) := by
  have := (hT t ti ht).und
  rw [hd] at this
  exact this
theorem tok_int {T : TT} (hT : TOk P T) {t : TypeId} {ti : TI} {k : IntKind} (ht : T t = some ti) (hd : ti.d = .int k) : P.underlying t = some (.int k) := by
  have := (hT t ti ht).und
  rw [hd] at this
  exact this
theorem one_of_scalar {v : Value} {a : AV} (h : ofScalar v = some a) : v.oneCell' = true := by
  unfold ofScalar at h
  split at h <;> first | rfl | simp at h
theorem one_of_scalars : ∀ {vs : List Value} {as_ : List AV}, ofScalars vs = some as_ → ∀ v ∈ vs, v.oneCell' = true
  | [], _, _, v, hv => by simp at hv
  | x :: xs, as_, h, v, hv => by
    simp only [ofScalars] at h
    split at h
    · rename_i a l h1 h2
      simp only [List.mem_cons] at hv
      rcases hv with rfl | hv
      · exact one_of_scalar h1
      · exact one_of_scalars h2 v hv
    · simp at h
theorem scalars_len : ∀ {vs : List Value} {as_ : List AV}, ofScalars vs = some as_ → vs.length = as_.length
  | [], as_, h => by simp [ofScalars] at h; subst h; rfl
  | x :: xs, as_, h => by
    simp only [ofScalars] at h
    split at h
    · rename_i a l h1 h2
      simp only [Option.some.injEq] at h
      subst h
      simp [scalars_len h2]
    · simp at h
theorem sat_copy (hT : TOk P X.T) {t t' e0 : TypeId} {ti te : TI} (hop : o.op = .call { callee := .builtin .copy, args := #[argO o 0, argO o 1], argTypes := #[t, t'] }) (hsem : isSem X o = true) (ht : X.T t = some ti) (htd : ti.d = .slice e0) (hte : X.T e0 = some te)
    {id g k e n : Nat} {els new els' : List (List AV)} {room : Option Nat} {s : AV} {c : Int} (hk : te.size = k) (hx : opv F (argO o 0) = some (.osl id g k e n)) (ho : H[id]? = some ⟨g, k, els, room⟩) (hy : opv F (argO o 1) = some s) (hs : rowsIn H k s = some new)
    (h0 : 0 < new.length) (hn : new.length ≤ n) (he : e ≤ els.length) (hels : els.take e ++ new ++ els.drop (e + new.length) = els') (hc : c = (new.length : Int)) (hH : H.set id ⟨g, k, els', room⟩ = H2) : Sat P X F H ar o (.int .i64 c) H2 := by
  refine Sat.sem hsem ?_
  subst hH hels hc hk
  obtain ⟨dst, op, type, pos, after, guard⟩ := o
  simp only at hop
  generalize argO _ 0 = x at hop hx
  generalize argO _ 1 = y at hop hy
  subst hop
  exact ssem_copy (tok_slice hT ht htd) (fun w => (hT _ _ hte).sizeOf w) hx ho hy hs h0 hn he
theorem sat_copyN (hT : TOk P X.T) {t t' e0 : TypeId} {ti te : TI} (hop : o.op = .call { callee := .builtin .copy, args := #[argO o 0, argO o 1], argTypes := #[t, t'] }) (hsem : isSem X o = true) (ht : X.T t = some ti) (htd : ti.d = .slice e0) (hte : X.T e0 = some te)
    {id g k e n id2 g2 e2 n2 : Nat} {els els2 els' : List (List AV)} {room room2 : Option Nat} {c : Int} (hk : te.size = k) (hx : opv F (argO o 0) = some (.osl id g k e n)) (ho : H[id]? = some ⟨g, k, els, room⟩) (hy : opv F (argO o 1) = some (.osl id2 g2 k e2 n2)) (ho2 : H[id2]? = some ⟨g2, k, els2, room2⟩)
    (h0 : 0 < n) (hn : n ≤ n2) (he : e ≤ els.length) (he2 : e2 + n ≤ els2.length) (hels : els.take e ++ (els2.drop e2).take n ++ els.drop (e + n) = els') (hc : c = (n : Int)) (hH : H.set id ⟨g, k, els', room⟩ = H2) : Sat P X F H ar o (.int .i64 c) H2 := by
  refine Sat.sem hsem ?_
  subst hH hels hc hk
  obtain ⟨dst, op, type, pos, after, guard⟩ := o
  simp only at hop
  generalize argO _ 0 = x at hop hx
  generalize argO _ 1 = y at hop hy
  subst hop
  exact ssem_copyN (tok_slice hT ht htd) (fun w => (hT _ _ hte).sizeOf w) hx ho hy ho2 h0 hn he he2
theorem sat_cap (hT : TOk P X.T) {t e0 : TypeId} {ti : TI} (hop : o.op = .call { callee := .builtin .cap, args := #[argO o 0], argTypes := #[t] }) (hsem : isSem X o = true) (ht : X.T t = some ti) (htd : ti.d = .slice e0)
    {id g k e n r : Nat} {els : List (List AV)} {c : Int} (hx : opv F (argO o 0) = some (.osl id g k e n)) (ho : H[id]? = some ⟨g, k, els, some r⟩) (hc : c = ((r - e : Nat) : Int)) : Sat P X F H ar o (.int .i64 c) H := by
  refine Sat.sem hsem ?_
  subst hc
  obtain ⟨dst, op, type, pos, after, guard⟩ := o
  simp only at hop
  generalize argO _ 0 = x at hop hx
  subst hop
  exact ssem_cap (tok_slice hT ht htd) hx ho
theorem sat_clear (hT : TOk P X.T) {t e0 : TypeId} {ti te : TI} (hop : o.op = .call { callee := .builtin .clear, args := #[argO o 0], argTypes := #[t] }) (hsem : isSem X o = true) (ht : X.T t = some ti) (htd : ti.d = .slice e0) (hte : X.T e0 = some te)
    {id g k e n : Nat} {els els' : List (List AV)} {room : Option Nat} (hk : te.size = k) (hk0 : 0 < k) (hx : opv F (argO o 0) = some (.osl id g k e n)) (ho : H[id]? = some ⟨g, k, els, room⟩)
    (h0 : 0 < n) (he : e ≤ els.length) (hels : els.take e ++ List.replicate n (List.replicate k .unk) ++ els.drop (e + n) = els') (hH : H.set id ⟨g, k, els', room⟩ = H2) : Sat P X F H ar o .unk H2 := by
  refine Sat.sem hsem ?_
  subst hH hels hk
  obtain ⟨dst, op, type, pos, after, guard⟩ := o
  simp only at hop
  generalize argO _ 0 = x at hop hx
  subst hop
  obtain ⟨i, hi, hsz, hby, z, hz, hzs, hzl, hza⟩ := (hT _ _ hte).info
  refine ssem_clear (tok_slice hT ht htd) (z := z) (fun w => by simp [zeroValue, typeInfo, hi, hz]) (by have := scalars_len hzs; simp at this; omega) (one_of_scalars hzs) hk0 hx ho h0 he
theorem sat_slice (hT : TOk P X.T) {t e0 : TypeId} {ti te : TI} (hop : o.op = .slice t (argO o 0) (loO o) (some (hiO o)) none) (hsem : isSem X o = true) (ht : X.T t = some ti) (htd : ti.d = .slice e0) (hte : X.T e0 = some te)
    {id g k e n r l h e' n' : Nat} {els : List (List AV)} (hk : te.size = k) (hx : opv F (argO o 0) = some (.osl id g k e n)) (ho : H[id]? = some ⟨g, k, els, some r⟩) (hlo : optInt F (loO o) 0 = some (l : Int)) (hhi : optInt F (some (hiO o)) 0 = some (h : Int)) (h1 : l ≤ h) (h2 : e + h ≤ r) (he' : e' = e + l) (hn' : n' = h - l) :
    Sat P X F H ar o (.osl id g k e' n') H := by
  refine Sat.sem hsem ?_
  subst hk he' hn'
  obtain ⟨dst, op, type, pos, after, guard⟩ := o
  simp only at hop
  generalize argO _ 0 = x at hop hx
  generalize loO _ = lo at hop hlo
  generalize hiO _ = hi at hop hhi
  subst hop
  exact ssem_slice (tok_slice hT ht htd) (fun w => (hT _ _ hte).sizeOf w) hx ho hlo hhi h1 h2
theorem sat_sliceR (hT : TOk P X.T) {t e0 : TypeId} {ti te : TI} (hop : o.op = .slice t (argO o 0) (loO o) (some (hiO o)) none) (hsem : isSem X o = true) (ht : X.T t = some ti) (htd : ti.d = .slice e0) (hte : X.T e0 = some te)
    {id g k e n l h e' n' : Nat} {els : List (List AV)} {room : Option Nat} (hk : te.size = k) (hx : opv F (argO o 0) = some (.osl id g k e n)) (ho : H[id]? = some ⟨g, k, els, room⟩) (hlo : optInt F (loO o) 0 = some (l : Int)) (hhi : optInt F (some (hiO o)) 0 = some (h : Int)) (h1 : l ≤ h) (h2 : e + h ≤ els.length) (he' : e' = e + l) (hn' : n' = h - l) :
    Sat P X F H ar o (.osl id g k e' n') H := by
  refine Sat.sem hsem ?_
  subst hk he' hn'
  obtain ⟨dst, op, type, pos, after, guard⟩ := o
  simp only at hop
  generalize argO _ 0 = x at hop hx
  generalize loO _ = lo at hop hlo
  generalize hiO _ = hi at hop hhi
  subst hop
  exact ssem_sliceR (tok_slice hT ht htd) (fun w => (hT _ _ hte).sizeOf w) hx ho hlo hhi h1 h2
theorem sat_slice3 (hT : TOk P X.T) {t e0 : TypeId} {ti te : TI} (hop : o.op = .slice t (argO o 0) (loO o) (some (hiO o)) (some (mxO o))) (hsem : isSem X o = true) (ht : X.T t = some ti) (htd : ti.d = .slice e0) (hte : X.T e0 = some te)
    {id g k e n l h c : Nat} (hk : te.size = k) (hx : opv F (argO o 0) = some (.osl id g k e n)) (hlo : optInt F (loO o) 0 = some (l : Int)) (hhi : optInt F (some (hiO o)) 0 = some (h : Int)) (hmx : optInt F (some (mxO o)) 0 = some (c : Int)) (h1 : l ≤ h) (h2 : h ≤ c) (h3 : c ≤ n) :
    Sat P X F H ar o .unk H := by
  refine Sat.sem hsem ?_
  subst hk
  obtain ⟨dst, op, type, pos, after, guard⟩ := o
  simp only at hop
  generalize argO _ 0 = x at hop hx
  generalize loO _ = lo at hop hlo
  generalize hiO _ = hi at hop hhi
  generalize mxO _ = mx at hop hmx
  subst hop
  exact ssem_slice3 (tok_slice hT ht htd) (fun w => (hT _ _ hte).sizeOf w) hx hlo hhi hmx h1 h2 h3
theorem sat_make (hT : TOk P X.T) {t t' e0 : TypeId} {ti ti' te : TI} {kk kx : IntKind} (hop : o.op = .call { callee := .builtin .append, args := #[argO o 0, argO o 1], argTypes := #[t, t'] }) (hsem : isSem X o = true) (ht : X.T t = some ti) (htd : ti.d = .slice e0) (hte : X.T e0 = some te) (ht' : X.T t' = some ti') (htd' : ti'.d = .int kk)
    {id g k e n n' r c : Nat} {els ys els' : List (List AV)} (hk : te.size = k) (hx : opv F (argO o 0) = some (.osl id g k e n)) (ho : H[id]? = some ⟨g, k, els, some r⟩) (hrows : rowsIn H k (.osl id g k e n) = some ys) (hlen : ys.length = n) (hy : opv F (argO o 1) = some (.int kx (c : Int)))
    (hg : r - e < n + c) (hb : 0 < te.bytes) (hs : 0 < k) (hc : 0 < c) (hby : (n + c) * te.bytes ≤ 140737488355328) (hels : ys ++ List.replicate c (List.replicate k .unk) = els') (hn' : n' = n + c) (hH : H ++ [⟨0, k, els', none⟩] = H2) :
    Sat P X F H ar o (.osl H.length 0 k 0 n') H2 := by
  refine Sat.sem hsem ?_
  subst hk hels hH hn'
  obtain ⟨dst, op, type, pos, after, guard⟩ := o
  simp only at hop
  generalize argO _ 0 = x at hop hx
  generalize argO _ 1 = y at hop hy
  subst hop
  obtain ⟨i, hi, hsz, hbt, z, hz, hzs, hzl, hza⟩ := (hT _ _ hte).info
  rw [← hsz] at hx ho hrows hs ⊢
  rw [← hbt] at hb hby
  exact ssem_make (tok_slice hT ht htd) (tok_int hT ht' htd') hi hz (by have := scalars_len hzs; simp at this; omega) (one_of_scalars hzs) hx ho hrows hlen hy hg hb hs hc hby
end
theorem evAppend_over {T : TT} {H H2 : Heap} {t e0 : TypeId} {ti te : TI} {id g k i j m n' : Nat} {els els' : List (List AV)} (ht : T t = some ti) (htd : ti.d = .slice e0) (hte : T e0 = some te) (hk : te.size = k) (hk0 : 0 < k) (ho : H[id]? = some ⟨g, k, els, none⟩) (hij : i < j) (hj : j + m ≤ els.length)
    (hels : els.take i ++ (els.drop j).take m ++ els.drop (i + m) = els') (hn : n' = i + m) (hH : H.set id ⟨g, k, els', none⟩ = H2) : evAppend T H t (.osl id g k 0 i) (.osl id g k j m) = some (.osl id g k 0 n', H2) := by
  obtain ⟨d, sz, bt, z⟩ := ti
  simp only at htd
  subst htd hk hn hels hH
  have hlt : id < H.length := heap_lt ho
  have hnl : ((els.drop j).take m).length = m := by simp; omega
  unfold evAppend
  simp only [ht, hte, rowsIn, ho, true_and, if_pos hj]
  cases hnew : (els.drop j).take m with
  | nil =>
    simp only
    have hm : m = 0 := by rw [hnew] at hnl; simpa using hnl.symm
    subst hm
    have hs : H.set id ⟨g, te.size, els, none⟩ = H := by
      apply List.ext_getElem?
      intro q
      by_cases hq : id = q
      · subst hq; rw [List.getElem?_set_self hlt, ho]
      · rw [List.getElem?_set_ne hq]
    simp [hs]
  | cons x xs =>
    rw [hnew] at hnl
    have h1 : ¬ (0 + i = els.length) := by omega
    have h2 : 0 + i + (x :: xs).length ≤ els.length := by omega
    simp only [hk0, and_self, if_true, if_neg h1, if_pos h2, hnl, Nat.zero_add]
    simp only [Nat.zero_add] at h1 h2
    rw [hnl] at h2
    simp [h1, h2]
section
variable {α : Type} (row : α → List AV) (x : α) (u : List AV)
theorem ins1 (l : List α) {i c : Nat} (hi : i ≤ l.length) (hc : 0 < c) : ((l.take i).map row ++ List.replicate c u).take i ++ [row x] ++ ((l.take i).map row ++ List.replicate c u).drop (i + 1) = (l.take i ++ [x]).map row ++ List.replicate (c - 1) u := by
  have hl : ((l.take i).map row).length = i := by simp; omega
  rw [List.take_append_of_le_length (by omega), List.take_of_length_le (by omega), List.drop_append, hl, List.drop_of_length_le (by omega)]
  simp
theorem ins2 (l : List α) {i c : Nat} (hi : i ≤ l.length) (hc : c = l.length - i) : ((l.take i ++ [x]).map row ++ List.replicate c u).take (i + 1) ++ (l.drop i).map row ++ ((l.take i ++ [x]).map row ++ List.replicate c u).drop (i + 1 + ((l.drop i).map row).length) = (l.take i ++ x :: l.drop i).map row := by
  have hl : ((l.take i ++ [x]).map row).length = i + 1 := by simp; omega
  have h2 : ((l.take i ++ [x]).map row ++ List.replicate c u).drop (i + 1 + ((l.drop i).map row).length) = [] := List.drop_of_length_le (by rw [List.length_append, hl, List.length_replicate, List.length_map, List.length_drop]; omega)
  rw [h2, List.take_append_of_le_length (by omega), List.take_of_length_le (by omega)]
  simp
theorem ins3 (l : List α) {i : Nat} (hi : i < l.length) : (l.map row).take (i + 1) ++ ((l.map row).drop i).take (l.length - i) ++ (l.map row).drop (i + 1 + (l.length - i)) = (l.take (i + 1) ++ l.drop i).map row := by
  rw [List.take_of_length_le (l := (l.map row).drop i) (by simp), List.drop_of_length_le (i := i + 1 + (l.length - i)) (by simp; omega)]
  simp [List.map_take, List.map_drop]
theorem ins4 (l : List α) {i : Nat} (hi : i < l.length) : ((l.take (i + 1) ++ l.drop i).map row).take i ++ [row x] ++ ((l.take (i + 1) ++ l.drop i).map row).drop (i + 1) = (l.take i ++ x :: l.drop i).map row := by
  have hl : (l.take (i + 1)).length = i + 1 := by simp; omega
  rw [← List.map_take, ← List.map_drop, List.take_append_of_le_length (by omega), List.take_take, List.drop_append, hl, List.drop_of_length_le (by omega)]
  simp
theorem del1 (l : List α) {i : Nat} (hi : i < l.length) : (l.map row).take i ++ ((l.map row).drop (i + 1)).take (l.length - (i + 1)) ++ (l.map row).drop (i + (l.length - (i + 1))) = (l.take i ++ l.drop (i + 1) ++ l.drop (l.length - 1)).map row := by
  rw [List.take_of_length_le (l := (l.map row).drop (i + 1)) (by simp), show i + (l.length - (i + 1)) = l.length - 1 by omega]
  simp [List.map_take, List.map_drop]
theorem del2 (l : List α) {i : Nat} (hi : i < l.length) : ((l.take i ++ l.drop (i + 1) ++ l.drop (l.length - 1)).map row).take (l.length - 1) ++ List.replicate 1 u ++ ((l.take i ++ l.drop (i + 1) ++ l.drop (l.length - 1)).map row).drop (l.length - 1 + 1) = (l.take i ++ l.drop (i + 1)).map row ++ [u] := by
  have hl : ((l.take i ++ l.drop (i + 1)).map row).length = l.length - 1 := by simp; omega
  have h2 : ((l.take i ++ l.drop (i + 1) ++ l.drop (l.length - 1)).map row).drop (l.length - 1 + 1) = [] := List.drop_of_length_le (by rw [List.map_append, List.length_append, hl, List.length_map, List.length_drop]; omega)
  rw [h2, List.map_append, List.take_append_of_le_length (by omega), List.take_of_length_le (by omega)]
  simp [List.replicate]
end
end Go.Proofs.Ytcmfnfkahdconaa.AM

set_option linter.unusedVariables false
set_option linter.unusedSimpArgs false
namespace Go.Proofs.Ytcmfnfkahdconaa.AM
open Go
theorem ACalls.insert {P : Program} {f : FuncId} {α : Type} {row : α → List AV} {k : Nat} (hrow : ∀ (n : Nat) (l : List α), AV.bddss n (l.map row) = true) {l : List α} {x : α} {g i : Nat} (hi : i ≤ l.length)
    (hE : ACalls P f [.osl 0 g k 0 l.length, .int .i64 (l.length : Int), .sl .clip k [row x]] [⟨g, k, l.map row, none⟩] (.osl 0 (g + 1) k 0 (l.length + 1), [⟨g + 1, k, (l ++ [x]).map row, none⟩]))
    (hG : i < l.length → ∀ r, r < l.length + 1 → ACalls P f [.osl 0 g k 0 l.length, .int .i64 (i : Int), .sl .clip k [row x]] [⟨g, k, l.map row, some r⟩] (.osl 1 0 k 0 (l.length + 1), [⟨g, k, l.map row, some r⟩, ⟨0, k, (l.take i ++ x :: l.drop i).map row, none⟩]))
    (hR : i < l.length → ∀ r, l.length + 1 ≤ r → ACalls P f [.osl 0 g k 0 l.length, .int .i64 (i : Int), .sl .clip k [row x]] [⟨g, k, l.map row, some r⟩] (.osl 0 g k 0 (l.length + 1), [⟨g, k, (l.take i ++ x :: l.drop i).map row, some r⟩])) :
    ACalls P f [.osl 0 g k 0 l.length, .int .i64 (i : Int), .sl .clip k [row x]] [⟨g, k, l.map row, none⟩] (.osl 0 (g + 1) k 0 (l.length + 1), [⟨g + 1, k, (l.take i ++ x :: l.drop i).map row, none⟩]) := by
  by_cases hil : i = l.length
  · subst hil
    rw [List.take_length, List.drop_length]
    exact hE
  have hlt : i < l.length := by omega
  refine ACalls.room (id := 0) (i := 0) (g := g) (k := k) (e := 0) (n := l.length) (els := l.map row) rfl rfl fun r hr => ?_
  show ACalls P f _ [⟨g, k, l.map row, some r⟩] _
  have hlen : (l.take i ++ x :: l.drop i).length = l.length + 1 := by simp; omega
  rcases Nat.lt_or_ge r (l.length + 1) with h | h
  · have h1 := (hG hlt r h).ghost (i := 0) (id := 0) (g := g) (x := .osl 0 g k 0 l.length) (a' := .osl 0 (g + 1) k 0 (l.length + 1)) (H2 := [⟨g + 1, k, (l.take i ++ x :: l.drop i).map row, none⟩] ++ [⟨1, k, [], none⟩]) rfl (.inr ⟨_, _, _, rfl⟩) rfl rfl rfl rfl
      fun G w C v hH hv hl => steal_sound (id := 0) (j := 1) (g := g) (gj := 0) hH (by decide) rfl rfl rfl rfl hv hl
    refine h1.forget rfl rfl fun id o ho => .inr ?_
    cases id with
    | zero =>
      simp only [List.getElem?_cons_zero, Option.some.injEq] at ho
      subst ho
      exact hrow _ _
    | succ id => simp at ho
  · have h1 := (hR hlt r h).ghost0 (a' := .osl 0 (g + 1) k 0 (l.length + 1)) (H2 := [⟨g + 1, k, (l.take i ++ x :: l.drop i).map row, some r⟩]) fun G w C v hH hv => by
      obtain ⟨C', q⟩ := gen_sound hH hv (o := ⟨g, k, (l.take i ++ x :: l.drop i).map row, some r⟩) rfl rfl (Nat.le_succ g)
      exact ⟨G, C', q⟩
    have h2 := h1.shrink (m := l.length + 1) rfl
    have e : ((l.take i ++ x :: l.drop i).map row).take (l.length + 1) = (l.take i ++ x :: l.drop i).map row := List.take_of_length_le (by rw [List.length_map]; omega)
    rw [e] at h2
    exact h2
theorem ACalls.delete {P : Program} {f : FuncId} {args : List AV} {H : Heap} {g k n : Nat} {els els' : List (List AV)} (h : ACalls P f args H (.osl 0 g k 0 n, [⟨g, k, els, none⟩])) (he : els.take n = els') : ACalls P f args H (.osl 0 g k 0 n, [⟨g, k, els', none⟩]) := by
  have := h.shrink (m := n) rfl
  rw [he] at this
  exact this
end Go.Proofs.Ytcmfnfkahdconaa.AM

set_option maxRecDepth 100000
set_option linter.unusedVariables false
set_option linter.unusedSimpArgs false
namespace Go.Proofs.Ytcmfnfkahdconaa.AM
open Go Go.Proofs.Ytcmfnfkahdconaa
attribute [local irreducible] ACalls funT codeT codeQ LoopTo
attribute [local irreducible] Tp.card Tp.cardT Tp.next Tp.step Tp.key Tp.keyT sink insSort sortK insK posK beforeK
theorem hcInsE (vs : Array Value) (w : World) : (callFunc 135 vs).run Try.prog w = ((Extern.SlicesOverlaps.overlaps #[108, 108] #[4] vs).run Try.prog w).andThen fun v w' => .ok (.value v) w' :=
  run_callFunc_extern (fn := Try.f135) (by kernel_rfl) (by kernel_rfl) (by kernel_rfl) (by kernel_rfl) (by kernel_rfl) vs w
def InsEE_ann : Ann := { base := 1, fin := some 1 }
set_option maxRecDepth 100000 in
theorem InsEE_spec (l : List Entry) (x : Entry) (g : Nat) (hl : l.length < 1048576) : ACalls Try.prog 88 [(.osl 0 g 10 0 l.length), (.int .i64 ((l.length : Nat) : Int)), (.sl .clip 10 [(Entry.row x)])] ([⟨g, 10, (List.map Entry.row l), none⟩] : Heap) ((AV.osl 0 (g + 1) 10 0 (l.length + 1)), ([⟨(g + 1), 10, (List.map Entry.row (l ++ [x])), none⟩] : Heap)) := by
  refine spec (fn := Try.f88) (ann := InsEE_ann) (t := (.reg [] [] [] (.reg [(2, ((AV.osl 0 g 10 l.length (l.length - l.length)), ([⟨g, 10, (List.map Entry.row l), none⟩] : Heap)))] [] [] (.reg [] [] [] (.reg [] [] [] (.two .nil (.reg [] [] [] (.reg [(2, ((AV.bool true), ([⟨g, 10, (List.map Entry.row l), none⟩] : Heap)))] [] [] (.two (.reg [(2, ((AV.osl 0 (g + 1) 10 0 (l.length + 1)), ([⟨(g + 1), 10, (List.map Entry.row (l ++ [x])), none⟩] : Heap)))] [] [] .nil) .nil))))))))) (Nat.le_of_ble_eq_true (by kernel_rfl)) ⟨Try.func88, by kernel_rfl, by kernel_rfl, by kernel_rfl⟩ ?_
  refine Eq.mp (by kernel_rfl : ((Option.map (fun a => (a, ([⟨g, 10, (List.map Entry.row l), none⟩] : Heap))) ((bounds ((l.length : Nat) : Int) ((l.length : Nat) : Int) l.length).map fun p => AV.osl 0 g 10 (0 + p.1) (p.2 - p.1)) = some ((AV.osl 0 g 10 l.length (l.length - l.length)), ([⟨g, 10, (List.map Entry.row l), none⟩] : Heap))) ∧ (Yes (AV.bool (((l.length : Nat) : Int) == ((l.length : Nat) : Int))) ([⟨g, 10, (List.map Entry.row l), none⟩] : Heap) (AV.bool true)) ∧ (evAppend tt ([⟨g, 10, (List.map Entry.row l), none⟩] : Heap) 108 (AV.osl 0 g 10 0 l.length) (AV.sl .clip 10 [(Entry.row x)]) = some ((AV.osl 0 (g + 1) 10 0 (l.length + 1)), ([⟨(g + 1), 10, (List.map Entry.row (l ++ [x])), none⟩] : Heap))) ∧ (AV.bdd 1 (AV.osl 0 (g + 1) 10 0 (l.length + 1)) = true ∧ obsB 1 ([⟨(g + 1), 10, (List.map Entry.row (l ++ [x])), none⟩] : Heap) = true) ∧ ((AV.osl 0 (g + 1) 10 0 (l.length + 1)), ([⟨(g + 1), 10, (List.map Entry.row (l ++ [x])), none⟩] : Heap)) = ((AV.osl 0 (g + 1) 10 0 (l.length + 1)), ([⟨(g + 1), 10, (List.map Entry.row (l ++ [x])), none⟩] : Heap))) = _) ?_
  refine And.intro (slice_osl (l := l.length) (h := l.length) (by first | omega | (simp; done) | (simp; omega)) (by first | omega | (simp; done) | (simp; omega)) (by first | omega | (simp; done) | (simp; omega)) (by first | omega | (simp; done) | (simp; omega)) (by first | omega | (simp; done) | (simp; omega)) (by first | omega | (simp; done) | (simp; omega))) ?_
  refine And.intro (Yes.bool (by first | omega | (simp; done) | (simp; omega))) ?_
  refine And.intro (evAppend_one (row := Entry.row) (l := l) (x := x) (T := tt) (e := 70) (te := { d := .struct [(58, 0), (2, 9)], size := 10, bytes := 96, zero := [.str ⟨#[]⟩, .str ⟨#[]⟩, .int .i64 0, .int .i64 0, .int .i64 0, .int .i64 0, .int .i64 0, .int .i64 0, .bool false, .int .i64 0] }) (z := 1) (b := 24) (y := [.sl .nil 0 []]) (by kernel_rfl) (by kernel_rfl) rfl (by decide) (by decide) (by kernel_rfl) (by first | assumption | omega | (simp; done) | (simp; omega)) rfl rfl (by first | omega | (show _ * 96 ≤ _; omega) | (simp; omega))) ?_
  refine And.intro (by first | (simp [obsB, AV.bddss, AV.bdds, AV.bdd]; done) | simp [obsB, AV.bddss, AV.bdds, AV.bdd, -List.map_append, -List.map_set, -List.map_take, -List.map_drop, -List.map_cons, -List.map_map]) ?_
  rfl
def InsEG_ann : Ann := { big := [40, 60], base := 1 }
set_option maxRecDepth 100000 in
theorem InsEG_spec (l : List Entry) (x : Entry) (g i r : Nat) (hi : i < l.length) (hl : l.length < 1048576) (hr : r < l.length + 1) : ACalls Try.prog 88 [(.osl 0 g 10 0 l.length), (.int .i64 ((i : Nat) : Int)), (.sl .clip 10 [(Entry.row x)])] ([⟨g, 10, (List.map Entry.row l), some r⟩] : Heap) ((AV.osl 1 0 10 0 (l.length + 1)), ([⟨g, 10, (List.map Entry.row l), some r⟩, ⟨0, 10, (List.map Entry.row (l.take i ++ x :: l.drop i)), none⟩] : Heap)) := by
  refine spec (fn := Try.f88) (ann := InsEG_ann) (t := (.reg [] [] [] (.reg [(2, ((AV.osl 0 g 10 i (l.length - i)), ([⟨g, 10, (List.map Entry.row l), some r⟩] : Heap)))] [] [] (.reg [] [] [] (.reg [] [] [] (.two .nil (.reg [] [] [] (.reg [(2, ((AV.bool false), ([⟨g, 10, (List.map Entry.row l), some r⟩] : Heap)))] [] [] (.two .nil (.reg [(2, ((AV.int .i64 ((l.length + 1 : Nat) : Int)), ([⟨g, 10, (List.map Entry.row l), some r⟩] : Heap))), (4, ((AV.int .i64 ((r : Nat) : Int)), ([⟨g, 10, (List.map Entry.row l), some r⟩] : Heap))), (5, ((AV.bool true), ([⟨g, 10, (List.map Entry.row l), some r⟩] : Heap)))] [] [] (.two (.reg [(2, ((AV.osl 0 g 10 0 i), ([⟨g, 10, (List.map Entry.row l), some r⟩] : Heap))), (5, ((AV.int .i64 ((l.length + 1 : Nat) : Int)), ([⟨g, 10, (List.map Entry.row l), some r⟩] : Heap))), (7, ((AV.int .i64 ((l.length + 1 - i : Nat) : Int)), ([⟨g, 10, (List.map Entry.row l), some r⟩] : Heap))), (8, ((AV.osl 1 0 10 0 (l.length + 1)), ([⟨g, 10, (List.map Entry.row l), some r⟩, ⟨0, 10, (List.map Entry.row (l.take i) ++ List.replicate (l.length + 1 - i) (List.replicate 10 AV.unk)), none⟩] : Heap)))] [] [] (.reg [(2, ((AV.osl 1 0 10 i ((l.length + 1) - i)), ([⟨g, 10, (List.map Entry.row l), some r⟩, ⟨0, 10, (List.map Entry.row (l.take i) ++ List.replicate (l.length + 1 - i) (List.replicate 10 AV.unk)), none⟩] : Heap))), (4, ((AV.int .i64 1), ([⟨g, 10, (List.map Entry.row l), some r⟩, ⟨0, 10, (List.map Entry.row (l.take i ++ [x]) ++ List.replicate (l.length + 1 - i - 1) (List.replicate 10 AV.unk)), none⟩] : Heap)))] [] [] (.reg [(3, ((AV.int .i64 ((i + 1 : Nat) : Int)), ([⟨g, 10, (List.map Entry.row l), some r⟩, ⟨0, 10, (List.map Entry.row (l.take i ++ [x]) ++ List.replicate (l.length + 1 - i - 1) (List.replicate 10 AV.unk)), none⟩] : Heap))), (4, ((AV.osl 1 0 10 (i + 1) ((l.length + 1) - (i + 1))), ([⟨g, 10, (List.map Entry.row l), some r⟩, ⟨0, 10, (List.map Entry.row (l.take i ++ [x]) ++ List.replicate (l.length + 1 - i - 1) (List.replicate 10 AV.unk)), none⟩] : Heap))), (7, ((AV.osl 0 g 10 i (l.length - i)), ([⟨g, 10, (List.map Entry.row l), some r⟩, ⟨0, 10, (List.map Entry.row (l.take i ++ [x]) ++ List.replicate (l.length + 1 - i - 1) (List.replicate 10 AV.unk)), none⟩] : Heap))), (8, ((AV.int .i64 (((l.length - i) : Nat) : Int)), ([⟨g, 10, (List.map Entry.row l), some r⟩, ⟨0, 10, (List.map Entry.row (l.take i ++ x :: l.drop i)), none⟩] : Heap)))] [] [] (.reg [] [] [] .nil)))) .nil))))))))))) (Nat.le_of_ble_eq_true (by kernel_rfl)) ⟨Try.func88, by kernel_rfl, by kernel_rfl, by kernel_rfl⟩ ?_
  refine Eq.mp (by kernel_rfl : ((Option.map (fun a => (a, ([⟨g, 10, (List.map Entry.row l), some r⟩] : Heap))) ((bounds ((i : Nat) : Int) ((l.length : Nat) : Int) l.length).map fun p => AV.osl 0 g 10 (0 + p.1) (p.2 - p.1)) = some ((AV.osl 0 g 10 i (l.length - i)), ([⟨g, 10, (List.map Entry.row l), some r⟩] : Heap))) ∧ (Yes (AV.bool (((i : Nat) : Int) == ((l.length : Nat) : Int))) ([⟨g, 10, (List.map Entry.row l), some r⟩] : Heap) (AV.bool false)) ∧ (Yes (.int .i64 (IntKind.i64.wrap (((l.length : Nat) : Int) + 1))) ([⟨g, 10, (List.map Entry.row l), some r⟩] : Heap) (AV.int .i64 ((l.length + 1 : Nat) : Int))) ∧ (Sat Try.prog (X InsEG_ann) (mkF 95 [(0, (.osl 0 g 10 0 l.length)), (1, (.int .i64 ((i : Nat) : Int))), (2, (.sl .clip 10 [(Entry.row x)])), (6, (.sl .nil 0 [])), (7, (.int .i64 1)), (8, (.int .i64 ((l.length : Nat) : Int))), (10, (.osl 0 g 10 0 l.length)), (11, (.int .i64 ((i : Nat) : Int))), (12, (.osl 0 g 10 i (l.length - i))), (13, (.sl .clip 10 [(Entry.row x)])), (14, (.int .i64 1)), (15, (.int .i64 1)), (16, (.bool false)), (18, (.osl 0 g 10 0 l.length)), (19, (.int .i64 ((l.length : Nat) : Int))), (20, (.int .i64 ((i : Nat) : Int))), (21, (.int .i64 ((l.length : Nat) : Int))), (22, (.bool false)), (26, (.int .i64 ((l.length : Nat) : Int))), (27, (.int .i64 1)), (28, (.int .i64 ((l.length + 1 : Nat) : Int))), (29, (.osl 0 g 10 0 l.length))]) ([⟨g, 10, (List.map Entry.row l), some r⟩] : Heap) 1 (opIn Try.f88 8 4) (AV.int .i64 ((r : Nat) : Int)) ([⟨g, 10, (List.map Entry.row l), some r⟩] : Heap)) ∧ (Yes (AV.bool (decide (((l.length + 1 : Nat) : Int) > ((r : Nat) : Int)))) ([⟨g, 10, (List.map Entry.row l), some r⟩] : Heap) (AV.bool true)) ∧ (Option.map (fun a => (a, ([⟨g, 10, (List.map Entry.row l), some r⟩] : Heap))) ((bounds 0 ((i : Nat) : Int) l.length).map fun p => AV.osl 0 g 10 (0 + p.1) (p.2 - p.1)) = some ((AV.osl 0 g 10 0 i), ([⟨g, 10, (List.map Entry.row l), some r⟩] : Heap))) ∧ (Yes (.int .i64 (IntKind.i64.wrap (((l.length : Nat) : Int) + 1))) ([⟨g, 10, (List.map Entry.row l), some r⟩] : Heap) (AV.int .i64 ((l.length + 1 : Nat) : Int))) ∧ (Yes (.int .i64 (IntKind.i64.wrap (((l.length + 1 : Nat) : Int) - ((i : Nat) : Int)))) ([⟨g, 10, (List.map Entry.row l), some r⟩] : Heap) (AV.int .i64 ((l.length + 1 - i : Nat) : Int))) ∧ (Sat Try.prog (X InsEG_ann) (mkF 95 [(0, (.osl 0 g 10 0 l.length)), (1, (.int .i64 ((i : Nat) : Int))), (2, (.sl .clip 10 [(Entry.row x)])), (6, (.sl .nil 0 [])), (7, (.int .i64 1)), (8, (.int .i64 ((l.length : Nat) : Int))), (10, (.osl 0 g 10 0 l.length)), (11, (.int .i64 ((i : Nat) : Int))), (12, (.osl 0 g 10 i (l.length - i))), (13, (.sl .clip 10 [(Entry.row x)])), (14, (.int .i64 1)), (15, (.int .i64 1)), (16, (.bool false)), (18, (.osl 0 g 10 0 l.length)), (19, (.int .i64 ((l.length : Nat) : Int))), (20, (.int .i64 ((i : Nat) : Int))), (21, (.int .i64 ((l.length : Nat) : Int))), (22, (.bool false)), (26, (.int .i64 ((l.length : Nat) : Int))), (27, (.int .i64 1)), (28, (.int .i64 ((l.length + 1 : Nat) : Int))), (29, (.osl 0 g 10 0 l.length)), (30, (.int .i64 ((r : Nat) : Int))), (31, (.bool true)), (32, (.osl 0 g 10 0 l.length)), (33, (.int .i64 ((i : Nat) : Int))), (34, (.osl 0 g 10 0 i)), (35, (.int .i64 ((l.length : Nat) : Int))), (36, (.int .i64 1)), (37, (.int .i64 ((l.length + 1 : Nat) : Int))), (38, (.int .i64 ((i : Nat) : Int))), (39, (.int .i64 ((l.length + 1 - i : Nat) : Int)))]) ([⟨g, 10, (List.map Entry.row l), some r⟩] : Heap) 1 (opIn Try.f88 9 8) (AV.osl 1 0 10 0 (l.length + 1)) ([⟨g, 10, (List.map Entry.row l), some r⟩, ⟨0, 10, (List.map Entry.row (l.take i) ++ List.replicate (l.length + 1 - i) (List.replicate 10 AV.unk)), none⟩] : Heap)) ∧ (Option.map (fun a => (a, ([⟨g, 10, (List.map Entry.row l), some r⟩, ⟨0, 10, (List.map Entry.row (l.take i) ++ List.replicate (l.length + 1 - i) (List.replicate 10 AV.unk)), none⟩] : Heap))) ((bounds ((i : Nat) : Int) (((l.length + 1) : Nat) : Int) (l.length + 1)).map fun p => AV.osl 1 0 10 (0 + p.1) (p.2 - p.1)) = some ((AV.osl 1 0 10 i ((l.length + 1) - i)), ([⟨g, 10, (List.map Entry.row l), some r⟩, ⟨0, 10, (List.map Entry.row (l.take i) ++ List.replicate (l.length + 1 - i) (List.replicate 10 AV.unk)), none⟩] : Heap))) ∧ (Sat Try.prog (X InsEG_ann) (mkF 95 [(0, (.osl 0 g 10 0 l.length)), (1, (.int .i64 ((i : Nat) : Int))), (2, (.sl .clip 10 [(Entry.row x)])), (6, (.sl .nil 0 [])), (7, (.int .i64 1)), (8, (.int .i64 ((l.length : Nat) : Int))), (9, (.osl 1 0 10 0 (l.length + 1))), (10, (.osl 0 g 10 0 l.length)), (11, (.int .i64 ((i : Nat) : Int))), (12, (.osl 0 g 10 i (l.length - i))), (13, (.sl .clip 10 [(Entry.row x)])), (14, (.int .i64 1)), (15, (.int .i64 1)), (16, (.bool false)), (18, (.osl 0 g 10 0 l.length)), (19, (.int .i64 ((l.length : Nat) : Int))), (20, (.int .i64 ((i : Nat) : Int))), (21, (.int .i64 ((l.length : Nat) : Int))), (22, (.bool false)), (26, (.int .i64 ((l.length : Nat) : Int))), (27, (.int .i64 1)), (28, (.int .i64 ((l.length + 1 : Nat) : Int))), (29, (.osl 0 g 10 0 l.length)), (30, (.int .i64 ((r : Nat) : Int))), (31, (.bool true)), (32, (.osl 0 g 10 0 l.length)), (33, (.int .i64 ((i : Nat) : Int))), (34, (.osl 0 g 10 0 i)), (35, (.int .i64 ((l.length : Nat) : Int))), (36, (.int .i64 1)), (37, (.int .i64 ((l.length + 1 : Nat) : Int))), (38, (.int .i64 ((i : Nat) : Int))), (39, (.int .i64 ((l.length + 1 - i : Nat) : Int))), (40, (.osl 1 0 10 0 (l.length + 1))), (41, (.osl 1 0 10 0 (l.length + 1))), (42, (.int .i64 ((i : Nat) : Int))), (43, (.osl 1 0 10 i ((l.length + 1) - i))), (44, (.sl .clip 10 [(Entry.row x)]))]) ([⟨g, 10, (List.map Entry.row l), some r⟩, ⟨0, 10, (List.map Entry.row (l.take i) ++ List.replicate (l.length + 1 - i) (List.replicate 10 AV.unk)), none⟩] : Heap) 2 (opIn Try.f88 10 4) (AV.int .i64 1) ([⟨g, 10, (List.map Entry.row l), some r⟩, ⟨0, 10, (List.map Entry.row (l.take i ++ [x]) ++ List.replicate (l.length + 1 - i - 1) (List.replicate 10 AV.unk)), none⟩] : Heap)) ∧ (Yes (.int .i64 (IntKind.i64.wrap (((i : Nat) : Int) + 1))) ([⟨g, 10, (List.map Entry.row l), some r⟩, ⟨0, 10, (List.map Entry.row (l.take i ++ [x]) ++ List.replicate (l.length + 1 - i - 1) (List.replicate 10 AV.unk)), none⟩] : Heap) (AV.int .i64 ((i + 1 : Nat) : Int))) ∧ (Option.map (fun a => (a, ([⟨g, 10, (List.map Entry.row l), some r⟩, ⟨0, 10, (List.map Entry.row (l.take i ++ [x]) ++ List.replicate (l.length + 1 - i - 1) (List.replicate 10 AV.unk)), none⟩] : Heap))) ((bounds ((i + 1 : Nat) : Int) (((l.length + 1) : Nat) : Int) (l.length + 1)).map fun p => AV.osl 1 0 10 (0 + p.1) (p.2 - p.1)) = some ((AV.osl 1 0 10 (i + 1) ((l.length + 1) - (i + 1))), ([⟨g, 10, (List.map Entry.row l), some r⟩, ⟨0, 10, (List.map Entry.row (l.take i ++ [x]) ++ List.replicate (l.length + 1 - i - 1) (List.replicate 10 AV.unk)), none⟩] : Heap))) ∧ (Option.map (fun a => (a, ([⟨g, 10, (List.map Entry.row l), some r⟩, ⟨0, 10, (List.map Entry.row (l.take i ++ [x]) ++ List.replicate (l.length + 1 - i - 1) (List.replicate 10 AV.unk)), none⟩] : Heap))) ((bounds ((i : Nat) : Int) ((l.length : Nat) : Int) l.length).map fun p => AV.osl 0 g 10 (0 + p.1) (p.2 - p.1)) = some ((AV.osl 0 g 10 i (l.length - i)), ([⟨g, 10, (List.map Entry.row l), some r⟩, ⟨0, 10, (List.map Entry.row (l.take i ++ [x]) ++ List.replicate (l.length + 1 - i - 1) (List.replicate 10 AV.unk)), none⟩] : Heap))) ∧ (Sat Try.prog (X InsEG_ann) (mkF 95 [(0, (.osl 0 g 10 0 l.length)), (1, (.int .i64 ((i : Nat) : Int))), (2, (.sl .clip 10 [(Entry.row x)])), (6, (.sl .nil 0 [])), (7, (.int .i64 1)), (8, (.int .i64 ((l.length : Nat) : Int))), (9, (.osl 1 0 10 0 (l.length + 1))), (10, (.osl 0 g 10 0 l.length)), (11, (.int .i64 ((i : Nat) : Int))), (12, (.osl 0 g 10 i (l.length - i))), (13, (.sl .clip 10 [(Entry.row x)])), (14, (.int .i64 1)), (15, (.int .i64 1)), (16, (.bool false)), (18, (.osl 0 g 10 0 l.length)), (19, (.int .i64 ((l.length : Nat) : Int))), (20, (.int .i64 ((i : Nat) : Int))), (21, (.int .i64 ((l.length : Nat) : Int))), (22, (.bool false)), (26, (.int .i64 ((l.length : Nat) : Int))), (27, (.int .i64 1)), (28, (.int .i64 ((l.length + 1 : Nat) : Int))), (29, (.osl 0 g 10 0 l.length)), (30, (.int .i64 ((r : Nat) : Int))), (31, (.bool true)), (32, (.osl 0 g 10 0 l.length)), (33, (.int .i64 ((i : Nat) : Int))), (34, (.osl 0 g 10 0 i)), (35, (.int .i64 ((l.length : Nat) : Int))), (36, (.int .i64 1)), (37, (.int .i64 ((l.length + 1 : Nat) : Int))), (38, (.int .i64 ((i : Nat) : Int))), (39, (.int .i64 ((l.length + 1 - i : Nat) : Int))), (40, (.osl 1 0 10 0 (l.length + 1))), (41, (.osl 1 0 10 0 (l.length + 1))), (42, (.int .i64 ((i : Nat) : Int))), (43, (.osl 1 0 10 i ((l.length + 1) - i))), (44, (.sl .clip 10 [(Entry.row x)])), (45, (.int .i64 1)), (46, (.osl 1 0 10 0 (l.length + 1))), (47, (.int .i64 ((i : Nat) : Int))), (48, (.int .i64 1)), (49, (.int .i64 ((i + 1 : Nat) : Int))), (50, (.osl 1 0 10 (i + 1) ((l.length + 1) - (i + 1)))), (51, (.osl 0 g 10 0 l.length)), (52, (.int .i64 ((i : Nat) : Int))), (53, (.osl 0 g 10 i (l.length - i)))]) ([⟨g, 10, (List.map Entry.row l), some r⟩, ⟨0, 10, (List.map Entry.row (l.take i ++ [x]) ++ List.replicate (l.length + 1 - i - 1) (List.replicate 10 AV.unk)), none⟩] : Heap) 2 (opIn Try.f88 11 8) (AV.int .i64 (((l.length - i) : Nat) : Int)) ([⟨g, 10, (List.map Entry.row l), some r⟩, ⟨0, 10, (List.map Entry.row (l.take i ++ x :: l.drop i)), none⟩] : Heap)) ∧ ((AV.osl 1 0 10 0 (l.length + 1)), ([⟨g, 10, (List.map Entry.row l), some r⟩, ⟨0, 10, (List.map Entry.row (l.take i ++ x :: l.drop i)), none⟩] : Heap)) = ((AV.osl 1 0 10 0 (l.length + 1)), ([⟨g, 10, (List.map Entry.row l), some r⟩, ⟨0, 10, (List.map Entry.row (l.take i ++ x :: l.drop i)), none⟩] : Heap))) = _) ?_
  refine And.intro (slice_osl (l := i) (h := l.length) (by first | omega | (simp; done) | (simp; omega)) (by first | omega | (simp; done) | (simp; omega)) (by first | omega | (simp; done) | (simp; omega)) (by first | omega | (simp; done) | (simp; omega)) (by first | omega | (simp; done) | (simp; omega)) (by first | omega | (simp; done) | (simp; omega))) ?_
  refine And.intro (Yes.bool (by first | omega | (simp; done) | (simp; omega))) ?_
  refine And.intro (Yes.add (by omega) (by omega) (by omega)) ?_
  refine And.intro (sat_cap (o := (opIn Try.f88 8 4)) (t := 108) (e0 := 70) (ti := { d := .slice 70, size := 1, bytes := 24, zero := [.sl .nil 0 []] }) (id := 0) (g := g) (e := 0) (n := l.length) (k := 10) (r := r) (els := (List.map Entry.row l)) ttOk (by kernel_rfl) (by kernel_rfl) (by kernel_rfl) rfl (by kernel_rfl) (by kernel_rfl) rfl) ?_
  refine And.intro (Yes.bool (by first | omega | (simp; done) | (simp; omega))) ?_
  refine And.intro (slice_osl (l := 0) (h := i) (by first | omega | (simp; done) | (simp; omega)) (by first | omega | (simp; done) | (simp; omega)) (by first | omega | (simp; done) | (simp; omega)) (by first | omega | (simp; done) | (simp; omega)) (by first | omega | (simp; done) | (simp; omega)) (by first | omega | (simp; done) | (simp; omega))) ?_
  refine And.intro (Yes.add (by omega) (by omega) (by omega)) ?_
  refine And.intro (Yes.add (by omega) (by omega) (by omega)) ?_
  refine And.intro (sat_make (o := (opIn Try.f88 9 8)) (t := 108) (e0 := 70) (ti := { d := .slice 70, size := 1, bytes := 24, zero := [.sl .nil 0 []] }) (id := 0) (g := g) (e := 0) (n := i) (t' := 3) (te := { d := .struct [(58, 0), (2, 9)], size := 10, bytes := 96, zero := [.str ⟨#[]⟩, .str ⟨#[]⟩, .int .i64 0, .int .i64 0, .int .i64 0, .int .i64 0, .int .i64 0, .int .i64 0, .bool false, .int .i64 0] }) (ti' := { d := .int .i64, size := 1, bytes := 8, zero := [.int .i64 0] }) (kk := .i64) (kx := .i64) (k := 10) (r := r) (c := l.length + 1 - i) (els := (List.map Entry.row l)) (ys := List.map Entry.row (l.take i)) (els' := (List.map Entry.row (l.take i) ++ List.replicate (l.length + 1 - i) (List.replicate 10 AV.unk))) ttOk (by kernel_rfl) (by kernel_rfl) (by kernel_rfl) rfl (by kernel_rfl) (by kernel_rfl) rfl rfl (by kernel_rfl) (by kernel_rfl) (by simp [rowsIn, List.map_take]; omega) (by first | omega | (simp; done) | (simp; omega)) (by kernel_rfl) (by first | omega | (simp; done) | (simp; omega)) (by decide) (by decide) (by first | omega | (simp; done) | (simp; omega)) (by show _ * 96 ≤ _; omega) (by first | omega | (simp; done) | (simp; omega)) (by first | omega | (simp; done) | (simp; omega)) rfl) ?_
  refine And.intro (slice_osl (l := i) (h := (l.length + 1)) (by first | omega | (simp; done) | (simp; omega)) (by first | omega | (simp; done) | (simp; omega)) (by first | omega | (simp; done) | (simp; omega)) (by first | omega | (simp; done) | (simp; omega)) (by first | omega | (simp; done) | (simp; omega)) (by first | omega | (simp; done) | (simp; omega))) ?_
  refine And.intro (sat_copy (o := (opIn Try.f88 10 4)) (t := 108) (e0 := 70) (ti := { d := .slice 70, size := 1, bytes := 24, zero := [.sl .nil 0 []] }) (id := 1) (g := 0) (e := i) (n := ((l.length + 1) - i)) (t' := 108) (te := { d := .struct [(58, 0), (2, 9)], size := 10, bytes := 96, zero := [.str ⟨#[]⟩, .str ⟨#[]⟩, .int .i64 0, .int .i64 0, .int .i64 0, .int .i64 0, .int .i64 0, .int .i64 0, .bool false, .int .i64 0] }) (k := 10) (els := (List.map Entry.row (l.take i) ++ List.replicate (l.length + 1 - i) (List.replicate 10 AV.unk))) (els' := (List.map Entry.row (l.take i ++ [x]) ++ List.replicate (l.length + 1 - i - 1) (List.replicate 10 AV.unk))) (room := none) (new := [(Entry.row x)]) (s := (AV.sl .clip 10 [(Entry.row x)])) ttOk (by kernel_rfl) (by kernel_rfl) (by kernel_rfl) rfl (by kernel_rfl) rfl (by kernel_rfl) (by kernel_rfl) (by kernel_rfl) (by kernel_rfl) (by first | omega | (simp; done) | (simp; omega)) (by first | omega | (simp; done) | (simp; omega)) (by first | omega | (simp; done) | (simp; omega)) (ins1 Entry.row x _ l (by omega) (by omega)) (rfl) rfl) ?_
  refine And.intro (Yes.add (by omega) (by omega) (by omega)) ?_
  refine And.intro (slice_osl (l := i + 1) (h := (l.length + 1)) (by first | omega | (simp; done) | (simp; omega)) (by first | omega | (simp; done) | (simp; omega)) (by first | omega | (simp; done) | (simp; omega)) (by first | omega | (simp; done) | (simp; omega)) (by first | omega | (simp; done) | (simp; omega)) (by first | omega | (simp; done) | (simp; omega))) ?_
  refine And.intro (slice_osl (l := i) (h := l.length) (by first | omega | (simp; done) | (simp; omega)) (by first | omega | (simp; done) | (simp; omega)) (by first | omega | (simp; done) | (simp; omega)) (by first | omega | (simp; done) | (simp; omega)) (by first | omega | (simp; done) | (simp; omega)) (by first | omega | (simp; done) | (simp; omega))) ?_
  refine And.intro (sat_copy (o := (opIn Try.f88 11 8)) (t := 108) (e0 := 70) (ti := { d := .slice 70, size := 1, bytes := 24, zero := [.sl .nil 0 []] }) (id := 1) (g := 0) (e := (i + 1)) (n := ((l.length + 1) - (i + 1))) (t' := 108) (te := { d := .struct [(58, 0), (2, 9)], size := 10, bytes := 96, zero := [.str ⟨#[]⟩, .str ⟨#[]⟩, .int .i64 0, .int .i64 0, .int .i64 0, .int .i64 0, .int .i64 0, .int .i64 0, .bool false, .int .i64 0] }) (k := 10) (els := (List.map Entry.row (l.take i ++ [x]) ++ List.replicate (l.length + 1 - i - 1) (List.replicate 10 AV.unk))) (els' := (List.map Entry.row (l.take i ++ x :: l.drop i))) (room := none) (new := List.map Entry.row (l.drop i)) (s := (AV.osl 0 g 10 i (l.length - i))) ttOk (by kernel_rfl) (by kernel_rfl) (by kernel_rfl) rfl (by kernel_rfl) rfl (by kernel_rfl) (by kernel_rfl) (by kernel_rfl) (by simp [rowsIn, List.map_drop, List.take_of_length_le] <;> omega) (by first | omega | (simp; done) | (simp; omega)) (by first | omega | (simp; done) | (simp; omega)) (by first | omega | (simp; done) | (simp; omega)) (ins2 Entry.row x _ l (by omega) (by omega)) (by first | omega | (simp; done) | (simp; omega)) rfl) ?_
  rfl
def InsER_ann : Ann := { big := [40, 60], base := 1, fin := some 1 }
set_option maxRecDepth 100000 in
theorem InsER_spec (l : List Entry) (x : Entry) (g i r : Nat) (hi : i < l.length) (hl : l.length < 1048576) (hr : l.length + 1 ≤ r) : ACalls Try.prog 88 [(.osl 0 g 10 0 l.length), (.int .i64 ((i : Nat) : Int)), (.sl .clip 10 [(Entry.row x)])] ([⟨g, 10, (List.map Entry.row l), some r⟩] : Heap) ((AV.osl 0 g 10 0 (l.length + 1)), ([⟨g, 10, (List.map Entry.row (l.take i ++ x :: l.drop i)), some r⟩] : Heap)) := by
  refine spec (fn := Try.f88) (ann := InsER_ann) (t := (.reg [] [] [] (.reg [(2, ((AV.osl 0 g 10 i (l.length - i)), ([⟨g, 10, (List.map Entry.row l), some r⟩] : Heap)))] [] [] (.reg [] [] [] (.reg [] [] [] (.two .nil (.reg [] [] [] (.reg [(2, ((AV.bool false), ([⟨g, 10, (List.map Entry.row l), some r⟩] : Heap)))] [] [] (.two .nil (.reg [(2, ((AV.int .i64 ((l.length + 1 : Nat) : Int)), ([⟨g, 10, (List.map Entry.row l), some r⟩] : Heap))), (4, ((AV.int .i64 ((r : Nat) : Int)), ([⟨g, 10, (List.map Entry.row l), some r⟩] : Heap))), (5, ((AV.bool false), ([⟨g, 10, (List.map Entry.row l), some r⟩] : Heap)))] [] [] (.two .nil (.reg [(3, ((AV.int .i64 ((l.length + 1 : Nat) : Int)), ([⟨g, 10, (List.map Entry.row l), some r⟩] : Heap))), (4, ((AV.osl 0 g 10 0 (l.length + 1)), ([⟨g, 10, (List.map Entry.row l), some r⟩] : Heap)))] [] [] (.reg [(4, ((AV.int .i64 ((i + 1 : Nat) : Int)), ([⟨g, 10, (List.map Entry.row l), some r⟩] : Heap))), (5, ((AV.osl 0 g 10 (i + 1) ((l.length + 1) - (i + 1))), ([⟨g, 10, (List.map Entry.row l), some r⟩] : Heap))), (6, ((AV.bool false), ([⟨g, 10, (List.map Entry.row l), some r⟩] : Heap)))] [] [] (.two (.reg [(3, ((AV.int .i64 ((i + 1 : Nat) : Int)), ([⟨g, 10, (List.map Entry.row l), some r⟩] : Heap))), (4, ((AV.osl 0 g 10 (i + 1) ((l.length + 1) - (i + 1))), ([⟨g, 10, (List.map Entry.row l), some r⟩] : Heap))), (7, ((AV.osl 0 g 10 i ((l.length + 1) - i)), ([⟨g, 10, (List.map Entry.row l), some r⟩] : Heap))), (8, ((AV.int .i64 ((((l.length + 1) - (i + 1)) : Nat) : Int)), ([⟨g, 10, (List.map Entry.row (l.take (i + 1) ++ l.drop i)), some r⟩] : Heap)))] [] [] (.reg [(2, ((AV.osl 0 g 10 i ((l.length + 1) - i)), ([⟨g, 10, (List.map Entry.row (l.take (i + 1) ++ l.drop i)), some r⟩] : Heap))), (4, ((AV.int .i64 1), ([⟨g, 10, (List.map Entry.row (l.take i ++ x :: l.drop i)), some r⟩] : Heap)))] [] [] (.reg [] [] [] .nil))) .nil)))))))))))))) (Nat.le_of_ble_eq_true (by kernel_rfl)) ⟨Try.func88, by kernel_rfl, by kernel_rfl, by kernel_rfl⟩ ?_
  refine Eq.mp (by kernel_rfl : ((Option.map (fun a => (a, ([⟨g, 10, (List.map Entry.row l), some r⟩] : Heap))) ((bounds ((i : Nat) : Int) ((l.length : Nat) : Int) l.length).map fun p => AV.osl 0 g 10 (0 + p.1) (p.2 - p.1)) = some ((AV.osl 0 g 10 i (l.length - i)), ([⟨g, 10, (List.map Entry.row l), some r⟩] : Heap))) ∧ (Yes (AV.bool (((i : Nat) : Int) == ((l.length : Nat) : Int))) ([⟨g, 10, (List.map Entry.row l), some r⟩] : Heap) (AV.bool false)) ∧ (Yes (.int .i64 (IntKind.i64.wrap (((l.length : Nat) : Int) + 1))) ([⟨g, 10, (List.map Entry.row l), some r⟩] : Heap) (AV.int .i64 ((l.length + 1 : Nat) : Int))) ∧ (Sat Try.prog (X InsER_ann) (mkF 95 [(0, (.osl 0 g 10 0 l.length)), (1, (.int .i64 ((i : Nat) : Int))), (2, (.sl .clip 10 [(Entry.row x)])), (6, (.sl .nil 0 [])), (7, (.int .i64 1)), (8, (.int .i64 ((l.length : Nat) : Int))), (10, (.osl 0 g 10 0 l.length)), (11, (.int .i64 ((i : Nat) : Int))), (12, (.osl 0 g 10 i (l.length - i))), (13, (.sl .clip 10 [(Entry.row x)])), (14, (.int .i64 1)), (15, (.int .i64 1)), (16, (.bool false)), (18, (.osl 0 g 10 0 l.length)), (19, (.int .i64 ((l.length : Nat) : Int))), (20, (.int .i64 ((i : Nat) : Int))), (21, (.int .i64 ((l.length : Nat) : Int))), (22, (.bool false)), (26, (.int .i64 ((l.length : Nat) : Int))), (27, (.int .i64 1)), (28, (.int .i64 ((l.length + 1 : Nat) : Int))), (29, (.osl 0 g 10 0 l.length))]) ([⟨g, 10, (List.map Entry.row l), some r⟩] : Heap) 1 (opIn Try.f88 8 4) (AV.int .i64 ((r : Nat) : Int)) ([⟨g, 10, (List.map Entry.row l), some r⟩] : Heap)) ∧ (Yes (AV.bool (decide (((l.length + 1 : Nat) : Int) > ((r : Nat) : Int)))) ([⟨g, 10, (List.map Entry.row l), some r⟩] : Heap) (AV.bool false)) ∧ (Yes (.int .i64 (IntKind.i64.wrap (((l.length : Nat) : Int) + 1))) ([⟨g, 10, (List.map Entry.row l), some r⟩] : Heap) (AV.int .i64 ((l.length + 1 : Nat) : Int))) ∧ (Sat Try.prog (X InsER_ann) (mkF 95 [(0, (.osl 0 g 10 0 l.length)), (1, (.int .i64 ((i : Nat) : Int))), (2, (.sl .clip 10 [(Entry.row x)])), (6, (.sl .nil 0 [])), (7, (.int .i64 1)), (8, (.int .i64 ((l.length : Nat) : Int))), (10, (.osl 0 g 10 0 l.length)), (11, (.int .i64 ((i : Nat) : Int))), (12, (.osl 0 g 10 i (l.length - i))), (13, (.sl .clip 10 [(Entry.row x)])), (14, (.int .i64 1)), (15, (.int .i64 1)), (16, (.bool false)), (18, (.osl 0 g 10 0 l.length)), (19, (.int .i64 ((l.length : Nat) : Int))), (20, (.int .i64 ((i : Nat) : Int))), (21, (.int .i64 ((l.length : Nat) : Int))), (22, (.bool false)), (26, (.int .i64 ((l.length : Nat) : Int))), (27, (.int .i64 1)), (28, (.int .i64 ((l.length + 1 : Nat) : Int))), (29, (.osl 0 g 10 0 l.length)), (30, (.int .i64 ((r : Nat) : Int))), (31, (.bool false)), (56, (.osl 0 g 10 0 l.length)), (57, (.int .i64 ((l.length : Nat) : Int))), (58, (.int .i64 1)), (59, (.int .i64 ((l.length + 1 : Nat) : Int)))]) ([⟨g, 10, (List.map Entry.row l), some r⟩] : Heap) 1 (opIn Try.f88 13 4) (AV.osl 0 g 10 0 (l.length + 1)) ([⟨g, 10, (List.map Entry.row l), some r⟩] : Heap)) ∧ (Yes (.int .i64 (IntKind.i64.wrap (((i : Nat) : Int) + 1))) ([⟨g, 10, (List.map Entry.row l), some r⟩] : Heap) (AV.int .i64 ((i + 1 : Nat) : Int))) ∧ (Option.map (fun a => (a, ([⟨g, 10, (List.map Entry.row l), some r⟩] : Heap))) ((bounds ((i + 1 : Nat) : Int) (((l.length + 1) : Nat) : Int) (l.length + 1)).map fun p => AV.osl 0 g 10 (0 + p.1) (p.2 - p.1)) = some ((AV.osl 0 g 10 (i + 1) ((l.length + 1) - (i + 1))), ([⟨g, 10, (List.map Entry.row l), some r⟩] : Heap))) ∧ (ACalls Try.prog 135 [(.sl .clip 10 [(Entry.row x)]), (.osl 0 g 10 (i + 1) ((l.length + 1) - (i + 1)))] ([⟨g, 10, (List.map Entry.row l), some r⟩] : Heap) ((AV.bool false), ([⟨g, 10, (List.map Entry.row l), some r⟩] : Heap))) ∧ (Yes (.int .i64 (IntKind.i64.wrap (((i : Nat) : Int) + 1))) ([⟨g, 10, (List.map Entry.row l), some r⟩] : Heap) (AV.int .i64 ((i + 1 : Nat) : Int))) ∧ (Option.map (fun a => (a, ([⟨g, 10, (List.map Entry.row l), some r⟩] : Heap))) ((bounds ((i + 1 : Nat) : Int) (((l.length + 1) : Nat) : Int) (l.length + 1)).map fun p => AV.osl 0 g 10 (0 + p.1) (p.2 - p.1)) = some ((AV.osl 0 g 10 (i + 1) ((l.length + 1) - (i + 1))), ([⟨g, 10, (List.map Entry.row l), some r⟩] : Heap))) ∧ (Option.map (fun a => (a, ([⟨g, 10, (List.map Entry.row l), some r⟩] : Heap))) ((bounds ((i : Nat) : Int) (((l.length + 1) : Nat) : Int) (l.length + 1)).map fun p => AV.osl 0 g 10 (0 + p.1) (p.2 - p.1)) = some ((AV.osl 0 g 10 i ((l.length + 1) - i)), ([⟨g, 10, (List.map Entry.row l), some r⟩] : Heap))) ∧ (Sat Try.prog (X InsER_ann) (mkF 95 [(0, (.osl 0 g 10 0 (l.length + 1))), (1, (.int .i64 ((i : Nat) : Int))), (2, (.sl .clip 10 [(Entry.row x)])), (6, (.sl .nil 0 [])), (7, (.int .i64 1)), (8, (.int .i64 ((l.length : Nat) : Int))), (10, (.osl 0 g 10 0 l.length)), (11, (.int .i64 ((i : Nat) : Int))), (12, (.osl 0 g 10 i (l.length - i))), (13, (.sl .clip 10 [(Entry.row x)])), (14, (.int .i64 1)), (15, (.int .i64 1)), (16, (.bool false)), (18, (.osl 0 g 10 0 l.length)), (19, (.int .i64 ((l.length : Nat) : Int))), (20, (.int .i64 ((i : Nat) : Int))), (21, (.int .i64 ((l.length : Nat) : Int))), (22, (.bool false)), (26, (.int .i64 ((l.length : Nat) : Int))), (27, (.int .i64 1)), (28, (.int .i64 ((l.length + 1 : Nat) : Int))), (29, (.osl 0 g 10 0 l.length)), (30, (.int .i64 ((r : Nat) : Int))), (31, (.bool false)), (56, (.osl 0 g 10 0 l.length)), (57, (.int .i64 ((l.length : Nat) : Int))), (58, (.int .i64 1)), (59, (.int .i64 ((l.length + 1 : Nat) : Int))), (60, (.osl 0 g 10 0 (l.length + 1))), (61, (.sl .clip 10 [(Entry.row x)])), (62, (.osl 0 g 10 0 (l.length + 1))), (63, (.int .i64 ((i : Nat) : Int))), (64, (.int .i64 1)), (65, (.int .i64 ((i + 1 : Nat) : Int))), (66, (.osl 0 g 10 (i + 1) ((l.length + 1) - (i + 1)))), (67, (.bool false)), (68, (.bool true)), (69, (.osl 0 g 10 0 (l.length + 1))), (70, (.int .i64 ((i : Nat) : Int))), (71, (.int .i64 1)), (72, (.int .i64 ((i + 1 : Nat) : Int))), (73, (.osl 0 g 10 (i + 1) ((l.length + 1) - (i + 1)))), (74, (.osl 0 g 10 0 (l.length + 1))), (75, (.int .i64 ((i : Nat) : Int))), (76, (.osl 0 g 10 i ((l.length + 1) - i)))]) ([⟨g, 10, (List.map Entry.row l), some r⟩] : Heap) 1 (opIn Try.f88 15 8) (AV.int .i64 ((((l.length + 1) - (i + 1)) : Nat) : Int)) ([⟨g, 10, (List.map Entry.row (l.take (i + 1) ++ l.drop i)), some r⟩] : Heap)) ∧ (Option.map (fun a => (a, ([⟨g, 10, (List.map Entry.row (l.take (i + 1) ++ l.drop i)), some r⟩] : Heap))) ((bounds ((i : Nat) : Int) (((l.length + 1) : Nat) : Int) (l.length + 1)).map fun p => AV.osl 0 g 10 (0 + p.1) (p.2 - p.1)) = some ((AV.osl 0 g 10 i ((l.length + 1) - i)), ([⟨g, 10, (List.map Entry.row (l.take (i + 1) ++ l.drop i)), some r⟩] : Heap))) ∧ (Sat Try.prog (X InsER_ann) (mkF 95 [(0, (.osl 0 g 10 0 (l.length + 1))), (1, (.int .i64 ((i : Nat) : Int))), (2, (.sl .clip 10 [(Entry.row x)])), (6, (.sl .nil 0 [])), (7, (.int .i64 1)), (8, (.int .i64 ((l.length : Nat) : Int))), (10, (.osl 0 g 10 0 l.length)), (11, (.int .i64 ((i : Nat) : Int))), (12, (.osl 0 g 10 i (l.length - i))), (13, (.sl .clip 10 [(Entry.row x)])), (14, (.int .i64 1)), (15, (.int .i64 1)), (16, (.bool false)), (18, (.osl 0 g 10 0 l.length)), (19, (.int .i64 ((l.length : Nat) : Int))), (20, (.int .i64 ((i : Nat) : Int))), (21, (.int .i64 ((l.length : Nat) : Int))), (22, (.bool false)), (26, (.int .i64 ((l.length : Nat) : Int))), (27, (.int .i64 1)), (28, (.int .i64 ((l.length + 1 : Nat) : Int))), (29, (.osl 0 g 10 0 l.length)), (30, (.int .i64 ((r : Nat) : Int))), (31, (.bool false)), (56, (.osl 0 g 10 0 l.length)), (57, (.int .i64 ((l.length : Nat) : Int))), (58, (.int .i64 1)), (59, (.int .i64 ((l.length + 1 : Nat) : Int))), (60, (.osl 0 g 10 0 (l.length + 1))), (61, (.sl .clip 10 [(Entry.row x)])), (62, (.osl 0 g 10 0 (l.length + 1))), (63, (.int .i64 ((i : Nat) : Int))), (64, (.int .i64 1)), (65, (.int .i64 ((i + 1 : Nat) : Int))), (66, (.osl 0 g 10 (i + 1) ((l.length + 1) - (i + 1)))), (67, (.bool false)), (68, (.bool true)), (69, (.osl 0 g 10 0 (l.length + 1))), (70, (.int .i64 ((i : Nat) : Int))), (71, (.int .i64 1)), (72, (.int .i64 ((i + 1 : Nat) : Int))), (73, (.osl 0 g 10 (i + 1) ((l.length + 1) - (i + 1)))), (74, (.osl 0 g 10 0 (l.length + 1))), (75, (.int .i64 ((i : Nat) : Int))), (76, (.osl 0 g 10 i ((l.length + 1) - i))), (77, (.int .i64 ((((l.length + 1) - (i + 1)) : Nat) : Int))), (78, (.osl 0 g 10 0 (l.length + 1))), (79, (.int .i64 ((i : Nat) : Int))), (80, (.osl 0 g 10 i ((l.length + 1) - i))), (81, (.sl .clip 10 [(Entry.row x)]))]) ([⟨g, 10, (List.map Entry.row (l.take (i + 1) ++ l.drop i)), some r⟩] : Heap) 1 (opIn Try.f88 16 4) (AV.int .i64 1) ([⟨g, 10, (List.map Entry.row (l.take i ++ x :: l.drop i)), some r⟩] : Heap)) ∧ (AV.bdd 1 (AV.osl 0 g 10 0 (l.length + 1)) = true ∧ obsB 1 ([⟨g, 10, (List.map Entry.row (l.take i ++ x :: l.drop i)), some r⟩] : Heap) = true) ∧ ((AV.osl 0 g 10 0 (l.length + 1)), ([⟨g, 10, (List.map Entry.row (l.take i ++ x :: l.drop i)), some r⟩] : Heap)) = ((AV.osl 0 g 10 0 (l.length + 1)), ([⟨g, 10, (List.map Entry.row (l.take i ++ x :: l.drop i)), some r⟩] : Heap))) = _) ?_
  refine And.intro (slice_osl (l := i) (h := l.length) (by first | omega | (simp; done) | (simp; omega)) (by first | omega | (simp; done) | (simp; omega)) (by first | omega | (simp; done) | (simp; omega)) (by first | omega | (simp; done) | (simp; omega)) (by first | omega | (simp; done) | (simp; omega)) (by first | omega | (simp; done) | (simp; omega))) ?_
  refine And.intro (Yes.bool (by first | omega | (simp; done) | (simp; omega))) ?_
  refine And.intro (Yes.add (by omega) (by omega) (by omega)) ?_
  refine And.intro (sat_cap (o := (opIn Try.f88 8 4)) (t := 108) (e0 := 70) (ti := { d := .slice 70, size := 1, bytes := 24, zero := [.sl .nil 0 []] }) (id := 0) (g := g) (e := 0) (n := l.length) (k := 10) (r := r) (els := (List.map Entry.row l)) ttOk (by kernel_rfl) (by kernel_rfl) (by kernel_rfl) rfl (by kernel_rfl) (by kernel_rfl) rfl) ?_
  refine And.intro (Yes.bool (by first | omega | (simp; done) | (simp; omega))) ?_
  refine And.intro (Yes.add (by omega) (by omega) (by omega)) ?_
  refine And.intro (sat_slice (o := (opIn Try.f88 13 4)) (t := 108) (e0 := 70) (ti := { d := .slice 70, size := 1, bytes := 24, zero := [.sl .nil 0 []] }) (id := 0) (g := g) (e := 0) (n := l.length) (te := { d := .struct [(58, 0), (2, 9)], size := 10, bytes := 96, zero := [.str ⟨#[]⟩, .str ⟨#[]⟩, .int .i64 0, .int .i64 0, .int .i64 0, .int .i64 0, .int .i64 0, .int .i64 0, .bool false, .int .i64 0] }) (k := 10) (r := r) (l := 0) (h := l.length + 1) (els := (List.map Entry.row l)) ttOk (by kernel_rfl) (by kernel_rfl) (by kernel_rfl) rfl (by kernel_rfl) rfl (by kernel_rfl) (by kernel_rfl) (by kernel_rfl) (by kernel_rfl) (by first | omega | (simp; done) | (simp; omega)) (by first | omega | (simp; done) | (simp; omega)) (by first | omega | (simp; done) | (simp; omega)) (by first | omega | (simp; done) | (simp; omega))) ?_
  refine And.intro (Yes.add (by omega) (by omega) (by omega)) ?_
  refine And.intro (slice_osl (l := i + 1) (h := (l.length + 1)) (by first | omega | (simp; done) | (simp; omega)) (by first | omega | (simp; done) | (simp; omega)) (by first | omega | (simp; done) | (simp; omega)) (by first | omega | (simp; done) | (simp; omega)) (by first | omega | (simp; done) | (simp; omega)) (by first | omega | (simp; done) | (simp; omega))) ?_
  refine And.intro (acalls_overlaps (tS := 108) (tR := 4) (e0 := 70) (o := ⟨g, 10, (List.map Entry.row l), some r⟩) (hcInsE) (tok_slice ttOk (ti := { d := .slice 70, size := 1, bytes := 24, zero := [.sl .nil 0 []] }) (by kernel_rfl) rfl) (fun w => (ttOk 70 { d := .struct [(58, 0), (2, 9)], size := 10, bytes := 96, zero := [.str ⟨#[]⟩, .str ⟨#[]⟩, .int .i64 0, .int .i64 0, .int .i64 0, .int .i64 0, .int .i64 0, .int .i64 0, .bool false, .int .i64 0] } (by kernel_rfl)).sizeOf w) (by decide) (by kernel_rfl) rfl) ?_
  refine And.intro (Yes.add (by omega) (by omega) (by omega)) ?_
  refine And.intro (slice_osl (l := i + 1) (h := (l.length + 1)) (by first | omega | (simp; done) | (simp; omega)) (by first | omega | (simp; done) | (simp; omega)) (by first | omega | (simp; done) | (simp; omega)) (by first | omega | (simp; done) | (simp; omega)) (by first | omega | (simp; done) | (simp; omega)) (by first | omega | (simp; done) | (simp; omega))) ?_
  refine And.intro (slice_osl (l := i) (h := (l.length + 1)) (by first | omega | (simp; done) | (simp; omega)) (by first | omega | (simp; done) | (simp; omega)) (by first | omega | (simp; done) | (simp; omega)) (by first | omega | (simp; done) | (simp; omega)) (by first | omega | (simp; done) | (simp; omega)) (by first | omega | (simp; done) | (simp; omega))) ?_
  refine And.intro (sat_copyN (o := (opIn Try.f88 15 8)) (t := 108) (e0 := 70) (ti := { d := .slice 70, size := 1, bytes := 24, zero := [.sl .nil 0 []] }) (id := 0) (g := g) (e := (i + 1)) (n := ((l.length + 1) - (i + 1))) (t' := 108) (te := { d := .struct [(58, 0), (2, 9)], size := 10, bytes := 96, zero := [.str ⟨#[]⟩, .str ⟨#[]⟩, .int .i64 0, .int .i64 0, .int .i64 0, .int .i64 0, .int .i64 0, .int .i64 0, .bool false, .int .i64 0] }) (k := 10) (els := (List.map Entry.row l)) (els' := (List.map Entry.row (l.take (i + 1) ++ l.drop i))) (room := some r) (id2 := 0) (g2 := g) (e2 := i) (n2 := ((l.length + 1) - i)) (els2 := (List.map Entry.row l)) (room2 := some r) ttOk (by kernel_rfl) (by kernel_rfl) (by kernel_rfl) rfl (by kernel_rfl) rfl (by kernel_rfl) (by kernel_rfl) (by kernel_rfl) (by kernel_rfl) (by first | omega | (simp; done) | (simp; omega)) (by first | omega | (simp; done) | (simp; omega)) (by first | omega | (simp; done) | (simp; omega)) (by first | omega | (simp; done) | (simp; omega)) (by rw [show l.length + 1 - (i + 1) = l.length - i by omega]; exact ins3 Entry.row l hi) rfl rfl) ?_
  refine And.intro (slice_osl (l := i) (h := (l.length + 1)) (by first | omega | (simp; done) | (simp; omega)) (by first | omega | (simp; done) | (simp; omega)) (by first | omega | (simp; done) | (simp; omega)) (by first | omega | (simp; done) | (simp; omega)) (by first | omega | (simp; done) | (simp; omega)) (by first | omega | (simp; done) | (simp; omega))) ?_
  refine And.intro (sat_copy (o := (opIn Try.f88 16 4)) (t := 108) (e0 := 70) (ti := { d := .slice 70, size := 1, bytes := 24, zero := [.sl .nil 0 []] }) (id := 0) (g := g) (e := i) (n := ((l.length + 1) - i)) (t' := 108) (te := { d := .struct [(58, 0), (2, 9)], size := 10, bytes := 96, zero := [.str ⟨#[]⟩, .str ⟨#[]⟩, .int .i64 0, .int .i64 0, .int .i64 0, .int .i64 0, .int .i64 0, .int .i64 0, .bool false, .int .i64 0] }) (k := 10) (els := (List.map Entry.row (l.take (i + 1) ++ l.drop i))) (els' := (List.map Entry.row (l.take i ++ x :: l.drop i))) (room := some r) (new := [(Entry.row x)]) (s := (AV.sl .clip 10 [(Entry.row x)])) ttOk (by kernel_rfl) (by kernel_rfl) (by kernel_rfl) rfl (by kernel_rfl) rfl (by kernel_rfl) (by kernel_rfl) (by kernel_rfl) (by kernel_rfl) (by first | omega | (simp; done) | (simp; omega)) (by first | omega | (simp; done) | (simp; omega)) (by first | omega | (simp; done) | (simp; omega)) (ins4 Entry.row x l hi) (rfl) rfl) ?_
  refine And.intro (by first | (simp [obsB, AV.bddss, AV.bdds, AV.bdd]; done) | simp [obsB, AV.bddss, AV.bdds, AV.bdd, -List.map_append, -List.map_set, -List.map_take, -List.map_drop, -List.map_cons, -List.map_map]) ?_
  rfl
theorem InsE_spec (l : List Entry) (x : Entry) (g i n : Nat) (hn : n = l.length) (hi : i ≤ l.length) (hl : l.length < 1048576) : ACalls Try.prog 88 [(.osl 0 g 10 0 n), (.int .i64 ((i : Nat) : Int)), (.sl .clip 10 [(Entry.row x)])] ([⟨g, 10, (List.map Entry.row l), none⟩] : Heap) ((AV.osl 0 (g + 1) 10 0 (n + 1)), ([⟨(g + 1), 10, (List.map Entry.row (l.take i ++ x :: l.drop i)), none⟩] : Heap)) := by
  subst hn
  exact ACalls.insert Entry.rows_bdd hi (InsEE_spec l x g hl) (fun h r hr => InsEG_spec l x g i r h hl hr) (fun h r hr => InsER_spec l x g i r h hl hr)
def DelE0_ann : Ann := { big := [13, 31], base := 1 }
set_option maxRecDepth 100000 in
theorem DelE0_spec (l : List Entry) (g i : Nat) (hi : i < l.length) (hl : l.length < 1048576) : ACalls Try.prog 133 [(.osl 0 g 10 0 l.length), (.int .i64 ((i : Nat) : Int)), (.int .i64 ((i + 1 : Nat) : Int))] ([⟨g, 10, (List.map Entry.row l), none⟩] : Heap) ((AV.osl 0 g 10 0 (l.length - 1)), ([⟨g, 10, (List.map Entry.row (l.take i ++ l.drop (i + 1)) ++ [(List.replicate 10 AV.unk)]), none⟩] : Heap)) := by
  refine spec (fn := Try.f133) (ann := DelE0_ann) (t := (.reg [] [] [] (.reg [(5, (.unk, ([⟨g, 10, (List.map Entry.row l), none⟩] : Heap)))] [] [] (.reg [(2, ((AV.bool false), ([⟨g, 10, (List.map Entry.row l), none⟩] : Heap)))] [] [] (.two .nil (.reg [] [] [] (.reg [(2, ((AV.osl 0 g 10 0 i), ([⟨g, 10, (List.map Entry.row l), none⟩] : Heap))), (5, ((AV.osl 0 g 10 (i + 1) (l.length - (i + 1))), ([⟨g, 10, (List.map Entry.row l), none⟩] : Heap))), (6, ((AV.osl 0 g 10 0 (l.length - 1)), ([⟨g, 10, (List.map Entry.row (l.take i ++ l.drop (i + 1) ++ l.drop (l.length - 1))), none⟩] : Heap)))] [] [] (.reg [(4, ((AV.osl 0 g 10 (l.length - 1) 1), ([⟨g, 10, (List.map Entry.row (l.take i ++ l.drop (i + 1) ++ l.drop (l.length - 1))), none⟩] : Heap))), (5, (.unk, ([⟨g, 10, (List.map Entry.row (l.take i ++ l.drop (i + 1)) ++ [(List.replicate 10 AV.unk)]), none⟩] : Heap)))] [] [] (.reg [] [] [] .nil))))))))) (Nat.le_of_ble_eq_true (by kernel_rfl)) ⟨Try.func133, by kernel_rfl, by kernel_rfl, by kernel_rfl⟩ ?_
  refine Eq.mp (by kernel_rfl : ((Sat Try.prog (X DelE0_ann) (mkF 33 [(0, (.osl 0 g 10 0 l.length)), (1, (.int .i64 ((i : Nat) : Int))), (2, (.int .i64 ((i + 1 : Nat) : Int))), (6, (.sl .nil 0 [])), (8, (.osl 0 g 10 0 l.length)), (9, (.int .i64 ((i : Nat) : Int))), (10, (.int .i64 ((i + 1 : Nat) : Int))), (11, (.osl 0 g 10 0 l.length)), (12, (.int .i64 ((l.length : Nat) : Int)))]) ([⟨g, 10, (List.map Entry.row l), none⟩] : Heap) 1 (opIn Try.f133 1 5) AV.unk ([⟨g, 10, (List.map Entry.row l), none⟩] : Heap)) ∧ (Yes (AV.bool (((i : Nat) : Int) == ((i + 1 : Nat) : Int))) ([⟨g, 10, (List.map Entry.row l), none⟩] : Heap) (AV.bool false)) ∧ (Option.map (fun a => (a, ([⟨g, 10, (List.map Entry.row l), none⟩] : Heap))) ((bounds 0 ((i : Nat) : Int) l.length).map fun p => AV.osl 0 g 10 (0 + p.1) (p.2 - p.1)) = some ((AV.osl 0 g 10 0 i), ([⟨g, 10, (List.map Entry.row l), none⟩] : Heap))) ∧ (Option.map (fun a => (a, ([⟨g, 10, (List.map Entry.row l), none⟩] : Heap))) ((bounds ((i + 1 : Nat) : Int) ((l.length : Nat) : Int) l.length).map fun p => AV.osl 0 g 10 (0 + p.1) (p.2 - p.1)) = some ((AV.osl 0 g 10 (i + 1) (l.length - (i + 1))), ([⟨g, 10, (List.map Entry.row l), none⟩] : Heap))) ∧ (evAppend tt ([⟨g, 10, (List.map Entry.row l), none⟩] : Heap) 108 (AV.osl 0 g 10 0 i) (AV.osl 0 g 10 (i + 1) (l.length - (i + 1))) = some ((AV.osl 0 g 10 0 (l.length - 1)), ([⟨g, 10, (List.map Entry.row (l.take i ++ l.drop (i + 1) ++ l.drop (l.length - 1))), none⟩] : Heap))) ∧ (Sat Try.prog (X DelE0_ann) (mkF 33 [(0, (.osl 0 g 10 0 (l.length - 1))), (1, (.int .i64 ((i : Nat) : Int))), (2, (.int .i64 ((i + 1 : Nat) : Int))), (6, (.sl .nil 0 [])), (7, (.int .i64 ((l.length : Nat) : Int))), (8, (.osl 0 g 10 0 l.length)), (9, (.int .i64 ((i : Nat) : Int))), (10, (.int .i64 ((i + 1 : Nat) : Int))), (11, (.osl 0 g 10 0 l.length)), (12, (.int .i64 ((l.length : Nat) : Int))), (13, AV.unk), (14, (.int .i64 ((i : Nat) : Int))), (15, (.int .i64 ((i + 1 : Nat) : Int))), (16, (.bool false)), (18, (.osl 0 g 10 0 l.length)), (19, (.int .i64 ((l.length : Nat) : Int))), (20, (.osl 0 g 10 0 l.length)), (21, (.int .i64 ((i : Nat) : Int))), (22, (.osl 0 g 10 0 i)), (23, (.osl 0 g 10 0 l.length)), (24, (.int .i64 ((i + 1 : Nat) : Int))), (25, (.osl 0 g 10 (i + 1) (l.length - (i + 1)))), (26, (.osl 0 g 10 0 (l.length - 1))), (27, (.osl 0 g 10 0 (l.length - 1))), (28, (.osl 0 g 10 0 (l.length - 1))), (29, (.int .i64 (((l.length - 1) : Nat) : Int))), (30, (.int .i64 ((l.length : Nat) : Int)))]) ([⟨g, 10, (List.map Entry.row (l.take i ++ l.drop (i + 1) ++ l.drop (l.length - 1))), none⟩] : Heap) 1 (opIn Try.f133 6 4) (AV.osl 0 g 10 (l.length - 1) 1) ([⟨g, 10, (List.map Entry.row (l.take i ++ l.drop (i + 1) ++ l.drop (l.length - 1))), none⟩] : Heap)) ∧ (Sat Try.prog (X DelE0_ann) (mkF 33 [(0, (.osl 0 g 10 0 (l.length - 1))), (1, (.int .i64 ((i : Nat) : Int))), (2, (.int .i64 ((i + 1 : Nat) : Int))), (6, (.sl .nil 0 [])), (7, (.int .i64 ((l.length : Nat) : Int))), (8, (.osl 0 g 10 0 l.length)), (9, (.int .i64 ((i : Nat) : Int))), (10, (.int .i64 ((i + 1 : Nat) : Int))), (11, (.osl 0 g 10 0 l.length)), (12, (.int .i64 ((l.length : Nat) : Int))), (13, AV.unk), (14, (.int .i64 ((i : Nat) : Int))), (15, (.int .i64 ((i + 1 : Nat) : Int))), (16, (.bool false)), (18, (.osl 0 g 10 0 l.length)), (19, (.int .i64 ((l.length : Nat) : Int))), (20, (.osl 0 g 10 0 l.length)), (21, (.int .i64 ((i : Nat) : Int))), (22, (.osl 0 g 10 0 i)), (23, (.osl 0 g 10 0 l.length)), (24, (.int .i64 ((i + 1 : Nat) : Int))), (25, (.osl 0 g 10 (i + 1) (l.length - (i + 1)))), (26, (.osl 0 g 10 0 (l.length - 1))), (27, (.osl 0 g 10 0 (l.length - 1))), (28, (.osl 0 g 10 0 (l.length - 1))), (29, (.int .i64 (((l.length - 1) : Nat) : Int))), (30, (.int .i64 ((l.length : Nat) : Int))), (31, (.osl 0 g 10 (l.length - 1) 1))]) ([⟨g, 10, (List.map Entry.row (l.take i ++ l.drop (i + 1) ++ l.drop (l.length - 1))), none⟩] : Heap) 1 (opIn Try.f133 6 5) AV.unk ([⟨g, 10, (List.map Entry.row (l.take i ++ l.drop (i + 1)) ++ [(List.replicate 10 AV.unk)]), none⟩] : Heap)) ∧ ((AV.osl 0 g 10 0 (l.length - 1)), ([⟨g, 10, (List.map Entry.row (l.take i ++ l.drop (i + 1)) ++ [(List.replicate 10 AV.unk)]), none⟩] : Heap)) = ((AV.osl 0 g 10 0 (l.length - 1)), ([⟨g, 10, (List.map Entry.row (l.take i ++ l.drop (i + 1)) ++ [(List.replicate 10 AV.unk)]), none⟩] : Heap))) = _) ?_
  refine And.intro (sat_slice3 (o := (opIn Try.f133 1 5)) (t := 108) (e0 := 70) (ti := { d := .slice 70, size := 1, bytes := 24, zero := [.sl .nil 0 []] }) (id := 0) (g := g) (e := 0) (n := l.length) (te := { d := .struct [(58, 0), (2, 9)], size := 10, bytes := 96, zero := [.str ⟨#[]⟩, .str ⟨#[]⟩, .int .i64 0, .int .i64 0, .int .i64 0, .int .i64 0, .int .i64 0, .int .i64 0, .bool false, .int .i64 0] }) (k := 10) (l := i) (h := i + 1) (c := l.length) ttOk (by kernel_rfl) (by kernel_rfl) (by kernel_rfl) rfl (by kernel_rfl) rfl (by kernel_rfl) (by kernel_rfl) (by kernel_rfl) (by kernel_rfl) (by first | omega | (simp; done) | (simp; omega)) (by first | omega | (simp; done) | (simp; omega)) (by first | omega | (simp; done) | (simp; omega))) ?_
  refine And.intro (Yes.bool (by simp; omega)) ?_
  refine And.intro (slice_osl (l := 0) (h := i) (by first | omega | (simp; done) | (simp; omega)) (by first | omega | (simp; done) | (simp; omega)) (by first | omega | (simp; done) | (simp; omega)) (by first | omega | (simp; done) | (simp; omega)) (by first | omega | (simp; done) | (simp; omega)) (by first | omega | (simp; done) | (simp; omega))) ?_
  refine And.intro (slice_osl (l := i + 1) (h := l.length) (by first | omega | (simp; done) | (simp; omega)) (by first | omega | (simp; done) | (simp; omega)) (by first | omega | (simp; done) | (simp; omega)) (by first | omega | (simp; done) | (simp; omega)) (by first | omega | (simp; done) | (simp; omega)) (by first | omega | (simp; done) | (simp; omega))) ?_
  refine And.intro (evAppend_over (els := (List.map Entry.row l)) (ti := { d := .slice 70, size := 1, bytes := 24, zero := [.sl .nil 0 []] }) (te := { d := .struct [(58, 0), (2, 9)], size := 10, bytes := 96, zero := [.str ⟨#[]⟩, .str ⟨#[]⟩, .int .i64 0, .int .i64 0, .int .i64 0, .int .i64 0, .int .i64 0, .int .i64 0, .bool false, .int .i64 0] }) (e0 := 70) (by kernel_rfl) rfl (by kernel_rfl) rfl (by decide) (by kernel_rfl) (by first | omega | (simp; done) | (simp; omega)) (by first | omega | (simp; done) | (simp; omega)) (del1 Entry.row l hi) (by first | omega | (simp; done) | (simp; omega)) rfl) ?_
  refine And.intro (sat_sliceR (o := (opIn Try.f133 6 4)) (t := 108) (e0 := 70) (ti := { d := .slice 70, size := 1, bytes := 24, zero := [.sl .nil 0 []] }) (id := 0) (g := g) (e := 0) (n := (l.length - 1)) (te := { d := .struct [(58, 0), (2, 9)], size := 10, bytes := 96, zero := [.str ⟨#[]⟩, .str ⟨#[]⟩, .int .i64 0, .int .i64 0, .int .i64 0, .int .i64 0, .int .i64 0, .int .i64 0, .bool false, .int .i64 0] }) (k := 10) (room := none) (l := (l.length - 1)) (h := l.length) (els := (List.map Entry.row (l.take i ++ l.drop (i + 1) ++ l.drop (l.length - 1)))) ttOk (by kernel_rfl) (by kernel_rfl) (by kernel_rfl) rfl (by kernel_rfl) rfl (by kernel_rfl) (by kernel_rfl) (by kernel_rfl) (by kernel_rfl) (by first | omega | (simp; done) | (simp; omega)) (by first | omega | (simp; done) | (simp; omega)) (by first | omega | (simp; done) | (simp; omega)) (by first | omega | (simp; done) | (simp; omega))) ?_
  refine And.intro (sat_clear (o := (opIn Try.f133 6 5)) (t := 108) (e0 := 70) (ti := { d := .slice 70, size := 1, bytes := 24, zero := [.sl .nil 0 []] }) (id := 0) (g := g) (e := (l.length - 1)) (n := 1) (te := { d := .struct [(58, 0), (2, 9)], size := 10, bytes := 96, zero := [.str ⟨#[]⟩, .str ⟨#[]⟩, .int .i64 0, .int .i64 0, .int .i64 0, .int .i64 0, .int .i64 0, .int .i64 0, .bool false, .int .i64 0] }) (k := 10) (els := (List.map Entry.row (l.take i ++ l.drop (i + 1) ++ l.drop (l.length - 1)))) (els' := (List.map Entry.row (l.take i ++ l.drop (i + 1)) ++ [(List.replicate 10 AV.unk)])) (room := none) ttOk (by kernel_rfl) (by kernel_rfl) (by kernel_rfl) rfl (by kernel_rfl) rfl (by decide) (by kernel_rfl) (by kernel_rfl) (by first | omega | (simp; done) | (simp; omega)) (by simp; omega) (del2 Entry.row (List.replicate 10 AV.unk) l hi) rfl) ?_
  rfl
theorem DelE_spec (l : List Entry) (g i n : Nat) (hn : n = l.length) (hi : i < l.length) (hl : l.length < 1048576) : ACalls Try.prog 133 [(.osl 0 g 10 0 n), (.int .i64 ((i : Nat) : Int)), (.int .i64 ((i + 1 : Nat) : Int))] ([⟨g, 10, (List.map Entry.row l), none⟩] : Heap) ((AV.osl 0 g 10 0 (n - 1)), ([⟨g, 10, (List.map Entry.row (l.take i ++ l.drop (i + 1))), none⟩] : Heap)) := by
  subst hn
  exact (DelE0_spec l g i hi hl).delete (by rw [List.take_append_of_le_length (by simp; omega), List.take_of_length_le (by simp; omega)])
end Go.Proofs.Ytcmfnfkahdconaa.AM

set_option linter.unusedVariables false
set_option linter.unusedSimpArgs false
namespace Go.Proofs.Ytcmfnfkahdconaa.AM
open Go
def AV.scalss (els : List (List AV)) : Bool := els.all fun r => r.all AV.scal
theorem scalss_get {els : List (List AV)} (h : AV.scalss els = true) {i j : Nat} (hi : i < els.length) (hj : j < (els.getD i []).length) : ((els.getD i []).getD j .skip).scal = true := by
  have h1 : els.getD i [] ∈ els := by
    rw [List.getD_eq_getElem?_getD, List.getElem?_eq_getElem hi]; exact List.getElem_mem _
  have h3 := List.all_eq_true.1 h _ h1
  generalize els.getD i [] = r at hj h3 ⊢
  have h2 : r.getD j .skip ∈ r := by
    rw [List.getD_eq_getElem?_getD, List.getElem?_eq_getElem hj]; exact List.getElem_mem _
  exact List.all_eq_true.1 h3 _ h2
theorem scalss_map {α : Type} {row : α → List AV} (h : ∀ x, (row x).all AV.scal = true) (l : List α) : AV.scalss (l.map row) = true := by
  unfold AV.scalss
  rw [List.all_eq_true]
  intro r hr
  obtain ⟨x, _, rfl⟩ := List.mem_map.1 hr
  exact h x
theorem ACalls.borrow_osl {P : Program} {f : FuncId} {args args' : List AV} {g k n : Nat} {o : Ob} (h : ACalls P f args [] (.osl 0 g k 0 n, [o])) (ho : AV.scalss o.els = true) {H : Heap} (hb : Brs H args' args) : ACalls P f args' H (.osl H.length g k 0 n, H ++ [o]) := by
  intro G w C vs hsz hargs hH
  obtain ⟨hlen, hbr⟩ := Brs.get hb
  have key : ∀ i, i < args.length → VR (fun b => G b ∨ ∃ id l, C.ι id = some l ∧ l.b = some b) w Cx.none (args.getD i .skip) (vs.getD i undef) := by
    intro i hi
    have hv := hargs i (by omega)
    rcases hbr i hi with ⟨e, h0⟩ | ⟨id, g, k, e, n, rows, h1, h2, h3, h4⟩
    · rw [e] at hv
      have := hv.cut 0 h0
      rw [cut_zero] at this
      exact this.mono (fun b hb => .inl hb) (fun _ _ => rfl) (CxLe.refl _)
    · rw [h1] at hv
      rw [h2]
      obtain ⟨G', C', e1, e2, e3, _⟩ := freeze_sound hH hv h3 h4
      have := e3.cut 0 rfl
      rw [cut_zero] at this
      refine this.mono (fun b hb => ?_) (fun _ _ => rfl) (CxLe.refl _)
      rcases e1.grow b hb with h5 | h5 | h5
      · exact .inl h5
      · exact .inr h5
      · have := e2.gsz b hb; omega
  refine (h _ w Cx.none vs (by omega) key
    ⟨fun id o ho => by simp at ho, fun id _ => ⟨rfl, rfl⟩, fun id l b hl => by simp [Cx.none] at hl, fun i j l l' b hl => by simp [Cx.none] at hl, fun id o l ho => by simp at ho,
      fun b hb => hb.elim (hH.gsz b) fun ⟨id, l, h1, h2⟩ => (hH.own id l b h1 h2).1⟩).mono fun v w' ⟨G2, C2, he, hh, hv, hp⟩ => ?_
  have hall : ∀ b, b < w.heap.size → w'.heap[b]? = w.heap[b]? := fun b hb => he.rest b hb fun id l hl => by simp [Cx.none] at hl
  obtain ⟨hγn, hιn⟩ := hH.out H.length (Nat.le_refl _)
  have hnew : ∀ l b, C2.ι 0 = some l → l.b = some b → w.heap.size ≤ b := fun l b hl hb => by
    rcases he.own 0 l b hl hb with ⟨j, m, hm, _⟩ | h1
    · simp [Cx.none] at hm
    · exact h1
  have hC1 : (C.lay H.length (C2.ι 0) (C2.γ 0)).ι H.length = C2.ι 0 := Cx.lay_ι ..
  have hC2 : (C.lay H.length (C2.ι 0) (C2.γ 0)).γ H.length = C2.γ 0 := Cx.lay_γ ..
  have hC3 : ∀ j, j ≠ H.length → (C.lay H.length (C2.ι 0) (C2.γ 0)).ι j = C.ι j ∧ (C.lay H.length (C2.ι 0) (C2.γ 0)).γ j = C.γ j := fun j hj => Cx.lay_ne _ _ _ _ hj
  generalize C.lay H.length (C2.ι 0) (C2.γ 0) = C' at hC1 hC2 hC3
  have hcx : CxLe C C' := fun j => by
    by_cases hj : j = H.length
    · subst hj; rw [hC2, hγn, hC1, hιn]; exact ⟨Nat.zero_le _, fun _ l hl => by simp at hl⟩
    · rw [(hC3 j hj).1, (hC3 j hj).2]; exact ⟨Nat.le_refl _, fun _ l hl => hl⟩
  have hev : Ev G w C G w' C' := ⟨he.os, he.tape, he.output, he.size, fun _ h => h, fun b hb => hall b (hH.gsz b hb), hcx, fun b hb _ => hall b hb, fun _ h => .inl h, fun id l b h1 h2 => by
    by_cases hj : id = H.length
    · subst hj; rw [hC1] at h1; exact .inr (hnew l b h1 h2)
    · rw [(hC3 id hj).1] at h1; exact .inl ⟨id, l, h1, h2⟩, he.frz⟩
  have hget : ∀ (j : Nat) (oj : Ob), (H ++ [o])[j]? = some oj → (j < H.length ∧ H[j]? = some oj) ∨ (j = H.length ∧ oj = o) := fun j oj hj => by
    rcases Nat.lt_or_ge j H.length with h' | h'
    · rw [List.getElem?_append_left h'] at hj; exact .inl ⟨h', hj⟩
    · have := heap_lt hj
      simp at this
      obtain rfl : j = H.length := by omega
      simp at hj
      exact .inr ⟨rfl, hj.symm⟩
  refine ⟨G, C', hev, ⟨fun j oj hj => ?_, fun j hj => ?_, fun j l b hl hlb => ?_, fun i j l l' b hi hj hb hb' => ?_, fun j oj l hj hl => ?_, fun b hb => Nat.lt_of_lt_of_le (hH.gsz b hb) he.size⟩, ?_, by simp, fun j hj _ hιj => ?_⟩
  · rcases hget j oj hj with ⟨h1, h2⟩ | ⟨rfl, rfl⟩
    · rw [(hC3 j (by omega)).2]; exact hH.gen j oj h2
    · rw [hC2]; exact hh.gen 0 oj rfl
  · simp only [List.length_append, List.length_singleton] at hj
    rw [(hC3 j (by omega)).1, (hC3 j (by omega)).2]; exact hH.out j (by omega)
  · by_cases hj : j = H.length
    · subst hj; rw [hC1] at hl
      obtain ⟨q1, q2⟩ := hh.own 0 l b hl hlb
      exact ⟨q1, fun hg => q2 (he.lock b (.inl hg))⟩
    · rw [(hC3 j hj).1] at hl
      obtain ⟨q1, q2⟩ := hH.own j l b hl hlb
      exact ⟨Nat.lt_of_lt_of_le q1 he.size, q2⟩
  · by_cases h1 : i = H.length <;> by_cases h2 : j = H.length
    · omega
    · subst h1; rw [hC1] at hi; rw [(hC3 j h2).1] at hj
      have := hnew l b hi hb; have := (hH.own j l' b hj hb').1; omega
    · subst h2; rw [hC1] at hj; rw [(hC3 i h1).1] at hi
      have := hnew l' b hj hb'; have := (hH.own i l b hi hb).1; omega
    · rw [(hC3 i h1).1] at hi; rw [(hC3 j h2).1] at hj
      exact hH.inj i j l l' b hi hj hb hb'
  · rcases hget j oj hj with ⟨h1, h2⟩ | ⟨rfl, rfl⟩
    · rw [(hC3 j (by omega)).1] at hl
      exact (hH.ob j oj l h2 hl).ev hev fun b hb => hall b (hH.own j l b hl hb).1
    · rw [hC1] at hl
      have hob := hh.ob 0 oj l rfl hl
      refine ⟨hob.k, hob.rm, hob.no, hob.len, hob.row, fun b hb => ?_⟩
      obtain ⟨cs, et, q1, q2, q3⟩ := hob.cells b hb
      exact ⟨cs, et, q1, q2, fun i j hi hj => ⟨(q3 i j hi hj).1, (q3 i j hi hj).2.scal (scalss_get ho hi (by rw [hob.row i hi]; exact hj))⟩⟩
  · cases hv with
    | osl _ _ _ _ _ _ ad cap hnc hle hl =>
      refine .osl _ _ _ _ _ _ _ _ hnc (by rw [hC2]; exact hle) fun hg => ?_
      rw [hC2] at hg
      rw [hC1]
      exact hl hg
    | osl0 _ _ _ _ _ base hle hl =>
      refine .osl0 _ _ _ _ _ _ (by rw [hC2]; exact hle) fun hg => ?_
      rw [hC2] at hg
      rw [hC1]
      exact hl hg
  · rw [(hC3 j (by omega)).1, (hC3 j (by omega)).2, List.getElem?_append_left hj]
    exact ⟨hιj, rfl, rfl⟩
end Go.Proofs.Ytcmfnfkahdconaa.AM

set_option maxRecDepth 100000
set_option linter.unusedVariables false
set_option linter.unusedSimpArgs false
namespace Go.Proofs.Ytcmfnfkahdconaa.AM
open Go Go.Proofs.Ytcmfnfkahdconaa
attribute [local irreducible] ACalls funT codeT codeQ LoopTo
attribute [local irreducible] Tp.card Tp.cardT Tp.next Tp.step Tp.key Tp.keyT sink insSort sortK insK posK beforeK
def findP (l : List Entry) (k : Key) : Nat := (l.takeWhile fun e => beforeK e.card.key k).length
def findB (l : List Entry) (k : Key) : Bool := decide (findP l k < l.length) && Key.eqb (nth l (findP l k)).card.key k
theorem findP_le (l : List Entry) (k : Key) : findP l k ≤ l.length := by
  unfold findP
  have := List.Sublist.length_le (List.takeWhile_sublist (l := l) fun e => beforeK e.card.key k)
  exact this
theorem findP_lt {l : List Entry} {k : Key} : ∀ {i : Nat}, i < findP l k → beforeK (nth l i).card.key k = true := by
  unfold findP
  induction l with
  | nil => intro i h; simp at h
  | cons e l ih =>
    intro i h
    rw [List.takeWhile_cons] at h
    by_cases hb : beforeK e.card.key k = true
    · rw [if_pos hb] at h
      cases i with
      | zero => exact hb
      | succ i => exact ih (by simpa using h)
    · rw [if_neg hb] at h; simp at h
theorem findP_at {l : List Entry} {k : Key} (h : findP l k < l.length) : beforeK (nth l (findP l k)).card.key k = false := by
  unfold findP at *
  induction l with
  | nil => simp at h
  | cons e l ih =>
    rw [List.takeWhile_cons] at h ⊢
    by_cases hb : beforeK e.card.key k = true
    · rw [if_pos hb] at h ⊢
      exact ih (by simpa using h)
    · rw [if_neg hb]
      have h3 : beforeK e.card.key k = false := by simpa using hb
      exact h3
theorem findB_lt {l : List Entry} {k : Key} (h : findB l k = true) : findP l k < l.length := by
  unfold findB at h
  rw [Bool.and_eq_true] at h
  exact of_decide_eq_true h.1
def find_ann : Ann := { refs := [3], base := 2, fin := some 2, live := [(2, [0, 3, 6])], out := [(2, [0, 3, 6])] }
set_option maxRecDepth 100000 in
theorem find_step (most : Int) (l : List Entry) (k : Key) (g n : Nat) (i : Nat) (hn : n = l.length) (hl : l.length < 1048576) (hi : i ≤ l.length) {eX : Ex} {FX : Fr} {HX : Heap} (k1 : (decide (((i : Nat) : Int) < ((n : Nat) : Int))) = true → (lessK (nth l i).card.key k) = true → LoopTo (codeQ Try.prog (X find_ann) (loopOf Try.f75 0)) (some [0, 3, 6]) (some [0, 3, 6]) (mkF 50 [(0, (.obj 0 0 0 0)), (3, (.ref (Key.row k) 0)), (6, (.int .i64 ((i + 1 : Nat) : Int)))]) ([⟨0, 2, [[(.int .i64 most), (.osl 1 g 10 0 n)]], none⟩, ⟨g, 10, (List.map Entry.row l), none⟩] : Heap) eX FX HX) (k2 : (decide (((i : Nat) : Int) < ((n : Nat) : Int))) = true → (lessK (nth l i).card.key k) = false → ((.exit 0 : Ex), (mkF 50 [(0, (.obj 0 0 0 0)), (3, (.ref (Key.row k) 0)), (6, (.int .i64 ((i : Nat) : Int)))]), ([⟨0, 2, [[(.int .i64 most), (.osl 1 g 10 0 n)]], none⟩, ⟨g, 10, (List.map Entry.row l), none⟩] : Heap)) = (eX, FX, HX)) (k3 : (decide (((i : Nat) : Int) < ((n : Nat) : Int))) = false → ((.exit 0 : Ex), (mkF 50 [(0, (.obj 0 0 0 0)), (3, (.ref (Key.row k) 0)), (6, (.int .i64 ((i : Nat) : Int)))]), ([⟨0, 2, [[(.int .i64 most), (.osl 1 g 10 0 n)]], none⟩, ⟨g, 10, (List.map Entry.row l), none⟩] : Heap)) = (eX, FX, HX)) : LoopTo (codeQ Try.prog (X find_ann) (loopOf Try.f75 0)) (some [0, 3, 6]) (some [0, 3, 6]) (mkF 50 [(0, (.obj 0 0 0 0)), (3, (.ref (Key.row k) 0)), (6, (.int .i64 ((i : Nat) : Int)))]) ([⟨0, 2, [[(.int .i64 most), (.osl 1 g 10 0 n)]], none⟩, ⟨g, 10, (List.map Entry.row l), none⟩] : Heap) eX FX HX := by
  refine LoopTo.step (.reg [(13, ((AV.obj 1 g i 0), ([⟨0, 2, [[(.int .i64 most), (.osl 1 g 10 0 n)]], none⟩, ⟨g, 10, (List.map Entry.row l), none⟩] : Heap))), (16, ((AV.agg (Key.row (nth l i).card.key)), ([⟨0, 2, [[(.int .i64 most), (.osl 1 g 10 0 n)]], none⟩, ⟨g, 10, (List.map Entry.row l), none⟩] : Heap))), (18, ((AV.bool (lessK (nth l i).card.key k)), ([⟨0, 2, [[(.int .i64 most), (.osl 1 g 10 0 n)]], none⟩, ⟨g, 10, (List.map Entry.row l), none⟩] : Heap)))] [] [] (.two (.two (.two (.two (.two (.two (.two (.two (.two (.two (.two (.two (.reg [(1, ((AV.int .i64 ((i + 1 : Nat) : Int)), ([⟨0, 2, [[(.int .i64 most), (.osl 1 g 10 0 n)]], none⟩, ⟨g, 10, (List.map Entry.row l), none⟩] : Heap)))] [] [] .nil) .nil) .nil) .nil) .nil) .nil) .nil) .nil) .nil) .nil) .nil) .nil) (.two .nil (.two .nil (.two .nil (.two .nil (.two .nil (.two .nil (.two .nil (.two .nil (.two .nil (.two .nil (.two .nil .nil))))))))))))) ?_
  refine Eq.mp (by kernel_rfl : (cond (decide (((i : Nat) : Int) < ((n : Nat) : Int))) ((IdxOsl 1 g 10 10 0 n ((i : Nat) : Int) ([⟨0, 2, [[(.int .i64 most), (.osl 1 g 10 0 n)]], none⟩, ⟨g, 10, (List.map Entry.row l), none⟩] : Heap) i) ∧ (LoadTo tt 31 0 ([⟨0, 2, [[(.int .i64 most), (.osl 1 g 10 0 n)]], none⟩, ⟨g, 10, (List.map Entry.row l), none⟩] : Heap) (rowAt ([⟨0, 2, [[(.int .i64 most), (.osl 1 g 10 0 n)]], none⟩, ⟨g, 10, (List.map Entry.row l), none⟩] : Heap) 1 g i) = some ((AV.agg (Key.row (nth l i).card.key)), ([⟨0, 2, [[(.int .i64 most), (.osl 1 g 10 0 n)]], none⟩, ⟨g, 10, (List.map Entry.row l), none⟩] : Heap))) ∧ (ACalls Try.prog 129 [(.agg (Key.row (nth l i).card.key)), (.agg (Key.row k))] ([⟨0, 2, [[(.int .i64 most), (.osl 1 g 10 0 n)]], none⟩, ⟨g, 10, (List.map Entry.row l), none⟩] : Heap) ((AV.bool (lessK (nth l i).card.key k)), ([⟨0, 2, [[(.int .i64 most), (.osl 1 g 10 0 n)]], none⟩, ⟨g, 10, (List.map Entry.row l), none⟩] : Heap))) ∧ cond (lessK (nth l i).card.key k) ((Yes (.int .i64 (IntKind.i64.wrap (((i : Nat) : Int) + 1))) ([⟨0, 2, [[(.int .i64 most), (.osl 1 g 10 0 n)]], none⟩, ⟨g, 10, (List.map Entry.row l), none⟩] : Heap) (AV.int .i64 ((i + 1 : Nat) : Int))) ∧ LoopTo (codeQ Try.prog (X find_ann) (loopOf Try.f75 0)) (some [0, 3, 6]) (some [0, 3, 6]) (mkF 50 [(0, (.obj 0 0 0 0)), (3, (.ref (Key.row k) 0)), (6, (.int .i64 ((i + 1 : Nat) : Int)))]) ([⟨0, 2, [[(.int .i64 most), (.osl 1 g 10 0 n)]], none⟩, ⟨g, 10, (List.map Entry.row l), none⟩] : Heap) eX FX HX) (((.exit 0 : Ex), (mkF 50 [(0, (.obj 0 0 0 0)), (3, (.ref (Key.row k) 0)), (6, (.int .i64 ((i : Nat) : Int)))]), ([⟨0, 2, [[(.int .i64 most), (.osl 1 g 10 0 n)]], none⟩, ⟨g, 10, (List.map Entry.row l), none⟩] : Heap)) = (eX, FX, HX))) (((.exit 0 : Ex), (mkF 50 [(0, (.obj 0 0 0 0)), (3, (.ref (Key.row k) 0)), (6, (.int .i64 ((i : Nat) : Int)))]), ([⟨0, 2, [[(.int .i64 most), (.osl 1 g 10 0 n)]], none⟩, ⟨g, 10, (List.map Entry.row l), none⟩] : Heap)) = (eX, FX, HX))) = _) ?_
  refine cond_split (fun h1 => ?_) (fun h1 => ?_)
  · have h1' := h1
    try simp at h1'
    refine And.intro (IdxOsl.mk _ (by omega) (by omega)) ?_
    refine And.intro (load_row (rowAt_map (row := Entry.row) (l := l) (k := 10) (room := none) (by kernel_rfl) (by first | omega | (simp; done) | (simp; omega))) (by kernel_rfl)) ?_
    refine And.intro (keyLess_at (nth l i).card.key k  ([⟨0, 2, [[(.int .i64 most), (.osl 1 g 10 0 n)]], none⟩, ⟨g, 10, (List.map Entry.row l), none⟩] : Heap)) ?_
    refine cond_split (fun h2 => ?_) (fun h2 => ?_)
    · have h2' := h2
      try simp at h2'
      refine And.intro (Yes.add (by omega) (by omega) (by omega)) ?_
      exact k1 h1 h2
    · have h2' := h2
      try simp at h2'
      exact k2 h1 h2
  · have h1' := h1
    try simp at h1'
    exact k3 h1
theorem find_loop (most : Int) (l : List Entry) (k : Key) (g n : Nat) (hn : n = l.length) (hl : l.length < 1048576) (r : Nat) : ∀ (i : Nat), i + r = findP l k →
    LoopTo (codeQ Try.prog (X find_ann) (loopOf Try.f75 0)) (some [0, 3, 6]) (some [0, 3, 6]) (mkF 50 [(0, (.obj 0 0 0 0)), (3, (.ref (Key.row k) 0)), (6, (.int .i64 ((i : Nat) : Int)))]) ([⟨0, 2, [[(.int .i64 most), (.osl 1 g 10 0 n)]], none⟩, ⟨g, 10, (List.map Entry.row l), none⟩] : Heap) (.exit 0) (mkF 50 [(0, (.obj 0 0 0 0)), (3, (.ref (Key.row k) 0)), (6, (.int .i64 (((findP l k) : Nat) : Int)))]) ([⟨0, 2, [[(.int .i64 most), (.osl 1 g 10 0 n)]], none⟩, ⟨g, 10, (List.map Entry.row l), none⟩] : Heap) := by
  have hle := findP_le l k
  induction r with
  | zero =>
    intro i hi
    obtain rfl : i = findP l k := by omega
    refine find_step most l k g n (findP l k) hn hl (by omega) (fun h1 h2 => ?_) (fun _ _ => rfl) (fun _ => rfl)
    rw [less_before, findP_at (by have := of_decide_eq_true h1; omega)] at h2; simp at h2
  | succ r ih =>
    intro i hi
    refine find_step most l k g n i hn hl (by omega) (fun _ _ => ih (i + 1) (by omega)) (fun _ h2 => ?_) (fun h1 => ?_)
    · rw [less_before, findP_lt (show i < findP l k by omega)] at h2; simp at h2
    · simp at h1; omega
set_option maxRecDepth 100000 in
theorem find_spec (most : Int) (l : List Entry) (k : Key) (g n : Nat) (hn : n = l.length) (hl : l.length < 1048576) : ACalls Try.prog 75 [(.obj 0 0 0 0), (.agg (Key.row k))] ([⟨0, 2, [[(.int .i64 most), (.osl 1 g 10 0 n)]], none⟩, ⟨g, 10, (List.map Entry.row l), none⟩] : Heap) ((AV.tup [(.int .i64 (((findP l k) : Nat) : Int)), (.bool (findB l k))]), ([⟨0, 2, [[(.int .i64 most), (.osl 1 g 10 0 n)]], none⟩, ⟨g, 10, (List.map Entry.row l), none⟩] : Heap)) := by
  have hle := findP_le l k
  refine spec (fn := Try.f75) (ann := find_ann) (t := (.reg [] [] [] (.reg [] [] [] (.loop (.exit 0) (mkF 50 [(0, (.obj 0 0 0 0)), (3, (.ref (Key.row k) 0)), (6, (.int .i64 (((findP l k) : Nat) : Int)))]) ([⟨0, 2, [[(.int .i64 most), (.osl 1 g 10 0 n)]], none⟩, ⟨g, 10, (List.map Entry.row l), none⟩] : Heap) (.reg [(14, ((AV.obj 1 g (findP l k) 0), ([⟨0, 2, [[(.int .i64 most), (.osl 1 g 10 0 n)]], none⟩, ⟨g, 10, (List.map Entry.row l), none⟩] : Heap))), (17, ((AV.agg (Key.row (nth l (findP l k)).card.key)), ([⟨0, 2, [[(.int .i64 most), (.osl 1 g 10 0 n)]], none⟩, ⟨g, 10, (List.map Entry.row l), none⟩] : Heap)))] [] [] (.two (.two (.two (.two (.two (.two (.two (.two (.two (.two (.two .nil .nil) .nil) .nil) .nil) .nil) .nil) .nil) .nil) .nil) .nil) (.two .nil (.two .nil (.two .nil (.two .nil (.two .nil (.two .nil (.two .nil (.two .nil (.two .nil (.two .nil .nil)))))))))))))))) (Nat.le_of_ble_eq_true (by kernel_rfl)) ⟨Try.func75, by kernel_rfl, by kernel_rfl, by kernel_rfl⟩ ?_
  refine Eq.mp (by kernel_rfl : ((LoopTo (codeQ Try.prog (X find_ann) (loopOf Try.f75 0)) (some [0, 3, 6]) (some [0, 3, 6]) (mkF 50 [(0, (.obj 0 0 0 0)), (3, (.ref (Key.row k) 0)), (6, (.int .i64 0))]) ([⟨0, 2, [[(.int .i64 most), (.osl 1 g 10 0 n)]], none⟩, ⟨g, 10, (List.map Entry.row l), none⟩] : Heap) (.exit 0) (mkF 50 [(0, (.obj 0 0 0 0)), (3, (.ref (Key.row k) 0)), (6, (.int .i64 (((findP l k) : Nat) : Int)))]) ([⟨0, 2, [[(.int .i64 most), (.osl 1 g 10 0 n)]], none⟩, ⟨g, 10, (List.map Entry.row l), none⟩] : Heap)) ∧ cond (decide ((((findP l k) : Nat) : Int) < ((n : Nat) : Int))) ((IdxOsl 1 g 10 10 0 n (((findP l k) : Nat) : Int) ([⟨0, 2, [[(.int .i64 most), (.osl 1 g 10 0 n)]], none⟩, ⟨g, 10, (List.map Entry.row l), none⟩] : Heap) (findP l k)) ∧ (LoadTo tt 31 0 ([⟨0, 2, [[(.int .i64 most), (.osl 1 g 10 0 n)]], none⟩, ⟨g, 10, (List.map Entry.row l), none⟩] : Heap) (rowAt ([⟨0, 2, [[(.int .i64 most), (.osl 1 g 10 0 n)]], none⟩, ⟨g, 10, (List.map Entry.row l), none⟩] : Heap) 1 g (findP l k)) = some ((AV.agg (Key.row (nth l (findP l k)).card.key)), ([⟨0, 2, [[(.int .i64 most), (.osl 1 g 10 0 n)]], none⟩, ⟨g, 10, (List.map Entry.row l), none⟩] : Heap))) ∧ (AV.bdd 2 (AV.tup [(.int .i64 (((findP l k) : Nat) : Int)), (.bool (Key.eqb (nth l (findP l k)).card.key k))]) = true ∧ obsB 2 ([⟨0, 2, [[(.int .i64 most), (.osl 1 g 10 0 n)]], none⟩, ⟨g, 10, (List.map Entry.row l), none⟩] : Heap) = true) ∧ ((AV.tup [(.int .i64 (((findP l k) : Nat) : Int)), (.bool (Key.eqb (nth l (findP l k)).card.key k))]), ([⟨0, 2, [[(.int .i64 most), (.osl 1 g 10 0 n)]], none⟩, ⟨g, 10, (List.map Entry.row l), none⟩] : Heap)) = ((AV.tup [(.int .i64 (((findP l k) : Nat) : Int)), (.bool (findB l k))]), ([⟨0, 2, [[(.int .i64 most), (.osl 1 g 10 0 n)]], none⟩, ⟨g, 10, (List.map Entry.row l), none⟩] : Heap))) ((AV.bdd 2 (AV.tup [(.int .i64 (((findP l k) : Nat) : Int)), (.bool false)]) = true ∧ obsB 2 ([⟨0, 2, [[(.int .i64 most), (.osl 1 g 10 0 n)]], none⟩, ⟨g, 10, (List.map Entry.row l), none⟩] : Heap) = true) ∧ ((AV.tup [(.int .i64 (((findP l k) : Nat) : Int)), (.bool false)]), ([⟨0, 2, [[(.int .i64 most), (.osl 1 g 10 0 n)]], none⟩, ⟨g, 10, (List.map Entry.row l), none⟩] : Heap)) = ((AV.tup [(.int .i64 (((findP l k) : Nat) : Int)), (.bool (findB l k))]), ([⟨0, 2, [[(.int .i64 most), (.osl 1 g 10 0 n)]], none⟩, ⟨g, 10, (List.map Entry.row l), none⟩] : Heap)))) = _) ?_
  refine And.intro ((find_loop most l k g n hn hl (findP l k) 0 (by omega))) ?_
  refine cond_split (fun h1 => ?_) (fun h1 => ?_)
  · have h1' := h1
    try simp at h1'
    refine And.intro (IdxOsl.mk _ (by omega) (by omega)) ?_
    refine And.intro (load_row (rowAt_map (row := Entry.row) (l := l) (k := 10) (room := none) (by kernel_rfl) (by first | omega | (simp; done) | (simp; omega))) (by kernel_rfl)) ?_
    refine And.intro (by first | (simp [obsB, AV.bddss, AV.bdds, AV.bdd]; done) | simp [obsB, AV.bddss, AV.bdds, AV.bdd, -List.map_append, -List.map_set, -List.map_take, -List.map_drop, -List.map_cons, -List.map_map]) ?_
    have hb : findB l k = Key.eqb (nth l (findP l k)).card.key k := by unfold findB; first | (simp_all; done) | (simp_all; omega) | (simp_all; intro h; omega)
    rw [hb]
  · have h1' := h1
    try simp at h1'
    refine And.intro (by first | (simp [obsB, AV.bddss, AV.bdds, AV.bdd]; done) | simp [obsB, AV.bddss, AV.bdds, AV.bdd, -List.map_append, -List.map_set, -List.map_take, -List.map_drop, -List.map_cons, -List.map_map]) ?_
    have hb : findB l k = false := by unfold findB; first | (simp_all; done) | (simp_all; omega) | (simp_all; intro h; omega)
    rw [hb]
theorem find_at (most : Int) (l : List Entry) (k : Key) (g n : Nat) (hn : n = l.length) (hl : l.length < 1048576) (H : Heap) : ACalls Try.prog 75 [(.obj 0 0 0 0), (.agg (Key.row k))] (([⟨0, 2, [[(.int .i64 most), (.osl 1 g 10 0 n)]], none⟩, ⟨g, 10, (List.map Entry.row l), none⟩] : Heap) ++ H) ((AV.tup [(.int .i64 (((findP l k) : Nat) : Int)), (.bool (findB l k))]), ([⟨0, 2, [[(.int .i64 most), (.osl 1 g 10 0 n)]], none⟩, ⟨g, 10, (List.map Entry.row l), none⟩] : Heap) ++ H) := (find_spec most l k g n hn hl).ext (by kernel_rfl) (by kernel_rfl) (by first | (simp [obsB, AV.bddss, AV.bdds, AV.bdd]; done) | simp [obsB, AV.bddss, AV.bdds, AV.bdd, -List.map_append, -List.map_set, -List.map_take, -List.map_drop, -List.map_cons, -List.map_map]) (by first | (simp [obsB, AV.bddss, AV.bdds, AV.bdd]; done) | simp [obsB, AV.bddss, AV.bdds, AV.bdd, -List.map_append, -List.map_set, -List.map_take, -List.map_drop, -List.map_cons, -List.map_map]) (by kernel_rfl) H
def putIn_ann : Ann := { refs := [3], base := 2, fin := some 2 }
set_option maxRecDepth 100000 in
theorem putIn_spec (most : Int) (l : List Entry) (e : Entry) (g n : Nat) (hn : n = l.length) (hl : l.length < 1048576) (hb : findB l e.card.key = true) : ACalls Try.prog 45 [(.obj 0 0 0 0), (.agg (Entry.row e))] ([⟨0, 2, [[(.int .i64 most), (.osl 1 g 10 0 n)]], none⟩, ⟨g, 10, (List.map Entry.row l), none⟩] : Heap) ((AV.int .i64 0), ([⟨0, 2, [[(.int .i64 most), (.osl 1 g 10 0 n)]], none⟩, ⟨g, 10, (List.map Entry.row (l.set (findP l e.card.key) e)), none⟩] : Heap)) := by
  have hle := findP_le l e.card.key
  have hlt := findB_lt hb
  refine spec (fn := Try.f45) (ann := putIn_ann) (t := (.reg [] [] [] (.reg [(4, ((AV.tup [(.int .i64 (((findP l e.card.key) : Nat) : Int)), (.bool (findB l e.card.key))]), ([⟨0, 2, [[(.int .i64 most), (.osl 1 g 10 0 n)]], none⟩, ⟨g, 10, (List.map Entry.row l), none⟩] : Heap)))] [] [] (.reg [(0, ((AV.bool true), ([⟨0, 2, [[(.int .i64 most), (.osl 1 g 10 0 n)]], none⟩, ⟨g, 10, (List.map Entry.row l), none⟩] : Heap)))] [] [] (.two (.reg [(6, ((AV.obj 1 g (findP l e.card.key) 0), ([⟨0, 2, [[(.int .i64 most), (.osl 1 g 10 0 n)]], none⟩, ⟨g, 10, (List.map Entry.row l), none⟩] : Heap))), (7, (.skip, ([⟨0, 2, [[(.int .i64 most), (.osl 1 g 10 0 n)]], none⟩, ⟨g, 10, (List.map Entry.row (l.set (findP l e.card.key) e)), none⟩] : Heap)))] [] [] (.reg [] [] [] .nil)) .nil))))) (Nat.le_of_ble_eq_true (by kernel_rfl)) ⟨Try.func45, by kernel_rfl, by kernel_rfl, by kernel_rfl⟩ ?_
  refine Eq.mp (by kernel_rfl : ((ACalls Try.prog 75 [(.obj 0 0 0 0), (.agg (Key.row e.card.key))] ([⟨0, 2, [[(.int .i64 most), (.osl 1 g 10 0 n)]], none⟩, ⟨g, 10, (List.map Entry.row l), none⟩] : Heap) ((AV.tup [(.int .i64 (((findP l e.card.key) : Nat) : Int)), (.bool (findB l e.card.key))]), ([⟨0, 2, [[(.int .i64 most), (.osl 1 g 10 0 n)]], none⟩, ⟨g, 10, (List.map Entry.row l), none⟩] : Heap))) ∧ (Yes (AV.bool (findB l e.card.key)) ([⟨0, 2, [[(.int .i64 most), (.osl 1 g 10 0 n)]], none⟩, ⟨g, 10, (List.map Entry.row l), none⟩] : Heap) (AV.bool true)) ∧ (IdxOsl 1 g 10 10 0 n (((findP l e.card.key) : Nat) : Int) ([⟨0, 2, [[(.int .i64 most), (.osl 1 g 10 0 n)]], none⟩, ⟨g, 10, (List.map Entry.row l), none⟩] : Heap) (findP l e.card.key)) ∧ (StoreTo ([⟨0, 2, [[(.int .i64 most), (.osl 1 g 10 0 n)]], none⟩, ⟨g, 10, (List.map Entry.row l), none⟩] : Heap) 1 (findP l e.card.key) 10 0 (rowAt ([⟨0, 2, [[(.int .i64 most), (.osl 1 g 10 0 n)]], none⟩, ⟨g, 10, (List.map Entry.row l), none⟩] : Heap) 1 g (findP l e.card.key)) (AV.fit (AV.agg (Entry.row e)) 10) = some (AV.skip, ([⟨0, 2, [[(.int .i64 most), (.osl 1 g 10 0 n)]], none⟩, ⟨g, 10, (List.map Entry.row (l.set (findP l e.card.key) e)), none⟩] : Heap))) ∧ (AV.bdd 2 (AV.int .i64 0) = true ∧ obsB 2 ([⟨0, 2, [[(.int .i64 most), (.osl 1 g 10 0 n)]], none⟩, ⟨g, 10, (List.map Entry.row (l.set (findP l e.card.key) e)), none⟩] : Heap) = true) ∧ ((AV.int .i64 0), ([⟨0, 2, [[(.int .i64 most), (.osl 1 g 10 0 n)]], none⟩, ⟨g, 10, (List.map Entry.row (l.set (findP l e.card.key) e)), none⟩] : Heap)) = ((AV.int .i64 0), ([⟨0, 2, [[(.int .i64 most), (.osl 1 g 10 0 n)]], none⟩, ⟨g, 10, (List.map Entry.row (l.set (findP l e.card.key) e)), none⟩] : Heap))) = _) ?_
  refine And.intro (find_at most l e.card.key g n (by first | omega | assumption | (simp; done) | (simp; omega) | (simp_all; done) | (simp_all; omega)) (by first | omega | assumption | (simp; done) | (simp; omega) | (simp_all; done) | (simp_all; omega)) ([] : Heap)) ?_
  refine And.intro (Yes.bool (hb)) ?_
  refine And.intro (IdxOsl.mk _ (by omega) (by omega)) ?_
  refine And.intro (store_row (us := (Entry.row e)) (rowAt_map (row := Entry.row) (l := l) (k := 10) (room := none) (by kernel_rfl) (by first | omega | (simp; done) | (simp; omega))) (by kernel_rfl) (by simp [Entry.row]) (by simp [setAt, fillAt, List.map_set, Entry.row])) ?_
  refine And.intro (by first | (simp [obsB, AV.bddss, AV.bdds, AV.bdd]; done) | simp [obsB, AV.bddss, AV.bdds, AV.bdd, -List.map_append, -List.map_set, -List.map_take, -List.map_drop, -List.map_cons, -List.map_map]) ?_
  rfl
def putFull_ann : Ann := { refs := [3], base := 2, fin := some 2 }
set_option maxRecDepth 100000 in
theorem putFull_spec (most : Int) (l : List Entry) (e : Entry) (g n : Nat) (hn : n = l.length) (hl : l.length < 1048576) (hb : findB l e.card.key = false) (hm : most ≤ (n : Int)) : ACalls Try.prog 45 [(.obj 0 0 0 0), (.agg (Entry.row e))] ([⟨0, 2, [[(.int .i64 most), (.osl 1 g 10 0 n)]], none⟩, ⟨g, 10, (List.map Entry.row l), none⟩] : Heap) ((AV.int .i64 24), ([⟨0, 2, [[(.int .i64 most), (.osl 1 g 10 0 n)]], none⟩, ⟨g, 10, (List.map Entry.row l), none⟩] : Heap)) := by
  have hle := findP_le l e.card.key
  refine spec (fn := Try.f45) (ann := putFull_ann) (t := (.reg [] [] [] (.reg [(4, ((AV.tup [(.int .i64 (((findP l e.card.key) : Nat) : Int)), (.bool (findB l e.card.key))]), ([⟨0, 2, [[(.int .i64 most), (.osl 1 g 10 0 n)]], none⟩, ⟨g, 10, (List.map Entry.row l), none⟩] : Heap)))] [] [] (.reg [(0, ((AV.bool false), ([⟨0, 2, [[(.int .i64 most), (.osl 1 g 10 0 n)]], none⟩, ⟨g, 10, (List.map Entry.row l), none⟩] : Heap)))] [] [] (.two .nil (.reg [(9, ((AV.bool true), ([⟨0, 2, [[(.int .i64 most), (.osl 1 g 10 0 n)]], none⟩, ⟨g, 10, (List.map Entry.row l), none⟩] : Heap)))] [] [] (.two (.reg [] [] [] .nil) .nil))))))) (Nat.le_of_ble_eq_true (by kernel_rfl)) ⟨Try.func45, by kernel_rfl, by kernel_rfl, by kernel_rfl⟩ ?_
  refine Eq.mp (by kernel_rfl : ((ACalls Try.prog 75 [(.obj 0 0 0 0), (.agg (Key.row e.card.key))] ([⟨0, 2, [[(.int .i64 most), (.osl 1 g 10 0 n)]], none⟩, ⟨g, 10, (List.map Entry.row l), none⟩] : Heap) ((AV.tup [(.int .i64 (((findP l e.card.key) : Nat) : Int)), (.bool (findB l e.card.key))]), ([⟨0, 2, [[(.int .i64 most), (.osl 1 g 10 0 n)]], none⟩, ⟨g, 10, (List.map Entry.row l), none⟩] : Heap))) ∧ (Yes (AV.bool (findB l e.card.key)) ([⟨0, 2, [[(.int .i64 most), (.osl 1 g 10 0 n)]], none⟩, ⟨g, 10, (List.map Entry.row l), none⟩] : Heap) (AV.bool false)) ∧ (Yes (AV.bool (decide (((n : Nat) : Int) ≥ most))) ([⟨0, 2, [[(.int .i64 most), (.osl 1 g 10 0 n)]], none⟩, ⟨g, 10, (List.map Entry.row l), none⟩] : Heap) (AV.bool true)) ∧ (AV.bdd 2 (AV.int .i64 24) = true ∧ obsB 2 ([⟨0, 2, [[(.int .i64 most), (.osl 1 g 10 0 n)]], none⟩, ⟨g, 10, (List.map Entry.row l), none⟩] : Heap) = true) ∧ ((AV.int .i64 24), ([⟨0, 2, [[(.int .i64 most), (.osl 1 g 10 0 n)]], none⟩, ⟨g, 10, (List.map Entry.row l), none⟩] : Heap)) = ((AV.int .i64 24), ([⟨0, 2, [[(.int .i64 most), (.osl 1 g 10 0 n)]], none⟩, ⟨g, 10, (List.map Entry.row l), none⟩] : Heap))) = _) ?_
  refine And.intro (find_at most l e.card.key g n (by first | omega | assumption | (simp; done) | (simp; omega) | (simp_all; done) | (simp_all; omega)) (by first | omega | assumption | (simp; done) | (simp; omega) | (simp_all; done) | (simp_all; omega)) ([] : Heap)) ?_
  refine And.intro (Yes.bool (hb)) ?_
  refine And.intro (Yes.bool (by first | omega | (simp; done) | (simp; omega))) ?_
  refine And.intro (by first | (simp [obsB, AV.bddss, AV.bdds, AV.bdd]; done) | simp [obsB, AV.bddss, AV.bdds, AV.bdd, -List.map_append, -List.map_set, -List.map_take, -List.map_drop, -List.map_cons, -List.map_map]) ?_
  rfl
def putNew_ann : Ann := { refs := [3], base := 2, fin := some 2 }
set_option maxRecDepth 100000 in
theorem putNew_spec (most : Int) (l : List Entry) (e : Entry) (g n : Nat) (hn : n = l.length) (hl : l.length < 1048576) (hb : findB l e.card.key = false) (hm : (n : Int) < most) : ACalls Try.prog 45 [(.obj 0 0 0 0), (.agg (Entry.row e))] ([⟨0, 2, [[(.int .i64 most), (.osl 1 g 10 0 n)]], none⟩, ⟨g, 10, (List.map Entry.row l), none⟩] : Heap) ((AV.int .i64 0), ([⟨0, 2, [[(.int .i64 most), (.osl 1 (g + 1) 10 0 (n + 1))]], none⟩, ⟨(g + 1), 10, (List.map Entry.row (l.take (findP l e.card.key) ++ e :: l.drop (findP l e.card.key))), none⟩] : Heap)) := by
  have hle := findP_le l e.card.key
  refine spec (fn := Try.f45) (ann := putNew_ann) (t := (.reg [] [] [] (.reg [(4, ((AV.tup [(.int .i64 (((findP l e.card.key) : Nat) : Int)), (.bool (findB l e.card.key))]), ([⟨0, 2, [[(.int .i64 most), (.osl 1 g 10 0 n)]], none⟩, ⟨g, 10, (List.map Entry.row l), none⟩] : Heap)))] [] [] (.reg [(0, ((AV.bool false), ([⟨0, 2, [[(.int .i64 most), (.osl 1 g 10 0 n)]], none⟩, ⟨g, 10, (List.map Entry.row l), none⟩] : Heap)))] [] [] (.two .nil (.reg [(9, ((AV.bool false), ([⟨0, 2, [[(.int .i64 most), (.osl 1 g 10 0 n)]], none⟩, ⟨g, 10, (List.map Entry.row l), none⟩] : Heap)))] [] [] (.two .nil (.reg [(8, ((AV.osl 1 (g + 1) 10 0 (n + 1)), ([⟨0, 2, [[(.int .i64 most), (.osl 1 g 10 0 n)]], none⟩, ⟨(g + 1), 10, (List.map Entry.row (l.take (findP l e.card.key) ++ e :: l.drop (findP l e.card.key))), none⟩] : Heap)))] [] [] (.reg [] [] [] .nil))))))))) (Nat.le_of_ble_eq_true (by kernel_rfl)) ⟨Try.func45, by kernel_rfl, by kernel_rfl, by kernel_rfl⟩ ?_
  refine Eq.mp (by kernel_rfl : ((ACalls Try.prog 75 [(.obj 0 0 0 0), (.agg (Key.row e.card.key))] ([⟨0, 2, [[(.int .i64 most), (.osl 1 g 10 0 n)]], none⟩, ⟨g, 10, (List.map Entry.row l), none⟩] : Heap) ((AV.tup [(.int .i64 (((findP l e.card.key) : Nat) : Int)), (.bool (findB l e.card.key))]), ([⟨0, 2, [[(.int .i64 most), (.osl 1 g 10 0 n)]], none⟩, ⟨g, 10, (List.map Entry.row l), none⟩] : Heap))) ∧ (Yes (AV.bool (findB l e.card.key)) ([⟨0, 2, [[(.int .i64 most), (.osl 1 g 10 0 n)]], none⟩, ⟨g, 10, (List.map Entry.row l), none⟩] : Heap) (AV.bool false)) ∧ (Yes (AV.bool (decide (((n : Nat) : Int) ≥ most))) ([⟨0, 2, [[(.int .i64 most), (.osl 1 g 10 0 n)]], none⟩, ⟨g, 10, (List.map Entry.row l), none⟩] : Heap) (AV.bool false)) ∧ (ACalls Try.prog 88 [(.osl 1 g 10 0 n), (.int .i64 (((findP l e.card.key) : Nat) : Int)), (.sl .clip 10 [(Entry.row e)])] ([⟨0, 2, [[(.int .i64 most), (.osl 1 g 10 0 n)]], none⟩, ⟨g, 10, (List.map Entry.row l), none⟩] : Heap) ((AV.osl 1 (g + 1) 10 0 (n + 1)), ([⟨0, 2, [[(.int .i64 most), (.osl 1 g 10 0 n)]], none⟩, ⟨(g + 1), 10, (List.map Entry.row (l.take (findP l e.card.key) ++ e :: l.drop (findP l e.card.key))), none⟩] : Heap))) ∧ (AV.bdd 2 (AV.int .i64 0) = true ∧ obsB 2 ([⟨0, 2, [[(.int .i64 most), (.osl 1 (g + 1) 10 0 (n + 1))]], none⟩, ⟨(g + 1), 10, (List.map Entry.row (l.take (findP l e.card.key) ++ e :: l.drop (findP l e.card.key))), none⟩] : Heap) = true) ∧ ((AV.int .i64 0), ([⟨0, 2, [[(.int .i64 most), (.osl 1 (g + 1) 10 0 (n + 1))]], none⟩, ⟨(g + 1), 10, (List.map Entry.row (l.take (findP l e.card.key) ++ e :: l.drop (findP l e.card.key))), none⟩] : Heap)) = ((AV.int .i64 0), ([⟨0, 2, [[(.int .i64 most), (.osl 1 (g + 1) 10 0 (n + 1))]], none⟩, ⟨(g + 1), 10, (List.map Entry.row (l.take (findP l e.card.key) ++ e :: l.drop (findP l e.card.key))), none⟩] : Heap))) = _) ?_
  refine And.intro (find_at most l e.card.key g n (by first | omega | assumption | (simp; done) | (simp; omega) | (simp_all; done) | (simp_all; omega)) (by first | omega | assumption | (simp; done) | (simp; omega) | (simp_all; done) | (simp_all; omega)) ([] : Heap)) ?_
  refine And.intro (Yes.bool (hb)) ?_
  refine And.intro (Yes.bool (by simp; omega)) ?_
  refine And.intro ((ACalls.put (H1 := ([⟨(g + 1), 10, (List.map Entry.row (l.take (findP l e.card.key) ++ e :: l.drop (findP l e.card.key))), none⟩] : Heap)) (N := ([] : Heap)) (Hg := ([⟨g, 10, (List.map Entry.row l), none⟩] : Heap)) (H1' := ([⟨(g + 1), 10, (List.map Entry.row (l.take (findP l e.card.key) ++ e :: l.drop (findP l e.card.key))), none⟩] : Heap)) (N' := ([] : Heap)) [1] (InsE_spec l e g (findP l e.card.key) n (by first | omega | assumption | (simp; done) | (simp; omega) | (simp_all; done) | (simp_all; omega)) (by first | omega | assumption | (simp; done) | (simp; omega) | (simp_all; done) | (simp_all; omega)) (by first | omega | assumption | (simp; done) | (simp; omega) | (simp_all; done) | (simp_all; omega))) (by kernel_rfl) rfl rfl (by kernel_rfl) (by first | (simp [obsB, AV.bddss, AV.bdds, AV.bdd]; done) | simp [obsB, AV.bddss, AV.bdds, AV.bdd, -List.map_append, -List.map_set, -List.map_take, -List.map_drop, -List.map_cons, -List.map_map]) rfl (⟨Ob.ren0 (Entry.rows_bdd 0 _), trivial⟩) (⟨Ob.ren0 (Entry.rows_bdd 0 _), trivial⟩) (trivial) rfl rfl).pre ⟨AV.wk_refl_any _, AV.wk_refl_any _, ⟨rfl, rfl, .inl rfl⟩, trivial⟩) ?_
  refine And.intro (by first | (simp [obsB, AV.bddss, AV.bdds, AV.bdd]; done) | simp [obsB, AV.bddss, AV.bdds, AV.bdd, -List.map_append, -List.map_set, -List.map_take, -List.map_drop, -List.map_cons, -List.map_map]) ?_
  rfl
def putE (most : Int) (l : List Entry) (e : Entry) : Int := if findB l e.card.key = true then 0 else if most ≤ (l.length : Int) then 24 else 0
def putL (most : Int) (l : List Entry) (e : Entry) : List Entry := if findB l e.card.key = true then l.set (findP l e.card.key) e else if most ≤ (l.length : Int) then l else l.take (findP l e.card.key) ++ e :: l.drop (findP l e.card.key)
def putG (most : Int) (l : List Entry) (e : Entry) (g : Nat) : Nat := if findB l e.card.key = true then g else if most ≤ (l.length : Int) then g else g + 1
theorem putL_len (most : Int) (l : List Entry) (e : Entry) : (putL most l e).length ≤ l.length + 1 := by
  have := findP_le l e.card.key
  unfold putL; split
  · simp
  · split
    · omega
    · simp; omega
def zE : Entry := ⟨⟨⟨⟨#[]⟩, ⟨#[]⟩⟩, 0, 0, 0, ⟨0, 0, 0⟩, false⟩, 0⟩
def dropL (l : List Entry) (k : Key) : List Entry := if findB l k = true then l.take (findP l k) ++ l.drop (findP l k + 1) else l
def getE (l : List Entry) (k : Key) : Entry := if findB l k = true then nth l (findP l k) else zE
theorem dropL_len (l : List Entry) (k : Key) : (dropL l k).length ≤ l.length := by
  unfold dropL; split
  · simp; omega
  · omega
theorem put_spec (most : Int) (l : List Entry) (e : Entry) (g n : Nat) (hn : n = l.length) (hl : l.length < 1048576) : ACalls Try.prog 45 [(.obj 0 0 0 0), (.agg (Entry.row e))] ([⟨0, 2, [[(.int .i64 most), (.osl 1 g 10 0 n)]], none⟩, ⟨g, 10, (List.map Entry.row l), none⟩] : Heap) ((AV.int .i64 (putE most l e)), ([⟨0, 2, [[(.int .i64 most), (.osl 1 (putG most l e g) 10 0 (List.length (putL most l e)))]], none⟩, ⟨(putG most l e g), 10, (List.map Entry.row (putL most l e)), none⟩] : Heap)) := by
  subst hn
  have hle := findP_le l e.card.key
  cases hb : findB l e.card.key with
  | true =>
    have h1 : putE most l e = 0 := by simp [putE, hb]
    have h2 : putL most l e = l.set (findP l e.card.key) e := by simp [putL, hb]
    have h3 : putG most l e g = g := by simp [putG, hb]
    rw [h1, h2, h3, List.length_set]
    exact putIn_spec most l e g l.length rfl hl hb
  | false =>
    by_cases hm : most ≤ (l.length : Int)
    · have h1 : putE most l e = 24 := by simp [putE, hb, hm]
      have h2 : putL most l e = l := by simp [putL, hb, hm]
      have h3 : putG most l e g = g := by simp [putG, hb, hm]
      rw [h1, h2, h3]
      exact putFull_spec most l e g l.length rfl hl hb hm
    · have h1 : putE most l e = 0 := by simp [putE, hb, hm]
      have h2 : putL most l e = l.take (findP l e.card.key) ++ e :: l.drop (findP l e.card.key) := by simp [putL, hb, hm]
      have h3 : putG most l e g = g + 1 := by simp [putG, hb, hm]
      have h4 : (l.take (findP l e.card.key) ++ e :: l.drop (findP l e.card.key)).length = l.length + 1 := by simp; omega
      rw [h1, h2, h3, h4]
      exact putNew_spec most l e g l.length rfl hl hb (by omega)
theorem put_at (most : Int) (l : List Entry) (e : Entry) (g n : Nat) (hn : n = l.length) (hl : l.length < 1048576) (H : Heap) : ACalls Try.prog 45 [(.obj 0 0 0 0), (.agg (Entry.row e))] (([⟨0, 2, [[(.int .i64 most), (.osl 1 g 10 0 n)]], none⟩, ⟨g, 10, (List.map Entry.row l), none⟩] : Heap) ++ H) ((AV.int .i64 (putE most l e)), ([⟨0, 2, [[(.int .i64 most), (.osl 1 (putG most l e g) 10 0 (List.length (putL most l e)))]], none⟩, ⟨(putG most l e g), 10, (List.map Entry.row (putL most l e)), none⟩] : Heap) ++ H) := (put_spec most l e g n hn hl).ext (by kernel_rfl) (by kernel_rfl) (by first | (simp [obsB, AV.bddss, AV.bdds, AV.bdd]; done) | simp [obsB, AV.bddss, AV.bdds, AV.bdd, -List.map_append, -List.map_set, -List.map_take, -List.map_drop, -List.map_cons, -List.map_map]) (by first | (simp [obsB, AV.bddss, AV.bdds, AV.bdd]; done) | simp [obsB, AV.bddss, AV.bdds, AV.bdd, -List.map_append, -List.map_set, -List.map_take, -List.map_drop, -List.map_cons, -List.map_map]) (by kernel_rfl) H
def dropIn_ann : Ann := { refs := [3], base := 2, fin := some 2 }
set_option maxRecDepth 100000 in
theorem dropIn_spec (most : Int) (l : List Entry) (k : Key) (g n : Nat) (hn : n = l.length) (hl : l.length < 1048576) (hb : findB l k = true) : ACalls Try.prog 80 [(.obj 0 0 0 0), (.agg (Key.row k))] ([⟨0, 2, [[(.int .i64 most), (.osl 1 g 10 0 n)]], none⟩, ⟨g, 10, (List.map Entry.row l), none⟩] : Heap) ((AV.bool true), ([⟨0, 2, [[(.int .i64 most), (.osl 1 g 10 0 (n - 1))]], none⟩, ⟨g, 10, (List.map Entry.row (l.take (findP l k) ++ l.drop ((findP l k) + 1))), none⟩] : Heap)) := by
  have hle := findP_le l k
  have hlt := findB_lt hb
  refine spec (fn := Try.f80) (ann := dropIn_ann) (t := (.reg [] [] [] (.reg [(2, ((AV.tup [(.int .i64 (((findP l k) : Nat) : Int)), (.bool (findB l k))]), ([⟨0, 2, [[(.int .i64 most), (.osl 1 g 10 0 n)]], none⟩, ⟨g, 10, (List.map Entry.row l), none⟩] : Heap)))] [] [] (.reg [(0, ((AV.bool true), ([⟨0, 2, [[(.int .i64 most), (.osl 1 g 10 0 n)]], none⟩, ⟨g, 10, (List.map Entry.row l), none⟩] : Heap)))] [] [] (.two (.reg [(7, ((AV.int .i64 (((findP l k) + 1 : Nat) : Int)), ([⟨0, 2, [[(.int .i64 most), (.osl 1 g 10 0 n)]], none⟩, ⟨g, 10, (List.map Entry.row l), none⟩] : Heap))), (8, ((AV.osl 1 g 10 0 (n - 1)), ([⟨0, 2, [[(.int .i64 most), (.osl 1 g 10 0 n)]], none⟩, ⟨g, 10, (List.map Entry.row (l.take (findP l k) ++ l.drop ((findP l k) + 1))), none⟩] : Heap)))] [] [] (.reg [(0, ((AV.bool true), ([⟨0, 2, [[(.int .i64 most), (.osl 1 g 10 0 (n - 1))]], none⟩, ⟨g, 10, (List.map Entry.row (l.take (findP l k) ++ l.drop ((findP l k) + 1))), none⟩] : Heap)))] [] [] .nil)) .nil))))) (Nat.le_of_ble_eq_true (by kernel_rfl)) ⟨Try.func80, by kernel_rfl, by kernel_rfl, by kernel_rfl⟩ ?_
  refine Eq.mp (by kernel_rfl : ((ACalls Try.prog 75 [(.obj 0 0 0 0), (.agg (Key.row k))] ([⟨0, 2, [[(.int .i64 most), (.osl 1 g 10 0 n)]], none⟩, ⟨g, 10, (List.map Entry.row l), none⟩] : Heap) ((AV.tup [(.int .i64 (((findP l k) : Nat) : Int)), (.bool (findB l k))]), ([⟨0, 2, [[(.int .i64 most), (.osl 1 g 10 0 n)]], none⟩, ⟨g, 10, (List.map Entry.row l), none⟩] : Heap))) ∧ (Yes (AV.bool (findB l k)) ([⟨0, 2, [[(.int .i64 most), (.osl 1 g 10 0 n)]], none⟩, ⟨g, 10, (List.map Entry.row l), none⟩] : Heap) (AV.bool true)) ∧ (Yes (.int .i64 (IntKind.i64.wrap ((((findP l k) : Nat) : Int) + 1))) ([⟨0, 2, [[(.int .i64 most), (.osl 1 g 10 0 n)]], none⟩, ⟨g, 10, (List.map Entry.row l), none⟩] : Heap) (AV.int .i64 (((findP l k) + 1 : Nat) : Int))) ∧ (ACalls Try.prog 133 [(.osl 1 g 10 0 n), (.int .i64 (((findP l k) : Nat) : Int)), (.int .i64 (((findP l k) + 1 : Nat) : Int))] ([⟨0, 2, [[(.int .i64 most), (.osl 1 g 10 0 n)]], none⟩, ⟨g, 10, (List.map Entry.row l), none⟩] : Heap) ((AV.osl 1 g 10 0 (n - 1)), ([⟨0, 2, [[(.int .i64 most), (.osl 1 g 10 0 n)]], none⟩, ⟨g, 10, (List.map Entry.row (l.take (findP l k) ++ l.drop ((findP l k) + 1))), none⟩] : Heap))) ∧ (Yes (AV.bool (findB l k)) ([⟨0, 2, [[(.int .i64 most), (.osl 1 g 10 0 (n - 1))]], none⟩, ⟨g, 10, (List.map Entry.row (l.take (findP l k) ++ l.drop ((findP l k) + 1))), none⟩] : Heap) (AV.bool true)) ∧ (AV.bdd 2 (AV.bool true) = true ∧ obsB 2 ([⟨0, 2, [[(.int .i64 most), (.osl 1 g 10 0 (n - 1))]], none⟩, ⟨g, 10, (List.map Entry.row (l.take (findP l k) ++ l.drop ((findP l k) + 1))), none⟩] : Heap) = true) ∧ ((AV.bool true), ([⟨0, 2, [[(.int .i64 most), (.osl 1 g 10 0 (n - 1))]], none⟩, ⟨g, 10, (List.map Entry.row (l.take (findP l k) ++ l.drop ((findP l k) + 1))), none⟩] : Heap)) = ((AV.bool true), ([⟨0, 2, [[(.int .i64 most), (.osl 1 g 10 0 (n - 1))]], none⟩, ⟨g, 10, (List.map Entry.row (l.take (findP l k) ++ l.drop ((findP l k) + 1))), none⟩] : Heap))) = _) ?_
  refine And.intro (find_at most l k g n (by first | omega | assumption | (simp; done) | (simp; omega) | (simp_all; done) | (simp_all; omega)) (by first | omega | assumption | (simp; done) | (simp; omega) | (simp_all; done) | (simp_all; omega)) ([] : Heap)) ?_
  refine And.intro (Yes.bool (hb)) ?_
  refine And.intro (Yes.add (by omega) (by omega) (by omega)) ?_
  refine And.intro ((ACalls.put (H1 := ([⟨g, 10, (List.map Entry.row (l.take (findP l k) ++ l.drop ((findP l k) + 1))), none⟩] : Heap)) (N := ([] : Heap)) (Hg := ([⟨g, 10, (List.map Entry.row l), none⟩] : Heap)) (H1' := ([⟨g, 10, (List.map Entry.row (l.take (findP l k) ++ l.drop ((findP l k) + 1))), none⟩] : Heap)) (N' := ([] : Heap)) [1] (DelE_spec l g (findP l k) n (by first | omega | assumption | (simp; done) | (simp; omega) | (simp_all; done) | (simp_all; omega)) (by first | omega | assumption | (simp; done) | (simp; omega) | (simp_all; done) | (simp_all; omega)) (by first | omega | assumption | (simp; done) | (simp; omega) | (simp_all; done) | (simp_all; omega))) (by kernel_rfl) rfl rfl (by kernel_rfl) (by first | (simp [obsB, AV.bddss, AV.bdds, AV.bdd]; done) | simp [obsB, AV.bddss, AV.bdds, AV.bdd, -List.map_append, -List.map_set, -List.map_take, -List.map_drop, -List.map_cons, -List.map_map]) rfl (⟨Ob.ren0 (Entry.rows_bdd 0 _), trivial⟩) (⟨Ob.ren0 (Entry.rows_bdd 0 _), trivial⟩) (trivial) rfl rfl).pre ⟨AV.wk_refl_any _, AV.wk_refl_any _, AV.wk_refl_any _, trivial⟩) ?_
  refine And.intro (Yes.bool (hb)) ?_
  refine And.intro (by first | (simp [obsB, AV.bddss, AV.bdds, AV.bdd]; done) | simp [obsB, AV.bddss, AV.bdds, AV.bdd, -List.map_append, -List.map_set, -List.map_take, -List.map_drop, -List.map_cons, -List.map_map]) ?_
  rfl
def dropOut_ann : Ann := { refs := [3], base := 2, fin := some 2 }
set_option maxRecDepth 100000 in
theorem dropOut_spec (most : Int) (l : List Entry) (k : Key) (g n : Nat) (hn : n = l.length) (hl : l.length < 1048576) (hb : findB l k = false) : ACalls Try.prog 80 [(.obj 0 0 0 0), (.agg (Key.row k))] ([⟨0, 2, [[(.int .i64 most), (.osl 1 g 10 0 n)]], none⟩, ⟨g, 10, (List.map Entry.row l), none⟩] : Heap) ((AV.bool false), ([⟨0, 2, [[(.int .i64 most), (.osl 1 g 10 0 n)]], none⟩, ⟨g, 10, (List.map Entry.row l), none⟩] : Heap)) := by
  have hle := findP_le l k
  refine spec (fn := Try.f80) (ann := dropOut_ann) (t := (.reg [] [] [] (.reg [(2, ((AV.tup [(.int .i64 (((findP l k) : Nat) : Int)), (.bool (findB l k))]), ([⟨0, 2, [[(.int .i64 most), (.osl 1 g 10 0 n)]], none⟩, ⟨g, 10, (List.map Entry.row l), none⟩] : Heap)))] [] [] (.reg [(0, ((AV.bool false), ([⟨0, 2, [[(.int .i64 most), (.osl 1 g 10 0 n)]], none⟩, ⟨g, 10, (List.map Entry.row l), none⟩] : Heap)))] [] [] (.two .nil (.reg [(0, ((AV.bool false), ([⟨0, 2, [[(.int .i64 most), (.osl 1 g 10 0 n)]], none⟩, ⟨g, 10, (List.map Entry.row l), none⟩] : Heap)))] [] [] .nil)))))) (Nat.le_of_ble_eq_true (by kernel_rfl)) ⟨Try.func80, by kernel_rfl, by kernel_rfl, by kernel_rfl⟩ ?_
  refine Eq.mp (by kernel_rfl : ((ACalls Try.prog 75 [(.obj 0 0 0 0), (.agg (Key.row k))] ([⟨0, 2, [[(.int .i64 most), (.osl 1 g 10 0 n)]], none⟩, ⟨g, 10, (List.map Entry.row l), none⟩] : Heap) ((AV.tup [(.int .i64 (((findP l k) : Nat) : Int)), (.bool (findB l k))]), ([⟨0, 2, [[(.int .i64 most), (.osl 1 g 10 0 n)]], none⟩, ⟨g, 10, (List.map Entry.row l), none⟩] : Heap))) ∧ (Yes (AV.bool (findB l k)) ([⟨0, 2, [[(.int .i64 most), (.osl 1 g 10 0 n)]], none⟩, ⟨g, 10, (List.map Entry.row l), none⟩] : Heap) (AV.bool false)) ∧ (Yes (AV.bool (findB l k)) ([⟨0, 2, [[(.int .i64 most), (.osl 1 g 10 0 n)]], none⟩, ⟨g, 10, (List.map Entry.row l), none⟩] : Heap) (AV.bool false)) ∧ (AV.bdd 2 (AV.bool false) = true ∧ obsB 2 ([⟨0, 2, [[(.int .i64 most), (.osl 1 g 10 0 n)]], none⟩, ⟨g, 10, (List.map Entry.row l), none⟩] : Heap) = true) ∧ ((AV.bool false), ([⟨0, 2, [[(.int .i64 most), (.osl 1 g 10 0 n)]], none⟩, ⟨g, 10, (List.map Entry.row l), none⟩] : Heap)) = ((AV.bool false), ([⟨0, 2, [[(.int .i64 most), (.osl 1 g 10 0 n)]], none⟩, ⟨g, 10, (List.map Entry.row l), none⟩] : Heap))) = _) ?_
  refine And.intro (find_at most l k g n (by first | omega | assumption | (simp; done) | (simp; omega) | (simp_all; done) | (simp_all; omega)) (by first | omega | assumption | (simp; done) | (simp; omega) | (simp_all; done) | (simp_all; omega)) ([] : Heap)) ?_
  refine And.intro (Yes.bool (hb)) ?_
  refine And.intro (Yes.bool (hb)) ?_
  refine And.intro (by first | (simp [obsB, AV.bddss, AV.bdds, AV.bdd]; done) | simp [obsB, AV.bddss, AV.bdds, AV.bdd, -List.map_append, -List.map_set, -List.map_take, -List.map_drop, -List.map_cons, -List.map_map]) ?_
  rfl
theorem drop_spec (most : Int) (l : List Entry) (k : Key) (g n : Nat) (hn : n = l.length) (hl : l.length < 1048576) : ACalls Try.prog 80 [(.obj 0 0 0 0), (.agg (Key.row k))] ([⟨0, 2, [[(.int .i64 most), (.osl 1 g 10 0 n)]], none⟩, ⟨g, 10, (List.map Entry.row l), none⟩] : Heap) ((AV.bool (findB l k)), ([⟨0, 2, [[(.int .i64 most), (.osl 1 g 10 0 (List.length (dropL l k)))]], none⟩, ⟨g, 10, (List.map Entry.row (dropL l k)), none⟩] : Heap)) := by
  subst hn
  have hle := findP_le l k
  cases hb : findB l k with
  | true =>
    have hlt := findB_lt hb
    have h2 : dropL l k = l.take (findP l k) ++ l.drop (findP l k + 1) := by simp [dropL, hb]
    have h4 : (l.take (findP l k) ++ l.drop (findP l k + 1)).length = l.length - 1 := by simp; omega
    rw [h2, h4]
    exact dropIn_spec most l k g l.length rfl hl hb
  | false =>
    have h2 : dropL l k = l := by simp [dropL, hb]
    rw [h2]
    exact dropOut_spec most l k g l.length rfl hl hb
def getIn_ann : Ann := { refs := [3], base := 2, fin := some 2 }
set_option maxRecDepth 100000 in
theorem getIn_spec (most : Int) (l : List Entry) (k : Key) (g n : Nat) (hn : n = l.length) (hl : l.length < 1048576) (hb : findB l k = true) : ACalls Try.prog 37 [(.obj 0 0 0 0), (.agg (Key.row k))] ([⟨0, 2, [[(.int .i64 most), (.osl 1 g 10 0 n)]], none⟩, ⟨g, 10, (List.map Entry.row l), none⟩] : Heap) ((AV.tup [(.agg (Entry.row (nth l (findP l k)))), (.bool true)]), ([⟨0, 2, [[(.int .i64 most), (.osl 1 g 10 0 n)]], none⟩, ⟨g, 10, (List.map Entry.row l), none⟩] : Heap)) := by
  have hle := findP_le l k
  have hlt := findB_lt hb
  refine spec (fn := Try.f37) (ann := getIn_ann) (t := (.reg [] [] [] (.reg [(2, ((AV.tup [(.int .i64 (((findP l k) : Nat) : Int)), (.bool (findB l k))]), ([⟨0, 2, [[(.int .i64 most), (.osl 1 g 10 0 n)]], none⟩, ⟨g, 10, (List.map Entry.row l), none⟩, ⟨0, 10, [[(.str ⟨#[]⟩), (.str ⟨#[]⟩), (.int .i64 0), (.int .i64 0), (.int .i64 0), (.int .i64 0), (.int .i64 0), (.int .i64 0), (.bool false), (.int .i64 0)]], none⟩] : Heap)))] [] [] (.reg [(1, ((AV.bool false), ([⟨0, 2, [[(.int .i64 most), (.osl 1 g 10 0 n)]], none⟩, ⟨g, 10, (List.map Entry.row l), none⟩, ⟨0, 10, [[(.str ⟨#[]⟩), (.str ⟨#[]⟩), (.int .i64 0), (.int .i64 0), (.int .i64 0), (.int .i64 0), (.int .i64 0), (.int .i64 0), (.bool false), (.int .i64 0)]], none⟩] : Heap)))] [] [] (.two .nil (.reg [(5, ((AV.obj 1 g (findP l k) 0), ([⟨0, 2, [[(.int .i64 most), (.osl 1 g 10 0 n)]], none⟩, ⟨g, 10, (List.map Entry.row l), none⟩, ⟨0, 10, [[(.str ⟨#[]⟩), (.str ⟨#[]⟩), (.int .i64 0), (.int .i64 0), (.int .i64 0), (.int .i64 0), (.int .i64 0), (.int .i64 0), (.bool false), (.int .i64 0)]], none⟩] : Heap))), (6, ((AV.agg (Entry.row (nth l (findP l k)))), ([⟨0, 2, [[(.int .i64 most), (.osl 1 g 10 0 n)]], none⟩, ⟨g, 10, (List.map Entry.row l), none⟩, ⟨0, 10, [[(.str ⟨#[]⟩), (.str ⟨#[]⟩), (.int .i64 0), (.int .i64 0), (.int .i64 0), (.int .i64 0), (.int .i64 0), (.int .i64 0), (.bool false), (.int .i64 0)]], none⟩] : Heap)))] [] [] .nil)))))) (Nat.le_of_ble_eq_true (by kernel_rfl)) ⟨Try.func37, by kernel_rfl, by kernel_rfl, by kernel_rfl⟩ ?_
  refine Eq.mp (by kernel_rfl : ((ACalls Try.prog 75 [(.obj 0 0 0 0), (.agg (Key.row k))] ([⟨0, 2, [[(.int .i64 most), (.osl 1 g 10 0 n)]], none⟩, ⟨g, 10, (List.map Entry.row l), none⟩, ⟨0, 10, [[(.str ⟨#[]⟩), (.str ⟨#[]⟩), (.int .i64 0), (.int .i64 0), (.int .i64 0), (.int .i64 0), (.int .i64 0), (.int .i64 0), (.bool false), (.int .i64 0)]], none⟩] : Heap) ((AV.tup [(.int .i64 (((findP l k) : Nat) : Int)), (.bool (findB l k))]), ([⟨0, 2, [[(.int .i64 most), (.osl 1 g 10 0 n)]], none⟩, ⟨g, 10, (List.map Entry.row l), none⟩, ⟨0, 10, [[(.str ⟨#[]⟩), (.str ⟨#[]⟩), (.int .i64 0), (.int .i64 0), (.int .i64 0), (.int .i64 0), (.int .i64 0), (.int .i64 0), (.bool false), (.int .i64 0)]], none⟩] : Heap))) ∧ (Yes (AV.bool (!(findB l k))) ([⟨0, 2, [[(.int .i64 most), (.osl 1 g 10 0 n)]], none⟩, ⟨g, 10, (List.map Entry.row l), none⟩, ⟨0, 10, [[(.str ⟨#[]⟩), (.str ⟨#[]⟩), (.int .i64 0), (.int .i64 0), (.int .i64 0), (.int .i64 0), (.int .i64 0), (.int .i64 0), (.bool false), (.int .i64 0)]], none⟩] : Heap) (AV.bool false)) ∧ (IdxOsl 1 g 10 10 0 n (((findP l k) : Nat) : Int) ([⟨0, 2, [[(.int .i64 most), (.osl 1 g 10 0 n)]], none⟩, ⟨g, 10, (List.map Entry.row l), none⟩, ⟨0, 10, [[(.str ⟨#[]⟩), (.str ⟨#[]⟩), (.int .i64 0), (.int .i64 0), (.int .i64 0), (.int .i64 0), (.int .i64 0), (.int .i64 0), (.bool false), (.int .i64 0)]], none⟩] : Heap) (findP l k)) ∧ (LoadTo tt 70 0 ([⟨0, 2, [[(.int .i64 most), (.osl 1 g 10 0 n)]], none⟩, ⟨g, 10, (List.map Entry.row l), none⟩, ⟨0, 10, [[(.str ⟨#[]⟩), (.str ⟨#[]⟩), (.int .i64 0), (.int .i64 0), (.int .i64 0), (.int .i64 0), (.int .i64 0), (.int .i64 0), (.bool false), (.int .i64 0)]], none⟩] : Heap) (rowAt ([⟨0, 2, [[(.int .i64 most), (.osl 1 g 10 0 n)]], none⟩, ⟨g, 10, (List.map Entry.row l), none⟩, ⟨0, 10, [[(.str ⟨#[]⟩), (.str ⟨#[]⟩), (.int .i64 0), (.int .i64 0), (.int .i64 0), (.int .i64 0), (.int .i64 0), (.int .i64 0), (.bool false), (.int .i64 0)]], none⟩] : Heap) 1 g (findP l k)) = some ((AV.agg (Entry.row (nth l (findP l k)))), ([⟨0, 2, [[(.int .i64 most), (.osl 1 g 10 0 n)]], none⟩, ⟨g, 10, (List.map Entry.row l), none⟩, ⟨0, 10, [[(.str ⟨#[]⟩), (.str ⟨#[]⟩), (.int .i64 0), (.int .i64 0), (.int .i64 0), (.int .i64 0), (.int .i64 0), (.int .i64 0), (.bool false), (.int .i64 0)]], none⟩] : Heap))) ∧ (AV.bdd 2 (AV.tup [(.agg (Entry.row (nth l (findP l k)))), (.bool true)]) = true ∧ obsB 2 ([⟨0, 2, [[(.int .i64 most), (.osl 1 g 10 0 n)]], none⟩, ⟨g, 10, (List.map Entry.row l), none⟩] : Heap) = true) ∧ ((AV.tup [(.agg (Entry.row (nth l (findP l k)))), (.bool true)]), ([⟨0, 2, [[(.int .i64 most), (.osl 1 g 10 0 n)]], none⟩, ⟨g, 10, (List.map Entry.row l), none⟩] : Heap)) = ((AV.tup [(.agg (Entry.row (nth l (findP l k)))), (.bool true)]), ([⟨0, 2, [[(.int .i64 most), (.osl 1 g 10 0 n)]], none⟩, ⟨g, 10, (List.map Entry.row l), none⟩] : Heap))) = _) ?_
  refine And.intro (find_at most l k g n (by first | omega | assumption | (simp; done) | (simp; omega) | (simp_all; done) | (simp_all; omega)) (by first | omega | assumption | (simp; done) | (simp; omega) | (simp_all; done) | (simp_all; omega)) ([⟨0, 10, [[(.str ⟨#[]⟩), (.str ⟨#[]⟩), (.int .i64 0), (.int .i64 0), (.int .i64 0), (.int .i64 0), (.int .i64 0), (.int .i64 0), (.bool false), (.int .i64 0)]], none⟩] : Heap)) ?_
  refine And.intro (Yes.bool (by rw [hb]; rfl)) ?_
  refine And.intro (IdxOsl.mk _ (by omega) (by omega)) ?_
  refine And.intro (load_row (rowAt_map (row := Entry.row) (l := l) (k := 10) (room := none) (by kernel_rfl) (by first | omega | (simp; done) | (simp; omega))) (by kernel_rfl)) ?_
  refine And.intro (by first | (simp [obsB, AV.bddss, AV.bdds, AV.bdd]; done) | simp [obsB, AV.bddss, AV.bdds, AV.bdd, -List.map_append, -List.map_set, -List.map_take, -List.map_drop, -List.map_cons, -List.map_map]) ?_
  rfl
def getOut_ann : Ann := { refs := [3], base := 2, fin := some 2 }
set_option maxRecDepth 100000 in
theorem getOut_spec (most : Int) (l : List Entry) (k : Key) (g n : Nat) (hn : n = l.length) (hl : l.length < 1048576) (hb : findB l k = false) : ACalls Try.prog 37 [(.obj 0 0 0 0), (.agg (Key.row k))] ([⟨0, 2, [[(.int .i64 most), (.osl 1 g 10 0 n)]], none⟩, ⟨g, 10, (List.map Entry.row l), none⟩] : Heap) ((AV.tup [(.agg (Entry.row zE)), (.bool false)]), ([⟨0, 2, [[(.int .i64 most), (.osl 1 g 10 0 n)]], none⟩, ⟨g, 10, (List.map Entry.row l), none⟩] : Heap)) := by
  have hle := findP_le l k
  refine spec (fn := Try.f37) (ann := getOut_ann) (t := (.reg [] [] [] (.reg [(2, ((AV.tup [(.int .i64 (((findP l k) : Nat) : Int)), (.bool (findB l k))]), ([⟨0, 2, [[(.int .i64 most), (.osl 1 g 10 0 n)]], none⟩, ⟨g, 10, (List.map Entry.row l), none⟩, ⟨0, 10, [[(.str ⟨#[]⟩), (.str ⟨#[]⟩), (.int .i64 0), (.int .i64 0), (.int .i64 0), (.int .i64 0), (.int .i64 0), (.int .i64 0), (.bool false), (.int .i64 0)]], none⟩] : Heap)))] [] [] (.reg [(1, ((AV.bool true), ([⟨0, 2, [[(.int .i64 most), (.osl 1 g 10 0 n)]], none⟩, ⟨g, 10, (List.map Entry.row l), none⟩, ⟨0, 10, [[(.str ⟨#[]⟩), (.str ⟨#[]⟩), (.int .i64 0), (.int .i64 0), (.int .i64 0), (.int .i64 0), (.int .i64 0), (.int .i64 0), (.bool false), (.int .i64 0)]], none⟩] : Heap)))] [] [] (.two (.reg [] [] [] .nil) .nil))))) (Nat.le_of_ble_eq_true (by kernel_rfl)) ⟨Try.func37, by kernel_rfl, by kernel_rfl, by kernel_rfl⟩ ?_
  refine Eq.mp (by kernel_rfl : ((ACalls Try.prog 75 [(.obj 0 0 0 0), (.agg (Key.row k))] ([⟨0, 2, [[(.int .i64 most), (.osl 1 g 10 0 n)]], none⟩, ⟨g, 10, (List.map Entry.row l), none⟩, ⟨0, 10, [[(.str ⟨#[]⟩), (.str ⟨#[]⟩), (.int .i64 0), (.int .i64 0), (.int .i64 0), (.int .i64 0), (.int .i64 0), (.int .i64 0), (.bool false), (.int .i64 0)]], none⟩] : Heap) ((AV.tup [(.int .i64 (((findP l k) : Nat) : Int)), (.bool (findB l k))]), ([⟨0, 2, [[(.int .i64 most), (.osl 1 g 10 0 n)]], none⟩, ⟨g, 10, (List.map Entry.row l), none⟩, ⟨0, 10, [[(.str ⟨#[]⟩), (.str ⟨#[]⟩), (.int .i64 0), (.int .i64 0), (.int .i64 0), (.int .i64 0), (.int .i64 0), (.int .i64 0), (.bool false), (.int .i64 0)]], none⟩] : Heap))) ∧ (Yes (AV.bool (!(findB l k))) ([⟨0, 2, [[(.int .i64 most), (.osl 1 g 10 0 n)]], none⟩, ⟨g, 10, (List.map Entry.row l), none⟩, ⟨0, 10, [[(.str ⟨#[]⟩), (.str ⟨#[]⟩), (.int .i64 0), (.int .i64 0), (.int .i64 0), (.int .i64 0), (.int .i64 0), (.int .i64 0), (.bool false), (.int .i64 0)]], none⟩] : Heap) (AV.bool true)) ∧ (AV.bdd 2 (AV.tup [(.agg [(.str ⟨#[]⟩), (.str ⟨#[]⟩), (.int .i64 0), (.int .i64 0), (.int .i64 0), (.int .i64 0), (.int .i64 0), (.int .i64 0), (.bool false), (.int .i64 0)]), (.bool false)]) = true ∧ obsB 2 ([⟨0, 2, [[(.int .i64 most), (.osl 1 g 10 0 n)]], none⟩, ⟨g, 10, (List.map Entry.row l), none⟩] : Heap) = true) ∧ ((AV.tup [(.agg [(.str ⟨#[]⟩), (.str ⟨#[]⟩), (.int .i64 0), (.int .i64 0), (.int .i64 0), (.int .i64 0), (.int .i64 0), (.int .i64 0), (.bool false), (.int .i64 0)]), (.bool false)]), ([⟨0, 2, [[(.int .i64 most), (.osl 1 g 10 0 n)]], none⟩, ⟨g, 10, (List.map Entry.row l), none⟩] : Heap)) = ((AV.tup [(.agg (Entry.row zE)), (.bool false)]), ([⟨0, 2, [[(.int .i64 most), (.osl 1 g 10 0 n)]], none⟩, ⟨g, 10, (List.map Entry.row l), none⟩] : Heap))) = _) ?_
  refine And.intro (find_at most l k g n (by first | omega | assumption | (simp; done) | (simp; omega) | (simp_all; done) | (simp_all; omega)) (by first | omega | assumption | (simp; done) | (simp; omega) | (simp_all; done) | (simp_all; omega)) ([⟨0, 10, [[(.str ⟨#[]⟩), (.str ⟨#[]⟩), (.int .i64 0), (.int .i64 0), (.int .i64 0), (.int .i64 0), (.int .i64 0), (.int .i64 0), (.bool false), (.int .i64 0)]], none⟩] : Heap)) ?_
  refine And.intro (Yes.bool (by rw [hb]; rfl)) ?_
  refine And.intro (by first | (simp [obsB, AV.bddss, AV.bdds, AV.bdd]; done) | simp [obsB, AV.bddss, AV.bdds, AV.bdd, -List.map_append, -List.map_set, -List.map_take, -List.map_drop, -List.map_cons, -List.map_map]) ?_
  rfl
theorem get_spec (most : Int) (l : List Entry) (k : Key) (g n : Nat) (hn : n = l.length) (hl : l.length < 1048576) : ACalls Try.prog 37 [(.obj 0 0 0 0), (.agg (Key.row k))] ([⟨0, 2, [[(.int .i64 most), (.osl 1 g 10 0 n)]], none⟩, ⟨g, 10, (List.map Entry.row l), none⟩] : Heap) ((AV.tup [(.agg (Entry.row (getE l k))), (.bool (findB l k))]), ([⟨0, 2, [[(.int .i64 most), (.osl 1 g 10 0 n)]], none⟩, ⟨g, 10, (List.map Entry.row l), none⟩] : Heap)) := by
  cases hb : findB l k with
  | true =>
    have h2 : getE l k = nth l (findP l k) := by simp [getE, hb]
    rw [h2]
    exact getIn_spec most l k g n hn hl hb
  | false =>
    have h2 : getE l k = zE := by simp [getE, hb]
    rw [h2]
    exact getOut_spec most l k g n hn hl hb
theorem get_at (most : Int) (l : List Entry) (k : Key) (g n : Nat) (hn : n = l.length) (hl : l.length < 1048576) (H : Heap) : ACalls Try.prog 37 [(.obj 0 0 0 0), (.agg (Key.row k))] (([⟨0, 2, [[(.int .i64 most), (.osl 1 g 10 0 n)]], none⟩, ⟨g, 10, (List.map Entry.row l), none⟩] : Heap) ++ H) ((AV.tup [(.agg (Entry.row (getE l k))), (.bool (findB l k))]), ([⟨0, 2, [[(.int .i64 most), (.osl 1 g 10 0 n)]], none⟩, ⟨g, 10, (List.map Entry.row l), none⟩] : Heap) ++ H) := (get_spec most l k g n hn hl).ext (by kernel_rfl) (by kernel_rfl) (by first | (simp [obsB, AV.bddss, AV.bdds, AV.bdd]; done) | simp [obsB, AV.bddss, AV.bdds, AV.bdd, -List.map_append, -List.map_set, -List.map_take, -List.map_drop, -List.map_cons, -List.map_map]) (by first | (simp [obsB, AV.bddss, AV.bdds, AV.bdd]; done) | simp [obsB, AV.bddss, AV.bdds, AV.bdd, -List.map_append, -List.map_set, -List.map_take, -List.map_drop, -List.map_cons, -List.map_map]) (by kernel_rfl) H
theorem fold_map {α β : Type} (f : α → β) (l : List α) : ∀ (out : List β) (k g : Nat), l.foldl (fun (s : List β × Nat × Nat) c => (s.1 ++ [f c], s.2.1 + 1, s.2.2 + 1)) (out, k, g) = (out ++ l.map f, k + l.length, g + l.length) := by
  induction l with
  | nil => intro out k g; simp
  | cons c l ih => intro out k g; rw [List.foldl_cons, ih]; simp; omega
def scards_ann : Ann := { gha := [(1, .vir 3 9), (6, .cut 3), (7, .frz 2)], base := 2, fin := some 2, live := [(3, [3, 9, 10, 11])], out := [(3, [3, 9, 10, 11])] }
set_option maxRecDepth 100000 in
theorem scards_step (most : Int) (l : List Entry) (g : Nat) (n : Nat) (out : List Card) (k : Nat) (h : Nat) (i : Nat) (hn : n = l.length) (hl : l.length < 1048576) (hk : k = out.length) (hki : k ≤ i) (hle_ : i ≤ n) {eX : Ex} {FX : Fr} {HX : Heap} (k1 : (decide (((i : Nat) : Int) < ((n : Nat) : Int))) = true → LoopTo (codeQ Try.prog (X scards_ann) (loopOf Try.f34 0)) (some [3, 9, 10, 11]) (some [3, 9, 10, 11]) (mkF 22 [(3, (.osl 2 (h + 1) 9 0 (k + 1))), (9, (.osl 1 g 10 0 n)), (10, (.int .i64 ((n : Nat) : Int))), (11, (.int .i64 ((i + 1 : Nat) : Int)))]) ([⟨0, 2, [[(.int .i64 most), (.osl 1 g 10 0 n)]], none⟩, ⟨g, 10, (List.map Entry.row l), none⟩, ⟨(h + 1), 9, (List.map Card.row (out ++ [(nth l i).card])), none⟩] : Heap) eX FX HX) (k2 : (decide (((i : Nat) : Int) < ((n : Nat) : Int))) = false → ((.exit 0 : Ex), (mkF 22 [(3, (.osl 2 h 9 0 k)), (9, (.osl 1 g 10 0 n)), (10, (.int .i64 ((n : Nat) : Int))), (11, (.int .i64 ((i : Nat) : Int)))]), ([⟨0, 2, [[(.int .i64 most), (.osl 1 g 10 0 n)]], none⟩, ⟨g, 10, (List.map Entry.row l), none⟩, ⟨h, 9, (List.map Card.row out), none⟩] : Heap)) = (eX, FX, HX)) : LoopTo (codeQ Try.prog (X scards_ann) (loopOf Try.f34 0)) (some [3, 9, 10, 11]) (some [3, 9, 10, 11]) (mkF 22 [(3, (.osl 2 h 9 0 k)), (9, (.osl 1 g 10 0 n)), (10, (.int .i64 ((n : Nat) : Int))), (11, (.int .i64 ((i : Nat) : Int)))]) ([⟨0, 2, [[(.int .i64 most), (.osl 1 g 10 0 n)]], none⟩, ⟨g, 10, (List.map Entry.row l), none⟩, ⟨h, 9, (List.map Card.row out), none⟩] : Heap) eX FX HX := by
  refine LoopTo.step (.reg [] [] [] (.two (.reg [(0, ((AV.obj 1 g i 0), ([⟨0, 2, [[(.int .i64 most), (.osl 1 g 10 0 n)]], none⟩, ⟨g, 10, (List.map Entry.row l), none⟩, ⟨h, 9, (List.map Card.row out), none⟩, ⟨0, 10, [[(.str ⟨#[]⟩), (.str ⟨#[]⟩), (.int .i64 0), (.int .i64 0), (.int .i64 0), (.int .i64 0), (.int .i64 0), (.int .i64 0), (.bool false), (.int .i64 0)]], none⟩] : Heap))), (1, ((AV.agg (Entry.row (nth l i))), ([⟨0, 2, [[(.int .i64 most), (.osl 1 g 10 0 n)]], none⟩, ⟨g, 10, (List.map Entry.row l), none⟩, ⟨h, 9, (List.map Card.row out), none⟩, ⟨0, 10, [[(.str ⟨#[]⟩), (.str ⟨#[]⟩), (.int .i64 0), (.int .i64 0), (.int .i64 0), (.int .i64 0), (.int .i64 0), (.int .i64 0), (.bool false), (.int .i64 0)]], none⟩] : Heap)))] [] [] (.reg [(4, ((AV.osl 2 (h + 1) 9 0 (k + 1)), ([⟨0, 2, [[(.int .i64 most), (.osl 1 g 10 0 n)]], none⟩, ⟨g, 10, (List.map Entry.row l), none⟩, ⟨(h + 1), 9, (List.map Card.row (out ++ [(nth l i).card])), none⟩, ⟨0, 10, [(Entry.row (nth l i))], none⟩] : Heap)))] [] [] (.reg [(0, ((AV.int .i64 ((i + 1 : Nat) : Int)), ([⟨0, 2, [[(.int .i64 most), (.osl 1 g 10 0 n)]], none⟩, ⟨g, 10, (List.map Entry.row l), none⟩, ⟨(h + 1), 9, (List.map Card.row (out ++ [(nth l i).card])), none⟩, ⟨0, 10, [(Entry.row (nth l i))], none⟩] : Heap)))] [] [] .nil))) .nil)) ?_
  refine Eq.mp (by kernel_rfl : (cond (decide (((i : Nat) : Int) < ((n : Nat) : Int))) ((IdxOsl 1 g 10 10 0 n ((i : Nat) : Int) ([⟨0, 2, [[(.int .i64 most), (.osl 1 g 10 0 n)]], none⟩, ⟨g, 10, (List.map Entry.row l), none⟩, ⟨h, 9, (List.map Card.row out), none⟩, ⟨0, 10, [[(.str ⟨#[]⟩), (.str ⟨#[]⟩), (.int .i64 0), (.int .i64 0), (.int .i64 0), (.int .i64 0), (.int .i64 0), (.int .i64 0), (.bool false), (.int .i64 0)]], none⟩] : Heap) i) ∧ (LoadTo tt 70 0 ([⟨0, 2, [[(.int .i64 most), (.osl 1 g 10 0 n)]], none⟩, ⟨g, 10, (List.map Entry.row l), none⟩, ⟨h, 9, (List.map Card.row out), none⟩, ⟨0, 10, [[(.str ⟨#[]⟩), (.str ⟨#[]⟩), (.int .i64 0), (.int .i64 0), (.int .i64 0), (.int .i64 0), (.int .i64 0), (.int .i64 0), (.bool false), (.int .i64 0)]], none⟩] : Heap) (rowAt ([⟨0, 2, [[(.int .i64 most), (.osl 1 g 10 0 n)]], none⟩, ⟨g, 10, (List.map Entry.row l), none⟩, ⟨h, 9, (List.map Card.row out), none⟩, ⟨0, 10, [[(.str ⟨#[]⟩), (.str ⟨#[]⟩), (.int .i64 0), (.int .i64 0), (.int .i64 0), (.int .i64 0), (.int .i64 0), (.int .i64 0), (.bool false), (.int .i64 0)]], none⟩] : Heap) 1 g i) = some ((AV.agg (Entry.row (nth l i))), ([⟨0, 2, [[(.int .i64 most), (.osl 1 g 10 0 n)]], none⟩, ⟨g, 10, (List.map Entry.row l), none⟩, ⟨h, 9, (List.map Card.row out), none⟩, ⟨0, 10, [[(.str ⟨#[]⟩), (.str ⟨#[]⟩), (.int .i64 0), (.int .i64 0), (.int .i64 0), (.int .i64 0), (.int .i64 0), (.int .i64 0), (.bool false), (.int .i64 0)]], none⟩] : Heap))) ∧ (evAppend tt ([⟨0, 2, [[(.int .i64 most), (.osl 1 g 10 0 n)]], none⟩, ⟨g, 10, (List.map Entry.row l), none⟩, ⟨h, 9, (List.map Card.row out), none⟩, ⟨0, 10, [(Entry.row (nth l i))], none⟩] : Heap) 33 (AV.osl 2 h 9 0 k) (AV.sl .clip 9 [(Card.row (nth l i).card)]) = some ((AV.osl 2 (h + 1) 9 0 (k + 1)), ([⟨0, 2, [[(.int .i64 most), (.osl 1 g 10 0 n)]], none⟩, ⟨g, 10, (List.map Entry.row l), none⟩, ⟨(h + 1), 9, (List.map Card.row (out ++ [(nth l i).card])), none⟩, ⟨0, 10, [(Entry.row (nth l i))], none⟩] : Heap))) ∧ (Yes (.int .i64 (IntKind.i64.wrap (((i : Nat) : Int) + 1))) ([⟨0, 2, [[(.int .i64 most), (.osl 1 g 10 0 n)]], none⟩, ⟨g, 10, (List.map Entry.row l), none⟩, ⟨(h + 1), 9, (List.map Card.row (out ++ [(nth l i).card])), none⟩, ⟨0, 10, [(Entry.row (nth l i))], none⟩] : Heap) (AV.int .i64 ((i + 1 : Nat) : Int))) ∧ (obsB 3 ([⟨0, 2, [[(.int .i64 most), (.osl 1 g 10 0 n)]], none⟩, ⟨g, 10, (List.map Entry.row l), none⟩, ⟨(h + 1), 9, (List.map Card.row (out ++ [(nth l i).card])), none⟩] : Heap) = true) ∧ LoopTo (codeQ Try.prog (X scards_ann) (loopOf Try.f34 0)) (some [3, 9, 10, 11]) (some [3, 9, 10, 11]) (mkF 22 [(3, (.osl 2 (h + 1) 9 0 (k + 1))), (9, (.osl 1 g 10 0 n)), (10, (.int .i64 ((n : Nat) : Int))), (11, (.int .i64 ((i + 1 : Nat) : Int)))]) ([⟨0, 2, [[(.int .i64 most), (.osl 1 g 10 0 n)]], none⟩, ⟨g, 10, (List.map Entry.row l), none⟩, ⟨(h + 1), 9, (List.map Card.row (out ++ [(nth l i).card])), none⟩] : Heap) eX FX HX) (((.exit 0 : Ex), (mkF 22 [(3, (.osl 2 h 9 0 k)), (9, (.osl 1 g 10 0 n)), (10, (.int .i64 ((n : Nat) : Int))), (11, (.int .i64 ((i : Nat) : Int)))]), ([⟨0, 2, [[(.int .i64 most), (.osl 1 g 10 0 n)]], none⟩, ⟨g, 10, (List.map Entry.row l), none⟩, ⟨h, 9, (List.map Card.row out), none⟩] : Heap)) = (eX, FX, HX))) = _) ?_
  refine cond_split (fun h1 => ?_) (fun h1 => ?_)
  · have h1' := h1
    try simp at h1'
    refine And.intro (IdxOsl.mk _ (by omega) (by omega)) ?_
    refine And.intro (load_row (rowAt_map (row := Entry.row) (l := l) (k := 10) (room := none) (by kernel_rfl) (by first | omega | (simp; done) | (simp; omega))) (by kernel_rfl)) ?_
    refine And.intro (evAppend_one (row := Card.row) (l := out) (x := (nth l i).card) (T := tt) (e := 58) (te := { d := .struct [(31, 0), (3, 2), (3, 3), (2, 4), (56, 5), (4, 8)], size := 9, bytes := 88, zero := [.str ⟨#[]⟩, .str ⟨#[]⟩, .int .i64 0, .int .i64 0, .int .i64 0, .int .i64 0, .int .i64 0, .int .i64 0, .bool false] }) (z := 1) (b := 24) (y := [.sl .nil 0 []]) (by kernel_rfl) (by kernel_rfl) rfl (by decide) (by decide) (by kernel_rfl) (by first | assumption | omega | (simp; done) | (simp; omega)) rfl rfl (by first | omega | (show _ * 88 ≤ _; omega) | (simp; omega))) ?_
    refine And.intro (Yes.add (by omega) (by omega) (by omega)) ?_
    refine And.intro (by first | (simp [obsB, AV.bddss, AV.bdds, AV.bdd]; done) | simp [obsB, AV.bddss, AV.bdds, AV.bdd, -List.map_append, -List.map_set, -List.map_take, -List.map_drop, -List.map_cons, -List.map_map]) ?_
    exact k1 h1
  · have h1' := h1
    try simp at h1'
    exact k2 h1
def scards_f (most : Int) (l : List Entry) (g : Nat) (n : Nat) (i : Nat) (s : (List Card) × Nat × Nat) : (List Card) × Nat × Nat := (s.1 ++ [(nth l i).card], (s.2.1 + 1), (s.2.2 + 1))
theorem scards_loop (most : Int) (l : List Entry) (g : Nat) (n : Nat) (hn : n = l.length) (hl : l.length < 1048576)  (r_ : Nat) : ∀ (out : List Card) (k : Nat) (h : Nat) (i : Nat) (sF : (List Card) × Nat × Nat), i + r_ = n → k = out.length → k ≤ i → sF = iter (scards_f most l g n) r_ i (out, k, h) →
    LoopTo (codeQ Try.prog (X scards_ann) (loopOf Try.f34 0)) (some [3, 9, 10, 11]) (some [3, 9, 10, 11]) (mkF 22 [(3, (.osl 2 h 9 0 k)), (9, (.osl 1 g 10 0 n)), (10, (.int .i64 ((n : Nat) : Int))), (11, (.int .i64 ((i : Nat) : Int)))]) ([⟨0, 2, [[(.int .i64 most), (.osl 1 g 10 0 n)]], none⟩, ⟨g, 10, (List.map Entry.row l), none⟩, ⟨h, 9, (List.map Card.row out), none⟩] : Heap) (.exit 0) (mkF 22 [(3, (.osl 2 sF.2.2 9 0 sF.2.1)), (9, (.osl 1 g 10 0 n)), (10, (.int .i64 ((n : Nat) : Int))), (11, (.int .i64 ((n : Nat) : Int)))]) ([⟨0, 2, [[(.int .i64 most), (.osl 1 g 10 0 n)]], none⟩, ⟨g, 10, (List.map Entry.row l), none⟩, ⟨sF.2.2, 9, (List.map Card.row sF.1), none⟩] : Heap) := by
  induction r_ with
  | zero =>
    intro out k h i sF hi_ hk hki  hF
    obtain rfl : n = i := by omega
    have e_ : sF = (out, k, h) := hF
    refine scards_step most l g n out k h n hn hl hk hki (Nat.le_refl _) (fun h => by simp at h <;> omega) (fun _ => ?_)
    first | done | rfl | (rw [e_]; done) | (rw [e_]; rfl)
  | succ r_ ih =>
    intro out k h i sF hi_ hk hki  hF
    refine scards_step most l g n out k h i hn hl hk hki (by omega) (fun h1 => ?_) (fun h => by simp at h <;> omega)
    · exact ih (out ++ [(nth l i).card]) (k + 1) (h + 1) (i + 1) sF (by omega) (by first | omega | assumption | (simp; done) | (simp; omega) | (simp [*]; done) | (simp [*]; omega)) (by first | omega | assumption | (simp; done) | (simp; omega) | (simp [*]; done) | (simp [*]; omega))  (by rw [hF] <;> simp only [iter, scards_f, if_true, Bool.false_eq_true, if_false])
theorem scards_iter (most : Int) (l : List Entry) (g : Nat) : (l.map (·.card), l.length, l.length) = iter (scards_f most l g l.length) l.length 0 ([], 0, 0) := by
  rw [iter_all (scards_f most l g l.length) (fun s e => (s.1 ++ [e.card], s.2.1 + 1, s.2.2 + 1)) l (fun i s hi => rfl), fold_map (fun e : Entry => e.card)]; simp
set_option maxRecDepth 100000 in
theorem scards_spec (most : Int) (l : List Entry) (g n : Nat) (hn : n = l.length) (hl : l.length < 1048576) : ACalls Try.prog 34 [(.obj 0 0 0 0)] ([⟨0, 2, [[(.int .i64 most), (.osl 1 g 10 0 n)]], none⟩, ⟨g, 10, (List.map Entry.row l), none⟩] : Heap) ((AV.sl .any 9 (List.map Card.row (l.map (·.card)))), ([⟨0, 2, [[(.int .i64 most), (.osl 1 g 10 0 n)]], none⟩, ⟨g, 10, (List.map Entry.row l), none⟩] : Heap)) := by
  refine spec (fn := Try.f34) (ann := scards_ann) (t := (.reg [] [] [] (.reg [] [] [] (.reg [] [] [] (.loop (.exit 0) (mkF 22 [(3, (.osl 2 l.length 9 0 l.length)), (9, (.osl 1 g 10 0 n)), (10, (.int .i64 ((n : Nat) : Int))), (11, (.int .i64 ((n : Nat) : Int)))]) ([⟨0, 2, [[(.int .i64 most), (.osl 1 g 10 0 n)]], none⟩, ⟨g, 10, (List.map Entry.row l), none⟩, ⟨l.length, 9, (List.map Card.row (l.map (·.card))), none⟩] : Heap) (.reg [] [] [(2, (List.map Card.row (l.map (·.card))))] .nil)))))) (Nat.le_of_ble_eq_true (by kernel_rfl)) ⟨Try.func34, by kernel_rfl, by kernel_rfl, by kernel_rfl⟩ ?_
  refine Eq.mp (by kernel_rfl : ((LoopTo (codeQ Try.prog (X scards_ann) (loopOf Try.f34 0)) (some [3, 9, 10, 11]) (some [3, 9, 10, 11]) (mkF 22 [(3, (.osl 2 0 9 0 0)), (9, (.osl 1 g 10 0 n)), (10, (.int .i64 ((n : Nat) : Int))), (11, (.int .i64 0))]) ([⟨0, 2, [[(.int .i64 most), (.osl 1 g 10 0 n)]], none⟩, ⟨g, 10, (List.map Entry.row l), none⟩, ⟨0, 9, (List.map Card.row []), none⟩] : Heap) (.exit 0) (mkF 22 [(3, (.osl 2 l.length 9 0 l.length)), (9, (.osl 1 g 10 0 n)), (10, (.int .i64 ((n : Nat) : Int))), (11, (.int .i64 ((n : Nat) : Int)))]) ([⟨0, 2, [[(.int .i64 most), (.osl 1 g 10 0 n)]], none⟩, ⟨g, 10, (List.map Entry.row l), none⟩, ⟨l.length, 9, (List.map Card.row (l.map (·.card))), none⟩] : Heap)) ∧ (rowsIn ([⟨0, 2, [[(.int .i64 most), (.osl 1 g 10 0 n)]], none⟩, ⟨g, 10, (List.map Entry.row l), none⟩, ⟨l.length, 9, (List.map Card.row (l.map (·.card))), none⟩] : Heap) 9 (AV.osl 2 l.length 9 0 l.length) = some (List.map Card.row (l.map (·.card))) ∧ AV.bddss 0 (List.map Card.row (l.map (·.card))) = true) ∧ (AV.bdd 2 (AV.sl .any 9 (List.map Card.row (l.map (·.card)))) = true ∧ obsB 2 ([⟨0, 2, [[(.int .i64 most), (.osl 1 g 10 0 n)]], none⟩, ⟨g, 10, (List.map Entry.row l), none⟩] : Heap) = true) ∧ ((AV.sl .any 9 (List.map Card.row (l.map (·.card)))), ([⟨0, 2, [[(.int .i64 most), (.osl 1 g 10 0 n)]], none⟩, ⟨g, 10, (List.map Entry.row l), none⟩] : Heap)) = ((AV.sl .any 9 (List.map Card.row (l.map (·.card)))), ([⟨0, 2, [[(.int .i64 most), (.osl 1 g 10 0 n)]], none⟩, ⟨g, 10, (List.map Entry.row l), none⟩] : Heap))) = _) ?_
  refine And.intro ((scards_loop most l g n hn hl n [] 0 0 0 (l.map (·.card), l.length, l.length) (by omega) rfl (by omega) (by subst hn; exact scards_iter most l g))) ?_
  refine And.intro (And.intro (rowsIn_all (room := none) (by kernel_rfl) (by first | omega | (simp; done) | (simp; omega))) (Card.rows_bdd _ _)) ?_
  refine And.intro (by first | (simp [obsB, AV.bddss, AV.bdds, AV.bdd]; done) | simp [obsB, AV.bddss, AV.bdds, AV.bdd, -List.map_append, -List.map_set, -List.map_take, -List.map_drop, -List.map_cons, -List.map_map]) ?_
  rfl
theorem scards_at (most : Int) (l : List Entry) (g n : Nat) (hn : n = l.length) (hl : l.length < 1048576) (H : Heap) : ACalls Try.prog 34 [(.obj 0 0 0 0)] (([⟨0, 2, [[(.int .i64 most), (.osl 1 g 10 0 n)]], none⟩, ⟨g, 10, (List.map Entry.row l), none⟩] : Heap) ++ H) ((AV.sl .any 9 (List.map Card.row (l.map (·.card)))), ([⟨0, 2, [[(.int .i64 most), (.osl 1 g 10 0 n)]], none⟩, ⟨g, 10, (List.map Entry.row l), none⟩] : Heap) ++ H) := (scards_spec most l g n hn hl).ext (by kernel_rfl) (by kernel_rfl) (by first | (simp [obsB, AV.bddss, AV.bdds, AV.bdd]; done) | simp [obsB, AV.bddss, AV.bdds, AV.bdd, -List.map_append, -List.map_set, -List.map_take, -List.map_drop, -List.map_cons, -List.map_map]) (by first | (simp [obsB, AV.bddss, AV.bdds, AV.bdd]; done) | simp [obsB, AV.bddss, AV.bdds, AV.bdd, -List.map_append, -List.map_set, -List.map_take, -List.map_drop, -List.map_cons, -List.map_map]) (by kernel_rfl) H
end Go.Proofs.Ytcmfnfkahdconaa.AM

set_option linter.unusedVariables false
set_option linter.unusedSimpArgs false
namespace Go.Proofs.Ytcmfnfkahdconaa.AM
open Go
theorem ACalls.frzField {P : Program} {f : FuncId} {args : List AV} {r a : AV} {o0 : Ob} {k g2 n : Nat} {els els' : List (List AV)} (h : ACalls P f args [o0] (r, [⟨0, 2, [[a, .osl 1 g2 k 0 n]], none⟩, ⟨g2, k, els, none⟩])) (h0 : args[0]? = some (.obj 0 0 0 0)) (hg0 : o0.gen = 0)
    (hn : n = els.length) (hb : AV.bddss 0 els = true) (ha : AV.bdd 1 a = true) (hr : r.bdd 1 = true) (he : els = els') : ACalls P f args [o0] (r, [⟨0, 2, [[a, .sl .any k els']], none⟩]) := by
  subst he
  have h1 := h.ghost (i := 0) (id := 0) (g := 0) (x := .obj 0 0 0 0) (o := o0) (a' := r) (H2 := [⟨0, 2, [[a, .sl .any k els]], none⟩] ++ [⟨g2 + 1, k, [], none⟩]) h0 (.inl ⟨_, _, rfl⟩) rfl hg0 rfl rfl
    fun G w C v hH hv hl => frz_cell_sound (id := 0) (e := 0) (c := 1) (id2 := 1) (g2 := g2) (k := k) (e2 := 0) (n2 := n) (xs := els) (o := ⟨0, 2, [[a, .osl 1 g2 k 0 n]], none⟩) hH rfl (by decide) (by simp) (by simp) rfl (by simp [rowsIn, hn]) hb hv hl
  refine h1.forget rfl hr fun id o ho => .inr ?_
  cases id with
  | zero =>
    simp only [List.getElem?_cons_zero, Option.some.injEq] at ho
    subst ho
    simp [AV.bddss, AV.bdds, ha, AV.bdd]
  | succ id => simp at ho
theorem ACalls.virField {P : Program} {f : FuncId} {args : List AV} {a : AV} {k k0 : Nat} (h : ACalls P f args [] (.obj 0 0 0 0, [⟨0, 2, [[a, .sl .nil k0 []]], none⟩])) : ACalls P f args [] (.obj 0 0 0 0, [⟨0, 2, [[a, .osl 1 0 k 0 0]], none⟩, ⟨0, k, [], none⟩]) :=
  h.ghost0 fun G w C v hH hv => vir_cell_sound (id := 0) (e := 0) (c := 1) (k0 := k0) (o := ⟨0, 2, [[a, .sl .nil k0 []]], none⟩) hH k rfl (by simp) (by simp) rfl hv (VR.shows hv (id := 0) (g := 0) (.inl ⟨_, _, rfl⟩) (by simpa using hH.gen 0 _ rfl))
theorem ACalls.wkField {P : Program} {f : FuncId} {args : List AV} {a x y : AV} (h : ACalls P f args [] (.obj 0 0 0 0, [⟨0, 2, [[a, x]], none⟩])) (hw : AV.wk x y) : ACalls P f args [] (.obj 0 0 0 0, [⟨0, 2, [[a, y]], none⟩]) :=
  h.ghost0 fun G w C v hH hv => wk_cell_sound (id := 0) (e := 0) (c := 1) (o := ⟨0, 2, [[a, x]], none⟩) hH rfl (by simp) (by simp) hw hv (VR.shows hv (id := 0) (g := 0) (.inl ⟨_, _, rfl⟩) (by simpa using hH.gen 0 _ rfl))
end Go.Proofs.Ytcmfnfkahdconaa.AM

set_option maxRecDepth 100000
set_option linter.unusedVariables false
set_option linter.unusedSimpArgs false
namespace Go.Proofs.Ytcmfnfkahdconaa.AM
open Go Go.Proofs.Ytcmfnfkahdconaa
attribute [local irreducible] ACalls funT codeT codeQ LoopTo
attribute [local irreducible] Tp.card Tp.cardT Tp.next Tp.step Tp.key Tp.keyT sink insSort sortK insK posK beforeK
attribute [local irreducible] findP findB putL putE putG dropL getE
def capM (most : Int) : Int := max 0 (min most 32)
def new0_ann : Ann := { fin := some 1 }
set_option maxRecDepth 100000 in
theorem new0_spec (most : Int)  : ACalls Try.prog 52 [(.int .i64 most)] ([] : Heap) ((AV.obj 0 0 0 0), ([⟨0, 2, [[(.int .i64 (capM most)), (.sl .nil 0 [])]], none⟩] : Heap)) := by
  refine spec (fn := Try.f52) (ann := new0_ann) (t := (.reg [] [] [] (.reg [(1, ((AV.int .i64 (min most 32)), ([] : Heap))), (2, ((AV.int .i64 (max 0 (min most 32))), ([] : Heap)))] [] [] .nil))) (Nat.le_of_ble_eq_true (by kernel_rfl)) ⟨Try.func52, by kernel_rfl, by kernel_rfl, by kernel_rfl⟩ ?_
  refine Eq.mp (by kernel_rfl : ((Yes (.int .i64 (if 32 < most then 32 else most)) ([] : Heap) (AV.int .i64 (min most 32))) ∧ (Yes (.int .i64 (if (min most 32) > 0 then (min most 32) else 0)) ([] : Heap) (AV.int .i64 (max 0 (min most 32)))) ∧ (AV.bdd 1 (AV.obj 0 0 0 0) = true ∧ obsB 1 ([⟨0, 2, [[(.int .i64 (max 0 (min most 32))), (.sl .nil 0 [])]], none⟩] : Heap) = true) ∧ ((AV.obj 0 0 0 0), ([⟨0, 2, [[(.int .i64 (max 0 (min most 32))), (.sl .nil 0 [])]], none⟩] : Heap)) = ((AV.obj 0 0 0 0), ([⟨0, 2, [[(.int .i64 (capM most)), (.sl .nil 0 [])]], none⟩] : Heap))) = _) ?_
  refine And.intro (Yes.int (by split <;> omega)) ?_
  refine And.intro (Yes.int (by split <;> omega)) ?_
  refine And.intro (by first | (simp [obsB, AV.bddss, AV.bdds, AV.bdd]; done) | simp [obsB, AV.bddss, AV.bdds, AV.bdd, -List.map_append, -List.map_set, -List.map_take, -List.map_drop, -List.map_cons, -List.map_map]) ?_
  rfl
theorem snew_spec (most : Int)  : ACalls Try.prog 52 [(.int .i64 most)] ([] : Heap) ((AV.obj 0 0 0 0), ([⟨0, 2, [[(.int .i64 (capM most)), (.osl 1 0 10 0 0)]], none⟩, ⟨0, 10, (List.map Entry.row []), none⟩] : Heap)) := (new0_spec most).virField
def rnew0_ann : Ann := { fin := some 1 }
set_option maxRecDepth 100000 in
theorem rnew0_spec (most : Int)  : ACalls Try.prog 79 [(.int .i64 most)] ([] : Heap) ((AV.obj 0 0 0 0), ([⟨0, 2, [[(.int .i64 (capM most)), (.sl .nil 0 [])]], none⟩] : Heap)) := by
  refine spec (fn := Try.f79) (ann := rnew0_ann) (t := (.reg [] [] [] (.reg [(1, ((AV.int .i64 (min most 32)), ([] : Heap))), (2, ((AV.int .i64 (max (min most 32) 0)), ([] : Heap)))] [] [] .nil))) (Nat.le_of_ble_eq_true (by kernel_rfl)) ⟨Try.func79, by kernel_rfl, by kernel_rfl, by kernel_rfl⟩ ?_
  refine Eq.mp (by kernel_rfl : ((Yes (.int .i64 (if 32 < most then 32 else most)) ([] : Heap) (AV.int .i64 (min most 32))) ∧ (Yes (.int .i64 (if 0 > (min most 32) then 0 else (min most 32))) ([] : Heap) (AV.int .i64 (max (min most 32) 0))) ∧ (AV.bdd 1 (AV.obj 0 0 0 0) = true ∧ obsB 1 ([⟨0, 2, [[(.int .i64 (max (min most 32) 0)), (.sl .nil 0 [])]], none⟩] : Heap) = true) ∧ ((AV.obj 0 0 0 0), ([⟨0, 2, [[(.int .i64 (max (min most 32) 0)), (.sl .nil 0 [])]], none⟩] : Heap)) = ((AV.obj 0 0 0 0), ([⟨0, 2, [[(.int .i64 (capM most)), (.sl .nil 0 [])]], none⟩] : Heap))) = _) ?_
  refine And.intro (Yes.int (by split <;> omega)) ?_
  refine And.intro (Yes.int (by split <;> omega)) ?_
  refine And.intro (by first | (simp [obsB, AV.bddss, AV.bdds, AV.bdd]; done) | simp [obsB, AV.bddss, AV.bdds, AV.bdd, -List.map_append, -List.map_set, -List.map_take, -List.map_drop, -List.map_cons, -List.map_map]) ?_
  simp [capM, Int.max_comm]
theorem rnew_spec (most : Int)  : ACalls Try.prog 79 [(.int .i64 most)] ([] : Heap) ((AV.obj 0 0 0 0), ([⟨0, 2, [[(.int .i64 (capM most)), (.sl .any 10 (List.map Entry.row []))]], none⟩] : Heap)) := (rnew0_spec most).wkField ⟨rfl, rfl, .inr rfl⟩
def rfind_ann : Ann := { refs := [3], base := 1, fin := some 1, live := [(2, [0, 3, 6])], out := [(2, [0, 3, 6])] }
set_option maxRecDepth 100000 in
theorem rfind_step (most : Int) (l : List Entry) (k : Key) (i : Nat) (hl : l.length < 1048576) (hi : i ≤ l.length) {eX : Ex} {FX : Fr} {HX : Heap} (k1 : (decide (((i : Nat) : Int) < ((l.length : Nat) : Int))) = true → (beforeK (nth l i).card.key k) = true → LoopTo (codeQ Try.prog (X rfind_ann) (loopOf Try.f134 0)) (some [0, 3, 6]) (some [0, 3, 6]) (mkF 50 [(0, (.obj 0 0 0 0)), (3, (.ref (Key.row k) 0)), (6, (.int .i64 ((i + 1 : Nat) : Int)))]) ([⟨0, 2, [[(.int .i64 most), (.sl .any 10 (List.map Entry.row l))]], none⟩] : Heap) eX FX HX) (k2 : (decide (((i : Nat) : Int) < ((l.length : Nat) : Int))) = true → (beforeK (nth l i).card.key k) = false → ((.exit 0 : Ex), (mkF 50 [(0, (.obj 0 0 0 0)), (3, (.ref (Key.row k) 0)), (6, (.int .i64 ((i : Nat) : Int)))]), ([⟨0, 2, [[(.int .i64 most), (.sl .any 10 (List.map Entry.row l))]], none⟩] : Heap)) = (eX, FX, HX)) (k3 : (decide (((i : Nat) : Int) < ((l.length : Nat) : Int))) = false → ((.exit 0 : Ex), (mkF 50 [(0, (.obj 0 0 0 0)), (3, (.ref (Key.row k) 0)), (6, (.int .i64 ((i : Nat) : Int)))]), ([⟨0, 2, [[(.int .i64 most), (.sl .any 10 (List.map Entry.row l))]], none⟩] : Heap)) = (eX, FX, HX)) : LoopTo (codeQ Try.prog (X rfind_ann) (loopOf Try.f134 0)) (some [0, 3, 6]) (some [0, 3, 6]) (mkF 50 [(0, (.obj 0 0 0 0)), (3, (.ref (Key.row k) 0)), (6, (.int .i64 ((i : Nat) : Int)))]) ([⟨0, 2, [[(.int .i64 most), (.sl .any 10 (List.map Entry.row l))]], none⟩] : Heap) eX FX HX := by
  refine LoopTo.step (.reg [(5, ((AV.int .i64 ((l.length : Nat) : Int)), ([⟨0, 2, [[(.int .i64 most), (.sl .any 10 (List.map Entry.row l))]], none⟩] : Heap))), (13, ((AV.ref (Entry.row (nth l i)) 0), ([⟨0, 2, [[(.int .i64 most), (.sl .any 10 (List.map Entry.row l))]], none⟩] : Heap))), (18, ((AV.bool (beforeK (nth l i).card.key k)), ([⟨0, 2, [[(.int .i64 most), (.sl .any 10 (List.map Entry.row l))]], none⟩] : Heap)))] [] [] (.two (.two (.two (.two (.two (.two (.two (.two (.two (.two (.two (.two (.reg [(1, ((AV.int .i64 ((i + 1 : Nat) : Int)), ([⟨0, 2, [[(.int .i64 most), (.sl .any 10 (List.map Entry.row l))]], none⟩] : Heap)))] [] [] .nil) .nil) .nil) .nil) .nil) .nil) .nil) .nil) .nil) .nil) .nil) .nil) (.two .nil (.two .nil (.two .nil (.two .nil (.two .nil (.two .nil (.two .nil (.two .nil (.two .nil (.two .nil (.two .nil .nil))))))))))))) ?_
  refine Eq.mp (by kernel_rfl : ((Yes (.int .i64 ((List.length (List.map Entry.row l) : Nat) : Int)) ([⟨0, 2, [[(.int .i64 most), (.sl .any 10 (List.map Entry.row l))]], none⟩] : Heap) (AV.int .i64 ((l.length : Nat) : Int))) ∧ cond (decide (((i : Nat) : Int) < ((l.length : Nat) : Int))) ((IdxSl 10 10 (List.map Entry.row l) ((i : Nat) : Int) ([⟨0, 2, [[(.int .i64 most), (.sl .any 10 (List.map Entry.row l))]], none⟩] : Heap) (Entry.row (nth l i))) ∧ (ACalls Try.prog 102 [(.agg (Key.row (nth l i).card.key)), (.agg (Key.row k))] ([⟨0, 2, [[(.int .i64 most), (.sl .any 10 (List.map Entry.row l))]], none⟩] : Heap) ((AV.bool (beforeK (nth l i).card.key k)), ([⟨0, 2, [[(.int .i64 most), (.sl .any 10 (List.map Entry.row l))]], none⟩] : Heap))) ∧ cond (beforeK (nth l i).card.key k) ((Yes (.int .i64 (IntKind.i64.wrap (((i : Nat) : Int) + 1))) ([⟨0, 2, [[(.int .i64 most), (.sl .any 10 (List.map Entry.row l))]], none⟩] : Heap) (AV.int .i64 ((i + 1 : Nat) : Int))) ∧ LoopTo (codeQ Try.prog (X rfind_ann) (loopOf Try.f134 0)) (some [0, 3, 6]) (some [0, 3, 6]) (mkF 50 [(0, (.obj 0 0 0 0)), (3, (.ref (Key.row k) 0)), (6, (.int .i64 ((i + 1 : Nat) : Int)))]) ([⟨0, 2, [[(.int .i64 most), (.sl .any 10 (List.map Entry.row l))]], none⟩] : Heap) eX FX HX) (((.exit 0 : Ex), (mkF 50 [(0, (.obj 0 0 0 0)), (3, (.ref (Key.row k) 0)), (6, (.int .i64 ((i : Nat) : Int)))]), ([⟨0, 2, [[(.int .i64 most), (.sl .any 10 (List.map Entry.row l))]], none⟩] : Heap)) = (eX, FX, HX))) (((.exit 0 : Ex), (mkF 50 [(0, (.obj 0 0 0 0)), (3, (.ref (Key.row k) 0)), (6, (.int .i64 ((i : Nat) : Int)))]), ([⟨0, 2, [[(.int .i64 most), (.sl .any 10 (List.map Entry.row l))]], none⟩] : Heap)) = (eX, FX, HX))) = _) ?_
  refine And.intro (Yes.len _ _ _) ?_
  refine cond_split (fun h1 => ?_) (fun h1 => ?_)
  · have h1' := h1
    try simp at h1'
    refine And.intro (IdxSl.mk _ (by omega) (by omega)) ?_
    refine And.intro (before_at (nth l i).card.key k  ([⟨0, 2, [[(.int .i64 most), (.sl .any 10 (List.map Entry.row l))]], none⟩] : Heap)) ?_
    refine cond_split (fun h2 => ?_) (fun h2 => ?_)
    · have h2' := h2
      try simp at h2'
      refine And.intro (Yes.add (by omega) (by omega) (by omega)) ?_
      exact k1 h1 h2
    · have h2' := h2
      try simp at h2'
      exact k2 h1 h2
  · have h1' := h1
    try simp at h1'
    exact k3 h1
theorem rfind_loop (most : Int) (l : List Entry) (k : Key) (hl : l.length < 1048576) (r : Nat) : ∀ (i : Nat), i + r = findP l k →
    LoopTo (codeQ Try.prog (X rfind_ann) (loopOf Try.f134 0)) (some [0, 3, 6]) (some [0, 3, 6]) (mkF 50 [(0, (.obj 0 0 0 0)), (3, (.ref (Key.row k) 0)), (6, (.int .i64 ((i : Nat) : Int)))]) ([⟨0, 2, [[(.int .i64 most), (.sl .any 10 (List.map Entry.row l))]], none⟩] : Heap) (.exit 0) (mkF 50 [(0, (.obj 0 0 0 0)), (3, (.ref (Key.row k) 0)), (6, (.int .i64 (((findP l k) : Nat) : Int)))]) ([⟨0, 2, [[(.int .i64 most), (.sl .any 10 (List.map Entry.row l))]], none⟩] : Heap) := by
  have hle := findP_le l k
  induction r with
  | zero =>
    intro i hi
    obtain rfl : i = findP l k := by omega
    refine rfind_step most l k (findP l k) hl (by omega) (fun h1 h2 => ?_) (fun _ _ => rfl) (fun _ => rfl)
    rw [findP_at (by have := of_decide_eq_true h1; omega)] at h2; simp at h2
  | succ r ih =>
    intro i hi
    refine rfind_step most l k i hl (by omega) (fun _ _ => ih (i + 1) (by omega)) (fun _ h2 => ?_) (fun h1 => ?_)
    · rw [findP_lt (show i < findP l k by omega)] at h2; simp at h2
    · simp at h1; omega
set_option maxRecDepth 100000 in
theorem rfind_spec (most : Int) (l : List Entry) (k : Key) (hl : l.length < 1048576) : ACalls Try.prog 134 [(.obj 0 0 0 0), (.agg (Key.row k))] ([⟨0, 2, [[(.int .i64 most), (.sl .any 10 (List.map Entry.row l))]], none⟩] : Heap) ((AV.tup [(.int .i64 (((findP l k) : Nat) : Int)), (.bool (findB l k))]), ([⟨0, 2, [[(.int .i64 most), (.sl .any 10 (List.map Entry.row l))]], none⟩] : Heap)) := by
  have hle := findP_le l k
  refine spec (fn := Try.f134) (ann := rfind_ann) (t := (.reg [] [] [] (.reg [] [] [] (.loop (.exit 0) (mkF 50 [(0, (.obj 0 0 0 0)), (3, (.ref (Key.row k) 0)), (6, (.int .i64 (((findP l k) : Nat) : Int)))]) ([⟨0, 2, [[(.int .i64 most), (.sl .any 10 (List.map Entry.row l))]], none⟩] : Heap) (.reg [(6, ((AV.int .i64 ((l.length : Nat) : Int)), ([⟨0, 2, [[(.int .i64 most), (.sl .any 10 (List.map Entry.row l))]], none⟩] : Heap))), (14, ((AV.ref (Entry.row (nth l (findP l k))) 0), ([⟨0, 2, [[(.int .i64 most), (.sl .any 10 (List.map Entry.row l))]], none⟩] : Heap)))] [] [] (.two (.two (.two (.two (.two (.two (.two (.two (.two (.two (.two .nil .nil) .nil) .nil) .nil) .nil) .nil) .nil) .nil) .nil) .nil) (.two .nil (.two .nil (.two .nil (.two .nil (.two .nil (.two .nil (.two .nil (.two .nil (.two .nil (.two .nil .nil)))))))))))))))) (Nat.le_of_ble_eq_true (by kernel_rfl)) ⟨Try.func134, by kernel_rfl, by kernel_rfl, by kernel_rfl⟩ ?_
  refine Eq.mp (by kernel_rfl : ((LoopTo (codeQ Try.prog (X rfind_ann) (loopOf Try.f134 0)) (some [0, 3, 6]) (some [0, 3, 6]) (mkF 50 [(0, (.obj 0 0 0 0)), (3, (.ref (Key.row k) 0)), (6, (.int .i64 0))]) ([⟨0, 2, [[(.int .i64 most), (.sl .any 10 (List.map Entry.row l))]], none⟩] : Heap) (.exit 0) (mkF 50 [(0, (.obj 0 0 0 0)), (3, (.ref (Key.row k) 0)), (6, (.int .i64 (((findP l k) : Nat) : Int)))]) ([⟨0, 2, [[(.int .i64 most), (.sl .any 10 (List.map Entry.row l))]], none⟩] : Heap)) ∧ (Yes (.int .i64 ((List.length (List.map Entry.row l) : Nat) : Int)) ([⟨0, 2, [[(.int .i64 most), (.sl .any 10 (List.map Entry.row l))]], none⟩] : Heap) (AV.int .i64 ((l.length : Nat) : Int))) ∧ cond (decide ((((findP l k) : Nat) : Int) < ((l.length : Nat) : Int))) ((IdxSl 10 10 (List.map Entry.row l) (((findP l k) : Nat) : Int) ([⟨0, 2, [[(.int .i64 most), (.sl .any 10 (List.map Entry.row l))]], none⟩] : Heap) (Entry.row (nth l (findP l k)))) ∧ (AV.bdd 1 (AV.tup [(.int .i64 (((findP l k) : Nat) : Int)), (.bool (Key.eqb (nth l (findP l k)).card.key k))]) = true ∧ obsB 1 ([⟨0, 2, [[(.int .i64 most), (.sl .any 10 (List.map Entry.row l))]], none⟩] : Heap) = true) ∧ ((AV.tup [(.int .i64 (((findP l k) : Nat) : Int)), (.bool (Key.eqb (nth l (findP l k)).card.key k))]), ([⟨0, 2, [[(.int .i64 most), (.sl .any 10 (List.map Entry.row l))]], none⟩] : Heap)) = ((AV.tup [(.int .i64 (((findP l k) : Nat) : Int)), (.bool (findB l k))]), ([⟨0, 2, [[(.int .i64 most), (.sl .any 10 (List.map Entry.row l))]], none⟩] : Heap))) ((AV.bdd 1 (AV.tup [(.int .i64 (((findP l k) : Nat) : Int)), (.bool false)]) = true ∧ obsB 1 ([⟨0, 2, [[(.int .i64 most), (.sl .any 10 (List.map Entry.row l))]], none⟩] : Heap) = true) ∧ ((AV.tup [(.int .i64 (((findP l k) : Nat) : Int)), (.bool false)]), ([⟨0, 2, [[(.int .i64 most), (.sl .any 10 (List.map Entry.row l))]], none⟩] : Heap)) = ((AV.tup [(.int .i64 (((findP l k) : Nat) : Int)), (.bool (findB l k))]), ([⟨0, 2, [[(.int .i64 most), (.sl .any 10 (List.map Entry.row l))]], none⟩] : Heap)))) = _) ?_
  refine And.intro ((rfind_loop most l k hl (findP l k) 0 (by omega))) ?_
  refine And.intro (Yes.len _ _ _) ?_
  refine cond_split (fun h1 => ?_) (fun h1 => ?_)
  · have h1' := h1
    try simp at h1'
    refine And.intro (IdxSl.mk _ (by omega) (by omega)) ?_
    refine And.intro (by first | (simp [obsB, AV.bddss, AV.bdds, AV.bdd]; done) | simp [obsB, AV.bddss, AV.bdds, AV.bdd, -List.map_append, -List.map_set, -List.map_take, -List.map_drop, -List.map_cons, -List.map_map]) ?_
    have hb : findB l k = Key.eqb (nth l (findP l k)).card.key k := by unfold findB; first | (simp_all; done) | (simp_all; omega) | (simp_all; intro h; omega)
    rw [hb]
  · have h1' := h1
    try simp at h1'
    refine And.intro (by first | (simp [obsB, AV.bddss, AV.bdds, AV.bdd]; done) | simp [obsB, AV.bddss, AV.bdds, AV.bdd, -List.map_append, -List.map_set, -List.map_take, -List.map_drop, -List.map_cons, -List.map_map]) ?_
    have hb : findB l k = false := by unfold findB; first | (simp_all; done) | (simp_all; omega) | (simp_all; intro h; omega)
    rw [hb]
theorem rfind_at (most : Int) (l : List Entry) (k : Key) (hl : l.length < 1048576) (H : Heap) : ACalls Try.prog 134 [(.obj 0 0 0 0), (.agg (Key.row k))] (([⟨0, 2, [[(.int .i64 most), (.sl .any 10 (List.map Entry.row l))]], none⟩] : Heap) ++ H) ((AV.tup [(.int .i64 (((findP l k) : Nat) : Int)), (.bool (findB l k))]), ([⟨0, 2, [[(.int .i64 most), (.sl .any 10 (List.map Entry.row l))]], none⟩] : Heap) ++ H) := (rfind_spec most l k hl).ext (by kernel_rfl) (by kernel_rfl) (by first | (simp [obsB, AV.bddss, AV.bdds, AV.bdd]; done) | simp [obsB, AV.bddss, AV.bdds, AV.bdd, -List.map_append, -List.map_set, -List.map_take, -List.map_drop, -List.map_cons, -List.map_map]) (by first | (simp [obsB, AV.bddss, AV.bdds, AV.bdd]; done) | simp [obsB, AV.bddss, AV.bdds, AV.bdd, -List.map_append, -List.map_set, -List.map_take, -List.map_drop, -List.map_cons, -List.map_map]) (by kernel_rfl) H
def rputIn0_ann : Ann := { refs := [3], own := [22, 50, 60], base := 1, fin := some 2 }
set_option maxRecDepth 100000 in
theorem rputIn0_spec (most : Int) (l : List Entry) (e : Entry) (hl : l.length < 1048576) (hb : findB l e.card.key = true) : ACalls Try.prog 82 [(.obj 0 0 0 0), (.agg (Entry.row e))] ([⟨0, 2, [[(.int .i64 most), (.sl .any 10 (List.map Entry.row l))]], none⟩] : Heap) ((AV.int .i64 0), ([⟨0, 2, [[(.int .i64 most), (.osl 1 0 10 0 l.length)]], none⟩, ⟨0, 10, (List.map Entry.row (l.set (findP l e.card.key) e)), none⟩] : Heap)) := by
  have hle := findP_le l e.card.key
  have hlt := findB_lt hb
  refine spec (fn := Try.f82) (ann := rputIn0_ann) (t := (.reg [] [] [] (.reg [(4, ((AV.tup [(.int .i64 (((findP l e.card.key) : Nat) : Int)), (.bool (findB l e.card.key))]), ([⟨0, 2, [[(.int .i64 most), (.sl .any 10 (List.map Entry.row l))]], none⟩] : Heap)))] [] [] (.reg [(0, ((AV.bool true), ([⟨0, 2, [[(.int .i64 most), (.sl .any 10 (List.map Entry.row l))]], none⟩] : Heap)))] [] [] (.two (.reg [(6, ((AV.osl 1 0 10 0 l.length), ([⟨0, 2, [[(.int .i64 most), (.sl .any 10 (List.map Entry.row l))]], none⟩, ⟨0, 10, (List.map Entry.row l), none⟩] : Heap)))] [] [] (.reg [(6, ((AV.obj 1 0 (findP l e.card.key) 0), ([⟨0, 2, [[(.int .i64 most), (.osl 1 0 10 0 l.length)]], none⟩, ⟨0, 10, (List.map Entry.row l), none⟩] : Heap))), (7, (.skip, ([⟨0, 2, [[(.int .i64 most), (.osl 1 0 10 0 l.length)]], none⟩, ⟨0, 10, (List.map Entry.row (l.set (findP l e.card.key) e)), none⟩] : Heap)))] [] [] (.reg [] [] [] .nil))) .nil))))) (Nat.le_of_ble_eq_true (by kernel_rfl)) ⟨Try.func82, by kernel_rfl, by kernel_rfl, by kernel_rfl⟩ ?_
  refine Eq.mp (by kernel_rfl : ((ACalls Try.prog 134 [(.obj 0 0 0 0), (.agg (Key.row e.card.key))] ([⟨0, 2, [[(.int .i64 most), (.sl .any 10 (List.map Entry.row l))]], none⟩] : Heap) ((AV.tup [(.int .i64 (((findP l e.card.key) : Nat) : Int)), (.bool (findB l e.card.key))]), ([⟨0, 2, [[(.int .i64 most), (.sl .any 10 (List.map Entry.row l))]], none⟩] : Heap))) ∧ (Yes (AV.bool (findB l e.card.key)) ([⟨0, 2, [[(.int .i64 most), (.sl .any 10 (List.map Entry.row l))]], none⟩] : Heap) (AV.bool true)) ∧ (evAppendO tt ([⟨0, 2, [[(.int .i64 most), (.sl .any 10 (List.map Entry.row l))]], none⟩] : Heap) 110 (AV.sl .clip 10 []) (AV.sl .any 10 (List.map Entry.row l)) = some ((AV.osl 1 0 10 0 l.length), ([⟨0, 2, [[(.int .i64 most), (.sl .any 10 (List.map Entry.row l))]], none⟩, ⟨0, 10, (List.map Entry.row l), none⟩] : Heap))) ∧ (IdxOsl 1 0 10 10 0 l.length (((findP l e.card.key) : Nat) : Int) ([⟨0, 2, [[(.int .i64 most), (.osl 1 0 10 0 l.length)]], none⟩, ⟨0, 10, (List.map Entry.row l), none⟩] : Heap) (findP l e.card.key)) ∧ (StoreTo ([⟨0, 2, [[(.int .i64 most), (.osl 1 0 10 0 l.length)]], none⟩, ⟨0, 10, (List.map Entry.row l), none⟩] : Heap) 1 (findP l e.card.key) 10 0 (rowAt ([⟨0, 2, [[(.int .i64 most), (.osl 1 0 10 0 l.length)]], none⟩, ⟨0, 10, (List.map Entry.row l), none⟩] : Heap) 1 0 (findP l e.card.key)) (AV.fit (AV.agg (Entry.row e)) 10) = some (AV.skip, ([⟨0, 2, [[(.int .i64 most), (.osl 1 0 10 0 l.length)]], none⟩, ⟨0, 10, (List.map Entry.row (l.set (findP l e.card.key) e)), none⟩] : Heap))) ∧ (AV.bdd 2 (AV.int .i64 0) = true ∧ obsB 2 ([⟨0, 2, [[(.int .i64 most), (.osl 1 0 10 0 l.length)]], none⟩, ⟨0, 10, (List.map Entry.row (l.set (findP l e.card.key) e)), none⟩] : Heap) = true) ∧ ((AV.int .i64 0), ([⟨0, 2, [[(.int .i64 most), (.osl 1 0 10 0 l.length)]], none⟩, ⟨0, 10, (List.map Entry.row (l.set (findP l e.card.key) e)), none⟩] : Heap)) = ((AV.int .i64 0), ([⟨0, 2, [[(.int .i64 most), (.osl 1 0 10 0 l.length)]], none⟩, ⟨0, 10, (List.map Entry.row (l.set (findP l e.card.key) e)), none⟩] : Heap))) = _) ?_
  refine And.intro (rfind_at most l e.card.key (by first | omega | assumption | (simp; done) | (simp; omega) | (simp_all; done) | (simp_all; omega)) ([] : Heap)) ?_
  refine And.intro (Yes.bool (hb)) ?_
  refine And.intro (evAppendO_fresh (T := tt) (e := 119) (te := { d := .struct [(58, 0), (2, 9)], size := 10, bytes := 96, zero := [.str ⟨#[]⟩, .str ⟨#[]⟩, .int .i64 0, .int .i64 0, .int .i64 0, .int .i64 0, .int .i64 0, .int .i64 0, .bool false, .int .i64 0] }) (z := 1) (b := 24) (y := [.sl .nil 0 []]) (row := Entry.row) (by kernel_rfl) (by kernel_rfl) rfl (by decide) (by decide) (by simp) (by first | (simp [rowsIn, List.map_take, List.map_drop, List.take_of_length_le]; done) | simp [rowsIn, rU8, rI64, rStr, rBool]) rfl rfl rfl (by first | omega | (simp; done) | (simp; omega))) ?_
  refine And.intro (IdxOsl.mk _ (by omega) (by omega)) ?_
  refine And.intro (store_row (us := (Entry.row e)) (rowAt_map (row := Entry.row) (l := l) (k := 10) (room := none) (by kernel_rfl) (by first | omega | (simp; done) | (simp; omega))) (by kernel_rfl) (by simp [Entry.row]) (by simp [setAt, fillAt, List.map_set, Entry.row])) ?_
  refine And.intro (by first | (simp [obsB, AV.bddss, AV.bdds, AV.bdd]; done) | simp [obsB, AV.bddss, AV.bdds, AV.bdd, -List.map_append, -List.map_set, -List.map_take, -List.map_drop, -List.map_cons, -List.map_map]) ?_
  rfl
def rputFull_ann : Ann := { refs := [3], base := 1, fin := some 1 }
set_option maxRecDepth 100000 in
theorem rputFull_spec (most : Int) (l : List Entry) (e : Entry) (hl : l.length < 1048576) (hb : findB l e.card.key = false) (hm : most ≤ (l.length : Int)) : ACalls Try.prog 82 [(.obj 0 0 0 0), (.agg (Entry.row e))] ([⟨0, 2, [[(.int .i64 most), (.sl .any 10 (List.map Entry.row l))]], none⟩] : Heap) ((AV.int .i64 24), ([⟨0, 2, [[(.int .i64 most), (.sl .any 10 (List.map Entry.row l))]], none⟩] : Heap)) := by
  have hle := findP_le l e.card.key
  refine spec (fn := Try.f82) (ann := rputFull_ann) (t := (.reg [] [] [] (.reg [(4, ((AV.tup [(.int .i64 (((findP l e.card.key) : Nat) : Int)), (.bool (findB l e.card.key))]), ([⟨0, 2, [[(.int .i64 most), (.sl .any 10 (List.map Entry.row l))]], none⟩] : Heap)))] [] [] (.reg [(0, ((AV.bool false), ([⟨0, 2, [[(.int .i64 most), (.sl .any 10 (List.map Entry.row l))]], none⟩] : Heap)))] [] [] (.two .nil (.reg [(4, ((AV.int .i64 ((l.length : Nat) : Int)), ([⟨0, 2, [[(.int .i64 most), (.sl .any 10 (List.map Entry.row l))]], none⟩] : Heap))), (9, ((AV.bool true), ([⟨0, 2, [[(.int .i64 most), (.sl .any 10 (List.map Entry.row l))]], none⟩] : Heap)))] [] [] (.two (.reg [] [] [] .nil) .nil))))))) (Nat.le_of_ble_eq_true (by kernel_rfl)) ⟨Try.func82, by kernel_rfl, by kernel_rfl, by kernel_rfl⟩ ?_
  refine Eq.mp (by kernel_rfl : ((ACalls Try.prog 134 [(.obj 0 0 0 0), (.agg (Key.row e.card.key))] ([⟨0, 2, [[(.int .i64 most), (.sl .any 10 (List.map Entry.row l))]], none⟩] : Heap) ((AV.tup [(.int .i64 (((findP l e.card.key) : Nat) : Int)), (.bool (findB l e.card.key))]), ([⟨0, 2, [[(.int .i64 most), (.sl .any 10 (List.map Entry.row l))]], none⟩] : Heap))) ∧ (Yes (AV.bool (findB l e.card.key)) ([⟨0, 2, [[(.int .i64 most), (.sl .any 10 (List.map Entry.row l))]], none⟩] : Heap) (AV.bool false)) ∧ (Yes (.int .i64 ((List.length (List.map Entry.row l) : Nat) : Int)) ([⟨0, 2, [[(.int .i64 most), (.sl .any 10 (List.map Entry.row l))]], none⟩] : Heap) (AV.int .i64 ((l.length : Nat) : Int))) ∧ (Yes (AV.bool (decide (((l.length : Nat) : Int) ≥ most))) ([⟨0, 2, [[(.int .i64 most), (.sl .any 10 (List.map Entry.row l))]], none⟩] : Heap) (AV.bool true)) ∧ (AV.bdd 1 (AV.int .i64 24) = true ∧ obsB 1 ([⟨0, 2, [[(.int .i64 most), (.sl .any 10 (List.map Entry.row l))]], none⟩] : Heap) = true) ∧ ((AV.int .i64 24), ([⟨0, 2, [[(.int .i64 most), (.sl .any 10 (List.map Entry.row l))]], none⟩] : Heap)) = ((AV.int .i64 24), ([⟨0, 2, [[(.int .i64 most), (.sl .any 10 (List.map Entry.row l))]], none⟩] : Heap))) = _) ?_
  refine And.intro (rfind_at most l e.card.key (by first | omega | assumption | (simp; done) | (simp; omega) | (simp_all; done) | (simp_all; omega)) ([] : Heap)) ?_
  refine And.intro (Yes.bool (hb)) ?_
  refine And.intro (Yes.len _ _ _) ?_
  refine And.intro (Yes.bool (by first | omega | (simp; done) | (simp; omega))) ?_
  refine And.intro (by first | (simp [obsB, AV.bddss, AV.bdds, AV.bdd]; done) | simp [obsB, AV.bddss, AV.bdds, AV.bdd, -List.map_append, -List.map_set, -List.map_take, -List.map_drop, -List.map_cons, -List.map_map]) ?_
  rfl
def rputNew0_ann : Ann := { refs := [3], own := [22, 50, 60], base := 1, fin := some 2 }
set_option maxRecDepth 100000 in
theorem rputNew0_spec (most : Int) (l : List Entry) (e : Entry) (hl : l.length < 1048576) (hb : findB l e.card.key = false) (hm : (l.length : Int) < most) : ACalls Try.prog 82 [(.obj 0 0 0 0), (.agg (Entry.row e))] ([⟨0, 2, [[(.int .i64 most), (.sl .any 10 (List.map Entry.row l))]], none⟩] : Heap) ((AV.int .i64 0), ([⟨0, 2, [[(.int .i64 most), (.osl 1 2 10 0 ((List.length (l.take (findP l e.card.key))) + 1 + (List.length (l.drop (findP l e.card.key)))))]], none⟩, ⟨2, 10, (List.map Entry.row ((l.take (findP l e.card.key) ++ [e]) ++ l.drop (findP l e.card.key))), none⟩] : Heap)) := by
  have hle := findP_le l e.card.key
  refine spec (fn := Try.f82) (ann := rputNew0_ann) (t := (.reg [] [] [] (.reg [(4, ((AV.tup [(.int .i64 (((findP l e.card.key) : Nat) : Int)), (.bool (findB l e.card.key))]), ([⟨0, 2, [[(.int .i64 most), (.sl .any 10 (List.map Entry.row l))]], none⟩] : Heap)))] [] [] (.reg [(0, ((AV.bool false), ([⟨0, 2, [[(.int .i64 most), (.sl .any 10 (List.map Entry.row l))]], none⟩] : Heap)))] [] [] (.two .nil (.reg [(4, ((AV.int .i64 ((l.length : Nat) : Int)), ([⟨0, 2, [[(.int .i64 most), (.sl .any 10 (List.map Entry.row l))]], none⟩] : Heap))), (9, ((AV.bool false), ([⟨0, 2, [[(.int .i64 most), (.sl .any 10 (List.map Entry.row l))]], none⟩] : Heap)))] [] [] (.two .nil (.reg [(7, ((AV.sl .any 10 (List.map Entry.row (l.take (findP l e.card.key)))), ([⟨0, 2, [[(.int .i64 most), (.sl .any 10 (List.map Entry.row l))]], none⟩] : Heap))), (8, ((AV.osl 1 0 10 0 (l.take (findP l e.card.key)).length), ([⟨0, 2, [[(.int .i64 most), (.sl .any 10 (List.map Entry.row l))]], none⟩, ⟨0, 10, (List.map Entry.row (l.take (findP l e.card.key))), none⟩] : Heap))), (11, ((AV.osl 1 1 10 0 ((l.take (findP l e.card.key)).length + 1)), ([⟨0, 2, [[(.int .i64 most), (.sl .any 10 (List.map Entry.row l))]], none⟩, ⟨1, 10, (List.map Entry.row ((l.take (findP l e.card.key)) ++ [e])), none⟩] : Heap))), (17, ((AV.sl .any 10 (List.map Entry.row (l.drop (findP l e.card.key)))), ([⟨0, 2, [[(.int .i64 most), (.sl .any 10 (List.map Entry.row l))]], none⟩, ⟨1, 10, (List.map Entry.row ((l.take (findP l e.card.key)) ++ [e])), none⟩] : Heap))), (18, ((AV.osl 1 2 10 0 (((l.take (findP l e.card.key)).length + 1) + (l.drop (findP l e.card.key)).length)), ([⟨0, 2, [[(.int .i64 most), (.sl .any 10 (List.map Entry.row l))]], none⟩, ⟨2, 10, (List.map Entry.row (((l.take (findP l e.card.key)) ++ [e]) ++ (l.drop (findP l e.card.key)))), none⟩] : Heap)))] [] [] (.reg [] [] [] .nil))))))))) (Nat.le_of_ble_eq_true (by kernel_rfl)) ⟨Try.func82, by kernel_rfl, by kernel_rfl, by kernel_rfl⟩ ?_
  refine Eq.mp (by kernel_rfl : ((ACalls Try.prog 134 [(.obj 0 0 0 0), (.agg (Key.row e.card.key))] ([⟨0, 2, [[(.int .i64 most), (.sl .any 10 (List.map Entry.row l))]], none⟩] : Heap) ((AV.tup [(.int .i64 (((findP l e.card.key) : Nat) : Int)), (.bool (findB l e.card.key))]), ([⟨0, 2, [[(.int .i64 most), (.sl .any 10 (List.map Entry.row l))]], none⟩] : Heap))) ∧ (Yes (AV.bool (findB l e.card.key)) ([⟨0, 2, [[(.int .i64 most), (.sl .any 10 (List.map Entry.row l))]], none⟩] : Heap) (AV.bool false)) ∧ (Yes (.int .i64 ((List.length (List.map Entry.row l) : Nat) : Int)) ([⟨0, 2, [[(.int .i64 most), (.sl .any 10 (List.map Entry.row l))]], none⟩] : Heap) (AV.int .i64 ((l.length : Nat) : Int))) ∧ (Yes (AV.bool (decide (((l.length : Nat) : Int) ≥ most))) ([⟨0, 2, [[(.int .i64 most), (.sl .any 10 (List.map Entry.row l))]], none⟩] : Heap) (AV.bool false)) ∧ (Option.map (fun a => (a, ([⟨0, 2, [[(.int .i64 most), (.sl .any 10 (List.map Entry.row l))]], none⟩] : Heap))) (if 10 = 10 ∨ ((List.map Entry.row l)).isEmpty = true then (bounds 0 (((findP l e.card.key) : Nat) : Int) (List.length (List.map Entry.row l))).map fun p => AV.sl .any 10 ((List.take p.2 (List.map Entry.row l)).drop p.1) else none) = some ((AV.sl .any 10 (List.map Entry.row (l.take (findP l e.card.key)))), ([⟨0, 2, [[(.int .i64 most), (.sl .any 10 (List.map Entry.row l))]], none⟩] : Heap))) ∧ (evAppendO tt ([⟨0, 2, [[(.int .i64 most), (.sl .any 10 (List.map Entry.row l))]], none⟩] : Heap) 110 (AV.sl .clip 10 []) (AV.sl .any 10 (List.map Entry.row (l.take (findP l e.card.key)))) = some ((AV.osl 1 0 10 0 (l.take (findP l e.card.key)).length), ([⟨0, 2, [[(.int .i64 most), (.sl .any 10 (List.map Entry.row l))]], none⟩, ⟨0, 10, (List.map Entry.row (l.take (findP l e.card.key))), none⟩] : Heap))) ∧ (evAppend tt ([⟨0, 2, [[(.int .i64 most), (.sl .any 10 (List.map Entry.row l))]], none⟩, ⟨0, 10, (List.map Entry.row (l.take (findP l e.card.key))), none⟩] : Heap) 110 (AV.osl 1 0 10 0 (l.take (findP l e.card.key)).length) (AV.sl .clip 10 [(Entry.row e)]) = some ((AV.osl 1 1 10 0 ((l.take (findP l e.card.key)).length + 1)), ([⟨0, 2, [[(.int .i64 most), (.sl .any 10 (List.map Entry.row l))]], none⟩, ⟨1, 10, (List.map Entry.row ((l.take (findP l e.card.key)) ++ [e])), none⟩] : Heap))) ∧ (Option.map (fun a => (a, ([⟨0, 2, [[(.int .i64 most), (.sl .any 10 (List.map Entry.row l))]], none⟩, ⟨1, 10, (List.map Entry.row ((l.take (findP l e.card.key)) ++ [e])), none⟩] : Heap))) (if 10 = 10 ∨ ((List.map Entry.row l)).isEmpty = true then (bounds (((findP l e.card.key) : Nat) : Int) ((List.length (List.map Entry.row l) : Nat) : Int) (List.length (List.map Entry.row l))).map fun p => AV.sl .any 10 ((List.take p.2 (List.map Entry.row l)).drop p.1) else none) = some ((AV.sl .any 10 (List.map Entry.row (l.drop (findP l e.card.key)))), ([⟨0, 2, [[(.int .i64 most), (.sl .any 10 (List.map Entry.row l))]], none⟩, ⟨1, 10, (List.map Entry.row ((l.take (findP l e.card.key)) ++ [e])), none⟩] : Heap))) ∧ (evAppendO tt ([⟨0, 2, [[(.int .i64 most), (.sl .any 10 (List.map Entry.row l))]], none⟩, ⟨1, 10, (List.map Entry.row ((l.take (findP l e.card.key)) ++ [e])), none⟩] : Heap) 110 (AV.osl 1 1 10 0 ((l.take (findP l e.card.key)).length + 1)) (AV.sl .any 10 (List.map Entry.row (l.drop (findP l e.card.key)))) = some ((AV.osl 1 2 10 0 (((l.take (findP l e.card.key)).length + 1) + (l.drop (findP l e.card.key)).length)), ([⟨0, 2, [[(.int .i64 most), (.sl .any 10 (List.map Entry.row l))]], none⟩, ⟨2, 10, (List.map Entry.row (((l.take (findP l e.card.key)) ++ [e]) ++ (l.drop (findP l e.card.key)))), none⟩] : Heap))) ∧ (some ((AV.sl .any 10 (List.map Entry.row l)), ([⟨0, 2, [[(.int .i64 most), (.sl .any 10 (List.map Entry.row l))]], none⟩] : Heap)) = some ((AV.sl .any 10 (List.map Entry.row l)), ([⟨0, 2, [[(.int .i64 most), (.sl .any 10 (List.map Entry.row l))]], none⟩] : Heap))) ∧ (some ((AV.sl .any 10 (List.map Entry.row l)), ([⟨0, 2, [[(.int .i64 most), (.sl .any 10 (List.map Entry.row l))]], none⟩, ⟨0, 10, (List.map Entry.row (l.take (findP l e.card.key))), none⟩] : Heap)) = some ((AV.sl .any 10 (List.map Entry.row l)), ([⟨0, 2, [[(.int .i64 most), (.sl .any 10 (List.map Entry.row l))]], none⟩, ⟨0, 10, (List.map Entry.row (l.take (findP l e.card.key))), none⟩] : Heap))) ∧ (AV.bdd 2 (AV.int .i64 0) = true ∧ obsB 2 ([⟨0, 2, [[(.int .i64 most), (.osl 1 2 10 0 (((l.take (findP l e.card.key)).length + 1) + (l.drop (findP l e.card.key)).length))]], none⟩, ⟨2, 10, (List.map Entry.row (((l.take (findP l e.card.key)) ++ [e]) ++ (l.drop (findP l e.card.key)))), none⟩] : Heap) = true) ∧ ((AV.int .i64 0), ([⟨0, 2, [[(.int .i64 most), (.osl 1 2 10 0 (((l.take (findP l e.card.key)).length + 1) + (l.drop (findP l e.card.key)).length))]], none⟩, ⟨2, 10, (List.map Entry.row (((l.take (findP l e.card.key)) ++ [e]) ++ (l.drop (findP l e.card.key)))), none⟩] : Heap)) = ((AV.int .i64 0), ([⟨0, 2, [[(.int .i64 most), (.osl 1 2 10 0 ((List.length (l.take (findP l e.card.key))) + 1 + (List.length (l.drop (findP l e.card.key)))))]], none⟩, ⟨2, 10, (List.map Entry.row ((l.take (findP l e.card.key) ++ [e]) ++ l.drop (findP l e.card.key))), none⟩] : Heap))) = _) ?_
  refine And.intro (rfind_at most l e.card.key (by first | omega | assumption | (simp; done) | (simp; omega) | (simp_all; done) | (simp_all; omega)) ([] : Heap)) ?_
  refine And.intro (Yes.bool (hb)) ?_
  refine And.intro (Yes.len _ _ _) ?_
  refine And.intro (Yes.bool (by simp; omega)) ?_
  refine And.intro (slice_sl (l := 0) (h := (findP l e.card.key)) (by first | omega | (simp; done) | (simp; omega)) (by first | omega | (simp; done) | (simp; omega)) (by first | omega | (simp; done) | (simp; omega)) (by first | omega | (simp; done) | (simp; omega)) (by simp [List.map_take, List.map_drop, List.take_of_length_le])) ?_
  refine And.intro (evAppendO_fresh (T := tt) (e := 119) (te := { d := .struct [(58, 0), (2, 9)], size := 10, bytes := 96, zero := [.str ⟨#[]⟩, .str ⟨#[]⟩, .int .i64 0, .int .i64 0, .int .i64 0, .int .i64 0, .int .i64 0, .int .i64 0, .bool false, .int .i64 0] }) (z := 1) (b := 24) (y := [.sl .nil 0 []]) (row := Entry.row) (by kernel_rfl) (by kernel_rfl) rfl (by decide) (by decide) (by simp) (by first | (simp [rowsIn, List.map_take, List.map_drop, List.take_of_length_le]; done) | simp [rowsIn, rU8, rI64, rStr, rBool]) rfl rfl rfl (by first | omega | (simp; done) | (simp; omega))) ?_
  refine And.intro (evAppend_one (row := Entry.row) (l := l.take (findP l e.card.key)) (x := e) (T := tt) (e := 119) (te := { d := .struct [(58, 0), (2, 9)], size := 10, bytes := 96, zero := [.str ⟨#[]⟩, .str ⟨#[]⟩, .int .i64 0, .int .i64 0, .int .i64 0, .int .i64 0, .int .i64 0, .int .i64 0, .bool false, .int .i64 0] }) (z := 1) (b := 24) (y := [.sl .nil 0 []]) (by kernel_rfl) (by kernel_rfl) rfl (by decide) (by decide) (by kernel_rfl) (by first | assumption | omega | (simp; done) | (simp; omega)) rfl rfl (by first | omega | (show _ * 96 ≤ _; omega) | (simp; omega))) ?_
  refine And.intro (slice_sl (l := (findP l e.card.key)) (h := (List.length l)) (by first | omega | (simp; done) | (simp; omega)) (by first | omega | (simp; done) | (simp; omega)) (by first | omega | (simp; done) | (simp; omega)) (by first | omega | (simp; done) | (simp; omega)) (by simp [List.map_take, List.map_drop, List.take_of_length_le])) ?_
  refine And.intro (evAppendO_end (T := tt) (e := 119) (te := { d := .struct [(58, 0), (2, 9)], size := 10, bytes := 96, zero := [.str ⟨#[]⟩, .str ⟨#[]⟩, .int .i64 0, .int .i64 0, .int .i64 0, .int .i64 0, .int .i64 0, .int .i64 0, .bool false, .int .i64 0] }) (z := 1) (b := 24) (y := [.sl .nil 0 []]) (row := Entry.row) (l := (l.take (findP l e.card.key)) ++ [e]) (by kernel_rfl) (by kernel_rfl) rfl (by decide) (by decide) (by kernel_rfl) (by first | (simp [rowsIn, List.map_take, List.map_drop, List.take_of_length_le]; done) | simp [rowsIn, rU8, rI64, rStr, rBool]) (by first | omega | (simp; done) | (simp; omega)) rfl rfl (by first | omega | (show _ * 96 ≤ _; omega) | (simp; done) | (simp; omega))) ?_
  refine And.intro (rfl) ?_
  refine And.intro (rfl) ?_
  refine And.intro (by first | (simp [obsB, AV.bddss, AV.bdds, AV.bdd]; done) | simp [obsB, AV.bddss, AV.bdds, AV.bdd, -List.map_append, -List.map_set, -List.map_take, -List.map_drop, -List.map_cons, -List.map_map]) ?_
  rfl
theorem rput_spec (most : Int) (l : List Entry) (e : Entry) (hl : l.length < 1048576) : ACalls Try.prog 82 [(.obj 0 0 0 0), (.agg (Entry.row e))] ([⟨0, 2, [[(.int .i64 most), (.sl .any 10 (List.map Entry.row l))]], none⟩] : Heap) ((AV.int .i64 (putE most l e)), ([⟨0, 2, [[(.int .i64 most), (.sl .any 10 (List.map Entry.row (putL most l e)))]], none⟩] : Heap)) := by
  have hle := findP_le l e.card.key
  cases hb : findB l e.card.key with
  | true =>
    have h1 : putE most l e = 0 := by simp [putE, hb]
    have h2 : putL most l e = l.set (findP l e.card.key) e := by simp [putL, hb]
    rw [h1, h2]
    exact (rputIn0_spec most l e hl hb).frzField rfl rfl (by simp) (Entry.rows_bdd 0 _) rfl rfl rfl
  | false =>
    by_cases hm : most ≤ (l.length : Int)
    · have h1 : putE most l e = 24 := by simp [putE, hb, hm]
      have h2 : putL most l e = l := by simp [putL, hb, hm]
      rw [h1, h2]
      exact rputFull_spec most l e hl hb hm
    · have h1 : putE most l e = 0 := by simp [putE, hb, hm]
      have h2 : putL most l e = l.take (findP l e.card.key) ++ e :: l.drop (findP l e.card.key) := by simp [putL, hb, hm]
      rw [h1, h2]
      exact (rputNew0_spec most l e hl hb (by omega)).frzField rfl rfl (by simp; omega) (Entry.rows_bdd 0 _) rfl rfl (by simp)
def rdropIn0_ann : Ann := { refs := [3], own := [22, 30], base := 1, fin := some 2 }
set_option maxRecDepth 100000 in
theorem rdropIn0_spec (most : Int) (l : List Entry) (k : Key) (hl : l.length < 1048576) (hb : findB l k = true) : ACalls Try.prog 81 [(.obj 0 0 0 0), (.agg (Key.row k))] ([⟨0, 2, [[(.int .i64 most), (.sl .any 10 (List.map Entry.row l))]], none⟩] : Heap) ((AV.bool true), ([⟨0, 2, [[(.int .i64 most), (.osl 1 1 10 0 ((List.length (l.take (findP l k))) + (List.length (l.drop ((findP l k) + 1)))))]], none⟩, ⟨1, 10, (List.map Entry.row (l.take (findP l k) ++ l.drop ((findP l k) + 1))), none⟩] : Heap)) := by
  have hle := findP_le l k
  have hlt := findB_lt hb
  refine spec (fn := Try.f81) (ann := rdropIn0_ann) (t := (.reg [] [] [] (.reg [(2, ((AV.tup [(.int .i64 (((findP l k) : Nat) : Int)), (.bool (findB l k))]), ([⟨0, 2, [[(.int .i64 most), (.sl .any 10 (List.map Entry.row l))]], none⟩] : Heap)))] [] [] (.reg [(0, ((AV.bool true), ([⟨0, 2, [[(.int .i64 most), (.sl .any 10 (List.map Entry.row l))]], none⟩] : Heap)))] [] [] (.two (.reg [(7, ((AV.sl .any 10 (List.map Entry.row (l.take (findP l k)))), ([⟨0, 2, [[(.int .i64 most), (.sl .any 10 (List.map Entry.row l))]], none⟩] : Heap))), (8, ((AV.osl 1 0 10 0 (l.take (findP l k)).length), ([⟨0, 2, [[(.int .i64 most), (.sl .any 10 (List.map Entry.row l))]], none⟩, ⟨0, 10, (List.map Entry.row (l.take (findP l k))), none⟩] : Heap))), (14, ((AV.int .i64 (((findP l k) + 1 : Nat) : Int)), ([⟨0, 2, [[(.int .i64 most), (.sl .any 10 (List.map Entry.row l))]], none⟩, ⟨0, 10, (List.map Entry.row (l.take (findP l k))), none⟩] : Heap))), (15, ((AV.sl .any 10 (List.map Entry.row (l.drop ((findP l k) + 1)))), ([⟨0, 2, [[(.int .i64 most), (.sl .any 10 (List.map Entry.row l))]], none⟩, ⟨0, 10, (List.map Entry.row (l.take (findP l k))), none⟩] : Heap))), (16, ((AV.osl 1 1 10 0 ((l.take (findP l k)).length + (l.drop ((findP l k) + 1)).length)), ([⟨0, 2, [[(.int .i64 most), (.sl .any 10 (List.map Entry.row l))]], none⟩, ⟨1, 10, (List.map Entry.row ((l.take (findP l k)) ++ (l.drop ((findP l k) + 1)))), none⟩] : Heap)))] [] [] (.reg [(0, ((AV.bool true), ([⟨0, 2, [[(.int .i64 most), (.osl 1 1 10 0 ((l.take (findP l k)).length + (l.drop ((findP l k) + 1)).length))]], none⟩, ⟨1, 10, (List.map Entry.row ((l.take (findP l k)) ++ (l.drop ((findP l k) + 1)))), none⟩] : Heap)))] [] [] .nil)) .nil))))) (Nat.le_of_ble_eq_true (by kernel_rfl)) ⟨Try.func81, by kernel_rfl, by kernel_rfl, by kernel_rfl⟩ ?_
  refine Eq.mp (by kernel_rfl : ((ACalls Try.prog 134 [(.obj 0 0 0 0), (.agg (Key.row k))] ([⟨0, 2, [[(.int .i64 most), (.sl .any 10 (List.map Entry.row l))]], none⟩] : Heap) ((AV.tup [(.int .i64 (((findP l k) : Nat) : Int)), (.bool (findB l k))]), ([⟨0, 2, [[(.int .i64 most), (.sl .any 10 (List.map Entry.row l))]], none⟩] : Heap))) ∧ (Yes (AV.bool (findB l k)) ([⟨0, 2, [[(.int .i64 most), (.sl .any 10 (List.map Entry.row l))]], none⟩] : Heap) (AV.bool true)) ∧ (Option.map (fun a => (a, ([⟨0, 2, [[(.int .i64 most), (.sl .any 10 (List.map Entry.row l))]], none⟩] : Heap))) (if 10 = 10 ∨ ((List.map Entry.row l)).isEmpty = true then (bounds 0 (((findP l k) : Nat) : Int) (List.length (List.map Entry.row l))).map fun p => AV.sl .any 10 ((List.take p.2 (List.map Entry.row l)).drop p.1) else none) = some ((AV.sl .any 10 (List.map Entry.row (l.take (findP l k)))), ([⟨0, 2, [[(.int .i64 most), (.sl .any 10 (List.map Entry.row l))]], none⟩] : Heap))) ∧ (evAppendO tt ([⟨0, 2, [[(.int .i64 most), (.sl .any 10 (List.map Entry.row l))]], none⟩] : Heap) 110 (AV.sl .clip 10 []) (AV.sl .any 10 (List.map Entry.row (l.take (findP l k)))) = some ((AV.osl 1 0 10 0 (l.take (findP l k)).length), ([⟨0, 2, [[(.int .i64 most), (.sl .any 10 (List.map Entry.row l))]], none⟩, ⟨0, 10, (List.map Entry.row (l.take (findP l k))), none⟩] : Heap))) ∧ (Yes (.int .i64 (IntKind.i64.wrap ((((findP l k) : Nat) : Int) + 1))) ([⟨0, 2, [[(.int .i64 most), (.sl .any 10 (List.map Entry.row l))]], none⟩, ⟨0, 10, (List.map Entry.row (l.take (findP l k))), none⟩] : Heap) (AV.int .i64 (((findP l k) + 1 : Nat) : Int))) ∧ (Option.map (fun a => (a, ([⟨0, 2, [[(.int .i64 most), (.sl .any 10 (List.map Entry.row l))]], none⟩, ⟨0, 10, (List.map Entry.row (l.take (findP l k))), none⟩] : Heap))) (if 10 = 10 ∨ ((List.map Entry.row l)).isEmpty = true then (bounds (((findP l k) + 1 : Nat) : Int) ((List.length (List.map Entry.row l) : Nat) : Int) (List.length (List.map Entry.row l))).map fun p => AV.sl .any 10 ((List.take p.2 (List.map Entry.row l)).drop p.1) else none) = some ((AV.sl .any 10 (List.map Entry.row (l.drop ((findP l k) + 1)))), ([⟨0, 2, [[(.int .i64 most), (.sl .any 10 (List.map Entry.row l))]], none⟩, ⟨0, 10, (List.map Entry.row (l.take (findP l k))), none⟩] : Heap))) ∧ (evAppendO tt ([⟨0, 2, [[(.int .i64 most), (.sl .any 10 (List.map Entry.row l))]], none⟩, ⟨0, 10, (List.map Entry.row (l.take (findP l k))), none⟩] : Heap) 110 (AV.osl 1 0 10 0 (l.take (findP l k)).length) (AV.sl .any 10 (List.map Entry.row (l.drop ((findP l k) + 1)))) = some ((AV.osl 1 1 10 0 ((l.take (findP l k)).length + (l.drop ((findP l k) + 1)).length)), ([⟨0, 2, [[(.int .i64 most), (.sl .any 10 (List.map Entry.row l))]], none⟩, ⟨1, 10, (List.map Entry.row ((l.take (findP l k)) ++ (l.drop ((findP l k) + 1)))), none⟩] : Heap))) ∧ (some ((AV.sl .any 10 (List.map Entry.row l)), ([⟨0, 2, [[(.int .i64 most), (.sl .any 10 (List.map Entry.row l))]], none⟩] : Heap)) = some ((AV.sl .any 10 (List.map Entry.row l)), ([⟨0, 2, [[(.int .i64 most), (.sl .any 10 (List.map Entry.row l))]], none⟩] : Heap))) ∧ (Yes (AV.bool (findB l k)) ([⟨0, 2, [[(.int .i64 most), (.osl 1 1 10 0 ((l.take (findP l k)).length + (l.drop ((findP l k) + 1)).length))]], none⟩, ⟨1, 10, (List.map Entry.row ((l.take (findP l k)) ++ (l.drop ((findP l k) + 1)))), none⟩] : Heap) (AV.bool true)) ∧ (AV.bdd 2 (AV.bool true) = true ∧ obsB 2 ([⟨0, 2, [[(.int .i64 most), (.osl 1 1 10 0 ((l.take (findP l k)).length + (l.drop ((findP l k) + 1)).length))]], none⟩, ⟨1, 10, (List.map Entry.row ((l.take (findP l k)) ++ (l.drop ((findP l k) + 1)))), none⟩] : Heap) = true) ∧ ((AV.bool true), ([⟨0, 2, [[(.int .i64 most), (.osl 1 1 10 0 ((l.take (findP l k)).length + (l.drop ((findP l k) + 1)).length))]], none⟩, ⟨1, 10, (List.map Entry.row ((l.take (findP l k)) ++ (l.drop ((findP l k) + 1)))), none⟩] : Heap)) = ((AV.bool true), ([⟨0, 2, [[(.int .i64 most), (.osl 1 1 10 0 ((List.length (l.take (findP l k))) + (List.length (l.drop ((findP l k) + 1)))))]], none⟩, ⟨1, 10, (List.map Entry.row (l.take (findP l k) ++ l.drop ((findP l k) + 1))), none⟩] : Heap))) = _) ?_
  refine And.intro (rfind_at most l k (by first | omega | assumption | (simp; done) | (simp; omega) | (simp_all; done) | (simp_all; omega)) ([] : Heap)) ?_
  refine And.intro (Yes.bool (hb)) ?_
  refine And.intro (slice_sl (l := 0) (h := (findP l k)) (by first | omega | (simp; done) | (simp; omega)) (by first | omega | (simp; done) | (simp; omega)) (by first | omega | (simp; done) | (simp; omega)) (by first | omega | (simp; done) | (simp; omega)) (by simp [List.map_take, List.map_drop, List.take_of_length_le])) ?_
  refine And.intro (evAppendO_fresh (T := tt) (e := 119) (te := { d := .struct [(58, 0), (2, 9)], size := 10, bytes := 96, zero := [.str ⟨#[]⟩, .str ⟨#[]⟩, .int .i64 0, .int .i64 0, .int .i64 0, .int .i64 0, .int .i64 0, .int .i64 0, .bool false, .int .i64 0] }) (z := 1) (b := 24) (y := [.sl .nil 0 []]) (row := Entry.row) (by kernel_rfl) (by kernel_rfl) rfl (by decide) (by decide) (by simp) (by first | (simp [rowsIn, List.map_take, List.map_drop, List.take_of_length_le]; done) | simp [rowsIn, rU8, rI64, rStr, rBool]) rfl rfl rfl (by first | omega | (simp; done) | (simp; omega))) ?_
  refine And.intro (Yes.add (by omega) (by omega) (by omega)) ?_
  refine And.intro (slice_sl (l := (findP l k) + 1) (h := (List.length l)) (by first | omega | (simp; done) | (simp; omega)) (by first | omega | (simp; done) | (simp; omega)) (by first | omega | (simp; done) | (simp; omega)) (by first | omega | (simp; done) | (simp; omega)) (by simp [List.map_take, List.map_drop, List.take_of_length_le])) ?_
  refine And.intro (evAppendO_end (T := tt) (e := 119) (te := { d := .struct [(58, 0), (2, 9)], size := 10, bytes := 96, zero := [.str ⟨#[]⟩, .str ⟨#[]⟩, .int .i64 0, .int .i64 0, .int .i64 0, .int .i64 0, .int .i64 0, .int .i64 0, .bool false, .int .i64 0] }) (z := 1) (b := 24) (y := [.sl .nil 0 []]) (row := Entry.row) (l := l.take (findP l k)) (by kernel_rfl) (by kernel_rfl) rfl (by decide) (by decide) (by kernel_rfl) (by first | (simp [rowsIn, List.map_take, List.map_drop, List.take_of_length_le]; done) | simp [rowsIn, rU8, rI64, rStr, rBool]) (by first | omega | (simp; done) | (simp; omega)) rfl rfl (by first | omega | (show _ * 96 ≤ _; omega) | (simp; done) | (simp; omega))) ?_
  refine And.intro (rfl) ?_
  refine And.intro (Yes.bool (hb)) ?_
  refine And.intro (by first | (simp [obsB, AV.bddss, AV.bdds, AV.bdd]; done) | simp [obsB, AV.bddss, AV.bdds, AV.bdd, -List.map_append, -List.map_set, -List.map_take, -List.map_drop, -List.map_cons, -List.map_map]) ?_
  rfl
def rdropOut_ann : Ann := { refs := [3], base := 1, fin := some 1 }
set_option maxRecDepth 100000 in
theorem rdropOut_spec (most : Int) (l : List Entry) (k : Key) (hl : l.length < 1048576) (hb : findB l k = false) : ACalls Try.prog 81 [(.obj 0 0 0 0), (.agg (Key.row k))] ([⟨0, 2, [[(.int .i64 most), (.sl .any 10 (List.map Entry.row l))]], none⟩] : Heap) ((AV.bool false), ([⟨0, 2, [[(.int .i64 most), (.sl .any 10 (List.map Entry.row l))]], none⟩] : Heap)) := by
  have hle := findP_le l k
  refine spec (fn := Try.f81) (ann := rdropOut_ann) (t := (.reg [] [] [] (.reg [(2, ((AV.tup [(.int .i64 (((findP l k) : Nat) : Int)), (.bool (findB l k))]), ([⟨0, 2, [[(.int .i64 most), (.sl .any 10 (List.map Entry.row l))]], none⟩] : Heap)))] [] [] (.reg [(0, ((AV.bool false), ([⟨0, 2, [[(.int .i64 most), (.sl .any 10 (List.map Entry.row l))]], none⟩] : Heap)))] [] [] (.two .nil (.reg [(0, ((AV.bool false), ([⟨0, 2, [[(.int .i64 most), (.sl .any 10 (List.map Entry.row l))]], none⟩] : Heap)))] [] [] .nil)))))) (Nat.le_of_ble_eq_true (by kernel_rfl)) ⟨Try.func81, by kernel_rfl, by kernel_rfl, by kernel_rfl⟩ ?_
  refine Eq.mp (by kernel_rfl : ((ACalls Try.prog 134 [(.obj 0 0 0 0), (.agg (Key.row k))] ([⟨0, 2, [[(.int .i64 most), (.sl .any 10 (List.map Entry.row l))]], none⟩] : Heap) ((AV.tup [(.int .i64 (((findP l k) : Nat) : Int)), (.bool (findB l k))]), ([⟨0, 2, [[(.int .i64 most), (.sl .any 10 (List.map Entry.row l))]], none⟩] : Heap))) ∧ (Yes (AV.bool (findB l k)) ([⟨0, 2, [[(.int .i64 most), (.sl .any 10 (List.map Entry.row l))]], none⟩] : Heap) (AV.bool false)) ∧ (Yes (AV.bool (findB l k)) ([⟨0, 2, [[(.int .i64 most), (.sl .any 10 (List.map Entry.row l))]], none⟩] : Heap) (AV.bool false)) ∧ (AV.bdd 1 (AV.bool false) = true ∧ obsB 1 ([⟨0, 2, [[(.int .i64 most), (.sl .any 10 (List.map Entry.row l))]], none⟩] : Heap) = true) ∧ ((AV.bool false), ([⟨0, 2, [[(.int .i64 most), (.sl .any 10 (List.map Entry.row l))]], none⟩] : Heap)) = ((AV.bool false), ([⟨0, 2, [[(.int .i64 most), (.sl .any 10 (List.map Entry.row l))]], none⟩] : Heap))) = _) ?_
  refine And.intro (rfind_at most l k (by first | omega | assumption | (simp; done) | (simp; omega) | (simp_all; done) | (simp_all; omega)) ([] : Heap)) ?_
  refine And.intro (Yes.bool (hb)) ?_
  refine And.intro (Yes.bool (hb)) ?_
  refine And.intro (by first | (simp [obsB, AV.bddss, AV.bdds, AV.bdd]; done) | simp [obsB, AV.bddss, AV.bdds, AV.bdd, -List.map_append, -List.map_set, -List.map_take, -List.map_drop, -List.map_cons, -List.map_map]) ?_
  rfl
theorem rdrop_spec (most : Int) (l : List Entry) (k : Key) (hl : l.length < 1048576) : ACalls Try.prog 81 [(.obj 0 0 0 0), (.agg (Key.row k))] ([⟨0, 2, [[(.int .i64 most), (.sl .any 10 (List.map Entry.row l))]], none⟩] : Heap) ((AV.bool (findB l k)), ([⟨0, 2, [[(.int .i64 most), (.sl .any 10 (List.map Entry.row (dropL l k)))]], none⟩] : Heap)) := by
  have hle := findP_le l k
  cases hb : findB l k with
  | true =>
    have h2 : dropL l k = l.take (findP l k) ++ l.drop (findP l k + 1) := by simp [dropL, hb]
    rw [h2]
    exact (rdropIn0_spec most l k hl hb).frzField rfl rfl (by simp) (Entry.rows_bdd 0 _) rfl rfl rfl
  | false =>
    have h2 : dropL l k = l := by simp [dropL, hb]
    rw [h2]
    exact rdropOut_spec most l k hl hb
def rgetIn_ann : Ann := { refs := [3], base := 1, fin := some 1 }
set_option maxRecDepth 100000 in
theorem rgetIn_spec (most : Int) (l : List Entry) (k : Key) (hl : l.length < 1048576) (hb : findB l k = true) : ACalls Try.prog 119 [(.obj 0 0 0 0), (.agg (Key.row k))] ([⟨0, 2, [[(.int .i64 most), (.sl .any 10 (List.map Entry.row l))]], none⟩] : Heap) ((AV.tup [(.agg (Entry.row (nth l (findP l k)))), (.bool true)]), ([⟨0, 2, [[(.int .i64 most), (.sl .any 10 (List.map Entry.row l))]], none⟩] : Heap)) := by
  have hle := findP_le l k
  have hlt := findB_lt hb
  refine spec (fn := Try.f119) (ann := rgetIn_ann) (t := (.reg [] [] [] (.reg [(2, ((AV.tup [(.int .i64 (((findP l k) : Nat) : Int)), (.bool (findB l k))]), ([⟨0, 2, [[(.int .i64 most), (.sl .any 10 (List.map Entry.row l))]], none⟩, ⟨0, 10, [[(.str ⟨#[]⟩), (.str ⟨#[]⟩), (.int .i64 0), (.int .i64 0), (.int .i64 0), (.int .i64 0), (.int .i64 0), (.int .i64 0), (.bool false), (.int .i64 0)]], none⟩] : Heap)))] [] [] (.reg [(1, ((AV.bool false), ([⟨0, 2, [[(.int .i64 most), (.sl .any 10 (List.map Entry.row l))]], none⟩, ⟨0, 10, [[(.str ⟨#[]⟩), (.str ⟨#[]⟩), (.int .i64 0), (.int .i64 0), (.int .i64 0), (.int .i64 0), (.int .i64 0), (.int .i64 0), (.bool false), (.int .i64 0)]], none⟩] : Heap)))] [] [] (.two .nil (.reg [(5, ((AV.ref (Entry.row (nth l (findP l k))) 0), ([⟨0, 2, [[(.int .i64 most), (.sl .any 10 (List.map Entry.row l))]], none⟩, ⟨0, 10, [[(.str ⟨#[]⟩), (.str ⟨#[]⟩), (.int .i64 0), (.int .i64 0), (.int .i64 0), (.int .i64 0), (.int .i64 0), (.int .i64 0), (.bool false), (.int .i64 0)]], none⟩] : Heap)))] [] [] .nil)))))) (Nat.le_of_ble_eq_true (by kernel_rfl)) ⟨Try.func119, by kernel_rfl, by kernel_rfl, by kernel_rfl⟩ ?_
  refine Eq.mp (by kernel_rfl : ((ACalls Try.prog 134 [(.obj 0 0 0 0), (.agg (Key.row k))] ([⟨0, 2, [[(.int .i64 most), (.sl .any 10 (List.map Entry.row l))]], none⟩, ⟨0, 10, [[(.str ⟨#[]⟩), (.str ⟨#[]⟩), (.int .i64 0), (.int .i64 0), (.int .i64 0), (.int .i64 0), (.int .i64 0), (.int .i64 0), (.bool false), (.int .i64 0)]], none⟩] : Heap) ((AV.tup [(.int .i64 (((findP l k) : Nat) : Int)), (.bool (findB l k))]), ([⟨0, 2, [[(.int .i64 most), (.sl .any 10 (List.map Entry.row l))]], none⟩, ⟨0, 10, [[(.str ⟨#[]⟩), (.str ⟨#[]⟩), (.int .i64 0), (.int .i64 0), (.int .i64 0), (.int .i64 0), (.int .i64 0), (.int .i64 0), (.bool false), (.int .i64 0)]], none⟩] : Heap))) ∧ (Yes (AV.bool (!(findB l k))) ([⟨0, 2, [[(.int .i64 most), (.sl .any 10 (List.map Entry.row l))]], none⟩, ⟨0, 10, [[(.str ⟨#[]⟩), (.str ⟨#[]⟩), (.int .i64 0), (.int .i64 0), (.int .i64 0), (.int .i64 0), (.int .i64 0), (.int .i64 0), (.bool false), (.int .i64 0)]], none⟩] : Heap) (AV.bool false)) ∧ (IdxSl 10 10 (List.map Entry.row l) (((findP l k) : Nat) : Int) ([⟨0, 2, [[(.int .i64 most), (.sl .any 10 (List.map Entry.row l))]], none⟩, ⟨0, 10, [[(.str ⟨#[]⟩), (.str ⟨#[]⟩), (.int .i64 0), (.int .i64 0), (.int .i64 0), (.int .i64 0), (.int .i64 0), (.int .i64 0), (.bool false), (.int .i64 0)]], none⟩] : Heap) (Entry.row (nth l (findP l k)))) ∧ (AV.bdd 1 (AV.tup [(.agg (Entry.row (nth l (findP l k)))), (.bool true)]) = true ∧ obsB 1 ([⟨0, 2, [[(.int .i64 most), (.sl .any 10 (List.map Entry.row l))]], none⟩] : Heap) = true) ∧ ((AV.tup [(.agg (Entry.row (nth l (findP l k)))), (.bool true)]), ([⟨0, 2, [[(.int .i64 most), (.sl .any 10 (List.map Entry.row l))]], none⟩] : Heap)) = ((AV.tup [(.agg (Entry.row (nth l (findP l k)))), (.bool true)]), ([⟨0, 2, [[(.int .i64 most), (.sl .any 10 (List.map Entry.row l))]], none⟩] : Heap))) = _) ?_
  refine And.intro (rfind_at most l k (by first | omega | assumption | (simp; done) | (simp; omega) | (simp_all; done) | (simp_all; omega)) ([⟨0, 10, [[(.str ⟨#[]⟩), (.str ⟨#[]⟩), (.int .i64 0), (.int .i64 0), (.int .i64 0), (.int .i64 0), (.int .i64 0), (.int .i64 0), (.bool false), (.int .i64 0)]], none⟩] : Heap)) ?_
  refine And.intro (Yes.bool (by rw [hb]; rfl)) ?_
  refine And.intro (IdxSl.mk _ (by omega) (by omega)) ?_
  refine And.intro (by first | (simp [obsB, AV.bddss, AV.bdds, AV.bdd]; done) | simp [obsB, AV.bddss, AV.bdds, AV.bdd, -List.map_append, -List.map_set, -List.map_take, -List.map_drop, -List.map_cons, -List.map_map]) ?_
  rfl
def rgetOut_ann : Ann := { refs := [3], base := 1, fin := some 1 }
set_option maxRecDepth 100000 in
theorem rgetOut_spec (most : Int) (l : List Entry) (k : Key) (hl : l.length < 1048576) (hb : findB l k = false) : ACalls Try.prog 119 [(.obj 0 0 0 0), (.agg (Key.row k))] ([⟨0, 2, [[(.int .i64 most), (.sl .any 10 (List.map Entry.row l))]], none⟩] : Heap) ((AV.tup [(.agg (Entry.row zE)), (.bool false)]), ([⟨0, 2, [[(.int .i64 most), (.sl .any 10 (List.map Entry.row l))]], none⟩] : Heap)) := by
  have hle := findP_le l k
  refine spec (fn := Try.f119) (ann := rgetOut_ann) (t := (.reg [] [] [] (.reg [(2, ((AV.tup [(.int .i64 (((findP l k) : Nat) : Int)), (.bool (findB l k))]), ([⟨0, 2, [[(.int .i64 most), (.sl .any 10 (List.map Entry.row l))]], none⟩, ⟨0, 10, [[(.str ⟨#[]⟩), (.str ⟨#[]⟩), (.int .i64 0), (.int .i64 0), (.int .i64 0), (.int .i64 0), (.int .i64 0), (.int .i64 0), (.bool false), (.int .i64 0)]], none⟩] : Heap)))] [] [] (.reg [(1, ((AV.bool true), ([⟨0, 2, [[(.int .i64 most), (.sl .any 10 (List.map Entry.row l))]], none⟩, ⟨0, 10, [[(.str ⟨#[]⟩), (.str ⟨#[]⟩), (.int .i64 0), (.int .i64 0), (.int .i64 0), (.int .i64 0), (.int .i64 0), (.int .i64 0), (.bool false), (.int .i64 0)]], none⟩] : Heap)))] [] [] (.two (.reg [] [] [] .nil) .nil))))) (Nat.le_of_ble_eq_true (by kernel_rfl)) ⟨Try.func119, by kernel_rfl, by kernel_rfl, by kernel_rfl⟩ ?_
  refine Eq.mp (by kernel_rfl : ((ACalls Try.prog 134 [(.obj 0 0 0 0), (.agg (Key.row k))] ([⟨0, 2, [[(.int .i64 most), (.sl .any 10 (List.map Entry.row l))]], none⟩, ⟨0, 10, [[(.str ⟨#[]⟩), (.str ⟨#[]⟩), (.int .i64 0), (.int .i64 0), (.int .i64 0), (.int .i64 0), (.int .i64 0), (.int .i64 0), (.bool false), (.int .i64 0)]], none⟩] : Heap) ((AV.tup [(.int .i64 (((findP l k) : Nat) : Int)), (.bool (findB l k))]), ([⟨0, 2, [[(.int .i64 most), (.sl .any 10 (List.map Entry.row l))]], none⟩, ⟨0, 10, [[(.str ⟨#[]⟩), (.str ⟨#[]⟩), (.int .i64 0), (.int .i64 0), (.int .i64 0), (.int .i64 0), (.int .i64 0), (.int .i64 0), (.bool false), (.int .i64 0)]], none⟩] : Heap))) ∧ (Yes (AV.bool (!(findB l k))) ([⟨0, 2, [[(.int .i64 most), (.sl .any 10 (List.map Entry.row l))]], none⟩, ⟨0, 10, [[(.str ⟨#[]⟩), (.str ⟨#[]⟩), (.int .i64 0), (.int .i64 0), (.int .i64 0), (.int .i64 0), (.int .i64 0), (.int .i64 0), (.bool false), (.int .i64 0)]], none⟩] : Heap) (AV.bool true)) ∧ (AV.bdd 1 (AV.tup [(.agg [(.str ⟨#[]⟩), (.str ⟨#[]⟩), (.int .i64 0), (.int .i64 0), (.int .i64 0), (.int .i64 0), (.int .i64 0), (.int .i64 0), (.bool false), (.int .i64 0)]), (.bool false)]) = true ∧ obsB 1 ([⟨0, 2, [[(.int .i64 most), (.sl .any 10 (List.map Entry.row l))]], none⟩] : Heap) = true) ∧ ((AV.tup [(.agg [(.str ⟨#[]⟩), (.str ⟨#[]⟩), (.int .i64 0), (.int .i64 0), (.int .i64 0), (.int .i64 0), (.int .i64 0), (.int .i64 0), (.bool false), (.int .i64 0)]), (.bool false)]), ([⟨0, 2, [[(.int .i64 most), (.sl .any 10 (List.map Entry.row l))]], none⟩] : Heap)) = ((AV.tup [(.agg (Entry.row zE)), (.bool false)]), ([⟨0, 2, [[(.int .i64 most), (.sl .any 10 (List.map Entry.row l))]], none⟩] : Heap))) = _) ?_
  refine And.intro (rfind_at most l k (by first | omega | assumption | (simp; done) | (simp; omega) | (simp_all; done) | (simp_all; omega)) ([⟨0, 10, [[(.str ⟨#[]⟩), (.str ⟨#[]⟩), (.int .i64 0), (.int .i64 0), (.int .i64 0), (.int .i64 0), (.int .i64 0), (.int .i64 0), (.bool false), (.int .i64 0)]], none⟩] : Heap)) ?_
  refine And.intro (Yes.bool (by rw [hb]; rfl)) ?_
  refine And.intro (by first | (simp [obsB, AV.bddss, AV.bdds, AV.bdd]; done) | simp [obsB, AV.bddss, AV.bdds, AV.bdd, -List.map_append, -List.map_set, -List.map_take, -List.map_drop, -List.map_cons, -List.map_map]) ?_
  rfl
theorem rget_spec (most : Int) (l : List Entry) (k : Key) (hl : l.length < 1048576) : ACalls Try.prog 119 [(.obj 0 0 0 0), (.agg (Key.row k))] ([⟨0, 2, [[(.int .i64 most), (.sl .any 10 (List.map Entry.row l))]], none⟩] : Heap) ((AV.tup [(.agg (Entry.row (getE l k))), (.bool (findB l k))]), ([⟨0, 2, [[(.int .i64 most), (.sl .any 10 (List.map Entry.row l))]], none⟩] : Heap)) := by
  cases hb : findB l k with
  | true =>
    have h2 : getE l k = nth l (findP l k) := by simp [getE, hb]
    rw [h2]
    exact rgetIn_spec most l k hl hb
  | false =>
    have h2 : getE l k = zE := by simp [getE, hb]
    rw [h2]
    exact rgetOut_spec most l k hl hb
theorem rget_at (most : Int) (l : List Entry) (k : Key) (hl : l.length < 1048576) (H : Heap) : ACalls Try.prog 119 [(.obj 0 0 0 0), (.agg (Key.row k))] (([⟨0, 2, [[(.int .i64 most), (.sl .any 10 (List.map Entry.row l))]], none⟩] : Heap) ++ H) ((AV.tup [(.agg (Entry.row (getE l k))), (.bool (findB l k))]), ([⟨0, 2, [[(.int .i64 most), (.sl .any 10 (List.map Entry.row l))]], none⟩] : Heap) ++ H) := (rget_spec most l k hl).ext (by kernel_rfl) (by kernel_rfl) (by first | (simp [obsB, AV.bddss, AV.bdds, AV.bdd]; done) | simp [obsB, AV.bddss, AV.bdds, AV.bdd, -List.map_append, -List.map_set, -List.map_take, -List.map_drop, -List.map_cons, -List.map_map]) (by first | (simp [obsB, AV.bddss, AV.bdds, AV.bdd]; done) | simp [obsB, AV.bddss, AV.bdds, AV.bdd, -List.map_append, -List.map_set, -List.map_take, -List.map_drop, -List.map_cons, -List.map_map]) (by kernel_rfl) H
end Go.Proofs.Ytcmfnfkahdconaa.AM

set_option linter.unusedVariables false
set_option linter.unusedSimpArgs false
namespace Go.Proofs.Ytcmfnfkahdconaa.AM
open Go
end Go.Proofs.Ytcmfnfkahdconaa.AM

set_option linter.unusedVariables false
set_option linter.unusedSimpArgs false
namespace Go.Proofs.Ytcmfnfkahdconaa.AM
open Go
section
variable {G : Nat → Prop} {w : World} {C : Cx} {H : Heap}
end
end Go.Proofs.Ytcmfnfkahdconaa.AM

set_option linter.unusedVariables false
set_option linter.unusedSimpArgs false
namespace Go.Proofs.Ytcmfnfkahdconaa.AM
open Go
theorem ACalls.reclone {P : Program} {f : FuncId} {k n e g m : Nat} {els ys : List (List AV)} (h : ACalls P f [.sl .any k ys] [] (.osl 0 0 k 0 m, [⟨0, k, ys, none⟩])) (hs : AV.scalss ys = true) (hy : AV.bddss 1 ys = true)
    (hb : Brs [⟨g, k, els, none⟩] [.osl 0 g k e n] [.sl .any k ys]) : ACalls P f [.osl 0 g k e n] [⟨g, k, els, none⟩] (.osl 0 (g + 1) k 0 m, [⟨g + 1, k, ys, none⟩]) := by
  have h0 := h.borrow_osl hs hb
  have h1 := h0.ghost (i := 0) (id := 0) (g := g) (x := .osl 0 g k e n) (a' := .osl 0 (g + 1) k 0 m) (H2 := [⟨g + 1, k, ys, none⟩] ++ [⟨1, k, [], none⟩]) rfl (.inr ⟨_, _, _, rfl⟩) rfl rfl rfl rfl
    fun G w C v hH hv hl => steal_sound (id := 0) (j := 1) (g := g) (gj := 0) hH (by decide) rfl rfl rfl rfl hv hl
  refine h1.forget rfl rfl fun id o ho => .inr ?_
  cases id with
  | zero =>
    simp only [List.getElem?_cons_zero, Option.some.injEq] at ho
    subst ho
    exact hy
  | succ id => simp at ho
theorem IdxOsl.mko {id g k n e0 : Nat} {i : Int} {j : Nat} (m : Nat) (H : Heap) (hi : i = (m : Int)) (hj : m < n) (he : j = e0 + m) : IdxOsl id g k k e0 n i H j := by
  subst hi he
  have : (m : Int) < (n : Int) := by omega
  simp [IdxOsl, this]
end Go.Proofs.Ytcmfnfkahdconaa.AM
