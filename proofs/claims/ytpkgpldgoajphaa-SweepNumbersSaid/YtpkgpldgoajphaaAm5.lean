/-
  AM: slicing, indexing, building: as the evaluator says.
-/
import Derived.Test.YtpkgpldgoajphaaAm4
set_option linter.unusedVariables false
set_option linter.unusedSimpArgs false
namespace Go.Proofs.Ytpkgpldgoajphaa.AM
open Go
section
variable {P : Program} {T : TT} {G : Nat → Prop} {w : World} {C : Cx} {F : Fr} {act : Act} {H : Heap}

theorem sizeOf_some (hT : TOk P T) {t : TypeId} {k : Nat} (h : AM.sizeOf T t = some k) : ∃ ti, T t = some ti ∧ ti.size = k ∧ ∀ w, (Go.sizeOf t).run P w = .ok k w := by
  unfold AM.sizeOf at h
  cases ht : T t with
  | none => simp [ht] at h
  | some ti =>
    simp [ht] at h
    exact ⟨ti, rfl, h, fun w => by rw [(hT _ _ ht).sizeOf, h]⟩

theorem optInt_val (hF : FrR G w C F act.tmps) {o : Option Operand} {d n : Int} (h : optInt F o d = some n) : (o = none ∧ n = d) ∨ ∃ x k, o = some x ∧ act.eval x = .int k n := by
  cases o with
  | none => simp [optInt] at h; exact .inl ⟨rfl, h.symm⟩
  | some x =>
    simp only [optInt] at h
    split at h
    · rename_i k m hx
      simp only [Option.some.injEq] at h
      subst h
      have := opv_sound (act := act) hF hx
      generalize hv : act.eval x = v at this
      cases this
      exact .inr ⟨x, _, rfl, hv⟩
    · simp at h
theorem bounds_run (hF : FrR G w C F act.tmps) {lo hi : Option Operand} {l h : Int} {len cap : Nat} (b : Bool) (hl : optInt F lo 0 = some l) (hh : optInt F hi len = some h) (h0 : 0 ≤ l) (h1 : l ≤ h) (h2 : h ≤ cap) :
    (Instr.sliceBounds b len cap (lo.map act.eval) (hi.map act.eval) none).run P w = .ok (l.toNat, h.toNat, cap) w := by
  have e1 : (h.toNat : Int) = h := Int.toNat_of_nonneg (by omega)
  rcases optInt_val hF hl with ⟨rfl, rfl⟩ | ⟨x, k, rfl, hx⟩ <;> rcases optInt_val hF hh with ⟨rfl, rfl⟩ | ⟨y, k', rfl, hy⟩
  · simp [Instr.sliceBounds]
  · simp [Instr.sliceBounds, hy, run_sliceBound, h2, (by omega : 0 ≤ h)]
  · simp [Instr.sliceBounds, hx, run_sliceBound, h0, h1]
  · simp [Instr.sliceBounds, hx, hy, run_sliceBound, h0, h2, e1, h1, (by omega : 0 ≤ h)]
theorem bounds_run3 (hF : FrR G w C F act.tmps) {lo hi : Option Operand} {m : Operand} {l h c : Int} {len cap : Nat} (b : Bool) (hl : optInt F lo 0 = some l) (hh : optInt F hi len = some h) (hc : optInt F (some m) 0 = some c) (h0 : 0 ≤ l) (h1 : l ≤ h) (h2 : h ≤ c) (h3 : c ≤ cap)
    (hhi : hi ≠ none) : (Instr.sliceBounds b len cap (lo.map act.eval) (hi.map act.eval) (some (act.eval m))).run P w = .ok (l.toNat, h.toNat, c.toNat) w := by
  have e1 : (h.toNat : Int) = h := Int.toNat_of_nonneg (by omega)
  have e2 : (c.toNat : Int) = c := Int.toNat_of_nonneg (by omega)
  rcases optInt_val hF hc with ⟨h', _⟩ | ⟨z, kz, hz, hmz⟩
  · simp at h'
  · simp only [Option.some.injEq] at hz
    subst hz
    rcases optInt_val hF hl with ⟨rfl, rfl⟩ | ⟨x, k, rfl, hx⟩ <;> rcases optInt_val hF hh with ⟨rfl, rfl⟩ | ⟨y, k', rfl, hy⟩
    · exact absurd rfl hhi
    · simp [Instr.sliceBounds, hy, hmz, run_sliceBound, h2, h3, e2, (by omega : 0 ≤ h), (by omega : 0 ≤ c)]
    · exact absurd rfl hhi
    · simp [Instr.sliceBounds, hx, hy, hmz, run_sliceBound, h0, h2, h3, e1, e2, h1, (by omega : 0 ≤ h), (by omega : 0 ≤ c)]

theorem bounds_some {l h : Int} {m : Nat} {p : Nat × Nat} (hb : bounds l h m = some p) : 0 ≤ l ∧ l ≤ h ∧ h ≤ m ∧ p = (l.toNat, h.toNat) := by
  unfold bounds at hb
  split at hb
  · rename_i hc
    simp only [Option.some.injEq] at hb
    exact ⟨hc.1, hc.2.1, hc.2.2, hb.symm⟩
  · simp at hb

/-- A part of an immutable slice. -/
theorem sl_part {g g' : Tg} {k : Nat} {xs : List (List AV)} {ad : Addr} {n cap cap' : Nat} (hv : VR G w C (.sl g k xs) (.slice (some ad) n cap)) (l h : Nat) (hl : l ≤ h) (hh : h ≤ xs.length) (hg : g' ≠ .nil) (hclip : g' = .clip ∨ g' = .cn → cap' = h - l) (hcap : h - l ≤ cap') (b : Bool) (hb : b = true → h = l) :
    VR G w C (.sl g' k ((xs.take h).drop l)) (.slice (some (if b = true then ad else ad.add (l * k))) (h - l) cap') := by
  cases hv with
  | sl _ _ _ _ _ _ hg0 hclip0 hle hs cv hk hc h1 hv =>
    have hlen : ((xs.take h).drop l).length = h - l := by simp; omega
    have hget : ∀ i, i < h - l → ((xs.take h).drop l).getD i [] = xs.getD (l + i) [] := by
      intro i hi
      simp only [List.getD_eq_getElem?_getD, List.getElem?_drop, List.getElem?_take]
      rw [if_pos (by omega)]
    have key := VR.sl (G := G) (w := w) C g' ((xs.take h).drop l) k (if b = true then ad else ad.add (l * k)) cap' hg (by rw [hlen]; exact hclip) (by rw [hlen]; exact hcap)
    rw [hlen] at key
    have hx0 : (xs.take h).drop l ≠ [] → xs ≠ [] ∧ l < h := by
      intro hne
      have : 0 < ((xs.take h).drop l).length := List.length_pos_iff.2 hne
      rw [hlen] at this
      exact ⟨fun e => by simp [e] at hh; omega, by omega⟩
    refine key (fun hne => ?_) (fun i j => cv (l + i) j) (fun i hi => by rw [hget i hi]; exact hk _ (by omega)) (fun i j hi hj => ?_) (fun i j hi hj => h1 _ _ (by omega) hj) fun i j hi hj => by rw [hget i hi]; exact hv _ _ (by omega) hj
    · obtain ⟨h1x, h2⟩ := hx0 hne
      cases b with
      | true => exact absurd (hb rfl) (by omega)
      | false =>
        obtain ⟨h3, h4⟩ := hs h1x
        simp only [Bool.false_eq_true, if_false]
        unfold Addr.add
        split
        · exact ⟨h3, h4⟩
        · exact ⟨rfl, h4⟩
    · have hlt : l < h := by omega
      cases b with
      | true => exact absurd (hb rfl) (by omega)
      | false =>
        have hxs : xs ≠ [] := by intro e; simp [e] at hh; omega
        obtain ⟨h3, h4⟩ := hs hxs
        obtain ⟨ab, ao, asp⟩ := ad
        simp only at h3
        subst h3
        simp only [Bool.false_eq_true, if_false, add_addr]
        have := hc (l + i) j (by omega) hj
        rw [← this]
        congr 2
        show ao + l * k + i * k + j = ao + (l + i) * k + j
        rw [Nat.add_mul]; omega

theorem evSlice_str_sound (hT : TOk P T) (hF : FrR G w C F act.tmps) {t : TypeId} {ti : TI} (ht : T t = some ti) (htd : ti.d = .string) {x a : AV} {u : Value} {lo hi mx : Option Operand} (hx : VR G w C x u) (h : evSlice F none x lo hi mx = some a) :
    ∃ v, (Instr.sliceAt t u (lo.map act.eval) (hi.map act.eval) (mx.map act.eval)).run P w = .ok v w ∧ VR G w C a v := by
  have hu := (hT _ _ ht).und
  rw [htd] at hu
  have hu : P.underlying t = some .string := hu
  unfold evSlice at h
  split at h
  · rename_i s _
    split at h
    · rename_i l hh hl hhh
      cases hb : bounds l hh s.size with
      | none => simp [hb] at h
      | some p =>
        simp [hb] at h; subst h
        obtain ⟨h0, h1, h2, rfl⟩ := bounds_some hb
        cases hx
        refine ⟨.string (s.extract l.toNat hh.toNat), ?_, .str ..⟩
        simp only [Instr.sliceAt, Instr.slice, Sem.run_bind, run_underlying hu, Result.andThen_ok, Option.map_none, Option.isSome_none, Bool.false_eq_true, if_false, Sem.run_pure, pure_bind]
        rw [bounds_run hF false hl hhh h0 h1 h2]
        simp
    · simp at h
  · simp_all
  · simp_all
  · simp_all
  · simp_all
  · simp at h

theorem evSlice_sl_sound (hT : TOk P T) (hF : FrR G w C F act.tmps) {t e : TypeId} {ti : TI} (ht : T t = some ti) (htd : ti.d = .slice e) {k : Nat} (hsz : AM.sizeOf T e = some k) {x a : AV} {u : Value} {lo hi mx : Option Operand} (hx : VR G w C x u) (h : evSlice F (some k) x lo hi mx = some a)
    (hhi : mx ≠ none → hi ≠ none) : ∃ v, (Instr.sliceAt t u (lo.map act.eval) (hi.map act.eval) (mx.map act.eval)).run P w = .ok v w ∧ VR G w C a v := by
  have hu := (hT _ _ ht).und
  rw [htd] at hu
  have hu : P.underlying t = some (.slice e) := hu
  obtain ⟨te, hte, hks, hsz⟩ := sizeOf_some hT hsz
  unfold evSlice at h
  split at h
  · simp_all
  · rename_i g k' xs k0 hk0
    simp only [Option.some.injEq] at hk0
    subst hk0
    split at h
    · rename_i hkk
      split at h
      · rename_i l hh hl hhh
        cases hb : bounds l hh xs.length with
        | none => simp [hb] at h
        | some p =>
          simp [hb] at h; subst h
          obtain ⟨h0, h1, h2, rfl⟩ := bounds_some hb
          have hrun : ∀ (A : Option Addr) (n cap : Nat), n = xs.length → xs.length ≤ cap → (Instr.sliceAt t (.slice A n cap) (lo.map act.eval) (hi.map act.eval) none).run P w =
              .ok (.slice (if cap = l.toNat then A else A.map (·.add (l.toNat * k))) (hh.toNat - l.toNat) (cap - l.toNat)) w := by
            intro A n cap hn hcap
            subst hn
            simp only [Instr.sliceAt, Instr.slice, Sem.run_bind, run_underlying hu, Result.andThen_ok]
            rw [bounds_run hF true hl hhh h0 h1 (by omega)]
            simp only [Result.andThen_ok, hsz, Sem.run_pure]
          cases hx with
          | nils _ _ _ hgn =>
            simp only [List.length_nil, Int.ofNat_eq_natCast, Int.natCast_zero] at h2
            have hl0 : l = 0 := by omega
            have hh0 : hh = 0 := by omega
            subst hl0; subst hh0
            refine ⟨_, hrun _ _ _ rfl (by simp), ?_⟩
            simp only [Int.toNat_zero, if_true, List.take_nil, List.drop_nil, Nat.sub_zero]
            exact .nils _ _ _ (by rcases hgn with rfl | rfl | rfl <;> simp [Tg.open'])
          | sl _ _ _ _ ad cap hg hclip hle hs cv hk hc h1c hv =>
            refine ⟨_, hrun _ _ _ rfl hle, ?_⟩
            have hkk' : l.toNat * k = l.toNat * k' := by
              rcases hkk with h' | h'
              · rw [h']
              · have h3 : xs = [] := by simpa using h'
                subst h3
                simp at h2
                have : l.toNat = 0 := by omega
                simp [this]
            rw [hkk']
            have hop : g.open' ≠ .nil ∧ ¬ (g.open' = .clip ∨ g.open' = .cn) := by cases g <;> simp [Tg.open'] at hg ⊢
            have := sl_part (g' := g.open') (cap' := cap - l.toNat) (VR.sl C g xs k' ad cap hg hclip hle hs cv hk hc h1c hv) l.toNat hh.toNat (by omega) (by omega) hop.1 (fun h => absurd h hop.2) (by omega) (decide (cap = l.toNat)) (by simp; omega)
            by_cases hcl : cap = l.toNat
            · simpa [hcl] using this
            · simpa [hcl] using this
      · simp at h
    · simp at h
  · rename_i g k' xs k0 m hk0
    simp only [Option.some.injEq] at hk0
    subst hk0
    split at h
    · rename_i hkk
      split at h
      · rename_i l hh c hl hhh hcc
        split at h
        · rename_i hhc
          subst hhc
          cases hb : bounds l hh xs.length with
          | none => simp [hb] at h
          | some p =>
            simp [hb] at h; subst h
            obtain ⟨h0, h1, h2, rfl⟩ := bounds_some hb
            have hrun : ∀ (A : Option Addr) (n cap : Nat), n = xs.length → xs.length ≤ cap → (Instr.sliceAt t (.slice A n cap) (lo.map act.eval) (hi.map act.eval) ((some m).map act.eval)).run P w =
                .ok (.slice (if hh.toNat = l.toNat then A else A.map (·.add (l.toNat * k))) (hh.toNat - l.toNat) (hh.toNat - l.toNat)) w := by
              intro A n cap hn hcap
              subst hn
              simp only [Instr.sliceAt, Instr.slice, Sem.run_bind, run_underlying hu, Result.andThen_ok, Option.map_some]
              rw [bounds_run3 hF true hl hhh hcc h0 h1 (by omega) (by omega) (hhi (by simp))]
              simp only [Result.andThen_ok, hsz, Sem.run_pure]
            cases hx with
            | nils _ _ _ hgn =>
              simp only [List.length_nil, Int.ofNat_eq_natCast, Int.natCast_zero] at h2
              have hl0 : l = 0 := by omega
              have hh0 : hh = 0 := by omega
              subst hl0; subst hh0
              refine ⟨_, hrun _ _ _ rfl (by simp), ?_⟩
              simp only [Int.toNat_zero, if_true, List.take_nil, List.drop_nil, Nat.sub_zero]
              exact .nils _ _ _ (by rcases hgn with rfl | rfl | rfl <;> simp [Tg.clip'])
            | sl _ _ _ _ ad cap hg hclip hle hs cv hk hc h1c hv =>
              refine ⟨_, hrun _ _ _ rfl hle, ?_⟩
              have hkk' : l.toNat * k = l.toNat * k' := by
                rcases hkk with h' | h'
                · rw [h']
                · have h3 : xs = [] := by simpa using h'
                  subst h3
                  simp at h2
                  have : l.toNat = 0 := by omega
                  simp [this]
              rw [hkk']
              have hop : g.clip' ≠ .nil := by cases g <;> simp [Tg.clip'] at hg ⊢
              have := sl_part (g' := g.clip') (cap' := hh.toNat - l.toNat) (VR.sl C g xs k' ad cap hg hclip hle hs cv hk hc h1c hv) l.toNat hh.toNat (by omega) (by omega) hop (fun _ => rfl) (by omega) (decide (hh.toNat = l.toNat)) (by simp)
              by_cases hcl : hh.toNat = l.toNat
              · simpa [hcl] using this
              · simpa [hcl] using this
        · simp at h
      · simp at h
    · simp at h
  · rename_i id g k' e0 n k0 hk0
    simp only [Option.some.injEq] at hk0
    subst hk0
    split at h
    · rename_i hkk
      subst hkk
      split at h
      · rename_i l hh hl hhh
        cases hb : bounds l hh n with
        | none => simp [hb] at h
        | some p =>
          simp [hb] at h; subst h
          obtain ⟨h0, h1, h2, rfl⟩ := bounds_some hb
          cases hx with
          | osl _ _ _ _ _ _ ad cap hnc hle hl' =>
            refine ⟨.slice (if cap = l.toNat then some ad else (some ad).map (·.add (l.toNat * k))) (hh.toNat - l.toNat) (cap - l.toNat), ?_, ?_⟩
            · simp only [Instr.sliceAt, Instr.slice, Sem.run_bind, run_underlying hu, Result.andThen_ok, Option.map_none]
              rw [bounds_run hF true hl hhh h0 h1 (by omega)]
              simp only [Result.andThen_ok, hsz, Sem.run_pure]
            · have hif : (if cap = l.toNat then some ad else (some ad).map (·.add (l.toNat * k))) = some (if cap = l.toNat then ad else ad.add (l.toNat * k)) := by split <;> rfl
              rw [hif]
              refine .osl _ _ _ _ _ _ _ _ (by omega) hle fun hg => ?_
              obtain ⟨L, b, hι, hLb, hLk, hen, hcap, had⟩ := hl' hg
              refine ⟨L, b, hι, hLb, hLk, by omega, by omega, fun hlt => ?_⟩
              rw [if_neg (by omega), had (by omega), add_addr, Nat.add_assoc, ← Nat.add_mul]
          | osl0 _ _ _ _ _ base hle hl' =>
            have hl0 : l = 0 := by omega
            have hh0 : hh = 0 := by omega
            subst hl0; subst hh0
            refine ⟨.slice base 0 0, ?_, .osl0 _ _ _ _ _ _ hle hl'⟩
            simp only [Instr.sliceAt, Instr.slice, Sem.run_bind, run_underlying hu, Result.andThen_ok, Option.map_none]
            rw [bounds_run hF true hl hhh h0 h1 (by omega)]
            simp [hsz]
      · simp at h
    · simp at h
  · rename_i id g k' e0 n k0 m hk0
    simp only [Option.some.injEq] at hk0
    subst hk0
    split at h
    · rename_i hl hh hc
      simp only [Option.some.injEq] at h
      subst h
      cases hx with
      | osl _ _ _ _ _ _ ad cap hnc hle hl' =>
        refine ⟨.slice (some ad) 0 0, ?_, ?_⟩
        · simp only [Instr.sliceAt, Instr.slice, Sem.run_bind, run_underlying hu, Result.andThen_ok, Option.map_some]
          rw [bounds_run3 hF true hl hh hc (by omega) (by omega) (by omega) (by omega) (hhi (by simp))]
          simp [hsz]
        · exact .sl C .cn [] k ad 0 (by simp) (by simp) (by simp) (by simp) (fun _ _ => undef) (by simp) (by simp) (by simp) (by simp)
      | osl0 _ _ _ _ _ base hle hl' =>
        refine ⟨.slice base 0 0, ?_, ?_⟩
        rotate_left
        · cases base with
          | none => exact .nils _ _ _ (by simp)
          | some ad => exact .sl C .cn [] k ad 0 (by simp) (by simp) (by simp) (by simp) (fun _ _ => undef) (by simp) (by simp) (by simp) (by simp)
        simp only [Instr.sliceAt, Instr.slice, Sem.run_bind, run_underlying hu, Result.andThen_ok, Option.map_some]
        rw [bounds_run3 hF true hl hh hc (by omega) (by omega) (by omega) (by omega) (hhi (by simp))]
        simp [hsz]
    · simp at h
  · simp at h
end
end Go.Proofs.Ytpkgpldgoajphaa.AM
