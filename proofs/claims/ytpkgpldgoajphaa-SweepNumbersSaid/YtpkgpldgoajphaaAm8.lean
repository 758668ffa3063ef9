/-
  AM: all operations that ask nothing of exclusive objects: the whole.
-/
import Derived.Test.YtpkgpldgoajphaaAm7
set_option linter.unusedVariables false
set_option linter.unusedSimpArgs false
namespace Go.Proofs.Ytpkgpldgoajphaa.AM
open Go
section
variable {P : Program} {T : TT} {G : Nat → Prop} {w : World} {C : Cx} {F : Fr} {act : Act} {H : Heap}

theorem CF.free {xs : List AV} {vs : Array Value} (h : CF G w C xs vs) (hb : AV.bdds 0 xs = true) : CF G w Cx.none xs vs := ⟨h.1, fun i hi => ⟨(h.2 i hi).1, (h.2 i hi).2.free (bdds_get _ hb i hi)⟩⟩

/-- A new row of known cells is an immutable slice. -/
theorem row_sound (hH : HR G w C H) {xs : List AV} {vs : Array Value} (h : CF G w Cx.none xs vs) (e : TypeId) (k n : Nat) (hn : xs.length = n * k) :
    VR (fun b => G b ∨ b = w.heap.size) (w.alloc (.cells vs e)) C (.sl .clip k (rowsOf k n xs)) (.slice (some ⟨w.heap.size, 0, none⟩) n n) := by
  have key := VR.sl (G := fun b => G b ∨ b = w.heap.size) (w := w.alloc (.cells vs e)) C .clip (rowsOf k n xs) k ⟨w.heap.size, 0, none⟩ n (by simp) (by simp [rowsOf_length]) (by simp [rowsOf_length])
  rw [rowsOf_length] at key
  have hb : ∀ i j, i < n → j < k → i * k + j < xs.length := by
    intro i j hi hj
    rw [hn]
    calc i * k + j < i * k + k := by omega
      _ = (i + 1) * k := by rw [Nat.add_mul]; omega
      _ ≤ n * k := Nat.mul_le_mul_right k (by omega)
  refine key (fun _ => ⟨rfl, .inr rfl⟩) (fun i j => vs.getD (i * k + j) undef) (fun i hi => ?_) (fun i j hi hj => ?_) (fun i j hi hj => (h.2 _ (hb i j hi hj)).1) fun i j hi hj => ?_
  · rw [rowsOf_get k n i _ hi]
    have : (i + 1) * k ≤ n * k := Nat.mul_le_mul_right k (by omega)
    rw [Nat.add_mul] at this
    simp [hn]; omega
  · have := hb i j hi hj
    rw [World.cell?_alloc_new]
    simp [Array.getD_eq_getD_getElem?, show i * k + j < vs.size by rw [h.1]; exact this]
  · have := (h.2 _ (hb i j hi hj)).2
    rw [rowsOf_get k n i _ hi]
    have e2 : ((xs.drop (i * k)).take k).getD j .skip = xs.getD (i * k + j) .skip := by
      simp only [List.getD_eq_getElem?_getD, List.getElem?_take, List.getElem?_drop, if_pos hj]
    rw [e2]
    exact this.mono (fun b hb => .inl hb) (fun b hb => Go.RowKit.Below.heap_alloc w _ b (hH.gsz b hb)) (CxLe.refl _)

theorem evBuild_length {place : Nat → Option (Nat × Nat)} : ∀ {parts : List (Nat × Operand)} {xs ys : List AV}, evBuild T F place parts xs = some ys → ys.length = xs.length
  | [], xs, ys, h => by simp [evBuild] at h; rw [h]
  | (i, x) :: rest, xs, ys, h => by
    simp only [evBuild] at h
    split at h
    · rename_i o size v hp hv
      split at h
      · rename_i cs hfit
        split at h
        · rename_i hsz
          have hl : cs.length = size := by
            unfold AV.fit at hfit
            split at hfit
            · split at hfit
              · simp only [Option.some.injEq] at hfit; subst hfit; assumption
              · simp at hfit
            · simp at hfit
            · simp at hfit
            · simp at hfit
            · split at hfit
              · simp only [Option.some.injEq] at hfit; subst hfit; simp; omega
              · simp at hfit
          rw [evBuild_length h]
          simp [fillAt]; omega
        · simp at h
      · simp at h
    · simp at h

theorem buildSlice_sound (hT : TOk P T) (hF : FrR G w C F act.tmps) (hH : HR G w C H) {t : TypeId} {len : Nat} {parts : Array (Nat × Operand)} {a : AV} (h : evP T F (.buildSlice t len parts) = some a) :
    Out P G w C H (do pure (.value (← Instr.buildSlice t len (parts.map fun p => (p.1, act.eval p.2))))) a := by
  simp only [evP] at h
  split at h
  · rename_i e _ _ _ ht
    have hu : P.underlying t = some (.slice e) := (hT _ _ ht).und
    split at h
    · rename_i te hte
      have hte' := hT _ _ hte
      split at h
      · rename_i hsz
        obtain ⟨z, hz, hzc, hzl, hzs, _, _⟩ := TIok.zeros (G := G) (w := w) (C := C) hte'
        cases hb : evBuild T F (fun i => some (i * te.size, te.size)) parts.toList (zeros te.zero len) with
        | none => simp [hb] at h
        | some ys =>
          simp only [hb, Option.bind_some] at h
          split at h
          · rename_i hfree
            simp only [Option.some.injEq] at h
            subst h
            have hcf0 : CF G w C (zeros te.zero len) ((Array.range (len * te.size)).map (z.cells[· % z.cells.size]!)) := by
              refine ⟨by simp [zeros_length, hzl], fun i hi => ?_⟩
              rw [zeros_length] at hi
              rw [zeros_get _ _ _ hi]
              have hm : i % te.zero.length < te.zero.length := Nat.mod_lt _ (by rw [hzl]; exact hsz.2)
              have := hzc.2 _ hm
              rw [hzl] at hi hm this ⊢
              have hi' : i < len * te.size := hi
              have e3 : ((Array.range (len * te.size)).map (z.cells[· % z.cells.size]!)).getD i undef = z.cells.getD (i % te.size) undef := by
                rw [Array.getD_eq_getD_getElem?, Array.getElem?_map, Array.getElem?_range, if_pos hi']
                simp only [Option.map_some, Option.getD_some, hzs]
                rw [getElem!_pos _ _ (by rw [hzs]; exact hm), Array.getD_eq_getD_getElem?, Array.getElem?_eq_getElem (by rw [hzs]; exact hm), Option.getD_some]
              rw [e3]
              exact this
            obtain ⟨us, hus, hcf⟩ := fill_sound (act := act) hF (place' := fun i => some (i * te.size, te.size)) (fun i p hp => hp) hcf0 hb
            refine ⟨_, w.alloc (.cells us e), _, ?_, Ev.alloc hH, hH.alloc, row_sound hH (hcf.free hfree) e te.size len ?_⟩
            · have hle : ¬ len * te.size > 2 ^ 24 := by omega
              have hz0 : len * te.size = 0 → ((Array.range (len * te.size)).map ((#[] : Array Value)[· % (#[] : Array Value).size]!)) = (Array.range (len * te.size)).map (z.cells[· % z.cells.size]!) := by
                intro h0; rw [h0]; simp
              simp only [Instr.buildSlice, Sem.run_bind, run_underlying hu, Result.andThen_ok, hte'.sizeOf, Sem.run_ite, if_neg hle]
              by_cases hl : len * te.size = 0
              · simp only [if_pos hl, Sem.run_pure, Result.andThen_ok, Array.toList_map, hz0 hl, hus]
                simp [newRow]
              · simp only [if_neg hl, Sem.run_bind, hz, Sem.run_pure, Result.andThen_ok, Array.toList_map, hus]
                simp [newRow]
            · rw [evBuild_length hb, zeros_length, hzl]
          · simp at h
      · simp at h
    · simp at h
  · simp at h

theorem bytesOf_sound : ∀ {xs : List (List AV)} {l : List UInt8} {cv : Nat → Nat → Value}, bytesOf xs = some l → (∀ i j, i < xs.length → j < 1 → VR G w Cx.none ((xs.getD i []).getD j .skip) (cv i j)) →
    ∃ ns : List Int, ns.length = xs.length ∧ l = ns.map (fun n => UInt8.ofNat n.toNat) ∧ ∀ i, i < xs.length → cv i 0 = .int .u8 (ns.getD i 0)
  | [], l, cv, h, _ => by simp [bytesOf] at h; subst h; exact ⟨[], rfl, rfl, by simp⟩
  | x :: xs, l, cv, h, hv => by
    unfold bytesOf at h
    split at h
    · simp at *
    · rename_i n xs' heq
      simp only [List.cons.injEq] at heq
      obtain ⟨rfl, rfl⟩ := heq
      cases hb : bytesOf xs with
      | none => simp [hb] at h
      | some l' =>
        simp [hb] at h; subst h
        obtain ⟨ns, h1, h2, h3⟩ := bytesOf_sound (cv := fun i j => cv (i + 1) j) hb fun i j hi hj => by simpa using hv (i + 1) j (by simp; omega) hj
        have h0 := hv 0 0 (by simp) (by omega)
        simp at h0
        refine ⟨n :: ns, by simp [h1], by simp [h2], fun i hi => ?_⟩
        cases i with
        | zero => generalize hc : cv 0 0 = c at h0; cases h0; simp
        | succ i => simpa using h3 i (by simpa using hi)
    · simp at h
theorem foldl_push : ∀ (ns : List Int) (s : ByteArray), ns.foldl (fun r n => r.push (UInt8.ofNat n.toNat)) s = ⟨s.data ++ (ns.map fun n => UInt8.ofNat n.toNat).toArray⟩
  | [], s => by simp
  | n :: ns, s => by
    rw [List.foldl_cons, foldl_push ns]
    simp [ByteArray.push]

theorem evConvert_sound (hT : TOk P T) {src dst : TypeId} {x a : AV} {u : Value} (hx : VR G w C x u) (h : evConvert T src dst x = some a) (hsrc : ∃ ti, T src = some ti) : ∃ v, (Go.convert src dst u).run P w = .ok v w ∧ VR G w C a v := by
  obtain ⟨ts, hts⟩ := hsrc
  have hsd : ∃ ds, P.underlying src = some ds := by
    have := (hT _ _ hts).und
    revert this
    generalize ts.d = d
    intro hu
    cases d <;> simp only [TDok] at hu <;> first | exact ⟨_, hu⟩ | exact ⟨_, hu.choose_spec.1⟩ | exact ⟨_, hu.choose_spec⟩ | exact ⟨_, hu.choose_spec.choose_spec.choose_spec⟩
  obtain ⟨ds, hds⟩ := hsd
  unfold evConvert at h
  split at h
  · rename_i k _ _ _ _ n hs1 hd
    simp only [Option.some.injEq] at h
    subst h
    have hdu : P.underlying dst = some (.int k) := (hT _ _ hd).und
    cases hx
    refine ⟨.int k (k.wrap n), ?_, .int ..⟩
    simp only [Go.convert, Sem.run_bind, run_underlying hds, run_underlying hdu, Result.andThen_ok, Conv.intToInt, Sem.run_pure]
  · rename_i s hs1 hd
    simp only [Option.some.injEq] at h
    subst h
    have hdu : P.underlying dst = some .string := (hT _ _ hd).und
    cases hx
    refine ⟨.string s, ?_, .str ..⟩
    simp only [Go.convert, Sem.run_bind, run_underlying hds, run_underlying hdu, Result.andThen_ok, Sem.run_pure]
  · rename_i e _ _ _ _ _ _ g k xs hs hd
    have hsu : P.underlying src = some (.slice e) := (hT _ _ hs).und
    have hdu : P.underlying dst = some .string := (hT _ _ hd).und
    split at h
    · rename_i he
      have heu : P.underlying e = some (.int .u8) := (hT _ _ he).und
      split at h
      · rename_i hk1
        cases hb : bytesOf xs with
        | none => simp [hb] at h
        | some l =>
          simp [hb] at h; subst h
          cases hx with
          | nils =>
            simp [bytesOf] at hb; subst hb
            refine ⟨.string ByteArray.empty, ?_, .str ..⟩
            simp [Go.convert, run_underlying hsu, run_underlying hdu, run_underlying heu, Conv.bytesToString]
          | sl _ _ _ _ ad cap hg hclip hle hs' cv hkk hc h1c hv =>
            have hk2 : k = 1 ∨ xs = [] := by simpa using hk1
            obtain ⟨ns, h1, h2, h3⟩ := bytesOf_sound (cv := cv) hb fun i j hi hj => by
              rcases hk2 with rfl | rfl
              · exact hv i j hi hj
              · simp at hi
            have hload : (loadCells ad xs.length).run P w = .ok (ns.map (Value.int .u8)).toArray w := by
              rw [run_loadCells w ad xs.length (fun j => .int .u8 (ns.getD j 0))]
              · congr 2
                apply List.ext_getElem
                · simp [h1]
                · intro i hi1 hi2
                  simp [List.getD_eq_getElem?_getD, show i < ns.length by simpa using hi2]
              · intro j hj
                have hne : xs ≠ [] := by intro e; simp [e] at hj
                obtain ⟨h4, h5⟩ := hs' hne
                obtain rfl := hk2.resolve_right hne
                obtain ⟨ab, ao, asp⟩ := ad
                simp only at h4
                subst h4
                rw [add_addr, ← h3 j hj]
                simpa using hc j 0 hj (by omega)
            refine ⟨_, ?_, .str ..⟩
            simp only [Go.convert, Sem.run_bind, run_underlying hsu, run_underlying hdu, run_underlying heu, Result.andThen_ok]
            rw [run_bytesToString w ad xs.length cap ns hload, foldl_push]
            subst h2
            simp
      · simp at h
    · simp at h
  · simp at h
end
end Go.Proofs.Ytpkgpldgoajphaa.AM
