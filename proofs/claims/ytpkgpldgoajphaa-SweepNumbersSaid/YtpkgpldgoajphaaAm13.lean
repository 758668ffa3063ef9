/-
  AM: 'append'.
-/
import Derived.Test.YtpkgpldgoajphaaAm12
set_option linter.unusedVariables false
set_option linter.unusedSimpArgs false
namespace Go.Proofs.Ytpkgpldgoajphaa.AM
open Go

section
variable {P : Program} {T : TT} {G G' : Nat → Prop} {w w' : World} {C C' : Cx} {F : Fr} {act : Act} {H H' : Heap}

theorem run_firstCells_same (size n : Nat) (b : Addr) (len cap : Nat) (cs : List Value) (hl : cs.length = n * size) (h : ∀ j v, cs[j]? = some v → w.cell? (b.add j) = some v) (w2 : World) (hw : w2.heap = w.heap) :
    (Builtin.firstCells size n (.slice (some b) len cap)).run P w2 = .ok cs.toArray w2 :=
  run_firstCells_some (P := P) w2 size n b len cap cs hl (fun j v hj => by simpa [World.cell?, hw] using h j v hj)

/-- The cells of rows, one behind the other. -/
def flat (k n : Nat) (f : Nat → Nat → Value) : List Value := (List.range (n * k)).map fun q => f (q / k) (q % k)
theorem flat_length (k n : Nat) (f : Nat → Nat → Value) : (flat k n f).length = n * k := by simp [flat]
theorem flat_get (k n : Nat) (f : Nat → Nat → Value) {i j : Nat} (hi : i < n) (hj : j < k) : (flat k n f).getD (i * k + j) undef = f i j := by
  have h := row_lt hi hj
  have h1 : (i * k + j) / k = i := by rw [Nat.mul_comm, Nat.mul_add_div (by omega), Nat.div_eq_of_lt hj, Nat.add_zero]
  have h2 : (i * k + j) % k = j := by rw [Nat.mul_comm, Nat.mul_add_mod, Nat.mod_eq_of_lt hj]
  simp [flat, List.getD_eq_getElem?_getD, h, h1, h2]
theorem flat_mem {k n : Nat} {f : Nat → Nat → Value} {q : Nat} {v : Value} (h : (flat k n f)[q]? = some v) : q < n * k ∧ v = f (q / k) (q % k) := by
  unfold flat at h
  rw [List.getElem?_map] at h
  cases hq : (List.range (n * k))[q]? with
  | none => simp [hq] at h
  | some x =>
    have hlt : q < n * k := by
      rcases Nat.lt_or_ge q (n * k) with h' | h'
      · exact h'
      · rw [List.getElem?_eq_none (by simpa using h')] at hq; simp at hq
    rw [List.getElem?_range hlt] at hq
    simp only [Option.some.injEq] at hq
    subst hq
    rw [List.getElem?_range hlt] at h
    simp only [Option.map_some, Option.some.injEq] at h
    exact ⟨hlt, h.symm⟩
theorem divmod {q n k : Nat} (h : q < n * k) : q / k < n ∧ q % k < k ∧ q / k * k + q % k = q := by
  rcases Nat.eq_zero_or_pos k with rfl | hk
  · simp at h
  · exact ⟨(Nat.div_lt_iff_lt_mul hk).2 h, Nat.mod_lt _ hk, by rw [Nat.mul_comm]; exact Nat.div_add_mod q k⟩

/-- A source of rows: how many, its cells. -/
structure Src (P : Program) (G : Nat → Prop) (w : World) (C : Cx) (k : Nat) (u : Value) (xs : List (List AV)) (nv : List Value) : Prop where
  len : ∀ w2 : World, (Builtin.lenOf u).run P w2 = .ok xs.length w2
  length : nv.length = xs.length * k
  cells : ∀ w2 : World, w2.heap = w.heap → (Builtin.firstCells k xs.length u).run P w2 = .ok nv.toArray w2
  row : ∀ i, i < xs.length → (xs.getD i []).length = k
  rel : ∀ i j, i < xs.length → j < k → (nv.getD (i * k + j) undef).oneCell' = true ∧ VR G w C ((xs.getD i []).getD j .skip) (nv.getD (i * k + j) undef)

theorem sl_src {g : Tg} {k k' : Nat} {xs : List (List AV)} {u : Value} (hu : VR G w C (.sl g k' xs) u) (hk : k = k' ∨ xs.isEmpty = true) : ∃ nv, Src P G w C k u xs nv := by
  cases hu with
  | nils => exact ⟨[], fun w2 => by simp [Builtin.lenOf], by simp, fun w2 _ => by simp [run_firstCells_none], fun i hi => by simp at hi, fun i j hi => by simp at hi⟩
  | sl _ _ _ _ ad cap hg hclip hle hs cv hkl hc h1 hv =>
    rcases List.eq_nil_or_concat xs with rfl | ⟨ys, y, hxs⟩
    · exact ⟨[], fun w2 => by simp [Builtin.lenOf], by simp, fun w2 _ => run_firstCells_some (P := P) w2 k 0 ad 0 cap [] (by simp) (by simp), fun i hi => by simp at hi, fun i j hi => by simp at hi⟩
    · have hne : xs ≠ [] := by rw [hxs]; simp
      have hkk : k = k' := by
        rcases hk with h | h
        · exact h
        · exact absurd (by simpa using h) hne
      subst hkk
      obtain ⟨hsp, hG⟩ := hs hne
      obtain ⟨ab, ao, asp⟩ := ad
      simp only at hsp hc
      subst hsp
      refine ⟨flat k xs.length cv, fun w2 => by simp [Builtin.lenOf], flat_length .., fun w2 hw2 => run_firstCells_same k xs.length _ _ _ _ (flat_length ..) (fun q v hq => ?_) w2 hw2, hkl, fun i j hi hj => ?_⟩
      · obtain ⟨h2, rfl⟩ := flat_mem hq
        obtain ⟨h3, h4, h5⟩ := divmod h2
        rw [add_addr, ← h5, ← Nat.add_assoc]
        have := hc _ _ h3 h4
        rw [h5]
        exact this
      · rw [flat_get k _ cv hi hj]
        exact ⟨h1 i j hi hj, (hv i j hi hj).lift C⟩

theorem nil_src (k : Nat) (base : Option Addr) (xs : List (List AV)) (hx : xs = []) : ∃ nv, Src P G w C k (.slice base 0 0) xs nv := by
  subst hx
  refine ⟨[], fun w2 => by simp [Builtin.lenOf], by simp, fun w2 _ => ?_, fun i hi => by simp at hi, fun i j hi => by simp at hi⟩
  cases base with
  | none => simp [run_firstCells_none]
  | some ad => exact run_firstCells_some (P := P) w2 k 0 ad 0 0 [] (by simp) (by simp)
/-- Rows of an object that nothing turned. -/
theorem osl_src {id g k e n : Nat} {u : Value} {o : Ob} {l : Loc} {b : Nat} (hι : C.ι id = some l) (hlb : l.b = some b) (hγ : g = C.γ id) (hob : ObR G w C o l) (hu : VR G w C (.osl id g k e n) u) (hk : k = l.k) (hn : e + n ≤ o.els.length) :
    ∃ nv, Src P G w C k u ((o.els.drop e).take n) nv := by
  cases hu with
  | osl _ _ _ _ _ _ ad cap hnc hle hl =>
    obtain ⟨l', b', hl', hlb', hlk, hen, hcap, had⟩ := hl hγ
    rw [hι] at hl'
    simp only [Option.some.injEq] at hl'
    subst hl'
    rw [hlb] at hlb'
    simp only [Option.some.injEq] at hlb'
    subst hlb'
    have hln : ((o.els.drop e).take n).length = n := by simp; omega
    have hrow : ∀ i, i < n → ((o.els.drop e).take n).getD i [] = o.els.getD (e + i) [] := fun i hi => by
      simp [List.getD_eq_getElem?_getD, List.getElem?_take, List.getElem?_drop, hi]
    rcases Nat.eq_zero_or_pos n with rfl | hpos
    · exact ⟨[], fun w2 => by simp [Builtin.lenOf], by simp, fun w2 _ => by simpa using run_firstCells_some (P := P) w2 k 0 ad 0 cap [] (by simp) (by simp), fun i hi => by simp at hi, fun i j hi => by simp at hi⟩
    · obtain rfl := had (by have := hob.len; omega)
      subst hk
      refine ⟨flat l.k n fun i j => (w.cell? ⟨b, l.sh + (e + i) * l.k + j, none⟩).getD undef, fun w2 => by simp [Builtin.lenOf]; omega, by rw [flat_length, hln], fun w2 hw2 => ?_, fun i hi => ?_, fun i j hi hj => ?_⟩
      · rw [hln]
        refine run_firstCells_same l.k n _ _ _ _ (flat_length ..) (fun q v hq => ?_) w2 hw2
        obtain ⟨h2, rfl⟩ := flat_mem hq
        obtain ⟨h3, h4, h5⟩ := divmod h2
        obtain ⟨v, hv, _, _⟩ := hob.there hlb (i := e + q / l.k) (j := q % l.k) (by omega) h4
        rw [hv, add_addr, Option.getD_some, ← hv]
        congr 2
        rw [Nat.add_mul]
        omega
      · rw [hln] at hi
        rw [hrow i hi]
        exact hob.row _ (by omega)
      · rw [hln] at hi
        rw [flat_get _ _ _ hi hj, hrow i hi]
        obtain ⟨v, hv, h2, h3⟩ := hob.there hlb (i := e + i) (j := j) (by omega) hj
        rw [hv]
        exact ⟨h2, h3⟩
  | osl0 => exact nil_src k _ _ (by simp)
theorem str_src {s : ByteArray} {xs : List (List AV)} (hx : s.data.toList.map (fun b => [AV.int .u8 b.toNat]) = xs) : ∃ nv, Src P G w C 1 (.string s) xs nv := by
  subst hx
  have hsd : s.data.toList.length = s.size := by rw [Array.length_toList]; rfl
  have hlen : (s.data.toList.map (fun b => [AV.int .u8 b.toNat])).length = s.size := by rw [List.length_map, hsd]
  have hget : ∀ i, i < s.size → ∃ b, s.data.toList[i]? = some b := fun i hi => by
    have : i < s.data.toList.length := by omega
    exact ⟨_, List.getElem?_eq_getElem this⟩
  refine ⟨s.data.toList.map fun b => .int .u8 b.toNat, fun w2 => by rw [hlen]; simp [Builtin.lenOf], by simp, fun w2 _ => ?_, fun i hi => ?_, fun i j hi hj => ?_⟩
  · rw [hlen]
    have : (s.extract 0 s.size) = s := ByteArray.extract_zero_size
    simp only [Builtin.firstCells, this, Sem.run_pure]
    congr 1
    apply Array.ext'
    simp
  · rw [hlen] at hi
    obtain ⟨b, hb⟩ := hget i hi
    simp [List.getD_eq_getElem?_getD, hb]
  · rw [hlen] at hi
    obtain ⟨b, hb⟩ := hget i hi
    obtain rfl : j = 0 := by omega
    simp only [Nat.mul_one, Nat.add_zero, List.getD_eq_getElem?_getD, List.getElem?_map, hb, Option.map_some, Option.getD_some]
    exact ⟨rfl, .int ..⟩
theorem rowsIn_src (hH : HR G w C H) {k : Nat} {x : AV} {u : Value} {xs : List (List AV)} (hu : VR G w C x u) (h : rowsIn H k x = some xs) : ∃ nv, Src P G w C k u xs nv := by
  unfold rowsIn at h
  split at h
  · rename_i g k' ys
    split at h
    · rename_i hk
      simp only [Option.some.injEq] at h
      subst h
      exact sl_src hu hk
    · simp at h
  · rename_i id g k' e n
    split at h
    · rename_i o ho
      split at h
      · rename_i hk
        simp only [Option.some.injEq] at h
        subst h
        obtain ⟨h1, rfl, h3⟩ := hk
        have hγ := hH.gen id o ho
        cases hu with
        | osl _ _ _ _ _ _ ad cap hnc hle hl =>
          obtain ⟨l, b, hι, hlb, hlk, hr⟩ := hl (by omega)
          exact osl_src hι hlb (by omega) (hH.ob id o l ho hι) (.osl _ _ _ _ _ _ _ _ hnc hle hl) hlk.symm h3
        | osl0 => exact nil_src k _ _ (by simp)
      · simp at h
    · simp at h
  · rename_i s
    split at h
    · rename_i hk
      subst hk
      simp only [Option.some.injEq] at h
      cases hu
      exact str_src h
    · simp at h
  · simp at h

/-- What an 'append' is told of its types. -/
structure ApT (P : Program) (t t' e : TypeId) (i : TypeInfo) (z : Value) : Prop where
  ht : P.underlying t = some (.slice e)
  ht' : P.underlying t' = some .string ∨ ∃ e', P.underlying t' = some (.slice e')
  hi : P.info? e = some i
  hz : i.zero = some z

theorem run_append_room' {t t' ty e : TypeId} {i : TypeInfo} {z : Value} (hA : ApT P t t' e i z) (x : Value) {xs : List (List AV)} {nv : List Value} (hx : Src P G w C i.size x xs nv)
    (g o sLen sCap : Nat) (cur : Array Value) (et : TypeId) (hg : w.heap[g]? = some (.cells cur et (0, 0))) (h1 : ∀ u ∈ nv, u.oneCell' = true)
    (hroom : sLen + xs.length ≤ sCap) (hfit : o + sLen * i.size + nv.length ≤ cur.size) :
    (Builtin.append_ #[t, t'] ty #[.slice (some ⟨g, o, none⟩) sLen sCap, x]).run P w =
      .ok (.slice (some ⟨g, o, none⟩) (sLen + xs.length) sCap) (w.setRow g (cur.toList.take (o + sLen * i.size) ++ nv ++ cur.toList.drop (o + sLen * i.size + nv.length)).toArray) := by
  have hf := hx.cells w rfl
  have hst := run_storeCells_at P g (o + sLen * i.size) et nv 0 cur w hg (by simpa using hfit) h1
  simp only [Nat.add_zero] at hst
  rcases hA.ht' with h | ⟨e', h⟩ <;> simp [Builtin.append_, run_underlying hA.ht, run_underlying h, Go.sizeOf, typeInfo, hA.hi, hx.len w, hroom, hf, add_addr, hst]
theorem run_append_none {t t' ty e : TypeId} {i : TypeInfo} {z : Value} (hA : ApT P t t' e i z) (x : Value) {nv : List Value} (hx : Src P G w C i.size x [] nv) (base : Option Addr) (sLen sCap : Nat) (hroom : sLen ≤ sCap) :
    (Builtin.append_ #[t, t'] ty #[.slice base sLen sCap, x]).run P w = .ok (.slice base sLen sCap) w := by
  have hf := hx.cells w rfl
  have hl := hx.len w
  have hn : nv = [] := List.eq_nil_of_length_eq_zero (by simpa using hx.length)
  subst hn
  simp only [List.length_nil] at hf hl
  cases base <;> rcases hA.ht' with h | ⟨e', h⟩ <;> simp [Builtin.append_, run_underlying hA.ht, run_underlying h, Go.sizeOf, typeInfo, hA.hi, hl, hroom, hf, storeCells]
theorem run_append_grow' {t t' ty e : TypeId} {i : TypeInfo} {z : Value} (hA : ApT P t t' e i z) (x : Value) {xs ys : List (List AV)} {nv ov : List Value} (hx : Src P G w C i.size x xs nv)
    (base : Option Addr) (sLen sCap : Nat) (ho : Src P G w C i.size (.slice base sLen sCap) ys ov) (hlen : ys.length = sLen)
    (hg : sCap < sLen + xs.length) (hb : 0 < i.bytes) (hby : (sLen + xs.length) * i.bytes ≤ 140737488355328) :
    (Builtin.append_ #[t, t'] ty #[.slice base sLen sCap, x]).run P w =
      .ok (.slice (some ⟨w.heap.size, 0, none⟩) (sLen + xs.length) (grownCap w (sLen + xs.length) sCap e))
        (w.drew.alloc (.cells (ov.toArray ++ nv.toArray ++ Builtin.zeroCells z.cells (grownCap w (sLen + xs.length) sCap e - (sLen + xs.length))) e)) := by
  subst hlen
  have hn : ¬ (ys.length + xs.length ≤ sCap) := by omega
  have hfit := growslice_fits hg hby
  have h48' : ¬ (281474976710656 < Builtin.nextslicecap (ys.length + xs.length) sCap * i.bytes) := by omega
  have hb0 : ¬ i.bytes = 0 := by omega
  have hf := hx.cells w.drew rfl
  have hfo := ho.cells w.drew rfl
  rcases hA.ht' with h | ⟨e', h⟩ <;>
    simp [Builtin.append_, run_underlying hA.ht, run_underlying h, Go.sizeOf, typeInfo, zeroValue, hA.hi, hA.hz, hx.len w, hn, hb0, h48', Question.forced, hf, hfo, newRow, grownCap] <;>
    (congr 2; apply Array.ext'; simp [List.append_assoc])
end
end Go.Proofs.Ytpkgpldgoajphaa.AM
