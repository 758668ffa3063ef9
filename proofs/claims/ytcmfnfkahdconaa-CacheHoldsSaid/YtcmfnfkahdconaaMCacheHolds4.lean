/-
  Texts of this claim, part 4 of 6: an abstract machine over the model; what functions come to; plain laws.
-/
import Derived.Test.YtcmfnfkahdconaaMCacheHolds3
import Derived.Laws.Externs
set_option maxRecDepth 100000
set_option linter.unusedVariables false
set_option linter.unusedSimpArgs false
namespace Go.Proofs.Ytcmfnfkahdconaa.AM
open Go Go.Proofs.Ytcmfnfkahdconaa
attribute [local irreducible] ACalls funT codeT codeQ LoopTo
attribute [local irreducible] Tp.card Tp.cardT Tp.next Tp.step Tp.cards Tp.key Tp.keyT sink insSort sortK insK posK beforeK sortP cmpK byteB cutS textB byteAt intB showsC hereL seenK cardB sealB sumStep sumB ofB strL bstr
theorem textB_hi {s : ByteArray} (b : List Int) (h : 255 < s.size) : byteB b ((ByteArray.extract s 0 255).size : Nat) ++ strL (ByteArray.extract s 0 255) = textB b s := by
  have : min s.size 255 = 255 := by omega
  unfold textB cutS; rw [this]
theorem textB_lo {s : ByteArray} (b : List Int) (h : s.size ≤ 255) : byteB b (s.size : Nat) ++ strL s = textB b s := by
  have e : cutS s = s := by
    have : min s.size 255 = s.size := by omega
    unfold cutS; rw [this]; exact ByteArray.extract_zero_size
  unfold textB; rw [e]
def rbyteO_ann : Ann := { own := [7, 11], fin := some 1 }
set_option maxRecDepth 100000 in
theorem rbyteO_spec (b : List Int) (n : Int) (hb : b.length < 1048576) : ACalls Try.prog 98 [(.sl .any 1 (List.map rU8 b)), (.int .i64 n)] ([] : Heap) ((AV.osl 0 1 1 0 (byteB b n).length), ([⟨1, 1, (List.map rU8 (byteB b n)), none⟩] : Heap)) := by
  have hB := byteB_len b n
  exact specO (fn := Try.f98) (ann := rbyteO_ann) (Has.o Try.func98) (.r (.g (.r (.ao 2 85 (AV.sl .clip 1 []) (AV.sl .any 1 (List.map rU8 b)) (AV.osl 0 0 1 0 b.length) ([⟨0, 1, (List.map rU8 b), none⟩] : Heap) (evAppendO_fresh (T := tt) (e := 5) (te := { d := .int .u8, size := 1, bytes := 1, zero := [.int .u8 0] }) (z := 1) (b := 24) (y := [.sl .nil 0 []]) (row := rU8) kr kr rfl (by decide) (by decide) (by simp) (by first | (simp [rowsIn, List.map_take, List.map_drop, List.take_of_length_le]; done) | simp [rowsIn, rU8, rI64, rStr, rBool]) rfl rfl rfl om) (.ao 6 85 (AV.osl 0 0 1 0 b.length) (AV.sl .clip 1 [[(AV.int .u8 (IntKind.u8.wrap n))]]) (AV.osl 0 1 1 0 (b.length + 1)) ([⟨1, 1, (List.map rU8 (b ++ [(IntKind.u8.wrap n)])), none⟩] : Heap) (evAppendO_end (T := tt) (e := 5) (te := { d := .int .u8, size := 1, bytes := 1, zero := [.int .u8 0] }) (z := 1) (b := 24) (y := [.sl .nil 0 []]) (row := rU8) (l := b) kr kr rfl (by decide) (by decide) kr (by first | (simp [rowsIn, List.map_take, List.map_drop, List.take_of_length_le]; done) | simp [rowsIn, rU8, rI64, rStr, rBool]) om rfl rfl (by first | omega | (show _ * 1 ≤ _; omega) | (simp; done) | (simp; omega))) (.g (.f 1 (AV.osl 0 1 1 0 (b.length + 1)) (.e (AV.osl 0 1 1 0 (b.length + 1)) (by
        simp [byteB])))))))))
theorem rbyteO_at (b : List Int) (n : Int) (hb : b.length < 1048576) (H : Heap) : ACalls Try.prog 98 [(.sl .any 1 (List.map rU8 b)), (.int .i64 n)] H (.osl H.length 1 1 0 (byteB b n).length, H ++ ([⟨1, 1, (List.map rU8 (byteB b n)), none⟩] : Heap)) := (rbyteO_spec b n hb).lift_osl kr (by simp [AV.bddss, rU8_bdd]) H
theorem rbyteF_spec (b : List Int) (n : Int) (hb : b.length < 1048576) : ACalls Try.prog 98 [(.sl .any 1 (List.map rU8 b)), (.int .i64 n)] ([] : Heap) ((AV.sl .any 1 (List.map rU8 (byteB b n))), ([] : Heap)) := by
  have h1 := (rbyteO_spec b n hb).frz_osl (xs := (byteB b n).map rU8) (rowsIn_all (room := none) kr (by first | omega | simp)) (rU8_bdd _ _)
  exact ACalls.forget (H2 := []) (X := [⟨2, 1, [], none⟩]) h1 rfl kr (fun id o ho => by simp at ho)
theorem rbyteF_at (b : List Int) (n : Int) (hb : b.length < 1048576) (H : Heap) : ACalls Try.prog 98 [(.sl .any 1 (List.map rU8 b)), (.int .i64 n)] H ((AV.sl .any 1 (List.map rU8 (byteB b n))), H) := (rbyteF_spec b n hb).lift kr kr H
def rtextO_ann : Ann := { own := [15], fin := some 1 }
set_option maxRecDepth 100000 in
theorem rtextO_spec (b : List Int) (s : ByteArray) (hb : b.length < 1048576) : ACalls Try.prog 96 [(.sl .any 1 (List.map rU8 b)), (.str s)] ([] : Heap) ((AV.osl 0 2 1 0 (textB b s).length), ([⟨2, 1, (List.map rU8 (textB b s)), none⟩] : Heap)) := by
  have hT := textB_len b s
  have h7 : (ByteArray.extract s 0 255).size = min s.size 255 := by simp; omega
  have h5 := byteB_len b ((ByteArray.extract s 0 255).size : Nat)
  have h6 := strL_len (ByteArray.extract s 0 255)
  have h5b := byteB_len b ((min 255 s.size : Nat) : Int)
  have h8 := byteB_len b (s.size : Nat)
  have h9 := strL_len s
  exact specO (fn := Try.f96) (ann := rtextO_ann) (Has.o Try.func96) (.r (.g (.r (.g (.two (decide (((s.size : Nat) : Int) > 255)) (fun h1 h1' => (.r (.t 1 (AV.str (ByteArray.extract s 0 255)) ([] : Heap) (slice_str om om om om : Option.map (fun a => (a, ([] : Heap))) ((bounds 0 255 (ByteArray.size s)).map fun p => AV.str (ByteArray.extract s p.1 p.2)) = some ((AV.str (ByteArray.extract s 0 255)), ([] : Heap))) (.g (.r (.ch 3 ([⟨1, 1, (List.map rU8 (byteB b (((ByteArray.extract s 0 255).size : Nat) : Int))), none⟩] : Heap) (rbyteO_at b (((ByteArray.extract s 0 255).size : Nat) : Int) oa ([] : Heap)) (.ao 5 85 (AV.osl 0 1 1 0 (byteB b (((ByteArray.extract s 0 255).size : Nat) : Int)).length) (AV.str (ByteArray.extract s 0 255)) (AV.osl 0 2 1 0 ((byteB b (((ByteArray.extract s 0 255).size : Nat) : Int)).length + (strL (ByteArray.extract s 0 255)).length)) ([⟨2, 1, (List.map rU8 ((byteB b (((ByteArray.extract s 0 255).size : Nat) : Int)) ++ (strL (ByteArray.extract s 0 255)))), none⟩] : Heap) (evAppendO_end (T := tt) (e := 5) (te := { d := .int .u8, size := 1, bytes := 1, zero := [.int .u8 0] }) (z := 1) (b := 24) (y := [.sl .nil 0 []]) (row := rU8) (l := (byteB b (((ByteArray.extract s 0 255).size : Nat) : Int))) kr kr rfl (by decide) (by decide) kr (rows_str _ _) om rfl rfl (by first | omega | (show _ * 1 ≤ _; omega) | (simp; done) | (simp; omega))) (.g (.f 1 (AV.osl 0 2 1 0 ((byteB b (((ByteArray.extract s 0 255).size : Nat) : Int)).length + (strL (ByteArray.extract s 0 255)).length)) (.e (AV.osl 0 2 1 0 ((byteB b (((ByteArray.extract s 0 255).size : Nat) : Int)).length + (strL (ByteArray.extract s 0 255)).length)) (by
        first | (rw [← textB_hi b ow]; simp; done) | (rw [← textB_lo b ow]; simp; done)))))))))))) (fun h1 h1' => (.r (.ch 3 ([⟨1, 1, (List.map rU8 (byteB b ((s.size : Nat) : Int))), none⟩] : Heap) (rbyteO_at b ((s.size : Nat) : Int) oa ([] : Heap)) (.ao 5 85 (AV.osl 0 1 1 0 (byteB b ((s.size : Nat) : Int)).length) (AV.str s) (AV.osl 0 2 1 0 ((byteB b ((s.size : Nat) : Int)).length + (strL s).length)) ([⟨2, 1, (List.map rU8 ((byteB b ((s.size : Nat) : Int)) ++ (strL s))), none⟩] : Heap) (evAppendO_end (T := tt) (e := 5) (te := { d := .int .u8, size := 1, bytes := 1, zero := [.int .u8 0] }) (z := 1) (b := 24) (y := [.sl .nil 0 []]) (row := rU8) (l := (byteB b ((s.size : Nat) : Int))) kr kr rfl (by decide) (by decide) kr (rows_str _ _) om rfl rfl (by first | omega | (show _ * 1 ≤ _; omega) | (simp; done) | (simp; omega))) (.g (.f 1 (AV.osl 0 2 1 0 ((byteB b ((s.size : Nat) : Int)).length + (strL s).length)) (.e (AV.osl 0 2 1 0 ((byteB b ((s.size : Nat) : Int)).length + (strL s).length)) (by
        first | (rw [← textB_hi b ow]; simp; done) | (rw [← textB_lo b ow]; simp; done))))))))))))))
theorem rtextF_spec (b : List Int) (s : ByteArray) (hb : b.length < 1048576) : ACalls Try.prog 96 [(.sl .any 1 (List.map rU8 b)), (.str s)] ([] : Heap) ((AV.sl .any 1 (List.map rU8 (textB b s))), ([] : Heap)) := by
  have h1 := (rtextO_spec b s hb).frz_osl (xs := (textB b s).map rU8) (rowsIn_all (room := none) kr (by first | omega | simp)) (rU8_bdd _ _)
  exact ACalls.forget (H2 := []) (X := [⟨3, 1, [], none⟩]) h1 rfl kr (fun id o ho => by simp at ho)
theorem rtextF_at (b : List Int) (s : ByteArray) (hb : b.length < 1048576) (H : Heap) : ACalls Try.prog 96 [(.sl .any 1 (List.map rU8 b)), (.str s)] H ((AV.sl .any 1 (List.map rU8 (textB b s))), H) := (rtextF_spec b s hb).lift kr kr H
def rint_ann : Ann := { own := [9, 21], gh := [(6, .frz 5)], fin := some 0 }
@[simp] abbrev Su_1 (v1_ : List Int) (v2_ : Int) : Heap := [⟨8, 1, (List.map rU8 ((((((((v1_ ++ [(IntKind.u8.wrap (Int.fdiv v2_ (2 ^ (min (Int.toNat 56) 64))))]) ++ [(IntKind.u8.wrap (Int.fdiv v2_ (2 ^ (min (Int.toNat 48) 64))))]) ++ [(IntKind.u8.wrap (Int.fdiv v2_ (2 ^ (min (Int.toNat 40) 64))))]) ++ [(IntKind.u8.wrap (Int.fdiv v2_ (2 ^ (min (Int.toNat 32) 64))))]) ++ [(IntKind.u8.wrap (Int.fdiv v2_ (2 ^ (min (Int.toNat 24) 64))))]) ++ [(IntKind.u8.wrap (Int.fdiv v2_ (2 ^ (min (Int.toNat 16) 64))))]) ++ [(IntKind.u8.wrap (Int.fdiv v2_ (2 ^ (min (Int.toNat 8) 64))))]) ++ [(IntKind.u8.wrap (Int.fdiv v2_ (2 ^ (min (Int.toNat 0) 64))))])), none⟩]
set_option maxRecDepth 100000 in
theorem rint_spec (b : List Int) (n : Int) (hb : b.length < 1048576) : ACalls Try.prog 97 [(.sl .any 1 (List.map rU8 b)), (.int .i64 n)] ([] : Heap) ((AV.sl .any 1 (List.map rU8 (intB b n))), ([] : Heap)) :=
  specO (fn := Try.f97) (ann := rint_ann) (Has.o Try.func97) (.r (.g (.r (.ao 2 85 (AV.sl .clip 1 []) (AV.sl .any 1 (List.map rU8 b)) (AV.osl 0 0 1 0 b.length) ([⟨0, 1, (List.map rU8 b), none⟩] : Heap) (evAppendO_fresh (T := tt) (e := 5) (te := { d := .int .u8, size := 1, bytes := 1, zero := [.int .u8 0] }) (z := 1) (b := 24) (y := [.sl .nil 0 []]) (row := rU8) kr kr rfl (by decide) (by decide) (by simp) (by first | (simp [rowsIn, List.map_take, List.map_drop, List.take_of_length_le]; done) | simp [rowsIn, rU8, rI64, rStr, rBool]) rfl rfl rfl om) (.g (.r (.g (.roll 9 (.r (.g (.yes (.r (.ao 7 85 (AV.osl 0 0 1 0 b.length) (AV.sl .clip 1 [[(AV.int .u8 (IntKind.u8.wrap (Int.fdiv n (2 ^ (min (Int.toNat 56) 64)))))]]) (AV.osl 0 1 1 0 (b.length + 1)) ([⟨1, 1, (List.map rU8 (b ++ [(IntKind.u8.wrap (Int.fdiv n (2 ^ (min (Int.toNat 56) 64))))])), none⟩] : Heap) (evAppendO_end (T := tt) (e := 5) (te := { d := .int .u8, size := 1, bytes := 1, zero := [.int .u8 0] }) (z := 1) (b := 24) (y := [.sl .nil 0 []]) (row := rU8) (l := b) kr kr rfl (by decide) (by decide) kr (by first | (simp [rowsIn, List.map_take, List.map_drop, List.take_of_length_le]; done) | simp [rowsIn, rU8, rI64, rStr, rBool]) om rfl rfl (by first | omega | (show _ * 1 ≤ _; omega) | (simp; done) | (simp; omega))) (.g (.r (.g (.r (.g (.yes (.r (.ao 7 85 (AV.osl 0 1 1 0 (b.length + 1)) (AV.sl .clip 1 [[(AV.int .u8 (IntKind.u8.wrap (Int.fdiv n (2 ^ (min (Int.toNat 48) 64)))))]]) (AV.osl 0 2 1 0 ((b.length + 1) + 1)) ([⟨2, 1, (List.map rU8 ((b ++ [(IntKind.u8.wrap (Int.fdiv n (2 ^ (min (Int.toNat 56) 64))))]) ++ [(IntKind.u8.wrap (Int.fdiv n (2 ^ (min (Int.toNat 48) 64))))])), none⟩] : Heap) (evAppendO_end (T := tt) (e := 5) (te := { d := .int .u8, size := 1, bytes := 1, zero := [.int .u8 0] }) (z := 1) (b := 24) (y := [.sl .nil 0 []]) (row := rU8) (l := b ++ [(IntKind.u8.wrap (Int.fdiv n (2 ^ (min (Int.toNat 56) 64))))]) kr kr rfl (by decide) (by decide) kr (by first | (simp [rowsIn, List.map_take, List.map_drop, List.take_of_length_le]; done) | simp [rowsIn, rU8, rI64, rStr, rBool]) om rfl rfl (by first | omega | (show _ * 1 ≤ _; omega) | (simp; done) | (simp; omega))) (.g (.r (.g (.r (.g (.yes (.r (.ao 7 85 (AV.osl 0 2 1 0 ((b.length + 1) + 1)) (AV.sl .clip 1 [[(AV.int .u8 (IntKind.u8.wrap (Int.fdiv n (2 ^ (min (Int.toNat 40) 64)))))]]) (AV.osl 0 3 1 0 (((b.length + 1) + 1) + 1)) ([⟨3, 1, (List.map rU8 (((b ++ [(IntKind.u8.wrap (Int.fdiv n (2 ^ (min (Int.toNat 56) 64))))]) ++ [(IntKind.u8.wrap (Int.fdiv n (2 ^ (min (Int.toNat 48) 64))))]) ++ [(IntKind.u8.wrap (Int.fdiv n (2 ^ (min (Int.toNat 40) 64))))])), none⟩] : Heap) (evAppendO_end (T := tt) (e := 5) (te := { d := .int .u8, size := 1, bytes := 1, zero := [.int .u8 0] }) (z := 1) (b := 24) (y := [.sl .nil 0 []]) (row := rU8) (l := (b ++ [(IntKind.u8.wrap (Int.fdiv n (2 ^ (min (Int.toNat 56) 64))))]) ++ [(IntKind.u8.wrap (Int.fdiv n (2 ^ (min (Int.toNat 48) 64))))]) kr kr rfl (by decide) (by decide) kr (by first | (simp [rowsIn, List.map_take, List.map_drop, List.take_of_length_le]; done) | simp [rowsIn, rU8, rI64, rStr, rBool]) om rfl rfl (by first | omega | (show _ * 1 ≤ _; omega) | (simp; done) | (simp; omega))) (.g (.r (.g (.r (.g (.yes (.r (.ao 7 85 (AV.osl 0 3 1 0 (((b.length + 1) + 1) + 1)) (AV.sl .clip 1 [[(AV.int .u8 (IntKind.u8.wrap (Int.fdiv n (2 ^ (min (Int.toNat 32) 64)))))]]) (AV.osl 0 4 1 0 ((((b.length + 1) + 1) + 1) + 1)) ([⟨4, 1, (List.map rU8 ((((b ++ [(IntKind.u8.wrap (Int.fdiv n (2 ^ (min (Int.toNat 56) 64))))]) ++ [(IntKind.u8.wrap (Int.fdiv n (2 ^ (min (Int.toNat 48) 64))))]) ++ [(IntKind.u8.wrap (Int.fdiv n (2 ^ (min (Int.toNat 40) 64))))]) ++ [(IntKind.u8.wrap (Int.fdiv n (2 ^ (min (Int.toNat 32) 64))))])), none⟩] : Heap) (evAppendO_end (T := tt) (e := 5) (te := { d := .int .u8, size := 1, bytes := 1, zero := [.int .u8 0] }) (z := 1) (b := 24) (y := [.sl .nil 0 []]) (row := rU8) (l := ((b ++ [(IntKind.u8.wrap (Int.fdiv n (2 ^ (min (Int.toNat 56) 64))))]) ++ [(IntKind.u8.wrap (Int.fdiv n (2 ^ (min (Int.toNat 48) 64))))]) ++ [(IntKind.u8.wrap (Int.fdiv n (2 ^ (min (Int.toNat 40) 64))))]) kr kr rfl (by decide) (by decide) kr (by first | (simp [rowsIn, List.map_take, List.map_drop, List.take_of_length_le]; done) | simp [rowsIn, rU8, rI64, rStr, rBool]) om rfl rfl (by first | omega | (show _ * 1 ≤ _; omega) | (simp; done) | (simp; omega))) (.g (.r (.g (.r (.g (.yes (.r (.ao 7 85 (AV.osl 0 4 1 0 ((((b.length + 1) + 1) + 1) + 1)) (AV.sl .clip 1 [[(AV.int .u8 (IntKind.u8.wrap (Int.fdiv n (2 ^ (min (Int.toNat 24) 64)))))]]) (AV.osl 0 5 1 0 (((((b.length + 1) + 1) + 1) + 1) + 1)) ([⟨5, 1, (List.map rU8 (((((b ++ [(IntKind.u8.wrap (Int.fdiv n (2 ^ (min (Int.toNat 56) 64))))]) ++ [(IntKind.u8.wrap (Int.fdiv n (2 ^ (min (Int.toNat 48) 64))))]) ++ [(IntKind.u8.wrap (Int.fdiv n (2 ^ (min (Int.toNat 40) 64))))]) ++ [(IntKind.u8.wrap (Int.fdiv n (2 ^ (min (Int.toNat 32) 64))))]) ++ [(IntKind.u8.wrap (Int.fdiv n (2 ^ (min (Int.toNat 24) 64))))])), none⟩] : Heap) (evAppendO_end (T := tt) (e := 5) (te := { d := .int .u8, size := 1, bytes := 1, zero := [.int .u8 0] }) (z := 1) (b := 24) (y := [.sl .nil 0 []]) (row := rU8) (l := (((b ++ [(IntKind.u8.wrap (Int.fdiv n (2 ^ (min (Int.toNat 56) 64))))]) ++ [(IntKind.u8.wrap (Int.fdiv n (2 ^ (min (Int.toNat 48) 64))))]) ++ [(IntKind.u8.wrap (Int.fdiv n (2 ^ (min (Int.toNat 40) 64))))]) ++ [(IntKind.u8.wrap (Int.fdiv n (2 ^ (min (Int.toNat 32) 64))))]) kr kr rfl (by decide) (by decide) kr (by first | (simp [rowsIn, List.map_take, List.map_drop, List.take_of_length_le]; done) | simp [rowsIn, rU8, rI64, rStr, rBool]) om rfl rfl (by first | omega | (show _ * 1 ≤ _; omega) | (simp; done) | (simp; omega))) (.g (.r (.g (.r (.g (.yes (.r (.ao 7 85 (AV.osl 0 5 1 0 (((((b.length + 1) + 1) + 1) + 1) + 1)) (AV.sl .clip 1 [[(AV.int .u8 (IntKind.u8.wrap (Int.fdiv n (2 ^ (min (Int.toNat 16) 64)))))]]) (AV.osl 0 6 1 0 ((((((b.length + 1) + 1) + 1) + 1) + 1) + 1)) ([⟨6, 1, (List.map rU8 ((((((b ++ [(IntKind.u8.wrap (Int.fdiv n (2 ^ (min (Int.toNat 56) 64))))]) ++ [(IntKind.u8.wrap (Int.fdiv n (2 ^ (min (Int.toNat 48) 64))))]) ++ [(IntKind.u8.wrap (Int.fdiv n (2 ^ (min (Int.toNat 40) 64))))]) ++ [(IntKind.u8.wrap (Int.fdiv n (2 ^ (min (Int.toNat 32) 64))))]) ++ [(IntKind.u8.wrap (Int.fdiv n (2 ^ (min (Int.toNat 24) 64))))]) ++ [(IntKind.u8.wrap (Int.fdiv n (2 ^ (min (Int.toNat 16) 64))))])), none⟩] : Heap) (evAppendO_end (T := tt) (e := 5) (te := { d := .int .u8, size := 1, bytes := 1, zero := [.int .u8 0] }) (z := 1) (b := 24) (y := [.sl .nil 0 []]) (row := rU8) (l := ((((b ++ [(IntKind.u8.wrap (Int.fdiv n (2 ^ (min (Int.toNat 56) 64))))]) ++ [(IntKind.u8.wrap (Int.fdiv n (2 ^ (min (Int.toNat 48) 64))))]) ++ [(IntKind.u8.wrap (Int.fdiv n (2 ^ (min (Int.toNat 40) 64))))]) ++ [(IntKind.u8.wrap (Int.fdiv n (2 ^ (min (Int.toNat 32) 64))))]) ++ [(IntKind.u8.wrap (Int.fdiv n (2 ^ (min (Int.toNat 24) 64))))]) kr kr rfl (by decide) (by decide) kr (by first | (simp [rowsIn, List.map_take, List.map_drop, List.take_of_length_le]; done) | simp [rowsIn, rU8, rI64, rStr, rBool]) om rfl rfl (by first | omega | (show _ * 1 ≤ _; omega) | (simp; done) | (simp; omega))) (.g (.r (.g (.r (.g (.yes (.r (.ao 7 85 (AV.osl 0 6 1 0 ((((((b.length + 1) + 1) + 1) + 1) + 1) + 1)) (AV.sl .clip 1 [[(AV.int .u8 (IntKind.u8.wrap (Int.fdiv n (2 ^ (min (Int.toNat 8) 64)))))]]) (AV.osl 0 7 1 0 (((((((b.length + 1) + 1) + 1) + 1) + 1) + 1) + 1)) ([⟨7, 1, (List.map rU8 (((((((b ++ [(IntKind.u8.wrap (Int.fdiv n (2 ^ (min (Int.toNat 56) 64))))]) ++ [(IntKind.u8.wrap (Int.fdiv n (2 ^ (min (Int.toNat 48) 64))))]) ++ [(IntKind.u8.wrap (Int.fdiv n (2 ^ (min (Int.toNat 40) 64))))]) ++ [(IntKind.u8.wrap (Int.fdiv n (2 ^ (min (Int.toNat 32) 64))))]) ++ [(IntKind.u8.wrap (Int.fdiv n (2 ^ (min (Int.toNat 24) 64))))]) ++ [(IntKind.u8.wrap (Int.fdiv n (2 ^ (min (Int.toNat 16) 64))))]) ++ [(IntKind.u8.wrap (Int.fdiv n (2 ^ (min (Int.toNat 8) 64))))])), none⟩] : Heap) (evAppendO_end (T := tt) (e := 5) (te := { d := .int .u8, size := 1, bytes := 1, zero := [.int .u8 0] }) (z := 1) (b := 24) (y := [.sl .nil 0 []]) (row := rU8) (l := (((((b ++ [(IntKind.u8.wrap (Int.fdiv n (2 ^ (min (Int.toNat 56) 64))))]) ++ [(IntKind.u8.wrap (Int.fdiv n (2 ^ (min (Int.toNat 48) 64))))]) ++ [(IntKind.u8.wrap (Int.fdiv n (2 ^ (min (Int.toNat 40) 64))))]) ++ [(IntKind.u8.wrap (Int.fdiv n (2 ^ (min (Int.toNat 32) 64))))]) ++ [(IntKind.u8.wrap (Int.fdiv n (2 ^ (min (Int.toNat 24) 64))))]) ++ [(IntKind.u8.wrap (Int.fdiv n (2 ^ (min (Int.toNat 16) 64))))]) kr kr rfl (by decide) (by decide) kr (by first | (simp [rowsIn, List.map_take, List.map_drop, List.take_of_length_le]; done) | simp [rowsIn, rU8, rI64, rStr, rBool]) om rfl rfl (by first | omega | (show _ * 1 ≤ _; omega) | (simp; done) | (simp; omega))) (.g (.r (.g (.r (.g (.yes (.r (.ao 7 85 (AV.osl 0 7 1 0 (((((((b.length + 1) + 1) + 1) + 1) + 1) + 1) + 1)) (AV.sl .clip 1 [[(AV.int .u8 (IntKind.u8.wrap (Int.fdiv n (2 ^ (min (Int.toNat 0) 64)))))]]) (AV.osl 0 8 1 0 ((((((((b.length + 1) + 1) + 1) + 1) + 1) + 1) + 1) + 1)) (Su_1 b n) (evAppendO_end (T := tt) (e := 5) (te := { d := .int .u8, size := 1, bytes := 1, zero := [.int .u8 0] }) (z := 1) (b := 24) (y := [.sl .nil 0 []]) (row := rU8) (l := ((((((b ++ [(IntKind.u8.wrap (Int.fdiv n (2 ^ (min (Int.toNat 56) 64))))]) ++ [(IntKind.u8.wrap (Int.fdiv n (2 ^ (min (Int.toNat 48) 64))))]) ++ [(IntKind.u8.wrap (Int.fdiv n (2 ^ (min (Int.toNat 40) 64))))]) ++ [(IntKind.u8.wrap (Int.fdiv n (2 ^ (min (Int.toNat 32) 64))))]) ++ [(IntKind.u8.wrap (Int.fdiv n (2 ^ (min (Int.toNat 24) 64))))]) ++ [(IntKind.u8.wrap (Int.fdiv n (2 ^ (min (Int.toNat 16) 64))))]) ++ [(IntKind.u8.wrap (Int.fdiv n (2 ^ (min (Int.toNat 8) 64))))]) kr kr rfl (by decide) (by decide) kr (by first | (simp [rowsIn, List.map_take, List.map_drop, List.take_of_length_le]; done) | simp [rowsIn, rU8, rI64, rStr, rBool]) om rfl rfl (by first | omega | (show _ * 1 ≤ _; omega) | (simp; done) | (simp; omega))) (.g (.r (.g (.r (.g (.no (.r (.w 5 (List.map rU8 ((((((((b ++ [(IntKind.u8.wrap (Int.fdiv n (2 ^ (min (Int.toNat 56) 64))))]) ++ [(IntKind.u8.wrap (Int.fdiv n (2 ^ (min (Int.toNat 48) 64))))]) ++ [(IntKind.u8.wrap (Int.fdiv n (2 ^ (min (Int.toNat 40) 64))))]) ++ [(IntKind.u8.wrap (Int.fdiv n (2 ^ (min (Int.toNat 32) 64))))]) ++ [(IntKind.u8.wrap (Int.fdiv n (2 ^ (min (Int.toNat 24) 64))))]) ++ [(IntKind.u8.wrap (Int.fdiv n (2 ^ (min (Int.toNat 16) 64))))]) ++ [(IntKind.u8.wrap (Int.fdiv n (2 ^ (min (Int.toNat 8) 64))))]) ++ [(IntKind.u8.wrap (Int.fdiv n (2 ^ (min (Int.toNat 0) 64))))])) (And.intro (rowsIn_all (room := none) kr om) (rU8_bdd _ _) : rowsIn (Su_1 b n) 1 (AV.osl 0 8 1 0 ((((((((b.length + 1) + 1) + 1) + 1) + 1) + 1) + 1) + 1)) = some (List.map rU8 ((((((((b ++ [(IntKind.u8.wrap (Int.fdiv n (2 ^ (min (Int.toNat 56) 64))))]) ++ [(IntKind.u8.wrap (Int.fdiv n (2 ^ (min (Int.toNat 48) 64))))]) ++ [(IntKind.u8.wrap (Int.fdiv n (2 ^ (min (Int.toNat 40) 64))))]) ++ [(IntKind.u8.wrap (Int.fdiv n (2 ^ (min (Int.toNat 32) 64))))]) ++ [(IntKind.u8.wrap (Int.fdiv n (2 ^ (min (Int.toNat 24) 64))))]) ++ [(IntKind.u8.wrap (Int.fdiv n (2 ^ (min (Int.toNat 16) 64))))]) ++ [(IntKind.u8.wrap (Int.fdiv n (2 ^ (min (Int.toNat 8) 64))))]) ++ [(IntKind.u8.wrap (Int.fdiv n (2 ^ (min (Int.toNat 0) 64))))])) ∧ AV.bddss 0 (List.map rU8 ((((((((b ++ [(IntKind.u8.wrap (Int.fdiv n (2 ^ (min (Int.toNat 56) 64))))]) ++ [(IntKind.u8.wrap (Int.fdiv n (2 ^ (min (Int.toNat 48) 64))))]) ++ [(IntKind.u8.wrap (Int.fdiv n (2 ^ (min (Int.toNat 40) 64))))]) ++ [(IntKind.u8.wrap (Int.fdiv n (2 ^ (min (Int.toNat 32) 64))))]) ++ [(IntKind.u8.wrap (Int.fdiv n (2 ^ (min (Int.toNat 24) 64))))]) ++ [(IntKind.u8.wrap (Int.fdiv n (2 ^ (min (Int.toNat 16) 64))))]) ++ [(IntKind.u8.wrap (Int.fdiv n (2 ^ (min (Int.toNat 8) 64))))]) ++ [(IntKind.u8.wrap (Int.fdiv n (2 ^ (min (Int.toNat 0) 64))))])) = true) (.g (.h' ([] : Heap) (.f 0 (AV.sl .any 1 (List.map rU8 ((((((((b ++ [(IntKind.u8.wrap (Int.fdiv n (2 ^ (min (Int.toNat 56) 64))))]) ++ [(IntKind.u8.wrap (Int.fdiv n (2 ^ (min (Int.toNat 48) 64))))]) ++ [(IntKind.u8.wrap (Int.fdiv n (2 ^ (min (Int.toNat 40) 64))))]) ++ [(IntKind.u8.wrap (Int.fdiv n (2 ^ (min (Int.toNat 32) 64))))]) ++ [(IntKind.u8.wrap (Int.fdiv n (2 ^ (min (Int.toNat 24) 64))))]) ++ [(IntKind.u8.wrap (Int.fdiv n (2 ^ (min (Int.toNat 16) 64))))]) ++ [(IntKind.u8.wrap (Int.fdiv n (2 ^ (min (Int.toNat 8) 64))))]) ++ [(IntKind.u8.wrap (Int.fdiv n (2 ^ (min (Int.toNat 0) 64))))]))) (.e (AV.sl .any 1 (List.map rU8 ((((((((b ++ [(IntKind.u8.wrap (Int.fdiv n (2 ^ (min (Int.toNat 56) 64))))]) ++ [(IntKind.u8.wrap (Int.fdiv n (2 ^ (min (Int.toNat 48) 64))))]) ++ [(IntKind.u8.wrap (Int.fdiv n (2 ^ (min (Int.toNat 40) 64))))]) ++ [(IntKind.u8.wrap (Int.fdiv n (2 ^ (min (Int.toNat 32) 64))))]) ++ [(IntKind.u8.wrap (Int.fdiv n (2 ^ (min (Int.toNat 24) 64))))]) ++ [(IntKind.u8.wrap (Int.fdiv n (2 ^ (min (Int.toNat 16) 64))))]) ++ [(IntKind.u8.wrap (Int.fdiv n (2 ^ (min (Int.toNat 8) 64))))]) ++ [(IntKind.u8.wrap (Int.fdiv n (2 ^ (min (Int.toNat 0) 64))))]))) (by
        simp [intB, byteAt]))))))))))))))))))))))))))))))))))))))))))))))))))))))))))))))))))))))))))))))))))
theorem rint_at (b : List Int) (n : Int) (hb : b.length < 1048576) (H : Heap) : ACalls Try.prog 97 [(.sl .any 1 (List.map rU8 b)), (.int .i64 n)] H ((AV.sl .any 1 (List.map rU8 (intB b n))), H) := (rint_spec b n hb).lift kr kr H
def rsum_ann : Ann := { fin := some 0, live := [(3, [0, 3, 4])], out := [(3, [3])] }
@[simp] abbrev Su_2 (v1_ : List Int) (v2_ : Int) (v3_ : Nat) : Fr := (mkF 21 [(0, (AV.sl .any 1 (List.map rU8 v1_))), (3, (AV.int .u32 v2_)), (4, (AV.int .i64 ((v3_ : Nat) : Int)))])
set_option maxRecDepth 100000 in
theorem rsum_step (l : List Int) (h : Int) (i : Nat) (hl : l.length < 1048576) (hle_ : i ≤ l.length) {eX : Ex} {FX : Fr} {HX : Heap} (k1 : (decide (((i : Nat) : Int) < ((l.length : Nat) : Int))) = true → LoopTo (codeQ Try.prog (X rsum_ann) (loopOf Try.f59 0)) (some [0, 3, 4]) (some [3]) (mkF 21 [(0, (.sl .any 1 (List.map rU8 l))), (3, (.int .u32 (IntKind.u32.wrap ((IntKind.u32.wrap ((IntKind.u32.wrap (h * 31)) + (IntKind.u32.wrap (nth l i)))) + 7)))), (4, (.int .i64 ((i + 1 : Nat) : Int)))]) ([] : Heap) eX FX HX) (k2 : (decide (((i : Nat) : Int) < ((l.length : Nat) : Int))) = false → ((.exit 0 : Ex), (mkF 21 [(3, (.int .u32 h))]), ([] : Heap)) = (eX, FX, HX)) : LoopTo (codeQ Try.prog (X rsum_ann) (loopOf Try.f59 0)) (some [0, 3, 4]) (some [3]) (Su_2 l h i) ([] : Heap) eX FX HX :=
  stepO (.r (.y 2 (.int .i64 ((List.length (List.map rU8 l) : Nat) : Int)) (AV.int .i64 ((l.length : Nat) : Int)) (Yes.len _ _ _) (.g (.two (decide (((i : Nat) : Int) < ((l.length : Nat) : Int))) (fun h1 h1' => (.r (.is 4 1 1 (List.map rU8 l) ((i : Nat) : Int) (rU8 (nth l i)) (IdxSl.mk _ ow ow) (.g (.r (.y 1 (.int .i64 (IntKind.i64.wrap (((i : Nat) : Int) + 1))) (AV.int .i64 ((i + 1 : Nat) : Int)) (Yes.add ow ow ow) (.g (.l (k1 h1))))))))) (fun h1 h1' => (.l (k2 h1)))))))
def rsum_f (l : List Int) (i : Nat) (s : Int) : Int := ((IntKind.u32.wrap ((IntKind.u32.wrap ((IntKind.u32.wrap (s * 31)) + (IntKind.u32.wrap (nth l i)))) + 7)))
theorem rsum_loop (l : List Int) (hl : l.length < 1048576)  (r_ : Nat) : ∀ (h : Int) (i : Nat) (sF : Int), i + r_ = l.length → sF = iter (rsum_f l) r_ i (h) →
    LoopTo (codeQ Try.prog (X rsum_ann) (loopOf Try.f59 0)) (some [0, 3, 4]) (some [3]) (Su_2 l h i) ([] : Heap) (.exit 0) (mkF 21 [(3, (.int .u32 sF))]) ([] : Heap) := by
  induction r_ with
  | zero =>
    intro h i sF hi_   hF
    obtain rfl : l.length = i := by omega
    have e_ : sF = (h) := hF
    refine rsum_step l h l.length hl (Nat.le_refl _) (fun h => by simp at h <;> omega) (fun _ => ?_)
    first | done | rfl | (rw [e_]; done) | (rw [e_]; rfl)
  | succ r_ ih =>
    intro h i sF hi_   hF
    refine rsum_step l h i hl ow (fun h1 => ?_) (fun h => by simp at h <;> omega)
    · exact ih (IntKind.u32.wrap ((IntKind.u32.wrap ((IntKind.u32.wrap (h * 31)) + (IntKind.u32.wrap (nth l i)))) + 7)) (i + 1) sF ow   (by rw [hF] <;> simp only [iter, rsum_f, if_true, Bool.false_eq_true, if_false])
theorem rsum_iter (l : List Int) : sumB l = iter (rsum_f l) l.length 0 17 := by unfold sumB; exact (iter_all (rsum_f l) sumStep l (fun i s hi => by unfold rsum_f sumStep; rfl) 17).symm
set_option maxRecDepth 100000 in
theorem rsum_spec (l : List Int) (hl : l.length < 1048576) : ACalls Try.prog 59 [(.sl .any 1 (List.map rU8 l))] ([] : Heap) ((AV.int .u32 (sumB l)), ([] : Heap)) :=
  specO (fn := Try.f59) (ann := rsum_ann) (Has.o Try.func59) (.r (.g (.r (.g (.r (.g (.loop (mkF 21 [(3, (.int .u32 (sumB l)))]) (show LoopTo (codeQ Try.prog (X rsum_ann) (loopOf Try.f59 0)) (some [0, 3, 4]) (some [3]) (mkF 21 [(0, (.sl .any 1 (List.map rU8 l))), (3, (.int .u32 17)), (4, (.int .i64 0))]) ([] : Heap) (.exit 0) (mkF 21 [(3, (.int .u32 (sumB l)))]) ([] : Heap) from (rsum_loop l hl (List.length l) 17 0 (sumB l) ow (rsum_iter _))) (.r (.g (.f 0 (AV.int .u32 (sumB l)) (.e (AV.int .u32 (sumB l)))))))))))))
theorem rsum_at (l : List Int) (hl : l.length < 1048576) (H : Heap) : ACalls Try.prog 59 [(.sl .any 1 (List.map rU8 l))] H ((AV.int .u32 (sumB l)), H) := (rsum_spec l hl).lift kr kr H
def rseen_ann : Ann := { gh := [(8, .frz 3)], gha := [(1, .vir 3 9), (7, .cut 1)], fin := some 0, live := [(3, [3, 7, 8, 9])], out := [(3, [3, 7, 8, 9])] }
@[simp] abbrev Su_3 (v1_ : Nat) (v2_ : List Card) (v3_ : List Card) (v4_ : Nat) : Heap := [⟨(v1_ + 1), 9, (List.map Card.row (v2_ ++ [(nth v3_ v4_)])), none⟩]
@[simp] abbrev Su_4 (v1_ : Nat) (v2_ : Nat) (v3_ : List Card) (v4_ : Nat) : Fr := (mkF 22 [(3, (AV.osl 0 v1_ 9 0 v2_)), (7, (AV.sl .any 9 (List.map Card.row v3_))), (8, (AV.int .i64 ((v3_.length : Nat) : Int))), (9, (AV.int .i64 ((v4_ : Nat) : Int)))])
@[simp] abbrev Su_5 (v1_ : Nat) (v2_ : List Card) (v3_ : List Card) (v4_ : Nat) : Heap := [⟨v1_, 9, (List.map Card.row v2_), none⟩, ⟨0, 9, [(Card.row (nth v3_ v4_))], none⟩]
set_option maxRecDepth 100000 in
theorem rseen_step (l : List Card) (out : List Card) (k : Nat) (g : Nat) (i : Nat) (hl : l.length < 1048576) (hk : k = out.length) (hki : k ≤ i) (hle_ : i ≤ l.length) {eX : Ex} {FX : Fr} {HX : Heap} (k1 : (decide (((i : Nat) : Int) < ((l.length : Nat) : Int))) = true → (!(nth l i).gone) = true → LoopTo (codeQ Try.prog (X rseen_ann) (loopOf Try.f18 0)) (some [3, 7, 8, 9]) (some [3, 7, 8, 9]) (mkF 22 [(3, (.osl 0 (g + 1) 9 0 (k + 1))), (7, (.sl .any 9 (List.map Card.row l))), (8, (.int .i64 ((l.length : Nat) : Int))), (9, (.int .i64 ((i + 1 : Nat) : Int)))]) (Su_3 g out l i) eX FX HX) (k2 : (decide (((i : Nat) : Int) < ((l.length : Nat) : Int))) = true → (!(nth l i).gone) = false → LoopTo (codeQ Try.prog (X rseen_ann) (loopOf Try.f18 0)) (some [3, 7, 8, 9]) (some [3, 7, 8, 9]) (mkF 22 [(3, (.osl 0 g 9 0 k)), (7, (.sl .any 9 (List.map Card.row l))), (8, (.int .i64 ((l.length : Nat) : Int))), (9, (.int .i64 ((i + 1 : Nat) : Int)))]) ([⟨g, 9, (List.map Card.row out), none⟩] : Heap) eX FX HX) (k3 : (decide (((i : Nat) : Int) < ((l.length : Nat) : Int))) = false → ((.exit 0 : Ex), (Su_4 g k l i), ([⟨g, 9, (List.map Card.row out), none⟩] : Heap)) = (eX, FX, HX)) : LoopTo (codeQ Try.prog (X rseen_ann) (loopOf Try.f18 0)) (some [3, 7, 8, 9]) (some [3, 7, 8, 9]) (Su_4 g k l i) ([⟨g, 9, (List.map Card.row out), none⟩] : Heap) eX FX HX :=
  stepO (.r (.g (.two (decide (((i : Nat) : Int) < ((l.length : Nat) : Int))) (fun h1 h1' => (.r (.h' ([⟨g, 9, (List.map Card.row out), none⟩, ⟨0, 9, [[(AV.str ⟨#[]⟩), (AV.str ⟨#[]⟩), (AV.int .i64 0), (AV.int .i64 0), (AV.int .i64 0), (AV.int .i64 0), (AV.int .i64 0), (AV.int .i64 0), (AV.bool false)]], none⟩] : Heap) (.is 0 9 9 (List.map Card.row l) ((i : Nat) : Int) (Card.row (nth l i)) (IdxSl.mk _ ow ow) (.g (.r (.g (.two (!(nth l i).gone) (fun h2 h2' => (.r (.h' (Su_5 g out l i) (.ap 3 33 (AV.osl 0 g 9 0 k) (AV.sl .clip 9 [(Card.row (nth l i))]) (AV.osl 0 (g + 1) 9 0 (k + 1)) ([⟨(g + 1), 9, (List.map Card.row (out ++ [(nth l i)])), none⟩, ⟨0, 9, [(Card.row (nth l i))], none⟩] : Heap) (evAppend_one (row := Card.row) (l := out) (x := (nth l i)) (T := tt) (e := 58) (te := { d := .struct [(31, 0), (3, 2), (3, 3), (2, 4), (56, 5), (4, 8)], size := 9, bytes := 88, zero := [.str ⟨#[]⟩, .str ⟨#[]⟩, .int .i64 0, .int .i64 0, .int .i64 0, .int .i64 0, .int .i64 0, .int .i64 0, .bool false] }) (z := 1) (b := 24) (y := [.sl .nil 0 []]) kr kr rfl (by decide) (by decide) kr (by first | assumption | omega | (simp; done) | (simp; omega)) rfl rfl (by first | omega | (show _ * 88 ≤ _; omega) | (simp; omega))) (.g (.r (.y 0 (.int .i64 (IntKind.i64.wrap (((i : Nat) : Int) + 1))) (AV.int .i64 ((i + 1 : Nat) : Int)) (Yes.add ow ow ow) (.h' (Su_3 g out l i) (.b 1 (.g (.l (k1 h1 h2)))))))))))) (fun h2 h2' => (.r (.h' (Su_5 g out l i) (.y 0 (.int .i64 (IntKind.i64.wrap (((i : Nat) : Int) + 1))) (AV.int .i64 ((i + 1 : Nat) : Int)) (Yes.add ow ow ow) (.h' ([⟨g, 9, (List.map Card.row out), none⟩] : Heap) (.b 1 (.g (.l (k2 h1 h2))))))))))))))))) (fun h1 h1' => (.l (k3 h1))))))
def rseen_f (l : List Card) (i : Nat) (s : (List Card) × Nat × Nat) : (List Card) × Nat × Nat := (if (!(nth l i).gone) = true then (s.1 ++ [(nth l i)], (s.2.1 + 1), (s.2.2 + 1)) else (s.1, s.2.1, s.2.2))
theorem rseen_loop (l : List Card) (hl : l.length < 1048576)  (r_ : Nat) : ∀ (out : List Card) (k : Nat) (g : Nat) (i : Nat) (sF : (List Card) × Nat × Nat), i + r_ = l.length → k = out.length → k ≤ i → sF = iter (rseen_f l) r_ i (out, k, g) →
    LoopTo (codeQ Try.prog (X rseen_ann) (loopOf Try.f18 0)) (some [3, 7, 8, 9]) (some [3, 7, 8, 9]) (Su_4 g k l i) ([⟨g, 9, (List.map Card.row out), none⟩] : Heap) (.exit 0) (mkF 22 [(3, (.osl 0 sF.2.2 9 0 sF.2.1)), (7, (.sl .any 9 (List.map Card.row l))), (8, (.int .i64 ((l.length : Nat) : Int))), (9, (.int .i64 ((l.length : Nat) : Int)))]) ([⟨sF.2.2, 9, (List.map Card.row sF.1), none⟩] : Heap) := by
  induction r_ with
  | zero =>
    intro out k g i sF hi_ hk hki  hF
    obtain rfl : l.length = i := by omega
    have e_ : sF = (out, k, g) := hF
    refine rseen_step l out k g l.length hl hk hki (Nat.le_refl _) (fun h _ => by simp at h <;> omega) (fun h _ => by simp at h <;> omega) (fun _ => ?_)
    first | done | rfl | (rw [e_]; done) | (rw [e_]; rfl)
  | succ r_ ih =>
    intro out k g i sF hi_ hk hki  hF
    refine rseen_step l out k g i hl hk hki ow (fun h1 h2 => ?_) (fun h1 h2 => ?_) (fun h => by simp at h <;> omega)
    · exact ih (out ++ [(nth l i)]) (k + 1) (g + 1) (i + 1) sF ow (by first | omega | assumption | (simp; done) | (simp; omega) | (simp [*]; done) | (simp [*]; omega)) (by first | omega | assumption | (simp; done) | (simp; omega) | (simp [*]; done) | (simp [*]; omega))  (by rw [hF] <;> simp only [iter, rseen_f, h2, if_true, Bool.false_eq_true, if_false])
    · exact ih out k g (i + 1) sF ow (by first | omega | assumption | (simp; done) | (simp; omega) | (simp [*]; done) | (simp [*]; omega)) (by first | omega | assumption | (simp; done) | (simp; omega) | (simp [*]; done) | (simp [*]; omega))  (by rw [hF] <;> simp only [iter, rseen_f, h2, if_true, Bool.false_eq_true, if_false])
theorem rseen_iter (l : List Card) : (hereL l, (hereL l).length, (hereL l).length) = iter (rseen_f l) l.length 0 ([], 0, 0) := by
  rw [iter_all (rseen_f l) (fun s c => if (fun c : Card => !c.gone) c = true then (s.1 ++ [c], s.2.1 + 1, s.2.2 + 1) else s) l (fun i s hi => by simp [rseen_f])]
  rw [fold_fmap' (fun c : Card => !c.gone) (fun c => c) l]; simp [hereL]
@[simp] abbrev Su_6 (v1_ : List Card) : Fr := (mkF 22 [(3, (AV.osl 0 (hereL (sortK v1_)).length 9 0 (hereL (sortK v1_)).length)), (7, (AV.sl .any 9 (List.map Card.row (sortK v1_)))), (8, (AV.int .i64 (((sortK v1_).length : Nat) : Int))), (9, (AV.int .i64 (((sortK v1_).length : Nat) : Int)))])
@[simp] abbrev Su_7 (v1_ : List Card) : Heap := [⟨(hereL (sortK v1_)).length, 9, (List.map Card.row (hereL (sortK v1_))), none⟩]
set_option maxRecDepth 100000 in
theorem rseen0_spec (l : List Card) (hl : l.length < 1048576) : ACalls Try.prog 18 [(.sl .any 9 (List.map Card.row l))] ([] : Heap) ((AV.sl .any 9 (List.map Card.row (hereL (sortK l)))), ([] : Heap)) := by
  have hk := hereL_len (sortK l)
  have hs := sortK_len l
  exact specO (fn := Try.f18) (ann := rseen_ann) (Has.o Try.func18) (.r (.g (.r (.g (.r (.c 1 (rsort_at l oa ([⟨0, 9, (List.map Card.row []), none⟩] : Heap)) (.h' ([⟨0, 9, (List.map Card.row []), none⟩] : Heap) (.y 2 (.int .i64 ((List.length (List.map Card.row (sortK l)) : Nat) : Int)) (AV.int .i64 (((sortK l).length : Nat) : Int)) (Yes.len _ _ _) (.g (.loop (Su_6 l) (show LoopTo (codeQ Try.prog (X rseen_ann) (loopOf Try.f18 0)) (some [3, 7, 8, 9]) (some [3, 7, 8, 9]) (mkF 22 [(3, (.osl 0 0 9 0 0)), (7, (.sl .any 9 (List.map Card.row (sortK l)))), (8, (.int .i64 (((sortK l).length : Nat) : Int))), (9, (.int .i64 0))]) ([⟨0, 9, (List.map Card.row []), none⟩] : Heap) (.exit 0) (Su_6 l) (Su_7 l) from (rseen_loop (sortK l) ow (List.length (sortK l)) [] 0 0 0 (hereL (sortK l), (hereL (sortK l)).length, (hereL (sortK l)).length) ow rfl ow (rseen_iter _))) (.r (.w 3 (List.map Card.row (hereL (sortK l))) (And.intro (rowsIn_all (room := none) kr om) (Card.rows_bdd _ _) : rowsIn (Su_7 l) 9 (AV.osl 0 (hereL (sortK l)).length 9 0 (hereL (sortK l)).length) = some (List.map Card.row (hereL (sortK l))) ∧ AV.bddss 0 (List.map Card.row (hereL (sortK l))) = true) (.g (.h' ([] : Heap) (.f 0 (AV.sl .any 9 (List.map Card.row (hereL (sortK l)))) (.e (AV.sl .any 9 (List.map Card.row (hereL (sortK l))))))))))))))))))))
theorem rseen_spec (l : List Card) (hl : l.length < 1048576) : ACalls Try.prog 18 [(.sl .any 9 (List.map Card.row l))] ([] : Heap) ((AV.sl .any 9 (List.map Card.row (seenK l))), ([] : Heap)) := by rw [← hereL_sortK]; exact rseen0_spec l hl
theorem rseen_at (l : List Card) (hl : l.length < 1048576) (H : Heap) : ACalls Try.prog 18 [(.sl .any 9 (List.map Card.row l))] H ((AV.sl .any 9 (List.map Card.row (seenK l))), H) := (rseen_spec l hl).lift kr kr H
def rsealB_ann : Ann := { gha := [(1, .any 3 1), (7, .cut 0)], fin := some 0, live := [(3, [3, 7, 8, 9])], out := [(3, [3, 7, 8, 9])] }
@[simp] abbrev Su_8 (v1_ : List Int) (v2_ : List Card) (v3_ : Nat) : Fr := (mkF 31 [(3, (AV.sl .any 1 (List.map rU8 v1_))), (7, (AV.sl .any 9 (List.map Card.row v2_))), (8, (AV.int .i64 ((v2_.length : Nat) : Int))), (9, (AV.int .i64 ((v3_ : Nat) : Int)))])
set_option maxRecDepth 100000 in
theorem rsealB_step (l : List Card) (b : List Int) (i : Nat) (hl : l.length < 1000) (hb : b.length ≤ i * 521) (hle_ : i ≤ l.length) {eX : Ex} {FX : Fr} {HX : Heap} (k1 : (decide (((i : Nat) : Int) < ((l.length : Nat) : Int))) = true → LoopTo (codeQ Try.prog (X rsealB_ann) (loopOf Try.f54 0)) (some [3, 7, 8, 9]) (some [3, 7, 8, 9]) (mkF 31 [(3, (.sl .any 1 (List.map rU8 (intB (byteB (textB (textB b (nth l i).key.app) (nth l i).key.id) (showsC (nth l i))) (nth l i).lease)))), (7, (.sl .any 9 (List.map Card.row l))), (8, (.int .i64 ((l.length : Nat) : Int))), (9, (.int .i64 ((i + 1 : Nat) : Int)))]) ([] : Heap) eX FX HX) (k2 : (decide (((i : Nat) : Int) < ((l.length : Nat) : Int))) = false → ((.exit 0 : Ex), (Su_8 b l i), ([] : Heap)) = (eX, FX, HX)) : LoopTo (codeQ Try.prog (X rsealB_ann) (loopOf Try.f54 0)) (some [3, 7, 8, 9]) (some [3, 7, 8, 9]) (Su_8 b l i) ([] : Heap) eX FX HX := by
  have h1 := textB_len b (nth l i).key.app
  have h2 := textB_len (textB b (nth l i).key.app) (nth l i).key.id
  have h3 := byteB_len (textB (textB b (nth l i).key.app) (nth l i).key.id) (showsC (nth l i))
  exact stepO (.r (.g (.two (decide (((i : Nat) : Int) < ((l.length : Nat) : Int))) (fun h1 h1' => (.r (.h' ([⟨0, 9, [[(AV.str ⟨#[]⟩), (AV.str ⟨#[]⟩), (AV.int .i64 0), (AV.int .i64 0), (AV.int .i64 0), (AV.int .i64 0), (AV.int .i64 0), (AV.int .i64 0), (AV.bool false)]], none⟩] : Heap) (.is 0 9 9 (List.map Card.row l) ((i : Nat) : Int) (Card.row (nth l i)) (IdxSl.mk _ ow ow) (.g (.r (.c 4 (rtextF_at b (nth l i).key.app oa ([⟨0, 9, [(Card.row (nth l i))], none⟩] : Heap)) (.c 8 (rtextF_at (textB b (nth l i).key.app) (nth l i).key.id oa ([⟨0, 9, [(Card.row (nth l i))], none⟩] : Heap)) (.rd (AV.str (nth l i).key.id) ([⟨0, 9, [(Card.row (nth l i))], none⟩] : Heap) (.g (.r (.c 2 (rshows_at (nth l i)  ([⟨0, 9, [(Card.row (nth l i))], none⟩] : Heap)) (.c 3 (rbyteF_at (textB (textB b (nth l i).key.app) (nth l i).key.id) (showsC (nth l i)) oa ([⟨0, 9, [(Card.row (nth l i))], none⟩] : Heap)) (.c 6 (rint_at (byteB (textB (textB b (nth l i).key.app) (nth l i).key.id) (showsC (nth l i))) (nth l i).lease oa ([⟨0, 9, [(Card.row (nth l i))], none⟩] : Heap)) (.rd (AV.int .i64 (nth l i).lease) ([⟨0, 9, [(Card.row (nth l i))], none⟩] : Heap) (.rd (AV.int .i64 (nth l i).lease) ([⟨0, 9, [(Card.row (nth l i))], none⟩] : Heap) (.g (.r (.h' ([⟨0, 9, [(Card.row (nth l i))], none⟩] : Heap) (.y 0 (.int .i64 (IntKind.i64.wrap (((i : Nat) : Int) + 1))) (AV.int .i64 ((i + 1 : Nat) : Int)) (Yes.add ow ow ow) (.h' ([] : Heap) (.b 0 (.g (.l (k1 h1))))))))))))))))))))))))) (fun h1 h1' => (.l (k2 h1))))))
def rsealB_f (l : List Card) (i : Nat) (s : (List Int)) : (List Int) := (intB (byteB (textB (textB s (nth l i).key.app) (nth l i).key.id) (showsC (nth l i))) (nth l i).lease)
theorem rsealB_loop (l : List Card) (hl : l.length < 1000)  (r_ : Nat) : ∀ (b : List Int) (i : Nat) (sF : (List Int)), i + r_ = l.length → b.length ≤ i * 521 → sF = iter (rsealB_f l) r_ i (b) →
    LoopTo (codeQ Try.prog (X rsealB_ann) (loopOf Try.f54 0)) (some [3, 7, 8, 9]) (some [3, 7, 8, 9]) (Su_8 b l i) ([] : Heap) (.exit 0) (mkF 31 [(3, (.sl .any 1 (List.map rU8 sF))), (7, (.sl .any 9 (List.map Card.row l))), (8, (.int .i64 ((l.length : Nat) : Int))), (9, (.int .i64 ((l.length : Nat) : Int)))]) ([] : Heap) := by
  induction r_ with
  | zero =>
    intro b i sF hi_ hb  hF
    obtain rfl : l.length = i := by omega
    have e_ : sF = (b) := hF
    refine rsealB_step l b l.length hl hb (Nat.le_refl _) (fun h => by simp at h <;> omega) (fun _ => ?_)
    first | done | rfl | (rw [e_]; done) | (rw [e_]; rfl)
  | succ r_ ih =>
    intro b i sF hi_ hb  hF
    refine rsealB_step l b i hl hb ow (fun h1 => ?_) (fun h => by simp at h <;> omega)
    · exact ih (intB (byteB (textB (textB b (nth l i).key.app) (nth l i).key.id) (showsC (nth l i))) (nth l i).lease) (i + 1) sF ow (by have h9 : (intB (byteB (textB (textB b (nth l i).key.app) (nth l i).key.id) (showsC (nth l i))) (nth l i).lease).length ≤ b.length + 521 := (by have h8 := cardB_len b (nth l i); unfold cardB at h8; exact h8); first | omega | assumption | (simp; done) | (simp; omega) | (simp [*]; done) | (simp [*]; omega))  (by rw [hF] <;> simp only [iter, rsealB_f, if_true, Bool.false_eq_true, if_false])
theorem rsealB_iter (l : List Card) : l.foldl cardB [] = iter (rsealB_f l) l.length 0 [] := (iter_all (rsealB_f l) cardB l (fun i s hi => by unfold rsealB_f cardB; rfl) []).symm
@[simp] abbrev Su_9 (v1_ : List Card) : Fr := (mkF 31 [(3, (AV.sl .any 1 (List.map rU8 (List.foldl cardB [] (seenK v1_))))), (7, (AV.sl .any 9 (List.map Card.row (seenK v1_)))), (8, (AV.int .i64 (((seenK v1_).length : Nat) : Int))), (9, (AV.int .i64 (((seenK v1_).length : Nat) : Int)))])
set_option maxRecDepth 100000 in
theorem rsealB_spec (l : List Card) (hl : l.length < 1000) : ACalls Try.prog 54 [(.sl .any 9 (List.map Card.row l))] ([] : Heap) ((AV.sl .any 1 (List.map rU8 (sealB l))), ([] : Heap)) := by
  have h1 := seenK_len l
  exact specO (fn := Try.f54) (ann := rsealB_ann) (Has.o Try.func54) (.r (.g (.r (.g (.r (.c 1 (rseen_at l oa ([] : Heap)) (.y 2 (.int .i64 ((List.length (List.map Card.row (seenK l)) : Nat) : Int)) (AV.int .i64 (((seenK l).length : Nat) : Int)) (Yes.len _ _ _) (.g (.loop (Su_9 l) (show LoopTo (codeQ Try.prog (X rsealB_ann) (loopOf Try.f54 0)) (some [3, 7, 8, 9]) (some [3, 7, 8, 9]) (mkF 31 [(3, (.sl .any 1 [])), (7, (.sl .any 9 (List.map Card.row (seenK l)))), (8, (.int .i64 (((seenK l).length : Nat) : Int))), (9, (.int .i64 0))]) ([] : Heap) (.exit 0) (Su_9 l) ([] : Heap) from (rsealB_loop (seenK l) ow (List.length (seenK l)) [] 0 (List.foldl cardB [] (seenK l)) ow (by simp) (rsealB_iter _))) (.r (.g (.f 0 (AV.sl .any 1 (List.map rU8 (List.foldl cardB [] (seenK l)))) (.e (AV.sl .any 1 (List.map rU8 (List.foldl cardB [] (seenK l)))) (by
        unfold sealB; rfl))))))))))))))
theorem rsealB_at (l : List Card) (hl : l.length < 1000) (H : Heap) : ACalls Try.prog 54 [(.sl .any 9 (List.map Card.row l))] H ((AV.sl .any 1 (List.map rU8 (sealB l))), H) := (rsealB_spec l hl).lift kr kr H
def rseal_ann : Ann := { fin := some 0 }
set_option maxRecDepth 100000 in
theorem rseal_spec (l : List Card) (hl : l.length < 1000) : ACalls Try.prog 21 [(.sl .any 9 (List.map Card.row l))] ([] : Heap) ((AV.int .u32 (ofB l)), ([] : Heap)) := by
  have h1 := sealB_len l
  exact specO (fn := Try.f21) (ann := rseal_ann) (Has.o Try.func21) (.r (.g (.r (.c 1 (rsealB_at l oa ([] : Heap)) (.c 2 (rsum_at (sealB l) oa ([] : Heap)) (.g (.f 0 (AV.int .u32 (sumB (sealB l))) (.e (AV.int .u32 (sumB (sealB l))) (by
        unfold ofB; rfl)))))))))
theorem rseal_at (l : List Card) (hl : l.length < 1000) (H : Heap) : ACalls Try.prog 21 [(.sl .any 9 (List.map Card.row l))] H ((AV.int .u32 (ofB l)), H) := (rseal_spec l hl).lift kr kr H
end Go.Proofs.Ytcmfnfkahdconaa.AM

set_option maxRecDepth 100000
set_option linter.unusedVariables false
set_option linter.unusedSimpArgs false
namespace Go.Proofs.Ytcmfnfkahdconaa.AM
open Go Go.Proofs.Ytcmfnfkahdconaa
attribute [local irreducible] ACalls funT codeT codeQ LoopTo
attribute [local irreducible] Tp.card Tp.cardT Tp.next Tp.step Tp.cards Tp.key Tp.keyT sink insSort sortK insK posK beforeK
end Go.Proofs.Ytcmfnfkahdconaa.AM

set_option linter.unusedVariables false
set_option linter.unusedSimpArgs false
namespace Go.Proofs.Ytcmfnfkahdconaa.AM
open Go
theorem ssem_copyN {P : Program} {F : Fr} {H : Heap} {dst : Option Tmp} {x y : Operand} {t t' e0 : TypeId} {type : TypeId} {pos : String} {after : Array Edge} {guard : Option (Nat × Bool)} {id g k e n id2 g2 e2 n2 : Nat} {els els2 : List (List AV)} {room room2 : Option Nat}
    (ht : P.underlying t = some (.slice e0)) (hk : ∀ w : World, (Go.sizeOf e0).run P w = .ok k w) (hx : opv F x = some (.osl id g k e n)) (ho : H[id]? = some ⟨g, k, els, room⟩) (hy : opv F y = some (.osl id2 g2 k e2 n2)) (ho2 : H[id2]? = some ⟨g2, k, els2, room2⟩)
    (h0 : 0 < n) (hn : n ≤ n2) (he : e ≤ els.length) (he2 : e2 + n ≤ els2.length) :
    SSem P F H ⟨dst, .call { callee := .builtin .copy, args := #[x, y], argTypes := #[t, t'] }, type, pos, after, guard⟩ (.int .i64 (n : Int), H.set id ⟨g, k, els.take e ++ (els2.drop e2).take n ++ els.drop (e + n), room⟩) := by
  intro G w C f hf hH
  have hv := hf x (by simp [Op.operands, Call.operands]) _ hx
  have hvs := hf y (by simp [Op.operands, Call.operands]) _ hy
  have hgen : g = C.γ id := hH.gen id _ ho
  have hgen2 : g2 = C.γ id2 := hH.gen id2 _ ho2
  have hnl : ((els2.drop e2).take n).length = n := by simp; omega
  generalize hu2 : f y = u2 at hvs
  cases hvs with
  | osl0 => omega
  | osl _ _ _ _ _ _ ad2 cap2 hnc2 hle2 hl2 =>
  have hvs' : VR G w C (.osl id2 g2 k e2 n) (.slice (some ad2) n cap2) := .osl _ _ _ _ _ _ _ _ (by omega) hle2 fun hg => by
    obtain ⟨l, b, q1, q2, q3, q4, q5⟩ := hl2 hg
    exact ⟨l, b, q1, q2, q3, by omega, q5⟩
  obtain ⟨nv, hsrc⟩ := rowsIn_src (P := P) (k := k) (xs := (els2.drop e2).take n) hH hvs' (by simp [rowsIn, ho2, he2])
  generalize hu : f x = u at hv
  cases hv with
  | osl0 => omega
  | osl _ _ _ _ _ _ ad cap hnc hle h =>
    obtain ⟨l, bb, hι, hlb, hlk, hen, hcap, had⟩ := h hgen
    have had' := had (by omega)
    subst had'
    have hob := hH.ob id _ l ho hι
    obtain ⟨cur, et, hcur, hcsz, _⟩ := hob.cells bb hlb
    obtain ⟨h1, h2⟩ := place_sound hH ho hι hlb hlk hsrc.length hsrc.row hsrc.rel he (by omega) hcur
    rw [hnl] at h2
    have hm : (e + n) * l.k ≤ l.room * l.k := Nat.mul_le_mul_right _ (by omega)
    rw [Nat.add_mul] at hm
    have hnvl : nv.length = n * l.k := by rw [hsrc.length, hlk, hnl]
    have hst := run_storeCells_at P bb (l.sh + e * k) et nv 0 cur w hcur (by rw [← hlk]; simp; omega) hsrc.oneCell
    simp only [Nat.add_zero] at hst
    have hmin : Nat.min n2 n = n := Nat.min_eq_right hn
    have hfc : (Builtin.firstCells k n (.slice (some ad2) n2 cap2)).run P w = .ok nv.toArray w := by
      have := hsrc.cells w rfl
      rw [hnl] at this
      exact this
    have hr : (Builtin.copy_ #[t, t'] type #[f x, f y]).run P w = .ok (.int .i64 (n : Int)) (w.setRow bb (cur.toList.take (l.sh + e * l.k) ++ nv ++ cur.toList.drop (l.sh + e * l.k + nv.length)).toArray) := by
      rw [hu, hu2, hlk]
      simp [Builtin.copy_, run_underlying ht, Builtin.lenOf, hmin, hk w, hfc, hst, goInt]
    refine ⟨_, _, ?_, G, C, h1, h2, .int .., ?_⟩
    · simp [execOp, resolve, invoke, builtin, hr]
    · refine ⟨by simp, fun j hj _ hιj => ⟨hιj, rfl, ?_⟩⟩
      have hne : id ≠ j := fun e' => by subst e'; rw [hι] at hιj; simp at hιj
      exact List.getElem?_set_ne hne
theorem run_overlaps_b {P : Program} (w : World) (tS tR e : TypeId) (ht : P.underlying tS = some (.slice e)) (size : Nat) (hz : ∀ w, (Go.sizeOf e).run P w = .ok size w)
    (a b : Addr) (la ca lb cb : Nat) (hne : a.block ≠ b.block) (tA tB : TypeId) (kA kB : Nat)
    (hsa : w.shape? a.block = some (tA, kA)) (hsb : w.shape? b.block = some (tB, kB)) (hkB : kB ≠ 0) (hkA : kA ≠ 0)
    (hfb : w.frozen? b = false) (hfe : w.frozen? { block := b.block, off := kB } = false) :
    (Extern.SlicesOverlaps.overlaps #[tS, tS] #[tR] #[.slice (some a) la ca, .slice (some b) lb cb]).run P w = .ok (.bool false) w := by
  have hnb : (a.block != b.block) = true := by simpa using hne
  have hnb' : (a.block == b.block) = false := by simpa using hne
  change Sem.run P (α := Value) (do
    let some t := (#[tS, tS] : Array TypeId)[0]? | stuck "slices.overlaps: no parameter types"
    let .slice elem ← underlying t | stuck "slices.overlaps: slice type expected"
    let size ← Go.sizeOf elem
    match (some a : Option Addr), (some b : Option Addr) with
    | some a, some b =>
      if la = 0 ∨ lb = 0 ∨ size = 0 then pure (Value.bool false)
      else if a.block != b.block && (← frozen a) && (← frozen b) then unsupported .addressObserved
      else do
        if a.block != b.block then do
          noView a; noView b
          if ← mayBeOne a b then return Value.bool ((← choose (.extern "sameAddr.stringBytes" 2)) == 1)
        pure (Value.bool (a.block == b.block && a.off < b.off + lb * size && b.off < a.off + la * size))
    | _, _ => pure (Value.bool false)) w = _
  by_cases h0 : la = 0 ∨ lb = 0 ∨ size = 0
  · simp [run_underlying ht, hz, h0]
  · cases kB with
    | zero => exact absurd rfl hkB
    | succ kB =>
      cases kA with
      | zero => exact absurd rfl hkA
      | succ kA =>
      cases hfa : w.frozen? a <;> cases hfa2 : w.frozen? { block := a.block, off := kA + 1 } <;>
      simp [run_underlying ht, hz, h0, hnb, hnb', frozen, noView, viewAt, mayBeOne, stringish, shape, Sem.run, hsa, hsb, hfb, hfe, hfa, hfa2]
theorem acalls_overlaps {P : Program} {f : FuncId} {tS tR e0 : TypeId} {k : Nat} (hc : ∀ vs w, (callFunc f vs).run P w = ((Extern.SlicesOverlaps.overlaps #[tS, tS] #[tR] vs).run P w).andThen fun v w' => .ok (.value v) w')
    (ht : P.underlying tS = some (.slice e0)) (hk : ∀ w : World, (Go.sizeOf e0).run P w = .ok k w) (hk0 : 0 < k) {tg : Tg} {rows : List (List AV)} {id g e n : Nat} {H : Heap} {o : Ob} (ho : H[id]? = some o) (hg : o.gen = g) :
    ACalls P f [.sl tg k rows, .osl id g k e n] H (.bool false, H) := by
  intro G w C vs hsz hargs hH
  have h0 := hargs 0 (by simp)
  have h1 := hargs 1 (by simp)
  have hvs : vs = #[vs.getD 0 undef, vs.getD 1 undef] := by
    have hs2 : vs.size = 2 := by simpa using hsz
    apply Array.ext
    · simp [hs2]
    · intro i hi1 hi2
      rcases i with _ | _ | i
      · simp [Array.getD_eq_getD_getElem?, hs2]
      · simp [Array.getD_eq_getD_getElem?, hs2]
      · omega
  simp only [List.getD_cons_zero, List.getD_cons_succ] at h0 h1
  generalize vs.getD 0 undef = v0 at h0 hvs
  generalize vs.getD 1 undef = v1 at h1 hvs
  subst hvs
  have hdone : (Extern.SlicesOverlaps.overlaps #[tS, tS] #[tR] #[v0, v1]).run P w = .ok (.bool false) w → FCalls P f #[v0, v1] w (After G w C H (.bool false, H)) := fun hr => by
    unfold FCalls
    have := hc #[v0, v1] w
    rw [this]
    rw [hr, Result.andThen_ok]
    exact ⟨G, C, Ev.refl .., hH, .bool .., Pd.refl⟩
  apply hdone
  have hgen : g = C.γ id := by rw [← hg]; exact hH.gen id o ho
  have hsome : ∀ (a : Option Addr) la ca (b : Option Addr) lb cb, (a = none ∨ b = none ∨ la = 0 ∨ lb = 0) → (Extern.SlicesOverlaps.overlaps #[tS, tS] #[tR] #[.slice a la ca, .slice b lb cb]).run P w = .ok (.bool false) w := by
    intro a la ca b lb cb h
    change Sem.run P (α := Value) (do
      let some t := (#[tS, tS] : Array TypeId)[0]? | stuck "slices.overlaps: no parameter types"
      let .slice elem ← underlying t | stuck "slices.overlaps: slice type expected"
      let size ← Go.sizeOf elem
      match (a : Option Addr), (b : Option Addr) with
      | some a, some b =>
        if la = 0 ∨ lb = 0 ∨ size = 0 then pure (Value.bool false)
        else if a.block != b.block && (← frozen a) && (← frozen b) then unsupported .addressObserved
        else do
          if a.block != b.block then do
            noView a; noView b
            if ← mayBeOne a b then return Value.bool ((← choose (.extern "sameAddr.stringBytes" 2)) == 1)
          pure (Value.bool (a.block == b.block && a.off < b.off + lb * size && b.off < a.off + la * size))
      | _, _ => pure (Value.bool false)) w = _
    cases a <;> cases b <;> simp [run_underlying ht, hk w]
    intro h1 h2 h3
    rcases h with h | h | h | h
    · simp at h
    · simp at h
    · exact absurd h h1
    · exact absurd h h2
  generalize hu0 : v0 = u0 at h0
  cases h0 with
  | nils => 
    cases h1 with
    | osl => subst hu0; exact hsome _ _ _ _ _ _ (.inl rfl)
    | osl0 => subst hu0; exact hsome _ _ _ _ _ _ (.inl rfl)
  | sl _ _ _ _ ad cap htg hclip hle hs cv hkl hcl h1' hv =>
    subst hu0
    cases h1 with
    | osl0 => exact hsome _ _ _ _ _ _ (.inr (.inr (.inr rfl)))
    | osl _ _ _ _ _ _ ad2 cap2 hnc hle2 hl2 =>
      by_cases hr0 : rows.length = 0
      · exact hsome _ _ _ _ _ _ (.inr (.inr (.inl hr0)))
      by_cases hn0 : n = 0
      · exact hsome _ _ _ _ _ _ (.inr (.inr (.inr hn0)))
      obtain ⟨l, b, hι, hlb, hlk, hen, hcap, had⟩ := hl2 hgen
      have had' := had (by omega)
      have hne : rows ≠ [] := fun e => by simp [e] at hr0
      obtain ⟨hsp, hG⟩ := hs hne
      have hcell := hcl 0 0 (by omega) hk0
      obtain ⟨cs, et, hcs, hcsz, _⟩ := (hH.ob id o l ho hι).cells b hlb
      have hbG := (hH.own id l b hι hlb).2
      have hm : (e + n) * l.k ≤ l.room * l.k := Nat.mul_le_mul_right _ hen
      have hm2 : 1 * l.k ≤ (e + n) * l.k := Nat.mul_le_mul_right _ (by omega)
      have hsa : ∃ tA kA, w.shape? ad.block = some (tA, kA) ∧ kA ≠ 0 := by
        unfold World.cell? at hcell
        unfold World.shape?
        split at hcell
        · rename_i c t fr hw
          refine ⟨t, c.size, by simp only at hw; rw [hw], fun e0 => ?_⟩
          have : c = #[] := Array.eq_empty_of_size_eq_zero e0
          simp [this] at hcell
        · simp at hcell
      obtain ⟨tA, kA, hsa, hkA⟩ := hsa
      have hb2 : ad2.block = b := by rw [had']
      refine run_overlaps_b w tS tR e0 ht k hk ad ad2 _ _ _ _ (fun e' => ?_) tA et kA cs.size hsa (by rw [hb2]; simp [World.shape?, hcs]) (by omega) hkA (by simp [World.frozen?, hb2, hcs]) (by simp [World.frozen?, hb2, hcs])
      rw [hb2] at e'
      exact hbG (e' ▸ hG)
end Go.Proofs.Ytcmfnfkahdconaa.AM

set_option linter.unusedVariables false
set_option linter.unusedSimpArgs false
namespace Go.Proofs.Ytcmfnfkahdconaa.AM
open Go
def regsOf : Code → Nat → Option (Array Oper)
  | .region id ops _, r => bif Nat.beq id r then some ops else none
  | .seq a b, r => match regsOf a r with
    | some x => some x
    | none => regsOf b r
  | .cond _ a b, r => match regsOf a r with
    | some x => some x
    | none => regsOf b r
  | .block _ c, r => regsOf c r
  | .loop c, r => regsOf c r
  | _, _ => none
def opIn (fn : Func) (r i : Nat) : Oper := match (fn.body.bind (regsOf · r)).bind (·[i]?) with
  | some o => o
  | none => ⟨none, .move (.tmp 0), 0, "", #[], none⟩
def argO (o : Oper) (i : Nat) : Operand := match o.op with
  | .call c => c.args.getD i (.tmp 0)
  | .slice _ x _ _ _ => x
  | _ => .tmp 0
def loO (o : Oper) : Option Operand := match o.op with
  | .slice _ _ lo _ _ => lo
  | _ => none
def hiO (o : Oper) : Operand := match o.op with
  | .slice _ _ _ (some hi) _ => hi
  | _ => .tmp 0
section
variable {P : Program} {X : Env} {F : Fr} {H H2 : Heap} {ar : Nat} {o : Oper} {a : AV}
theorem Sat.sem (hs : isSem X o = true) (h : SSem P F H o (a, H2)) : Sat P X F H ar o a H2 := by
  unfold Sat
  rw [hs]
  exact .inl h
theorem tok_slice {T : TT} (hT : TOk P T) {t e : TypeId} {ti : TI} (ht : T t = some ti) (hd : ti.d = .slice e) : P.underlying t = some (.slice e) := by
  have := (hT t ti ht).und
  rw [hd] at this
  exact this
theorem tok_int {T : TT} (hT : TOk P T) {t : TypeId} {ti : TI} {k : IntKind} (ht : T t = some ti) (hd : ti.d = .int k) : P.underlying t = some (.int k) := by
  have := (hT t ti ht).und
  rw [hd] at this
  exact this
theorem one_of_scalar {v : Value} {a : AV} (h : ofScalar v = some a) : v.oneCell' = true := by
  unfold ofScalar at h
  split at h <;> first | rfl | simp at h
theorem one_of_scalars : ∀ {vs : List Value} {as_ : List AV}, ofScalars vs = some as_ → ∀ v ∈ vs, v.oneCell' = true
  | [], _, _, v, hv => by simp at hv
  | x :: xs, as_, h, v, hv => by
    simp only [ofScalars] at h
    split at h
    · rename_i a l h1 h2
      simp only [List.mem_cons] at hv
      rcases hv with rfl | hv
      · exact one_of_scalar h1
      · exact one_of_scalars h2 v hv
    · simp at h
theorem scalars_len : ∀ {vs : List Value} {as_ : List AV}, ofScalars vs = some as_ → vs.length = as_.length
  | [], as_, h => by simp [ofScalars] at h; subst h; rfl
  | x :: xs, as_, h => by
    simp only [ofScalars] at h
    split at h
    · rename_i a l h1 h2
      simp only [Option.some.injEq] at h
      subst h
      simp [scalars_len h2]
    · simp at h
theorem sat_copy (hT : TOk P X.T) {t t' e0 : TypeId} {ti te : TI} (hop : o.op = .call { callee := .builtin .copy, args := #[argO o 0, argO o 1], argTypes := #[t, t'] }) (hsem : isSem X o = true) (ht : X.T t = some ti) (htd : ti.d = .slice e0) (hte : X.T e0 = some te)
    {id g k e n : Nat} {els new els' : List (List AV)} {room : Option Nat} {s : AV} {c : Int} (hk : te.size = k) (hx : opv F (argO o 0) = some (.osl id g k e n)) (ho : H[id]? = some ⟨g, k, els, room⟩) (hy : opv F (argO o 1) = some s) (hs : rowsIn H k s = some new)
    (h0 : 0 < new.length) (hn : new.length ≤ n) (he : e ≤ els.length) (hels : els.take e ++ new ++ els.drop (e + new.length) = els') (hc : c = (new.length : Int)) (hH : H.set id ⟨g, k, els', room⟩ = H2) : Sat P X F H ar o (.int .i64 c) H2 := by
  refine Sat.sem hsem ?_
  subst hH hels hc hk
  obtain ⟨dst, op, type, pos, after, guard⟩ := o
  simp only at hop
  generalize argO _ 0 = x at hop hx
  generalize argO _ 1 = y at hop hy
  subst hop
  exact ssem_copy (tok_slice hT ht htd) (fun w => (hT _ _ hte).sizeOf w) hx ho hy hs h0 hn he
theorem sat_copyN (hT : TOk P X.T) {t t' e0 : TypeId} {ti te : TI} (hop : o.op = .call { callee := .builtin .copy, args := #[argO o 0, argO o 1], argTypes := #[t, t'] }) (hsem : isSem X o = true) (ht : X.T t = some ti) (htd : ti.d = .slice e0) (hte : X.T e0 = some te)
    {id g k e n id2 g2 e2 n2 : Nat} {els els2 els' : List (List AV)} {room room2 : Option Nat} {c : Int} (hk : te.size = k) (hx : opv F (argO o 0) = some (.osl id g k e n)) (ho : H[id]? = some ⟨g, k, els, room⟩) (hy : opv F (argO o 1) = some (.osl id2 g2 k e2 n2)) (ho2 : H[id2]? = some ⟨g2, k, els2, room2⟩)
    (h0 : 0 < n) (hn : n ≤ n2) (he : e ≤ els.length) (he2 : e2 + n ≤ els2.length) (hels : els.take e ++ (els2.drop e2).take n ++ els.drop (e + n) = els') (hc : c = (n : Int)) (hH : H.set id ⟨g, k, els', room⟩ = H2) : Sat P X F H ar o (.int .i64 c) H2 := by
  refine Sat.sem hsem ?_
  subst hH hels hc hk
  obtain ⟨dst, op, type, pos, after, guard⟩ := o
  simp only at hop
  generalize argO _ 0 = x at hop hx
  generalize argO _ 1 = y at hop hy
  subst hop
  exact ssem_copyN (tok_slice hT ht htd) (fun w => (hT _ _ hte).sizeOf w) hx ho hy ho2 h0 hn he he2
theorem sat_cap (hT : TOk P X.T) {t e0 : TypeId} {ti : TI} (hop : o.op = .call { callee := .builtin .cap, args := #[argO o 0], argTypes := #[t] }) (hsem : isSem X o = true) (ht : X.T t = some ti) (htd : ti.d = .slice e0)
    {id g k e n r : Nat} {els : List (List AV)} {c : Int} (hx : opv F (argO o 0) = some (.osl id g k e n)) (ho : H[id]? = some ⟨g, k, els, some r⟩) (hc : c = ((r - e : Nat) : Int)) : Sat P X F H ar o (.int .i64 c) H := by
  refine Sat.sem hsem ?_
  subst hc
  obtain ⟨dst, op, type, pos, after, guard⟩ := o
  simp only at hop
  generalize argO _ 0 = x at hop hx
  subst hop
  exact ssem_cap (tok_slice hT ht htd) hx ho
theorem sat_slice (hT : TOk P X.T) {t e0 : TypeId} {ti te : TI} (hop : o.op = .slice t (argO o 0) (loO o) (some (hiO o)) none) (hsem : isSem X o = true) (ht : X.T t = some ti) (htd : ti.d = .slice e0) (hte : X.T e0 = some te)
    {id g k e n r l h e' n' : Nat} {els : List (List AV)} (hk : te.size = k) (hx : opv F (argO o 0) = some (.osl id g k e n)) (ho : H[id]? = some ⟨g, k, els, some r⟩) (hlo : optInt F (loO o) 0 = some (l : Int)) (hhi : optInt F (some (hiO o)) 0 = some (h : Int)) (h1 : l ≤ h) (h2 : e + h ≤ r) (he' : e' = e + l) (hn' : n' = h - l) :
    Sat P X F H ar o (.osl id g k e' n') H := by
  refine Sat.sem hsem ?_
  subst hk he' hn'
  obtain ⟨dst, op, type, pos, after, guard⟩ := o
  simp only at hop
  generalize argO _ 0 = x at hop hx
  generalize loO _ = lo at hop hlo
  generalize hiO _ = hi at hop hhi
  subst hop
  exact ssem_slice (tok_slice hT ht htd) (fun w => (hT _ _ hte).sizeOf w) hx ho hlo hhi h1 h2
theorem sat_make (hT : TOk P X.T) {t t' e0 : TypeId} {ti ti' te : TI} {kk kx : IntKind} (hop : o.op = .call { callee := .builtin .append, args := #[argO o 0, argO o 1], argTypes := #[t, t'] }) (hsem : isSem X o = true) (ht : X.T t = some ti) (htd : ti.d = .slice e0) (hte : X.T e0 = some te) (ht' : X.T t' = some ti') (htd' : ti'.d = .int kk)
    {id g k e n n' r c : Nat} {els ys els' : List (List AV)} (hk : te.size = k) (hx : opv F (argO o 0) = some (.osl id g k e n)) (ho : H[id]? = some ⟨g, k, els, some r⟩) (hrows : rowsIn H k (.osl id g k e n) = some ys) (hlen : ys.length = n) (hy : opv F (argO o 1) = some (.int kx (c : Int)))
    (hg : r - e < n + c) (hb : 0 < te.bytes) (hs : 0 < k) (hc : 0 < c) (hby : (n + c) * te.bytes ≤ 140737488355328) (hels : ys ++ List.replicate c (List.replicate k .unk) = els') (hn' : n' = n + c) (hH : H ++ [⟨0, k, els', none⟩] = H2) :
    Sat P X F H ar o (.osl H.length 0 k 0 n') H2 := by
  refine Sat.sem hsem ?_
  subst hk hels hH hn'
  obtain ⟨dst, op, type, pos, after, guard⟩ := o
  simp only at hop
  generalize argO _ 0 = x at hop hx
  generalize argO _ 1 = y at hop hy
  subst hop
  obtain ⟨i, hi, hsz, hbt, z, hz, hzs, hzl, hza⟩ := (hT _ _ hte).info
  rw [← hsz] at hx ho hrows hs ⊢
  rw [← hbt] at hb hby
  exact ssem_make (tok_slice hT ht htd) (tok_int hT ht' htd') hi hz (by have := scalars_len hzs; simp at this; omega) (one_of_scalars hzs) hx ho hrows hlen hy hg hb hs hc hby
end
section
variable {α : Type} (row : α → List AV) (x : α) (u : List AV)
theorem ins1 (l : List α) {i c : Nat} (hi : i ≤ l.length) (hc : 0 < c) : ((l.take i).map row ++ List.replicate c u).take i ++ [row x] ++ ((l.take i).map row ++ List.replicate c u).drop (i + 1) = (l.take i ++ [x]).map row ++ List.replicate (c - 1) u := by
  have hl : ((l.take i).map row).length = i := by simp; omega
  rw [List.take_append_of_le_length (by omega), List.take_of_length_le (by omega), List.drop_append, hl, List.drop_of_length_le (by omega)]
  simp
theorem ins2 (l : List α) {i c : Nat} (hi : i ≤ l.length) (hc : c = l.length - i) : ((l.take i ++ [x]).map row ++ List.replicate c u).take (i + 1) ++ (l.drop i).map row ++ ((l.take i ++ [x]).map row ++ List.replicate c u).drop (i + 1 + ((l.drop i).map row).length) = (l.take i ++ x :: l.drop i).map row := by
  have hl : ((l.take i ++ [x]).map row).length = i + 1 := by simp; omega
  have h2 : ((l.take i ++ [x]).map row ++ List.replicate c u).drop (i + 1 + ((l.drop i).map row).length) = [] := List.drop_of_length_le (by rw [List.length_append, hl, List.length_replicate, List.length_map, List.length_drop]; omega)
  rw [h2, List.take_append_of_le_length (by omega), List.take_of_length_le (by omega)]
  simp
theorem ins3 (l : List α) {i : Nat} (hi : i < l.length) : (l.map row).take (i + 1) ++ ((l.map row).drop i).take (l.length - i) ++ (l.map row).drop (i + 1 + (l.length - i)) = (l.take (i + 1) ++ l.drop i).map row := by
  rw [List.take_of_length_le (l := (l.map row).drop i) (by simp), List.drop_of_length_le (i := i + 1 + (l.length - i)) (by simp; omega)]
  simp [List.map_take, List.map_drop]
theorem ins4 (l : List α) {i : Nat} (hi : i < l.length) : ((l.take (i + 1) ++ l.drop i).map row).take i ++ [row x] ++ ((l.take (i + 1) ++ l.drop i).map row).drop (i + 1) = (l.take i ++ x :: l.drop i).map row := by
  have hl : (l.take (i + 1)).length = i + 1 := by simp; omega
  rw [← List.map_take, ← List.map_drop, List.take_append_of_le_length (by omega), List.take_take, List.drop_append, hl, List.drop_of_length_le (by omega)]
  simp
end
end Go.Proofs.Ytcmfnfkahdconaa.AM

set_option linter.unusedVariables false
set_option linter.unusedSimpArgs false
namespace Go.Proofs.Ytcmfnfkahdconaa.AM
open Go
theorem ACalls.insert {P : Program} {f : FuncId} {α : Type} {row : α → List AV} {k : Nat} (hrow : ∀ (n : Nat) (l : List α), AV.bddss n (l.map row) = true) {l : List α} {x : α} {g i : Nat} (hi : i ≤ l.length)
    (hE : ACalls P f [.osl 0 g k 0 l.length, .int .i64 (l.length : Int), .sl .clip k [row x]] [⟨g, k, l.map row, none⟩] (.osl 0 (g + 1) k 0 (l.length + 1), [⟨g + 1, k, (l ++ [x]).map row, none⟩]))
    (hG : i < l.length → ∀ r, r < l.length + 1 → ACalls P f [.osl 0 g k 0 l.length, .int .i64 (i : Int), .sl .clip k [row x]] [⟨g, k, l.map row, some r⟩] (.osl 1 0 k 0 (l.length + 1), [⟨g, k, l.map row, some r⟩, ⟨0, k, (l.take i ++ x :: l.drop i).map row, none⟩]))
    (hR : i < l.length → ∀ r, l.length + 1 ≤ r → ACalls P f [.osl 0 g k 0 l.length, .int .i64 (i : Int), .sl .clip k [row x]] [⟨g, k, l.map row, some r⟩] (.osl 0 g k 0 (l.length + 1), [⟨g, k, (l.take i ++ x :: l.drop i).map row, some r⟩])) :
    ACalls P f [.osl 0 g k 0 l.length, .int .i64 (i : Int), .sl .clip k [row x]] [⟨g, k, l.map row, none⟩] (.osl 0 (g + 1) k 0 (l.length + 1), [⟨g + 1, k, (l.take i ++ x :: l.drop i).map row, none⟩]) := by
  by_cases hil : i = l.length
  · subst hil
    rw [List.take_length, List.drop_length]
    exact hE
  have hlt : i < l.length := by omega
  refine ACalls.room (id := 0) (i := 0) (g := g) (k := k) (e := 0) (n := l.length) (els := l.map row) rfl rfl fun r hr => ?_
  show ACalls P f _ [⟨g, k, l.map row, some r⟩] _
  have hlen : (l.take i ++ x :: l.drop i).length = l.length + 1 := by simp; omega
  rcases Nat.lt_or_ge r (l.length + 1) with h | h
  · have h1 := (hG hlt r h).ghost (i := 0) (id := 0) (g := g) (x := .osl 0 g k 0 l.length) (a' := .osl 0 (g + 1) k 0 (l.length + 1)) (H2 := [⟨g + 1, k, (l.take i ++ x :: l.drop i).map row, none⟩] ++ [⟨1, k, [], none⟩]) rfl (.inr ⟨_, _, _, rfl⟩) rfl rfl rfl rfl
      fun G w C v hH hv hl => steal_sound (id := 0) (j := 1) (g := g) (gj := 0) hH (by decide) rfl rfl rfl rfl hv hl
    refine h1.forget rfl rfl fun id o ho => .inr ?_
    cases id with
    | zero =>
      simp only [List.getElem?_cons_zero, Option.some.injEq] at ho
      subst ho
      exact hrow _ _
    | succ id => simp at ho
  · have h1 := (hR hlt r h).ghost0 (a' := .osl 0 (g + 1) k 0 (l.length + 1)) (H2 := [⟨g + 1, k, (l.take i ++ x :: l.drop i).map row, some r⟩]) fun G w C v hH hv => by
      obtain ⟨C', q⟩ := gen_sound hH hv (o := ⟨g, k, (l.take i ++ x :: l.drop i).map row, some r⟩) rfl rfl (Nat.le_succ g)
      exact ⟨G, C', q⟩
    have h2 := h1.shrink (m := l.length + 1) rfl
    have e : ((l.take i ++ x :: l.drop i).map row).take (l.length + 1) = (l.take i ++ x :: l.drop i).map row := List.take_of_length_le (by rw [List.length_map]; omega)
    rw [e] at h2
    exact h2
end Go.Proofs.Ytcmfnfkahdconaa.AM

set_option linter.unusedVariables false
set_option linter.unusedSimpArgs false
namespace Go.Proofs.Ytcmfnfkahdconaa.AM
open Go
def AV.scalss (els : List (List AV)) : Bool := els.all fun r => r.all AV.scal
theorem scalss_get {els : List (List AV)} (h : AV.scalss els = true) {i j : Nat} (hi : i < els.length) (hj : j < (els.getD i []).length) : ((els.getD i []).getD j .skip).scal = true := by
  have h1 : els.getD i [] ∈ els := by
    rw [List.getD_eq_getElem?_getD, List.getElem?_eq_getElem hi]; exact List.getElem_mem _
  have h3 := List.all_eq_true.1 h _ h1
  generalize els.getD i [] = r at hj h3 ⊢
  have h2 : r.getD j .skip ∈ r := by
    rw [List.getD_eq_getElem?_getD, List.getElem?_eq_getElem hj]; exact List.getElem_mem _
  exact List.all_eq_true.1 h3 _ h2
theorem scalss_map {α : Type} {row : α → List AV} (h : ∀ x, (row x).all AV.scal = true) (l : List α) : AV.scalss (l.map row) = true := by
  unfold AV.scalss
  rw [List.all_eq_true]
  intro r hr
  obtain ⟨x, _, rfl⟩ := List.mem_map.1 hr
  exact h x
theorem ACalls.borrow_osl {P : Program} {f : FuncId} {args args' : List AV} {g k n : Nat} {o : Ob} (h : ACalls P f args [] (.osl 0 g k 0 n, [o])) (ho : AV.scalss o.els = true) {H : Heap} (hb : Brs H args' args) : ACalls P f args' H (.osl H.length g k 0 n, H ++ [o]) := by
  intro G w C vs hsz hargs hH
  obtain ⟨hlen, hbr⟩ := Brs.get hb
  have key : ∀ i, i < args.length → VR (fun b => G b ∨ ∃ id l, C.ι id = some l ∧ l.b = some b) w Cx.none (args.getD i .skip) (vs.getD i undef) := by
    intro i hi
    have hv := hargs i (by omega)
    rcases hbr i hi with ⟨e, h0⟩ | ⟨id, g, k, e, n, rows, h1, h2, h3, h4⟩
    · rw [e] at hv
      have := hv.cut 0 h0
      rw [cut_zero] at this
      exact this.mono (fun b hb => .inl hb) (fun _ _ => rfl) (CxLe.refl _)
    · rw [h1] at hv
      rw [h2]
      obtain ⟨G', C', e1, e2, e3, _⟩ := freeze_sound hH hv h3 h4
      have := e3.cut 0 rfl
      rw [cut_zero] at this
      refine this.mono (fun b hb => ?_) (fun _ _ => rfl) (CxLe.refl _)
      rcases e1.grow b hb with h5 | h5 | h5
      · exact .inl h5
      · exact .inr h5
      · have := e2.gsz b hb; omega
  refine (h _ w Cx.none vs (by omega) key
    ⟨fun id o ho => by simp at ho, fun id _ => ⟨rfl, rfl⟩, fun id l b hl => by simp [Cx.none] at hl, fun i j l l' b hl => by simp [Cx.none] at hl, fun id o l ho => by simp at ho,
      fun b hb => hb.elim (hH.gsz b) fun ⟨id, l, h1, h2⟩ => (hH.own id l b h1 h2).1⟩).mono fun v w' ⟨G2, C2, he, hh, hv, hp⟩ => ?_
  have hall : ∀ b, b < w.heap.size → w'.heap[b]? = w.heap[b]? := fun b hb => he.rest b hb fun id l hl => by simp [Cx.none] at hl
  obtain ⟨hγn, hιn⟩ := hH.out H.length (Nat.le_refl _)
  have hnew : ∀ l b, C2.ι 0 = some l → l.b = some b → w.heap.size ≤ b := fun l b hl hb => by
    rcases he.own 0 l b hl hb with ⟨j, m, hm, _⟩ | h1
    · simp [Cx.none] at hm
    · exact h1
  have hC1 : (C.lay H.length (C2.ι 0) (C2.γ 0)).ι H.length = C2.ι 0 := Cx.lay_ι ..
  have hC2 : (C.lay H.length (C2.ι 0) (C2.γ 0)).γ H.length = C2.γ 0 := Cx.lay_γ ..
  have hC3 : ∀ j, j ≠ H.length → (C.lay H.length (C2.ι 0) (C2.γ 0)).ι j = C.ι j ∧ (C.lay H.length (C2.ι 0) (C2.γ 0)).γ j = C.γ j := fun j hj => Cx.lay_ne _ _ _ _ hj
  generalize C.lay H.length (C2.ι 0) (C2.γ 0) = C' at hC1 hC2 hC3
  have hcx : CxLe C C' := fun j => by
    by_cases hj : j = H.length
    · subst hj; rw [hC2, hγn, hC1, hιn]; exact ⟨Nat.zero_le _, fun _ l hl => by simp at hl⟩
    · rw [(hC3 j hj).1, (hC3 j hj).2]; exact ⟨Nat.le_refl _, fun _ l hl => hl⟩
  have hev : Ev G w C G w' C' := ⟨he.os, he.tape, he.output, he.size, fun _ h => h, fun b hb => hall b (hH.gsz b hb), hcx, fun b hb _ => hall b hb, fun _ h => .inl h, fun id l b h1 h2 => by
    by_cases hj : id = H.length
    · subst hj; rw [hC1] at h1; exact .inr (hnew l b h1 h2)
    · rw [(hC3 id hj).1] at h1; exact .inl ⟨id, l, h1, h2⟩, he.frz⟩
  have hget : ∀ (j : Nat) (oj : Ob), (H ++ [o])[j]? = some oj → (j < H.length ∧ H[j]? = some oj) ∨ (j = H.length ∧ oj = o) := fun j oj hj => by
    rcases Nat.lt_or_ge j H.length with h' | h'
    · rw [List.getElem?_append_left h'] at hj; exact .inl ⟨h', hj⟩
    · have := heap_lt hj
      simp at this
      obtain rfl : j = H.length := by omega
      simp at hj
      exact .inr ⟨rfl, hj.symm⟩
  refine ⟨G, C', hev, ⟨fun j oj hj => ?_, fun j hj => ?_, fun j l b hl hlb => ?_, fun i j l l' b hi hj hb hb' => ?_, fun j oj l hj hl => ?_, fun b hb => Nat.lt_of_lt_of_le (hH.gsz b hb) he.size⟩, ?_, by simp, fun j hj _ hιj => ?_⟩
  · rcases hget j oj hj with ⟨h1, h2⟩ | ⟨rfl, rfl⟩
    · rw [(hC3 j (by omega)).2]; exact hH.gen j oj h2
    · rw [hC2]; exact hh.gen 0 oj rfl
  · simp only [List.length_append, List.length_singleton] at hj
    rw [(hC3 j (by omega)).1, (hC3 j (by omega)).2]; exact hH.out j (by omega)
  · by_cases hj : j = H.length
    · subst hj; rw [hC1] at hl
      obtain ⟨q1, q2⟩ := hh.own 0 l b hl hlb
      exact ⟨q1, fun hg => q2 (he.lock b (.inl hg))⟩
    · rw [(hC3 j hj).1] at hl
      obtain ⟨q1, q2⟩ := hH.own j l b hl hlb
      exact ⟨Nat.lt_of_lt_of_le q1 he.size, q2⟩
  · by_cases h1 : i = H.length <;> by_cases h2 : j = H.length
    · omega
    · subst h1; rw [hC1] at hi; rw [(hC3 j h2).1] at hj
      have := hnew l b hi hb; have := (hH.own j l' b hj hb').1; omega
    · subst h2; rw [hC1] at hj; rw [(hC3 i h1).1] at hi
      have := hnew l' b hj hb'; have := (hH.own i l b hi hb).1; omega
    · rw [(hC3 i h1).1] at hi; rw [(hC3 j h2).1] at hj
      exact hH.inj i j l l' b hi hj hb hb'
  · rcases hget j oj hj with ⟨h1, h2⟩ | ⟨rfl, rfl⟩
    · rw [(hC3 j (by omega)).1] at hl
      exact (hH.ob j oj l h2 hl).ev hev fun b hb => hall b (hH.own j l b hl hb).1
    · rw [hC1] at hl
      have hob := hh.ob 0 oj l rfl hl
      refine ⟨hob.k, hob.rm, hob.no, hob.len, hob.row, fun b hb => ?_⟩
      obtain ⟨cs, et, q1, q2, q3⟩ := hob.cells b hb
      exact ⟨cs, et, q1, q2, fun i j hi hj => ⟨(q3 i j hi hj).1, (q3 i j hi hj).2.scal (scalss_get ho hi (by rw [hob.row i hi]; exact hj))⟩⟩
  · cases hv with
    | osl _ _ _ _ _ _ ad cap hnc hle hl =>
      refine .osl _ _ _ _ _ _ _ _ hnc (by rw [hC2]; exact hle) fun hg => ?_
      rw [hC2] at hg
      rw [hC1]
      exact hl hg
    | osl0 _ _ _ _ _ base hle hl =>
      refine .osl0 _ _ _ _ _ _ (by rw [hC2]; exact hle) fun hg => ?_
      rw [hC2] at hg
      rw [hC1]
      exact hl hg
  · rw [(hC3 j (by omega)).1, (hC3 j (by omega)).2, List.getElem?_append_left hj]
    exact ⟨hιj, rfl, rfl⟩
end Go.Proofs.Ytcmfnfkahdconaa.AM

set_option linter.unusedVariables false
set_option linter.unusedSimpArgs false
namespace Go.Proofs.Ytcmfnfkahdconaa.AM
open Go
theorem ACalls.virField {P : Program} {f : FuncId} {args : List AV} {a : AV} {k k0 : Nat} (h : ACalls P f args [] (.obj 0 0 0 0, [⟨0, 2, [[a, .sl .nil k0 []]], none⟩])) : ACalls P f args [] (.obj 0 0 0 0, [⟨0, 2, [[a, .osl 1 0 k 0 0]], none⟩, ⟨0, k, [], none⟩]) :=
  h.ghost0 fun G w C v hH hv => vir_cell_sound (id := 0) (e := 0) (c := 1) (k0 := k0) (o := ⟨0, 2, [[a, .sl .nil k0 []]], none⟩) hH k rfl (by simp) (by simp) rfl hv (VR.shows hv (id := 0) (g := 0) (.inl ⟨_, _, rfl⟩) (by simpa using hH.gen 0 _ rfl))
end Go.Proofs.Ytcmfnfkahdconaa.AM

set_option linter.unusedVariables false
set_option linter.unusedSimpArgs false
namespace Go.Proofs.Ytcmfnfkahdconaa.AM
open Go
end Go.Proofs.Ytcmfnfkahdconaa.AM

set_option linter.unusedVariables false
set_option linter.unusedSimpArgs false
namespace Go.Proofs.Ytcmfnfkahdconaa.AM
open Go
section
variable {G : Nat → Prop} {w : World} {C : Cx} {H : Heap}
end
end Go.Proofs.Ytcmfnfkahdconaa.AM

set_option linter.unusedVariables false
set_option linter.unusedSimpArgs false
namespace Go.Proofs.Ytcmfnfkahdconaa.AM
open Go
theorem ACalls.reclone {P : Program} {f : FuncId} {k n e g m : Nat} {els ys : List (List AV)} (h : ACalls P f [.sl .any k ys] [] (.osl 0 0 k 0 m, [⟨0, k, ys, none⟩])) (hs : AV.scalss ys = true) (hy : AV.bddss 1 ys = true)
    (hb : Brs [⟨g, k, els, none⟩] [.osl 0 g k e n] [.sl .any k ys]) : ACalls P f [.osl 0 g k e n] [⟨g, k, els, none⟩] (.osl 0 (g + 1) k 0 m, [⟨g + 1, k, ys, none⟩]) := by
  have h0 := h.borrow_osl hs hb
  have h1 := h0.ghost (i := 0) (id := 0) (g := g) (x := .osl 0 g k e n) (a' := .osl 0 (g + 1) k 0 m) (H2 := [⟨g + 1, k, ys, none⟩] ++ [⟨1, k, [], none⟩]) rfl (.inr ⟨_, _, _, rfl⟩) rfl rfl rfl rfl
    fun G w C v hH hv hl => steal_sound (id := 0) (j := 1) (g := g) (gj := 0) hH (by decide) rfl rfl rfl rfl hv hl
  refine h1.forget rfl rfl fun id o ho => .inr ?_
  cases id with
  | zero =>
    simp only [List.getElem?_cons_zero, Option.some.injEq] at ho
    subst ho
    exact hy
  | succ id => simp at ho
theorem IdxOsl.mko {id g k n e0 : Nat} {i : Int} {j : Nat} (m : Nat) (H : Heap) (hi : i = (m : Int)) (hj : m < n) (he : j = e0 + m) : IdxOsl id g k k e0 n i H j := by
  subst hi he
  have : (m : Int) < (n : Int) := by omega
  simp [IdxOsl, this]
end Go.Proofs.Ytcmfnfkahdconaa.AM

set_option linter.unusedVariables false
set_option linter.unusedSimpArgs false
namespace Go.Proofs.Ytcmfnfkahdconaa.AM
open Go
def ixX (o : Oper) : Operand := match o.op with
  | .index _ x _ => x
  | _ => .tmp 0
def ixN (o : Oper) : Operand := match o.op with
  | .index _ _ i => i
  | _ => .tmp 0
theorem str_get {s : ByteArray} {i : Nat} (h : i < s.size) : ∃ b : UInt8, s[i]? = some b ∧ nth (strL s) i = (b.toNat : Int) := by
  refine ⟨s[i], by simp [h], ?_⟩
  have h2 : i < s.data.toList.length := by simpa using h
  unfold strL nth
  rw [List.getD_eq_getElem?_getD, List.getElem?_map, List.getElem?_eq_getElem h2]
  rfl
theorem sat_index {P : Program} {X : Env} {F : Fr} {H : Heap} {ar : Nat} {o : Oper} (hT : TOk P X.T) {xt : TypeId} {ts : TI} {s : ByteArray} {i : Int} {n : Nat} (hop : o.op = .index xt (ixX o) (ixN o)) (hsem : isSem X o = true) (hs : X.T xt = some ts) (hsd : ts.d = .string)
    (hx : opv F (ixX o) = some (.str s)) (hi : opv F (ixN o) = some (.int .i64 i)) (hn : i = (n : Int)) (hlt : n < s.size) : Sat P X F H ar o (.int .u8 (nth (strL s) n)) H := by
  refine Sat.sem hsem ?_
  obtain ⟨dst, op, type, pos, after, guard⟩ := o
  simp only at hop
  generalize ixX _ = x at hop hx
  generalize ixN _ = y at hop hi
  subst hop hn
  intro G w C f hf hH
  have hv := hf x (by simp [Op.operands]) _ hx
  have hv2 := hf y (by simp [Op.operands]) _ hi
  generalize hu : f x = u at hv
  generalize hu2 : f y = u2 at hv2
  cases hv
  cases hv2
  have h2 : P.underlying xt = some .string := by
    have := (hT _ _ hs).und
    rw [hsd] at this
    exact this
  obtain ⟨b, hb, hnb⟩ := str_get hlt
  have hr : (Instr.index xt (f x) (f y)).run P w = .ok (.int .u8 b.toNat) w := by
    rw [hu, hu2]
    simp [Instr.index, asIntOf, run_underlying h2, hb]
  rw [hnb]
  exact ⟨_, w, by simp [execOp, hr], G, C, Ev.refl .., hH, .int .., Pd.refl⟩
end Go.Proofs.Ytcmfnfkahdconaa.AM

set_option maxRecDepth 100000
set_option linter.unusedVariables false
set_option linter.unusedSimpArgs false
namespace Go.Proofs.Ytcmfnfkahdconaa.AM
open Go Go.Proofs.Ytcmfnfkahdconaa
attribute [local irreducible] ACalls funT codeT codeQ LoopTo
def stR (s : Stamp) : Bool := decide (0 ≤ s.t) && (decide (0 ≤ s.n) && (decide (0 ≤ s.node) && decide (s.node < 6)))
def stRight_ann : Ann := { refs := [1], fin := some 0 }
set_option maxRecDepth 100000 in
theorem stRight_spec (s : Stamp)  : ACalls Try.prog 125 [(.agg (Stamp.row s))] ([] : Heap) ((AV.bool (stR s)), ([] : Heap)) :=
  specO (fn := Try.f125) (ann := stRight_ann) (Has.o Try.func125) (.r (.g (.r (.two (decide (s.t ≥ 0)) (fun h1 h1' => (.yes (.yes (.two (decide (s.n ≥ 0)) (fun h2 h2' => (.yes (.yes (.two (decide (s.node ≥ 0)) (fun h3 h3' => (.yes (.yes (.g (.f 0 (AV.bool (decide (s.node < 6))) (.e (AV.bool (decide (s.node < 6))) (by
        simp only [stR]
        simp_all <;> omega))))))) (fun h3 h3' => (.no (.no (.g (.f 0 (AV.bool false) (.e (AV.bool false) (by
        simp only [stR]
        simp_all <;> omega))))))))))) (fun h2 h2' => (.no (.no (.no (.no (.no (.g (.f 0 (AV.bool false) (.e (AV.bool false) (by
        simp only [stR]
        simp_all <;> omega)))))))))))))) (fun h1 h1' => (.no (.no (.no (.no (.no (.no (.no (.no (.g (.f 0 (AV.bool false) (.e (AV.bool false) (by
        simp only [stR]
        simp_all <;> omega)))))))))))))))))
theorem stRight_at (s : Stamp)  (H : Heap) : ACalls Try.prog 125 [(.agg (Stamp.row s))] H ((AV.bool (stR s)), H) := (stRight_spec s ).lift kr kr H
end Go.Proofs.Ytcmfnfkahdconaa.AM

set_option maxRecDepth 100000
set_option linter.unusedVariables false
set_option linter.unusedSimpArgs false
namespace Go.Proofs.Ytcmfnfkahdconaa.AM
open Go Go.Proofs.Ytcmfnfkahdconaa
attribute [local irreducible] ACalls funT codeT codeQ LoopTo
def charOk (c : Int) : Bool := (decide (97 ≤ c) && decide (c ≤ 122)) || (decide (48 ≤ c) && decide (c ≤ 57))
def nameB (tx : ByteArray) : Bool := decide (0 < tx.size) && (decide (tx.size ≤ 16) && (strL tx).all charOk)
theorem all_nth {l : List Int} {f : Int → Bool} (h : l.all f = true) {j : Nat} (hj : j < l.length) : f (nth l j) = true := by
  rw [List.all_eq_true] at h
  have := nth_get hj
  exact h _ (List.mem_of_getElem? this)
theorem all_no {l : List Int} {f : Int → Bool} (h : l.all f = false) : ∃ j, j < l.length ∧ f (nth l j) = false := by
  rw [List.all_eq_false] at h
  obtain ⟨x, hx, h2⟩ := h
  obtain ⟨j, hj, e⟩ := List.getElem_of_mem hx
  exact ⟨j, hj, by rw [nth_eq (by rw [List.getElem?_eq_getElem hj, e]) ]; simpa using h2⟩
def nm_ann : Ann := { big := [20], fin := some 0, live := [(4, [0, 2, 13, 14, 15])], out := [(4, [0, 2])] }
@[simp] abbrev Wi_1 (v1_ : ByteArray) (v2_ : Nat) : Fr := (mkF 36 [(0, (AV.str v1_)), (2, (AV.bool false)), (13, (AV.str v1_)), (14, (AV.int .i64 ((v1_.size : Nat) : Int))), (15, (AV.int .i64 ((v2_ + 1 : Nat) : Int)))])
@[simp] abbrev Wi_2 (v1_ : ByteArray) (v2_ : Nat) : Fr := (mkF 36 [(0, (AV.str v1_)), (2, (AV.bool false)), (13, (AV.str v1_)), (14, (AV.int .i64 ((v1_.size : Nat) : Int))), (15, (AV.int .i64 ((v2_ : Nat) : Int)))])
set_option maxRecDepth 100000 in
theorem nm_step (tx : ByteArray) (i : Nat) (hs : tx.size < 100) (hi : i ≤ tx.size) {eX : Ex} {FX : Fr} {HX : Heap} (k1 : (decide (((i : Nat) : Int) < ((tx.size : Nat) : Int))) = true → (decide ((nth (strL tx) i) < 97)) = true → (decide ((nth (strL tx) i) < 48)) = true → ((.ret : Ex), (mkF 36 [(0, (.str tx)), (2, (.bool false))]), ([] : Heap)) = (eX, FX, HX)) (k2 : (decide (((i : Nat) : Int) < ((tx.size : Nat) : Int))) = true → (decide ((nth (strL tx) i) < 97)) = true → (decide ((nth (strL tx) i) < 48)) = false → (decide ((nth (strL tx) i) > 57)) = true → ((.ret : Ex), (mkF 36 [(0, (.str tx)), (2, (.bool false))]), ([] : Heap)) = (eX, FX, HX)) (k3 : (decide (((i : Nat) : Int) < ((tx.size : Nat) : Int))) = true → (decide ((nth (strL tx) i) < 97)) = true → (decide ((nth (strL tx) i) < 48)) = false → (decide ((nth (strL tx) i) > 57)) = false → LoopTo (codeQ Try.prog (X nm_ann) (loopOf Try.f124 0)) (some [0, 2, 13, 14, 15]) (some [0, 2]) (Wi_1 tx i) ([] : Heap) eX FX HX) (k4 : (decide (((i : Nat) : Int) < ((tx.size : Nat) : Int))) = true → (decide ((nth (strL tx) i) < 97)) = false → (decide ((nth (strL tx) i) > 122)) = true → (decide ((nth (strL tx) i) < 48)) = true → ((.ret : Ex), (mkF 36 [(0, (.str tx)), (2, (.bool false))]), ([] : Heap)) = (eX, FX, HX)) (k5 : (decide (((i : Nat) : Int) < ((tx.size : Nat) : Int))) = true → (decide ((nth (strL tx) i) < 97)) = false → (decide ((nth (strL tx) i) > 122)) = true → (decide ((nth (strL tx) i) < 48)) = false → (decide ((nth (strL tx) i) > 57)) = true → ((.ret : Ex), (mkF 36 [(0, (.str tx)), (2, (.bool false))]), ([] : Heap)) = (eX, FX, HX)) (k6 : (decide (((i : Nat) : Int) < ((tx.size : Nat) : Int))) = true → (decide ((nth (strL tx) i) < 97)) = false → (decide ((nth (strL tx) i) > 122)) = true → (decide ((nth (strL tx) i) < 48)) = false → (decide ((nth (strL tx) i) > 57)) = false → LoopTo (codeQ Try.prog (X nm_ann) (loopOf Try.f124 0)) (some [0, 2, 13, 14, 15]) (some [0, 2]) (Wi_1 tx i) ([] : Heap) eX FX HX) (k7 : (decide (((i : Nat) : Int) < ((tx.size : Nat) : Int))) = true → (decide ((nth (strL tx) i) < 97)) = false → (decide ((nth (strL tx) i) > 122)) = false → LoopTo (codeQ Try.prog (X nm_ann) (loopOf Try.f124 0)) (some [0, 2, 13, 14, 15]) (some [0, 2]) (Wi_1 tx i) ([] : Heap) eX FX HX) (k8 : (decide (((i : Nat) : Int) < ((tx.size : Nat) : Int))) = false → ((.exit 0 : Ex), (mkF 36 [(0, (.str tx)), (2, (.bool false))]), ([] : Heap)) = (eX, FX, HX)) : LoopTo (codeQ Try.prog (X nm_ann) (loopOf Try.f124 0)) (some [0, 2, 13, 14, 15]) (some [0, 2]) (Wi_2 tx i) ([] : Heap) eX FX HX :=
  stepO (.r (.g (.two (decide (((i : Nat) : Int) < ((tx.size : Nat) : Int))) (fun h1 h1' => (.r (.g (.r (.t 2 (AV.int .u8 (nth (strL tx) i)) ([] : Heap) (sat_index (xt := 9) (ts := { d := .string, size := 1, bytes := 16, zero := [.str ⟨#[]⟩] }) (i := ((i : Nat) : Int)) (n := i) ttOk kr kr kr rfl kr kr ow ow : Sat Try.prog (X nm_ann) (mkF 36 [(0, (AV.str tx)), (2, (AV.bool false)), (3, (AV.int .i64 ((i : Nat) : Int))), (13, (AV.str tx)), (14, (AV.int .i64 ((tx.size : Nat) : Int))), (15, (AV.int .i64 ((i : Nat) : Int))), (16, (AV.bool (decide (((i : Nat) : Int) < ((tx.size : Nat) : Int))))), (17, (AV.int .i64 ((i : Nat) : Int))), (18, (AV.str tx)), (19, (AV.int .i64 ((i : Nat) : Int)))]) ([] : Heap) 0 (opIn Try.f124 6 2) (AV.int .u8 (nth (strL tx) i)) ([] : Heap)) (.g (.r (.two (decide ((nth (strL tx) i) < 97)) (fun h2 h2' => (.yes (.yes (.yes (.yes (.two (decide ((nth (strL tx) i) < 48)) (fun h3 h3' => (.yes (.yes (.g (.yes (.r (.g (.l (k1 h1 h2 h3))))))))) (fun h3 h3' => (.no (.yes (.g (.two (decide ((nth (strL tx) i) > 57)) (fun h4 h4' => (.r (.g (.l (k2 h1 h2 h3 h4))))) (fun h4 h4' => (.r (.y 0 (.int .i64 (IntKind.i64.wrap (((i : Nat) : Int) + 1))) (AV.int .i64 ((i + 1 : Nat) : Int)) (Yes.add ow ow ow) (.g (.l (k3 h1 h2 h3 h4))))))))))))))))) (fun h2 h2' => (.no (.two (decide ((nth (strL tx) i) > 122)) (fun h3 h3' => (.yes (.yes (.two (decide ((nth (strL tx) i) < 48)) (fun h4 h4' => (.yes (.yes (.g (.yes (.r (.g (.l (k4 h1 h2 h3 h4))))))))) (fun h4 h4' => (.no (.yes (.g (.two (decide ((nth (strL tx) i) > 57)) (fun h5 h5' => (.r (.g (.l (k5 h1 h2 h3 h4 h5))))) (fun h5 h5' => (.r (.y 0 (.int .i64 (IntKind.i64.wrap (((i : Nat) : Int) + 1))) (AV.int .i64 ((i + 1 : Nat) : Int)) (Yes.add ow ow ow) (.g (.l (k6 h1 h2 h3 h4 h5))))))))))))))) (fun h3 h3' => (.no (.no (.no (.g (.no (.r (.y 0 (.int .i64 (IntKind.i64.wrap (((i : Nat) : Int) + 1))) (AV.int .i64 ((i + 1 : Nat) : Int)) (Yes.add ow ow ow) (.g (.l (k7 h1 h2 h3)))))))))))))))))))))) (fun h1 h1' => (.l (k8 h1))))))
theorem nm_good (tx : ByteArray) (hs : tx.size < 100) (r : Nat) : ∀ (i : Nat), i + r = tx.size → (∀ j, i ≤ j → j < tx.size → charOk (nth (strL tx) j) = true) →
    LoopTo (codeQ Try.prog (X nm_ann) (loopOf Try.f124 0)) (some [0, 2, 13, 14, 15]) (some [0, 2]) (Wi_2 tx i) ([] : Heap) (.exit 0) (mkF 36 [(0, (.str tx)), (2, (.bool false))]) ([] : Heap) := by
  induction r with
  | zero =>
    intro i hi hall
    refine nm_step tx i hs ow (fun h1 h2 h3 => absurd h1 (by simp; omega)) (fun h1 h2 h3 h4 => absurd h1 (by simp; omega)) (fun h1 h2 h3 h4 => absurd h1 (by simp; omega)) (fun h1 h2 h3 h4 => absurd h1 (by simp; omega)) (fun h1 h2 h3 h4 h5 => absurd h1 (by simp; omega)) (fun h1 h2 h3 h4 h5 => absurd h1 (by simp; omega)) (fun h1 h2 h3 => absurd h1 (by simp; omega)) (fun h1 => rfl)
  | succ r ih =>
    intro i hi hall
    refine nm_step tx i hs ow (fun h1 h2 h3 => absurd (hall i (Nat.le_refl _) ow) (by rw [(show charOk (nth (strL tx) i) = false by simp only [decide_eq_true_eq, decide_eq_false_iff_not] at h1 h2 h3; simp [charOk]; omega)]; simp)) (fun h1 h2 h3 h4 => absurd (hall i (Nat.le_refl _) ow) (by rw [(show charOk (nth (strL tx) i) = false by simp only [decide_eq_true_eq, decide_eq_false_iff_not] at h1 h2 h3 h4; simp [charOk]; omega)]; simp)) (fun h1 h2 h3 h4 => ih (i + 1) ow (fun j hj hj2 => hall j ow hj2)) (fun h1 h2 h3 h4 => absurd (hall i (Nat.le_refl _) ow) (by rw [(show charOk (nth (strL tx) i) = false by simp only [decide_eq_true_eq, decide_eq_false_iff_not] at h1 h2 h3 h4; simp [charOk]; omega)]; simp)) (fun h1 h2 h3 h4 h5 => absurd (hall i (Nat.le_refl _) ow) (by rw [(show charOk (nth (strL tx) i) = false by simp only [decide_eq_true_eq, decide_eq_false_iff_not] at h1 h2 h3 h4 h5; simp [charOk]; omega)]; simp)) (fun h1 h2 h3 h4 h5 => ih (i + 1) ow (fun j hj hj2 => hall j ow hj2)) (fun h1 h2 h3 => ih (i + 1) ow (fun j hj hj2 => hall j ow hj2)) (fun h1 => absurd h1 (by simp; omega))
theorem nm_bad (tx : ByteArray) (hs : tx.size < 100) (r : Nat) : ∀ (i : Nat), i + r = tx.size → (∃ j, i ≤ j ∧ j < tx.size ∧ charOk (nth (strL tx) j) = false) →
    LoopTo (codeQ Try.prog (X nm_ann) (loopOf Try.f124 0)) (some [0, 2, 13, 14, 15]) (some [0, 2]) (Wi_2 tx i) ([] : Heap) (.ret) (mkF 36 [(0, (.str tx)), (2, (.bool false))]) ([] : Heap) := by
  induction r with
  | zero =>
    intro i hi hex
    obtain ⟨j, hj1, hj2, _⟩ := hex
    omega
  | succ r ih =>
    intro i hi hex
    refine nm_step tx i hs ow (fun h1 h2 h3 => rfl) (fun h1 h2 h3 h4 => rfl) (fun h1 h2 h3 h4 => (by
      obtain ⟨j, hj1, hj2, hj3⟩ := hex
      have hne : j ≠ i := fun e => by rw [e, (show charOk (nth (strL tx) i) = true by simp only [decide_eq_true_eq, decide_eq_false_iff_not] at h1 h2 h3 h4; simp [charOk]; omega)] at hj3; simp at hj3
      exact ih (i + 1) ow ⟨j, by omega, hj2, hj3⟩)) (fun h1 h2 h3 h4 => rfl) (fun h1 h2 h3 h4 h5 => rfl) (fun h1 h2 h3 h4 h5 => (by
      obtain ⟨j, hj1, hj2, hj3⟩ := hex
      have hne : j ≠ i := fun e => by rw [e, (show charOk (nth (strL tx) i) = true by simp only [decide_eq_true_eq, decide_eq_false_iff_not] at h1 h2 h3 h4 h5; simp [charOk]; omega)] at hj3; simp at hj3
      exact ih (i + 1) ow ⟨j, by omega, hj2, hj3⟩)) (fun h1 h2 h3 => (by
      obtain ⟨j, hj1, hj2, hj3⟩ := hex
      have hne : j ≠ i := fun e => by rw [e, (show charOk (nth (strL tx) i) = true by simp only [decide_eq_true_eq, decide_eq_false_iff_not] at h1 h2 h3; simp [charOk]; omega)] at hj3; simp at hj3
      exact ih (i + 1) ow ⟨j, by omega, hj2, hj3⟩)) (fun h1 => absurd h1 (by simp; omega))
@[simp] abbrev Wi_3 (v1_ : ByteArray) : Fr := (mkF 36 [(0, (AV.str v1_)), (2, (AV.bool false)), (13, (AV.str v1_)), (14, (AV.int .i64 ((v1_.size : Nat) : Int))), (15, (AV.int .i64 0))])
set_option maxRecDepth 100000 in
theorem nameT_spec (tx : ByteArray) (hb : nameB tx = true) : ACalls Try.prog 124 [(.str tx)] ([] : Heap) ((AV.bool true), ([] : Heap)) := by
  have hB := hb
  simp only [nameB, Bool.and_eq_true, decide_eq_true_eq] at hB
  obtain ⟨q1, q2, q3⟩ := hB
  have hs : tx.size < 100 := by omega
  exact specO (fn := Try.f124) (ann := nm_ann) (Has.o Try.func124) (.r (.g (.r (.y 2 (AV.bool (((tx.size : Nat) : Int) == 0)) (AV.bool false) (Yes.bool (beq_eq_false_iff_ne.2 ow)) (.no (.no (.no (.y 6 (AV.bool (decide (((tx.size : Nat) : Int) > 16))) (AV.bool false) (Yes.bool (by simp; omega)) (.g (.no (.r (.g (.loop (mkF 36 [(0, (.str tx)), (2, (.bool false))]) (show LoopTo (codeQ Try.prog (X nm_ann) (loopOf Try.f124 0)) (some [0, 2, 13, 14, 15]) (some [0, 2]) (Wi_3 tx) ([] : Heap) (.exit 0) (mkF 36 [(0, (.str tx)), (2, (.bool false))]) ([] : Heap) from (nm_good tx hs tx.size 0 ow (fun j hj hj2 => all_nth q3 (by rw [strL_len]; exact hj2)))) (.r (.g (.f 0 (AV.bool true) (.e (AV.bool true))))))))))))))))))
set_option maxRecDepth 100000 in
theorem nameF_spec (tx : ByteArray) (hb : nameB tx = false) : ACalls Try.prog 124 [(.str tx)] ([] : Heap) ((AV.bool false), ([] : Heap)) :=
  specO (fn := Try.f124) (ann := nm_ann) (Has.o Try.func124) (.r (.g (.r (.two (((tx.size : Nat) : Int) == 0) (fun h1 h1' => (.yes (.yes (.g (.yes (.r (.g (.f 0 (AV.bool false) (.e (AV.bool false)))))))))) (fun h1 h1' => (.no (.no (.g (.two (decide (((tx.size : Nat) : Int) > 16)) (fun h2 h2' => (.r (.g (.f 0 (AV.bool false) (.e (AV.bool false)))))) (fun h2 h2' => (.r (.g (.loop (mkF 36 [(0, (.str tx)), (2, (.bool false))]) (show LoopTo (codeQ Try.prog (X nm_ann) (loopOf Try.f124 0)) (some [0, 2, 13, 14, 15]) (some [0, 2]) (Wi_3 tx) ([] : Heap) (.ret) (mkF 36 [(0, (.str tx)), (2, (.bool false))]) ([] : Heap) from (nm_bad tx (by have q := h1'; have q2 := h2'; omega) tx.size 0 ow (by
        have q := h1'; have q2 := h2'
        have h3 : (strL tx).all charOk = false := by
          cases h4 : (strL tx).all charOk with
          | false => rfl
          | true =>
            have h5 : nameB tx = true := by simp only [nameB, Bool.and_eq_true, decide_eq_true_eq]; exact ⟨by omega, by omega, h4⟩
            rw [h5] at hb; simp at hb
        obtain ⟨j, hj, hj2⟩ := all_no h3
        exact ⟨j, Nat.zero_le _, by rw [strL_len] at hj; exact hj, hj2⟩))) (.f 0 (AV.bool false) (.e (AV.bool false))))))))))))))))
theorem name_spec (tx : ByteArray)  : ACalls Try.prog 124 [(.str tx)] ([] : Heap) ((AV.bool (nameB tx)), ([] : Heap)) := by
  cases hb : nameB tx with
  | true => exact nameT_spec tx hb
  | false => exact nameF_spec tx hb
theorem name_at (tx : ByteArray)  (H : Heap) : ACalls Try.prog 124 [(.str tx)] H ((AV.bool (nameB tx)), H) := (name_spec tx ).lift kr kr H
def cardR (c : Card) : Bool := nameB c.key.app && (nameB c.key.id && ((decide (c.status = 1) || decide (c.status = 2)) && ((decide (0 ≤ c.over) && decide (c.over ≤ 3)) && ((decide (1 ≤ c.lease) && decide (c.lease ≤ 1048576)) && stR c.stamp))))
attribute [local irreducible] nameB stR
def cright_ann : Ann := { refs := [1], fin := some 0 }
set_option maxRecDepth 100000 in
theorem cright_spec (c : Card)  : ACalls Try.prog 72 [(.agg (Card.row c))] ([] : Heap) ((AV.bool (cardR c)), ([] : Heap)) :=
  specO (fn := Try.f72) (ann := cright_ann) (Has.o Try.func72) (.r (.g (.r (.c 3 (name_at c.key.app  ([] : Heap)) (.two (!(nameB c.key.app)) (fun h1 h1' => (.yes (.yes (.yes (.yes (.g (.yes (.r (.g (.f 0 (AV.bool false) (.e (AV.bool false) (by
        simp only [cardR]
        simp_all <;> omega)))))))))))) (fun h1 h1' => (.no (.no (.no (.c 9 (name_at c.key.id  ([] : Heap)) (.no (.g (.two (!(nameB c.key.id)) (fun h2 h2' => (.r (.g (.f 0 (AV.bool false) (.e (AV.bool false) (by
        simp only [cardR]
        simp_all <;> omega)))))) (fun h2 h2' => (.r (.two (c.status != 1) (fun h3 h3' => (.yes (.yes (.g (.two (c.status != 2) (fun h4 h4' => (.r (.g (.f 0 (AV.bool false) (.e (AV.bool false) (by
        simp only [cardR]
        simp_all <;> omega)))))) (fun h4 h4' => (.r (.two (decide (c.over < 0)) (fun h5 h5' => (.yes (.yes (.g (.yes (.r (.g (.f 0 (AV.bool false) (.e (AV.bool false) (by
        simp only [cardR]
        simp_all <;> omega)))))))))) (fun h5 h5' => (.no (.no (.g (.two (decide (c.over > 3)) (fun h6 h6' => (.r (.g (.f 0 (AV.bool false) (.e (AV.bool false) (by
        simp only [cardR]
        simp_all <;> omega)))))) (fun h6 h6' => (.r (.two (decide (c.lease ≥ 1)) (fun h7 h7' => (.yes (.yes (.two (decide (c.lease ≤ 1048576)) (fun h8 h8' => (.yes (.yes (.c 11 (stRight_at c.stamp  ([] : Heap)) (.g (.f 0 (AV.bool (stR c.stamp)) (.e (AV.bool (stR c.stamp)) (by
        simp only [cardR]
        simp_all <;> omega)))))))) (fun h8 h8' => (.no (.no (.g (.f 0 (AV.bool false) (.e (AV.bool false) (by
        simp only [cardR]
        simp_all <;> omega))))))))))) (fun h7 h7' => (.no (.no (.no (.no (.no (.g (.f 0 (AV.bool false) (.e (AV.bool false) (by
        simp only [cardR]
        simp_all <;> omega)))))))))))))))))))))))))) (fun h3 h3' => (.no (.no (.g (.no (.r (.two (decide (c.over < 0)) (fun h4 h4' => (.yes (.yes (.g (.yes (.r (.g (.f 0 (AV.bool false) (.e (AV.bool false) (by
        simp only [cardR]
        simp_all <;> omega)))))))))) (fun h4 h4' => (.no (.no (.g (.two (decide (c.over > 3)) (fun h5 h5' => (.r (.g (.f 0 (AV.bool false) (.e (AV.bool false) (by
        simp only [cardR]
        simp_all <;> omega)))))) (fun h5 h5' => (.r (.two (decide (c.lease ≥ 1)) (fun h6 h6' => (.yes (.yes (.two (decide (c.lease ≤ 1048576)) (fun h7 h7' => (.yes (.yes (.c 11 (stRight_at c.stamp  ([] : Heap)) (.g (.f 0 (AV.bool (stR c.stamp)) (.e (AV.bool (stR c.stamp)) (by
        simp only [cardR]
        simp_all <;> omega)))))))) (fun h7 h7' => (.no (.no (.g (.f 0 (AV.bool false) (.e (AV.bool false) (by
        simp only [cardR]
        simp_all <;> omega))))))))))) (fun h6 h6' => (.no (.no (.no (.no (.no (.g (.f 0 (AV.bool false) (.e (AV.bool false) (by
        simp only [cardR]
        simp_all <;> omega)))))))))))))))))))))))))))))))))))))))))
theorem cright_at (c : Card)  (H : Heap) : ACalls Try.prog 72 [(.agg (Card.row c))] H ((AV.bool (cardR c)), H) := (cright_spec c ).lift kr kr H
attribute [local irreducible] cardR
end Go.Proofs.Ytcmfnfkahdconaa.AM

set_option linter.unusedVariables false
set_option linter.unusedSimpArgs false
set_option maxRecDepth 100000
namespace Go.Proofs.Ytcmfnfkahdconaa.AM
open Go
def ixOf {α : Type} (p : α → Bool) : List α → Nat → Option Nat
  | [], _ => none
  | x :: xs, i => if p x = true then some i else ixOf p xs (i + 1)
def ixI {α : Type} (p : α → Bool) (l : List α) : Int := match ixOf p l 0 with | some n => (n : Int) | none => -1
theorem ixOf_some {α : Type} [Inhabited α] {p : α → Bool} (l : List α) : ∀ (i n : Nat), ixOf p l i = some n → i ≤ n ∧ n < i + l.length ∧ p (nth l (n - i)) = true ∧ ∀ j, j < n - i → p (nth l j) = false := by
  induction l with
  | nil => intro i n h; simp [ixOf] at h
  | cons x xs ih =>
    intro i n h
    simp only [ixOf] at h
    by_cases hx : p x = true
    · rw [if_pos hx] at h
      obtain rfl : i = n := by simpa using h
      refine ⟨Nat.le_refl _, by simp, by simpa [nth] using hx, fun j hj => by omega⟩
    · rw [if_neg hx] at h
      obtain ⟨h1, h2, h3, h4⟩ := ih (i + 1) n h
      have e1 : n - i = (n - (i + 1)) + 1 := by omega
      refine ⟨by omega, by simp only [List.length_cons]; omega, by rw [e1]; simpa [nth] using h3, fun j hj => ?_⟩
      cases j with
      | zero => simpa [nth] using hx
      | succ j => simpa [nth] using h4 j (by omega)
theorem ixOf_none {α : Type} [Inhabited α] {p : α → Bool} (l : List α) : ∀ (i : Nat), ixOf p l i = none → ∀ j, j < l.length → p (nth l j) = false := by
  induction l with
  | nil => intro i h j hj; simp at hj
  | cons x xs ih =>
    intro i h j hj
    simp only [ixOf] at h
    by_cases hx : p x = true
    · rw [if_pos hx] at h; simp at h
    · rw [if_neg hx] at h
      cases j with
      | zero => simpa [nth] using hx
      | succ j => simpa [nth] using ih (i + 1) h j (by simpa using hj)
end Go.Proofs.Ytcmfnfkahdconaa.AM

set_option maxRecDepth 100000
set_option linter.unusedVariables false
set_option linter.unusedSimpArgs false
namespace Go.Proofs.Ytcmfnfkahdconaa.AM
open Go Go.Proofs.Ytcmfnfkahdconaa
attribute [local irreducible] ACalls funT codeT codeQ LoopTo
attribute [local irreducible] Tp.card Tp.cardT Tp.next Tp.step Tp.cards Tp.key Tp.keyT sink insSort sortK insK posK beforeK sortP cmpK
def ixKey_ann : Ann := { refs := [3], fin := some 0, live := [(2, [0, 3, 7, 8])], out := [(2, [4])] }
@[simp] abbrev Vx_1 (v1_ : List Key) (v2_ : Key) (v3_ : Nat) : Fr := (mkF 19 [(0, (AV.sl .any 2 (List.map Key.row v1_))), (3, (AV.ref (Key.row v2_) 0)), (7, (AV.int .i64 ((v1_.length : Nat) : Int))), (8, (AV.int .i64 ((v3_ : Nat) : Int)))])
set_option maxRecDepth 100000 in
theorem ixKey_step (v : Key) (l : List Key) (i : Nat) (hl : l.length < 1099511627776) (hi : i ≤ l.length) {eX : Ex} {FX : Fr} {HX : Heap} (k1 : (decide (((i : Nat) : Int) < ((l.length : Nat) : Int))) = true → (Key.eqb v (nth l i)) = true → ((.ret : Ex), (mkF 19 [(4, (.int .i64 ((i : Nat) : Int)))]), ([] : Heap)) = (eX, FX, HX)) (k2 : (decide (((i : Nat) : Int) < ((l.length : Nat) : Int))) = true → (Key.eqb v (nth l i)) = false → LoopTo (codeQ Try.prog (X ixKey_ann) (loopOf Try.f139 0)) (some [0, 3, 7, 8]) (some [4]) (mkF 19 [(0, (.sl .any 2 (List.map Key.row l))), (3, (.ref (Key.row v) 0)), (7, (.int .i64 ((l.length : Nat) : Int))), (8, (.int .i64 ((i + 1 : Nat) : Int)))]) ([] : Heap) eX FX HX) (k3 : (decide (((i : Nat) : Int) < ((l.length : Nat) : Int))) = false → ((.exit 0 : Ex), (mkF 19 []), ([] : Heap)) = (eX, FX, HX)) : LoopTo (codeQ Try.prog (X ixKey_ann) (loopOf Try.f139 0)) (some [0, 3, 7, 8]) (some [4]) (Vx_1 l v i) ([] : Heap) eX FX HX :=
  stepO (.r (.g (.two (decide (((i : Nat) : Int) < ((l.length : Nat) : Int))) (fun h1 h1' => (.r (.g (.r (.is 3 2 2 (List.map Key.row l) ((i : Nat) : Int) (Key.row (nth l i)) (IdxSl.mk _ ow ow) (.g (.two (Key.eqb v (nth l i)) (fun h2 h2' => (.r (.g (.l (k1 h1 h2))))) (fun h2 h2' => (.r (.y 0 (.int .i64 (IntKind.i64.wrap (((i : Nat) : Int) + 1))) (AV.int .i64 ((i + 1 : Nat) : Int)) (Yes.add ow ow ow) (.g (.l (k2 h1 h2))))))))))))) (fun h1 h1' => (.l (k3 h1))))))
theorem ixKey_some (v : Key) (l : List Key) (hl : l.length < 1099511627776) (n : Nat) (hn : n < l.length) (hp : Key.eqb v (nth l n) = true) (r : Nat) : ∀ (i : Nat), i + r = n → (∀ j, i ≤ j → j < n → Key.eqb v (nth l j) = false) →
    LoopTo (codeQ Try.prog (X ixKey_ann) (loopOf Try.f139 0)) (some [0, 3, 7, 8]) (some [4]) (Vx_1 l v i) ([] : Heap) (.ret) (mkF 19 [(4, (.int .i64 ((n : Nat) : Int)))]) ([] : Heap) := by
  induction r with
  | zero =>
    intro i hi h
    obtain rfl : i = n := by omega
    refine ixKey_step v l i hl ow (fun _ _ => rfl) (fun _ h2 => ?_) (fun h1 => ?_)
    · rw [hp] at h2; simp at h2
    · simp at h1; omega
  | succ r ih =>
    intro i hi h
    refine ixKey_step v l i hl ow (fun _ h2 => ?_) (fun _ h2 => ?_) (fun h1 => ?_)
    · rw [h i (Nat.le_refl _) ow] at h2; simp at h2
    · exact ih (i + 1) ow (fun j h3 h4 => h j ow h4)
    · simp at h1; omega
theorem ixKey_none (v : Key) (l : List Key) (hl : l.length < 1099511627776) (r : Nat) : ∀ (i : Nat), i + r = l.length → (∀ j, i ≤ j → j < l.length → Key.eqb v (nth l j) = false) →
    LoopTo (codeQ Try.prog (X ixKey_ann) (loopOf Try.f139 0)) (some [0, 3, 7, 8]) (some [4]) (Vx_1 l v i) ([] : Heap) (.exit 0) (mkF 19 []) ([] : Heap) := by
  induction r with
  | zero =>
    intro i hi h
    refine ixKey_step v l i hl ow (fun h1 _ => ?_) (fun h1 h2 => ?_) (fun h1 => rfl)
    · simp at h1; omega
    · simp at h1; omega
  | succ r ih =>
    intro i hi h
    refine ixKey_step v l i hl ow (fun _ h2 => ?_) (fun _ h2 => ?_) (fun h1 => ?_)
    · rw [h i (Nat.le_refl _) ow] at h2; simp at h2
    · exact ih (i + 1) ow (fun j h3 h4 => h j ow h4)
    · simp at h1; omega
@[simp] abbrev Vx_2 (v1_ : List Key) (v2_ : Key) : Fr := (mkF 19 [(0, (AV.sl .any 2 (List.map Key.row v1_))), (3, (AV.ref (Key.row v2_) 0)), (7, (AV.int .i64 ((v1_.length : Nat) : Int))), (8, (AV.int .i64 0))])
set_option maxRecDepth 100000 in
theorem ixKeyS_spec (v : Key) (l : List Key) (n : Nat) (hl : l.length < 1099511627776) (hn : n < l.length) (hp : Key.eqb v (nth l n) = true) (h : ∀ j, 0 ≤ j → j < n → Key.eqb v (nth l j) = false) : ACalls Try.prog 139 [(.sl .any 2 (List.map Key.row l)), (.agg (Key.row v))] ([] : Heap) ((AV.int .i64 ((n : Nat) : Int)), ([] : Heap)) :=
  specO (fn := Try.f139) (ann := ixKey_ann) (Has.o Try.func139) (.r (.g (.r (.y 1 (.int .i64 ((List.length (List.map Key.row l) : Nat) : Int)) (AV.int .i64 ((l.length : Nat) : Int)) (Yes.len _ _ _) (.g (.loop (mkF 19 [(4, (.int .i64 ((n : Nat) : Int)))]) (show LoopTo (codeQ Try.prog (X ixKey_ann) (loopOf Try.f139 0)) (some [0, 3, 7, 8]) (some [4]) (Vx_2 l v) ([] : Heap) (.ret) (mkF 19 [(4, (.int .i64 ((n : Nat) : Int)))]) ([] : Heap) from (ixKey_some v l hl n hn hp n 0 ow h)) (.f 0 (AV.int .i64 ((n : Nat) : Int)) (.e (AV.int .i64 ((n : Nat) : Int))))))))))
set_option maxRecDepth 100000 in
theorem ixKeyN_spec (v : Key) (l : List Key) (hl : l.length < 1099511627776) (h : ∀ j, 0 ≤ j → j < l.length → Key.eqb v (nth l j) = false) : ACalls Try.prog 139 [(.sl .any 2 (List.map Key.row l)), (.agg (Key.row v))] ([] : Heap) ((AV.int .i64 (-1)), ([] : Heap)) :=
  specO (fn := Try.f139) (ann := ixKey_ann) (Has.o Try.func139) (.r (.g (.r (.y 1 (.int .i64 ((List.length (List.map Key.row l) : Nat) : Int)) (AV.int .i64 ((l.length : Nat) : Int)) (Yes.len _ _ _) (.g (.loop (mkF 19 []) (show LoopTo (codeQ Try.prog (X ixKey_ann) (loopOf Try.f139 0)) (some [0, 3, 7, 8]) (some [4]) (Vx_2 l v) ([] : Heap) (.exit 0) (mkF 19 []) ([] : Heap) from (ixKey_none v l hl l.length 0 ow h)) (.r (.g (.f 0 (AV.int .i64 (-1)) (.e (AV.int .i64 (-1))))))))))))
theorem ixKey_spec (v : Key) (l : List Key) (hl : l.length < 1099511627776) : ACalls Try.prog 139 [(.sl .any 2 (List.map Key.row l)), (.agg (Key.row v))] ([] : Heap) ((AV.int .i64 (ixI (Key.eqb v) l)), ([] : Heap)) := by
  unfold ixI
  cases h : ixOf (Key.eqb v) l 0 with
  | none => exact ixKeyN_spec v l hl (fun j _ hj => ixOf_none l 0 h j hj)
  | some n =>
    obtain ⟨_, h2, h3, h4⟩ := ixOf_some l 0 n h
    exact ixKeyS_spec v l n hl ow h3 (fun j _ hj => h4 j hj)
theorem ixKey_at (v : Key) (l : List Key) (hl : l.length < 1099511627776) (H : Heap) : ACalls Try.prog 139 [(.sl .any 2 (List.map Key.row l)), (.agg (Key.row v))] H ((AV.int .i64 (ixI (Key.eqb v) l)), H) := (ixKey_spec v l hl).lift kr kr H
def hasK (l : List Key) (v : Key) : Bool := decide (ixI (Key.eqb v) l ≥ 0)
def hasKey_ann : Ann := { refs := [3], fin := some 0 }
set_option maxRecDepth 100000 in
theorem hasKey_spec (l : List Key) (v : Key) (hl : l.length < 1099511627776) : ACalls Try.prog 95 [(.sl .any 2 (List.map Key.row l)), (.agg (Key.row v))] ([] : Heap) ((AV.bool (hasK l v)), ([] : Heap)) :=
  specO (fn := Try.f95) (ann := hasKey_ann) (Has.o Try.func95) (.r (.g (.r (.c 2 (ixKey_at v l oa ([] : Heap)) (.g (.f 0 (AV.bool (decide ((ixI (Key.eqb v) l) ≥ 0))) (.e (AV.bool (decide ((ixI (Key.eqb v) l) ≥ 0))))))))))
end Go.Proofs.Ytcmfnfkahdconaa.AM

set_option linter.unusedVariables false
set_option linter.unusedSimpArgs false
set_option maxRecDepth 100000
namespace Go.Proofs.Ytcmfnfkahdconaa.AM
open Go
def lastsK : List Key → List Key
  | [] => []
  | k :: r => if (!(hasK r k)) = true then k :: lastsK r else lastsK r
theorem lastsK_len (l : List Key) : (lastsK l).length ≤ l.length := by
  induction l with
  | nil => simp [lastsK]
  | cons k l ih => simp only [lastsK]; split <;> simp only [List.length_cons] <;> omega
def recL (a : List Key) : List Key := a.drop (a.length - 16)
theorem recL_len (a : List Key) : (recL a).length = min a.length 16 := by unfold recL; rw [List.length_drop]; omega
theorem recL_add (a : List Key) (k : Key) : (recL a ++ [k]).drop ((recL a).length + 1 - 16) = recL (a ++ [k]) := by
  rw [recL_len]
  unfold recL
  rw [List.length_append, List.length_singleton]
  rcases Nat.lt_or_ge a.length 16 with h | h
  · have e1 : a.length - 16 = 0 := by omega
    have e2 : min a.length 16 + 1 - 16 = 0 := by omega
    have e3 : a.length + 1 - 16 = 0 := by omega
    rw [e1, e2, e3]; simp
  · have e2 : min a.length 16 + 1 - 16 = 1 := by omega
    have e3 : a.length + 1 - 16 = (a.length - 16) + 1 := by omega
    rw [e2, e3, List.drop_append_of_le_length (by rw [List.length_drop]; omega), List.drop_append_of_le_length (by omega), List.drop_drop]
theorem recL_since {a : List Key} {n : Nat} (h1 : n ≤ a.length) (h2 : a.length - n ≤ 16) : (recL a).drop ((recL a).length - (a.length - n)) = a.drop n := by
  rw [recL_len]
  unfold recL
  rw [List.drop_drop]
  congr 1; omega
def okS (al : List Key) (n : Int) : Bool := decide (0 ≤ n) && (decide (n ≤ (al.length : Int)) && decide ((al.length : Int) - n ≤ 16))
def sinceK (al : List Key) (n : Int) : List Key := if okS al n = true then lastsK (al.drop n.toNat) else []
theorem okS_nat {al : List Key} {m : Nat} (h1 : m ≤ al.length) (h2 : al.length - m ≤ 16) : okS al (m : Int) = true := by unfold okS; simp; omega
theorem okS_false {al : List Key} {n : Int} (h : n < 0 ∨ (al.length : Int) < n ∨ 16 < (al.length : Int) - n) : okS al n = false := by unfold okS; simp; omega
theorem sinceK_nat {al : List Key} {m : Nat} (h1 : m ≤ al.length) (h2 : al.length - m ≤ 16) : sinceK al (m : Int) = lastsK (al.drop m) := by unfold sinceK; rw [if_pos (okS_nat h1 h2)]; rfl
theorem sinceK_false {al : List Key} {n : Int} (h : n < 0 ∨ (al.length : Int) < n ∨ 16 < (al.length : Int) - n) : sinceK al n = [] := by unfold sinceK; rw [if_neg (by rw [okS_false h]; simp)]
theorem sinceK_len (al : List Key) (n : Int) : (sinceK al n).length ≤ 16 := by
  unfold sinceK
  split
  · rename_i h
    unfold okS at h
    simp at h
    have h1 := lastsK_len (al.drop n.toNat)
    rw [List.length_drop] at h1
    omega
  · simp
end Go.Proofs.Ytcmfnfkahdconaa.AM

set_option maxRecDepth 100000
set_option linter.unusedVariables false
set_option linter.unusedSimpArgs false
namespace Go.Proofs.Ytcmfnfkahdconaa.AM
open Go Go.Proofs.Ytcmfnfkahdconaa
attribute [local irreducible] ACalls funT codeT codeQ LoopTo
attribute [local irreducible] Tp.card Tp.cardT Tp.next Tp.step Tp.cards Tp.key Tp.keyT sink insSort sortK insK posK beforeK
theorem hcInsE (vs : Array Value) (w : World) : (callFunc 135 vs).run Try.prog w = ((Extern.SlicesOverlaps.overlaps #[108, 108] #[4] vs).run Try.prog w).andThen fun v w' => .ok (.value v) w' :=
  run_callFunc_extern (fn := Try.f135) kr kr kr kr kr vs w
def InsEE_ann : Ann := { base := 1, fin := some 1 }
set_option maxRecDepth 100000 in
theorem InsEE_spec (l : List Entry) (x : Entry) (g : Nat) (hl : l.length < 1048576) : ACalls Try.prog 88 [(.osl 0 g 10 0 l.length), (.int .i64 ((l.length : Nat) : Int)), (.sl .clip 10 [(Entry.row x)])] ([⟨g, 10, (List.map Entry.row l), none⟩] : Heap) ((AV.osl 0 (g + 1) 10 0 (l.length + 1)), ([⟨(g + 1), 10, (List.map Entry.row (l ++ [x])), none⟩] : Heap)) :=
  specO (fn := Try.f88) (ann := InsEE_ann) (Has.o Try.func88) (.r (.g (.r (.so 2 0 g 10 0 l.length ((l.length : Nat) : Int) ((l.length : Nat) : Int) (AV.osl 0 g 10 l.length (l.length - l.length)) (slice_osl (l := l.length) (h := l.length) om om om om om om) (.g (.r (.g (.r (.g (.no (.r (.g (.r (.y 2 (AV.bool (((l.length : Nat) : Int) == ((l.length : Nat) : Int))) (AV.bool true) (Yes.bool om) (.g (.yes (.r (.ap 2 108 (AV.osl 0 g 10 0 l.length) (AV.sl .clip 10 [(Entry.row x)]) (AV.osl 0 (g + 1) 10 0 (l.length + 1)) ([⟨(g + 1), 10, (List.map Entry.row (l ++ [x])), none⟩] : Heap) (evAppend_one (row := Entry.row) (l := l) (x := x) (T := tt) (e := 70) (te := { d := .struct [(58, 0), (2, 9)], size := 10, bytes := 96, zero := [.str ⟨#[]⟩, .str ⟨#[]⟩, .int .i64 0, .int .i64 0, .int .i64 0, .int .i64 0, .int .i64 0, .int .i64 0, .bool false, .int .i64 0] }) (z := 1) (b := 24) (y := [.sl .nil 0 []]) kr kr rfl (by decide) (by decide) kr (by first | assumption | omega | (simp; done) | (simp; omega)) rfl rfl (by first | omega | (show _ * 96 ≤ _; omega) | (simp; omega))) (.g (.f 1 (AV.osl 0 (g + 1) 10 0 (l.length + 1)) (.e (AV.osl 0 (g + 1) 10 0 (l.length + 1)))))))))))))))))))))))
def InsEG_ann : Ann := { big := [40, 60], base := 1 }
@[simp] abbrev Va_1 (v1_ : Nat) (v2_ : List Entry) (v3_ : Nat) (v4_ : Nat) (v5_ : Entry) : Heap := [⟨v1_, 10, (List.map Entry.row v2_), some v3_⟩, ⟨0, 10, (List.map Entry.row (v2_.take v4_ ++ v5_ :: v2_.drop v4_)), none⟩]
@[simp] abbrev Va_2 (v1_ : Nat) (v2_ : List Entry) (v3_ : Nat) (v4_ : Entry) : Fr := (mkF 95 [(0, (AV.osl 0 v1_ 10 0 v2_.length)), (1, (AV.int .i64 ((v3_ : Nat) : Int))), (2, (AV.sl .clip 10 [(Entry.row v4_)])), (6, (AV.sl .nil 0 [])), (7, (AV.int .i64 1)), (8, (AV.int .i64 ((v2_.length : Nat) : Int))), (10, (AV.osl 0 v1_ 10 0 v2_.length)), (11, (AV.int .i64 ((v3_ : Nat) : Int))), (12, (AV.osl 0 v1_ 10 v3_ (v2_.length - v3_))), (13, (AV.sl .clip 10 [(Entry.row v4_)])), (14, (AV.int .i64 1)), (15, (AV.int .i64 1)), (16, (AV.bool false)), (18, (AV.osl 0 v1_ 10 0 v2_.length)), (19, (AV.int .i64 ((v2_.length : Nat) : Int))), (20, (AV.int .i64 ((v3_ : Nat) : Int))), (21, (AV.int .i64 ((v2_.length : Nat) : Int))), (22, (AV.bool false)), (26, (AV.int .i64 ((v2_.length : Nat) : Int))), (27, (AV.int .i64 1)), (28, (AV.int .i64 ((v2_.length + 1 : Nat) : Int))), (29, (AV.osl 0 v1_ 10 0 v2_.length))])
@[simp] abbrev Va_3 (v1_ : Nat) (v2_ : List Entry) (v3_ : Nat) (v4_ : Nat) : Heap := [⟨v1_, 10, (List.map Entry.row v2_), some v3_⟩, ⟨0, 10, (List.map Entry.row (v2_.take v4_) ++ List.replicate (v2_.length + 1 - v4_) (List.replicate 10 AV.unk)), none⟩]
@[simp] abbrev Va_4 (v1_ : Nat) (v2_ : List Entry) (v3_ : Nat) (v4_ : Nat) (v5_ : Entry) : Heap := [⟨v1_, 10, (List.map Entry.row v2_), some v3_⟩, ⟨0, 10, (List.map Entry.row (v2_.take v4_ ++ [v5_]) ++ List.replicate (v2_.length + 1 - v4_ - 1) (List.replicate 10 AV.unk)), none⟩]
set_option maxRecDepth 100000 in
theorem InsEG_spec (l : List Entry) (x : Entry) (g i r : Nat) (hi : i < l.length) (hl : l.length < 1048576) (hr : r < l.length + 1) : ACalls Try.prog 88 [(.osl 0 g 10 0 l.length), (.int .i64 ((i : Nat) : Int)), (.sl .clip 10 [(Entry.row x)])] ([⟨g, 10, (List.map Entry.row l), some r⟩] : Heap) ((AV.osl 1 0 10 0 (l.length + 1)), (Va_1 g l r i x)) :=
  specO (fn := Try.f88) (ann := InsEG_ann) (Has.o Try.func88) (.r (.g (.r (.so 2 0 g 10 0 l.length ((i : Nat) : Int) ((l.length : Nat) : Int) (AV.osl 0 g 10 i (l.length - i)) (slice_osl (l := i) (h := l.length) om om om om om om) (.g (.r (.g (.r (.g (.no (.r (.g (.r (.y 2 (AV.bool (((i : Nat) : Int) == ((l.length : Nat) : Int))) (AV.bool false) (Yes.bool om) (.g (.no (.r (.y 2 (.int .i64 (IntKind.i64.wrap (((l.length : Nat) : Int) + 1))) (AV.int .i64 ((l.length + 1 : Nat) : Int)) (Yes.add ow ow ow) (.t 4 (AV.int .i64 ((r : Nat) : Int)) ([⟨g, 10, (List.map Entry.row l), some r⟩] : Heap) (sat_cap (o := (opIn Try.f88 8 4)) (t := 108) (e0 := 70) (ti := { d := .slice 70, size := 1, bytes := 24, zero := [.sl .nil 0 []] }) (id := 0) (g := g) (e := 0) (n := l.length) (k := 10) (r := r) (els := (List.map Entry.row l)) ttOk kr kr kr rfl kr kr rfl : Sat Try.prog (X InsEG_ann) (Va_2 g l i x) ([⟨g, 10, (List.map Entry.row l), some r⟩] : Heap) 1 (opIn Try.f88 8 4) (AV.int .i64 ((r : Nat) : Int)) ([⟨g, 10, (List.map Entry.row l), some r⟩] : Heap)) (.y 5 (AV.bool (decide (((l.length + 1 : Nat) : Int) > ((r : Nat) : Int)))) (AV.bool true) (Yes.bool om) (.g (.yes (.r (.so 2 0 g 10 0 l.length 0 ((i : Nat) : Int) (AV.osl 0 g 10 0 i) (slice_osl (l := 0) (h := i) om om om om om om) (.y 5 (.int .i64 (IntKind.i64.wrap (((l.length : Nat) : Int) + 1))) (AV.int .i64 ((l.length + 1 : Nat) : Int)) (Yes.add ow ow ow) (.y 7 (.int .i64 (IntKind.i64.wrap (((l.length + 1 : Nat) : Int) - ((i : Nat) : Int)))) (AV.int .i64 ((l.length + 1 - i : Nat) : Int)) (Yes.add ow ow ow) (.t 8 (AV.osl 1 0 10 0 (l.length + 1)) (Va_3 g l r i) (sat_make (o := (opIn Try.f88 9 8)) (t := 108) (e0 := 70) (ti := { d := .slice 70, size := 1, bytes := 24, zero := [.sl .nil 0 []] }) (id := 0) (g := g) (e := 0) (n := i) (t' := 3) (te := { d := .struct [(58, 0), (2, 9)], size := 10, bytes := 96, zero := [.str ⟨#[]⟩, .str ⟨#[]⟩, .int .i64 0, .int .i64 0, .int .i64 0, .int .i64 0, .int .i64 0, .int .i64 0, .bool false, .int .i64 0] }) (ti' := { d := .int .i64, size := 1, bytes := 8, zero := [.int .i64 0] }) (kk := .i64) (kx := .i64) (k := 10) (r := r) (c := l.length + 1 - i) (els := (List.map Entry.row l)) (ys := List.map Entry.row (l.take i)) (els' := (List.map Entry.row (l.take i) ++ List.replicate (l.length + 1 - i) (List.replicate 10 AV.unk))) ttOk kr kr kr rfl kr kr rfl rfl kr kr (by simp [rowsIn, List.map_take]; omega) om kr om (by decide) (by decide) om (by show _ * 96 ≤ _; omega) om om rfl : Sat Try.prog (X InsEG_ann) (mkF 95 [(0, (AV.osl 0 g 10 0 l.length)), (1, (AV.int .i64 ((i : Nat) : Int))), (2, (AV.sl .clip 10 [(Entry.row x)])), (6, (AV.sl .nil 0 [])), (7, (AV.int .i64 1)), (8, (AV.int .i64 ((l.length : Nat) : Int))), (10, (AV.osl 0 g 10 0 l.length)), (11, (AV.int .i64 ((i : Nat) : Int))), (12, (AV.osl 0 g 10 i (l.length - i))), (13, (AV.sl .clip 10 [(Entry.row x)])), (14, (AV.int .i64 1)), (15, (AV.int .i64 1)), (16, (AV.bool false)), (18, (AV.osl 0 g 10 0 l.length)), (19, (AV.int .i64 ((l.length : Nat) : Int))), (20, (AV.int .i64 ((i : Nat) : Int))), (21, (AV.int .i64 ((l.length : Nat) : Int))), (22, (AV.bool false)), (26, (AV.int .i64 ((l.length : Nat) : Int))), (27, (AV.int .i64 1)), (28, (AV.int .i64 ((l.length + 1 : Nat) : Int))), (29, (AV.osl 0 g 10 0 l.length)), (30, (AV.int .i64 ((r : Nat) : Int))), (31, (AV.bool true)), (32, (AV.osl 0 g 10 0 l.length)), (33, (AV.int .i64 ((i : Nat) : Int))), (34, (AV.osl 0 g 10 0 i)), (35, (AV.int .i64 ((l.length : Nat) : Int))), (36, (AV.int .i64 1)), (37, (AV.int .i64 ((l.length + 1 : Nat) : Int))), (38, (AV.int .i64 ((i : Nat) : Int))), (39, (AV.int .i64 ((l.length + 1 - i : Nat) : Int)))]) ([⟨g, 10, (List.map Entry.row l), some r⟩] : Heap) 1 (opIn Try.f88 9 8) (AV.osl 1 0 10 0 (l.length + 1)) (Va_3 g l r i)) (.g (.r (.h' (Va_3 g l r i) (.so 2 1 0 10 0 (l.length + 1) ((i : Nat) : Int) (((l.length + 1) : Nat) : Int) (AV.osl 1 0 10 i ((l.length + 1) - i)) (slice_osl (l := i) (h := (l.length + 1)) om om om om om om) (.t 4 (AV.int .i64 1) (Va_4 g l r i x) (sat_copy (o := (opIn Try.f88 10 4)) (t := 108) (e0 := 70) (ti := { d := .slice 70, size := 1, bytes := 24, zero := [.sl .nil 0 []] }) (id := 1) (g := 0) (e := i) (n := ((l.length + 1) - i)) (t' := 108) (te := { d := .struct [(58, 0), (2, 9)], size := 10, bytes := 96, zero := [.str ⟨#[]⟩, .str ⟨#[]⟩, .int .i64 0, .int .i64 0, .int .i64 0, .int .i64 0, .int .i64 0, .int .i64 0, .bool false, .int .i64 0] }) (k := 10) (els := (List.map Entry.row (l.take i) ++ List.replicate (l.length + 1 - i) (List.replicate 10 AV.unk))) (els' := (List.map Entry.row (l.take i ++ [x]) ++ List.replicate (l.length + 1 - i - 1) (List.replicate 10 AV.unk))) (room := none) (new := [(Entry.row x)]) (s := (AV.sl .clip 10 [(Entry.row x)])) ttOk kr kr kr rfl kr rfl kr kr kr kr om om om (ins1 Entry.row x _ l ow ow) (rfl) rfl : Sat Try.prog (X InsEG_ann) (mkF 95 [(0, (AV.osl 0 g 10 0 l.length)), (1, (AV.int .i64 ((i : Nat) : Int))), (2, (AV.sl .clip 10 [(Entry.row x)])), (6, (AV.sl .nil 0 [])), (7, (AV.int .i64 1)), (8, (AV.int .i64 ((l.length : Nat) : Int))), (9, (AV.osl 1 0 10 0 (l.length + 1))), (10, (AV.osl 0 g 10 0 l.length)), (11, (AV.int .i64 ((i : Nat) : Int))), (12, (AV.osl 0 g 10 i (l.length - i))), (13, (AV.sl .clip 10 [(Entry.row x)])), (14, (AV.int .i64 1)), (15, (AV.int .i64 1)), (16, (AV.bool false)), (18, (AV.osl 0 g 10 0 l.length)), (19, (AV.int .i64 ((l.length : Nat) : Int))), (20, (AV.int .i64 ((i : Nat) : Int))), (21, (AV.int .i64 ((l.length : Nat) : Int))), (22, (AV.bool false)), (26, (AV.int .i64 ((l.length : Nat) : Int))), (27, (AV.int .i64 1)), (28, (AV.int .i64 ((l.length + 1 : Nat) : Int))), (29, (AV.osl 0 g 10 0 l.length)), (30, (AV.int .i64 ((r : Nat) : Int))), (31, (AV.bool true)), (32, (AV.osl 0 g 10 0 l.length)), (33, (AV.int .i64 ((i : Nat) : Int))), (34, (AV.osl 0 g 10 0 i)), (35, (AV.int .i64 ((l.length : Nat) : Int))), (36, (AV.int .i64 1)), (37, (AV.int .i64 ((l.length + 1 : Nat) : Int))), (38, (AV.int .i64 ((i : Nat) : Int))), (39, (AV.int .i64 ((l.length + 1 - i : Nat) : Int))), (40, (AV.osl 1 0 10 0 (l.length + 1))), (41, (AV.osl 1 0 10 0 (l.length + 1))), (42, (AV.int .i64 ((i : Nat) : Int))), (43, (AV.osl 1 0 10 i ((l.length + 1) - i))), (44, (AV.sl .clip 10 [(Entry.row x)]))]) (Va_3 g l r i) 2 (opIn Try.f88 10 4) (AV.int .i64 1) (Va_4 g l r i x)) (.g (.r (.h' (Va_4 g l r i x) (.y 3 (.int .i64 (IntKind.i64.wrap (((i : Nat) : Int) + 1))) (AV.int .i64 ((i + 1 : Nat) : Int)) (Yes.add ow ow ow) (.so 4 1 0 10 0 (l.length + 1) ((i + 1 : Nat) : Int) (((l.length + 1) : Nat) : Int) (AV.osl 1 0 10 (i + 1) ((l.length + 1) - (i + 1))) (slice_osl (l := i + 1) (h := (l.length + 1)) om om om om om om) (.so 7 0 g 10 0 l.length ((i : Nat) : Int) ((l.length : Nat) : Int) (AV.osl 0 g 10 i (l.length - i)) (slice_osl (l := i) (h := l.length) om om om om om om) (.t 8 (AV.int .i64 (((l.length - i) : Nat) : Int)) (Va_1 g l r i x) (sat_copy (o := (opIn Try.f88 11 8)) (t := 108) (e0 := 70) (ti := { d := .slice 70, size := 1, bytes := 24, zero := [.sl .nil 0 []] }) (id := 1) (g := 0) (e := (i + 1)) (n := ((l.length + 1) - (i + 1))) (t' := 108) (te := { d := .struct [(58, 0), (2, 9)], size := 10, bytes := 96, zero := [.str ⟨#[]⟩, .str ⟨#[]⟩, .int .i64 0, .int .i64 0, .int .i64 0, .int .i64 0, .int .i64 0, .int .i64 0, .bool false, .int .i64 0] }) (k := 10) (els := (List.map Entry.row (l.take i ++ [x]) ++ List.replicate (l.length + 1 - i - 1) (List.replicate 10 AV.unk))) (els' := (List.map Entry.row (l.take i ++ x :: l.drop i))) (room := none) (new := List.map Entry.row (l.drop i)) (s := (AV.osl 0 g 10 i (l.length - i))) ttOk kr kr kr rfl kr rfl kr kr kr (by simp [rowsIn, List.map_drop, List.take_of_length_le] <;> omega) om om om (ins2 Entry.row x _ l ow ow) om rfl : Sat Try.prog (X InsEG_ann) (mkF 95 [(0, (AV.osl 0 g 10 0 l.length)), (1, (AV.int .i64 ((i : Nat) : Int))), (2, (AV.sl .clip 10 [(Entry.row x)])), (6, (AV.sl .nil 0 [])), (7, (AV.int .i64 1)), (8, (AV.int .i64 ((l.length : Nat) : Int))), (9, (AV.osl 1 0 10 0 (l.length + 1))), (10, (AV.osl 0 g 10 0 l.length)), (11, (AV.int .i64 ((i : Nat) : Int))), (12, (AV.osl 0 g 10 i (l.length - i))), (13, (AV.sl .clip 10 [(Entry.row x)])), (14, (AV.int .i64 1)), (15, (AV.int .i64 1)), (16, (AV.bool false)), (18, (AV.osl 0 g 10 0 l.length)), (19, (AV.int .i64 ((l.length : Nat) : Int))), (20, (AV.int .i64 ((i : Nat) : Int))), (21, (AV.int .i64 ((l.length : Nat) : Int))), (22, (AV.bool false)), (26, (AV.int .i64 ((l.length : Nat) : Int))), (27, (AV.int .i64 1)), (28, (AV.int .i64 ((l.length + 1 : Nat) : Int))), (29, (AV.osl 0 g 10 0 l.length)), (30, (AV.int .i64 ((r : Nat) : Int))), (31, (AV.bool true)), (32, (AV.osl 0 g 10 0 l.length)), (33, (AV.int .i64 ((i : Nat) : Int))), (34, (AV.osl 0 g 10 0 i)), (35, (AV.int .i64 ((l.length : Nat) : Int))), (36, (AV.int .i64 1)), (37, (AV.int .i64 ((l.length + 1 : Nat) : Int))), (38, (AV.int .i64 ((i : Nat) : Int))), (39, (AV.int .i64 ((l.length + 1 - i : Nat) : Int))), (40, (AV.osl 1 0 10 0 (l.length + 1))), (41, (AV.osl 1 0 10 0 (l.length + 1))), (42, (AV.int .i64 ((i : Nat) : Int))), (43, (AV.osl 1 0 10 i ((l.length + 1) - i))), (44, (AV.sl .clip 10 [(Entry.row x)])), (45, (AV.int .i64 1)), (46, (AV.osl 1 0 10 0 (l.length + 1))), (47, (AV.int .i64 ((i : Nat) : Int))), (48, (AV.int .i64 1)), (49, (AV.int .i64 ((i + 1 : Nat) : Int))), (50, (AV.osl 1 0 10 (i + 1) ((l.length + 1) - (i + 1)))), (51, (AV.osl 0 g 10 0 l.length)), (52, (AV.int .i64 ((i : Nat) : Int))), (53, (AV.osl 0 g 10 i (l.length - i)))]) (Va_4 g l r i x) 2 (opIn Try.f88 11 8) (AV.int .i64 (((l.length - i) : Nat) : Int)) (Va_1 g l r i x)) (.g (.r (.g (.h' (Va_1 g l r i x) (.e (AV.osl 1 0 10 0 (l.length + 1))))))))))))))))))))))))))))))))))))))))))))))
def InsER_ann : Ann := { big := [40, 60], base := 1, fin := some 1 }
@[simp] abbrev Va_5 (v1_ : Nat) (v2_ : List Entry) (v3_ : Nat) (v4_ : Entry) (v5_ : Nat) : Heap := [⟨v1_, 10, (List.map Entry.row (v2_.take v3_ ++ v4_ :: v2_.drop v3_)), some v5_⟩]
@[simp] abbrev Va_6 (v1_ : Nat) (v2_ : List Entry) (v3_ : Nat) (v4_ : Nat) : Heap := [⟨v1_, 10, (List.map Entry.row (v2_.take (v3_ + 1) ++ v2_.drop v3_)), some v4_⟩]
set_option maxRecDepth 100000 in
theorem InsER_spec (l : List Entry) (x : Entry) (g i r : Nat) (hi : i < l.length) (hl : l.length < 1048576) (hr : l.length + 1 ≤ r) : ACalls Try.prog 88 [(.osl 0 g 10 0 l.length), (.int .i64 ((i : Nat) : Int)), (.sl .clip 10 [(Entry.row x)])] ([⟨g, 10, (List.map Entry.row l), some r⟩] : Heap) ((AV.osl 0 g 10 0 (l.length + 1)), (Va_5 g l i x r)) :=
  specO (fn := Try.f88) (ann := InsER_ann) (Has.o Try.func88) (.r (.g (.r (.so 2 0 g 10 0 l.length ((i : Nat) : Int) ((l.length : Nat) : Int) (AV.osl 0 g 10 i (l.length - i)) (slice_osl (l := i) (h := l.length) om om om om om om) (.g (.r (.g (.r (.g (.no (.r (.g (.r (.y 2 (AV.bool (((i : Nat) : Int) == ((l.length : Nat) : Int))) (AV.bool false) (Yes.bool om) (.g (.no (.r (.y 2 (.int .i64 (IntKind.i64.wrap (((l.length : Nat) : Int) + 1))) (AV.int .i64 ((l.length + 1 : Nat) : Int)) (Yes.add ow ow ow) (.t 4 (AV.int .i64 ((r : Nat) : Int)) ([⟨g, 10, (List.map Entry.row l), some r⟩] : Heap) (sat_cap (o := (opIn Try.f88 8 4)) (t := 108) (e0 := 70) (ti := { d := .slice 70, size := 1, bytes := 24, zero := [.sl .nil 0 []] }) (id := 0) (g := g) (e := 0) (n := l.length) (k := 10) (r := r) (els := (List.map Entry.row l)) ttOk kr kr kr rfl kr kr rfl : Sat Try.prog (X InsER_ann) (Va_2 g l i x) ([⟨g, 10, (List.map Entry.row l), some r⟩] : Heap) 1 (opIn Try.f88 8 4) (AV.int .i64 ((r : Nat) : Int)) ([⟨g, 10, (List.map Entry.row l), some r⟩] : Heap)) (.y 5 (AV.bool (decide (((l.length + 1 : Nat) : Int) > ((r : Nat) : Int)))) (AV.bool false) (Yes.bool om) (.g (.no (.r (.y 3 (.int .i64 (IntKind.i64.wrap (((l.length : Nat) : Int) + 1))) (AV.int .i64 ((l.length + 1 : Nat) : Int)) (Yes.add ow ow ow) (.t 4 (AV.osl 0 g 10 0 (l.length + 1)) ([⟨g, 10, (List.map Entry.row l), some r⟩] : Heap) (sat_slice (o := (opIn Try.f88 13 4)) (t := 108) (e0 := 70) (ti := { d := .slice 70, size := 1, bytes := 24, zero := [.sl .nil 0 []] }) (id := 0) (g := g) (e := 0) (n := l.length) (te := { d := .struct [(58, 0), (2, 9)], size := 10, bytes := 96, zero := [.str ⟨#[]⟩, .str ⟨#[]⟩, .int .i64 0, .int .i64 0, .int .i64 0, .int .i64 0, .int .i64 0, .int .i64 0, .bool false, .int .i64 0] }) (k := 10) (r := r) (l := 0) (h := l.length + 1) (els := (List.map Entry.row l)) ttOk kr kr kr rfl kr rfl kr kr kr kr om om om om : Sat Try.prog (X InsER_ann) (mkF 95 [(0, (.osl 0 g 10 0 l.length)), (1, (.int .i64 ((i : Nat) : Int))), (2, (.sl .clip 10 [(Entry.row x)])), (6, (.sl .nil 0 [])), (7, (.int .i64 1)), (8, (.int .i64 ((l.length : Nat) : Int))), (10, (.osl 0 g 10 0 l.length)), (11, (.int .i64 ((i : Nat) : Int))), (12, (.osl 0 g 10 i (l.length - i))), (13, (.sl .clip 10 [(Entry.row x)])), (14, (.int .i64 1)), (15, (.int .i64 1)), (16, (.bool false)), (18, (.osl 0 g 10 0 l.length)), (19, (.int .i64 ((l.length : Nat) : Int))), (20, (.int .i64 ((i : Nat) : Int))), (21, (.int .i64 ((l.length : Nat) : Int))), (22, (.bool false)), (26, (.int .i64 ((l.length : Nat) : Int))), (27, (.int .i64 1)), (28, (.int .i64 ((l.length + 1 : Nat) : Int))), (29, (.osl 0 g 10 0 l.length)), (30, (.int .i64 ((r : Nat) : Int))), (31, (.bool false)), (56, (.osl 0 g 10 0 l.length)), (57, (.int .i64 ((l.length : Nat) : Int))), (58, (.int .i64 1)), (59, (.int .i64 ((l.length + 1 : Nat) : Int)))]) ([⟨g, 10, (List.map Entry.row l), some r⟩] : Heap) 1 (opIn Try.f88 13 4) (AV.osl 0 g 10 0 (l.length + 1)) ([⟨g, 10, (List.map Entry.row l), some r⟩] : Heap)) (.g (.r (.y 4 (.int .i64 (IntKind.i64.wrap (((i : Nat) : Int) + 1))) (AV.int .i64 ((i + 1 : Nat) : Int)) (Yes.add ow ow ow) (.so 5 0 g 10 0 (l.length + 1) ((i + 1 : Nat) : Int) (((l.length + 1) : Nat) : Int) (AV.osl 0 g 10 (i + 1) ((l.length + 1) - (i + 1))) (slice_osl (l := i + 1) (h := (l.length + 1)) om om om om om om) (.t 6 (AV.bool false) ([⟨g, 10, (List.map Entry.row l), some r⟩] : Heap) (acalls_overlaps (tS := 108) (tR := 4) (e0 := 70) (o := ⟨g, 10, (List.map Entry.row l), some r⟩) (hcInsE) (tok_slice ttOk (ti := { d := .slice 70, size := 1, bytes := 24, zero := [.sl .nil 0 []] }) kr rfl) (fun w => (ttOk 70 { d := .struct [(58, 0), (2, 9)], size := 10, bytes := 96, zero := [.str ⟨#[]⟩, .str ⟨#[]⟩, .int .i64 0, .int .i64 0, .int .i64 0, .int .i64 0, .int .i64 0, .int .i64 0, .bool false, .int .i64 0] } kr).sizeOf w) (by decide) kr rfl : ACalls Try.prog 135 [(.sl .clip 10 [(Entry.row x)]), (.osl 0 g 10 (i + 1) ((l.length + 1) - (i + 1)))] ([⟨g, 10, (List.map Entry.row l), some r⟩] : Heap) ((AV.bool false), ([⟨g, 10, (List.map Entry.row l), some r⟩] : Heap))) (.g (.yes (.r (.y 3 (.int .i64 (IntKind.i64.wrap (((i : Nat) : Int) + 1))) (AV.int .i64 ((i + 1 : Nat) : Int)) (Yes.add ow ow ow) (.so 4 0 g 10 0 (l.length + 1) ((i + 1 : Nat) : Int) (((l.length + 1) : Nat) : Int) (AV.osl 0 g 10 (i + 1) ((l.length + 1) - (i + 1))) (slice_osl (l := i + 1) (h := (l.length + 1)) om om om om om om) (.so 7 0 g 10 0 (l.length + 1) ((i : Nat) : Int) (((l.length + 1) : Nat) : Int) (AV.osl 0 g 10 i ((l.length + 1) - i)) (slice_osl (l := i) (h := (l.length + 1)) om om om om om om) (.t 8 (AV.int .i64 ((((l.length + 1) - (i + 1)) : Nat) : Int)) (Va_6 g l i r) (sat_copyN (o := (opIn Try.f88 15 8)) (t := 108) (e0 := 70) (ti := { d := .slice 70, size := 1, bytes := 24, zero := [.sl .nil 0 []] }) (id := 0) (g := g) (e := (i + 1)) (n := ((l.length + 1) - (i + 1))) (t' := 108) (te := { d := .struct [(58, 0), (2, 9)], size := 10, bytes := 96, zero := [.str ⟨#[]⟩, .str ⟨#[]⟩, .int .i64 0, .int .i64 0, .int .i64 0, .int .i64 0, .int .i64 0, .int .i64 0, .bool false, .int .i64 0] }) (k := 10) (els := (List.map Entry.row l)) (els' := (List.map Entry.row (l.take (i + 1) ++ l.drop i))) (room := some r) (id2 := 0) (g2 := g) (e2 := i) (n2 := ((l.length + 1) - i)) (els2 := (List.map Entry.row l)) (room2 := some r) ttOk kr kr kr rfl kr rfl kr kr kr kr om om om om (by rw [show l.length + 1 - (i + 1) = l.length - i by omega]; exact ins3 Entry.row l hi) rfl rfl : Sat Try.prog (X InsER_ann) (mkF 95 [(0, (.osl 0 g 10 0 (l.length + 1))), (1, (.int .i64 ((i : Nat) : Int))), (2, (.sl .clip 10 [(Entry.row x)])), (6, (.sl .nil 0 [])), (7, (.int .i64 1)), (8, (.int .i64 ((l.length : Nat) : Int))), (10, (.osl 0 g 10 0 l.length)), (11, (.int .i64 ((i : Nat) : Int))), (12, (.osl 0 g 10 i (l.length - i))), (13, (.sl .clip 10 [(Entry.row x)])), (14, (.int .i64 1)), (15, (.int .i64 1)), (16, (.bool false)), (18, (.osl 0 g 10 0 l.length)), (19, (.int .i64 ((l.length : Nat) : Int))), (20, (.int .i64 ((i : Nat) : Int))), (21, (.int .i64 ((l.length : Nat) : Int))), (22, (.bool false)), (26, (.int .i64 ((l.length : Nat) : Int))), (27, (.int .i64 1)), (28, (.int .i64 ((l.length + 1 : Nat) : Int))), (29, (.osl 0 g 10 0 l.length)), (30, (.int .i64 ((r : Nat) : Int))), (31, (.bool false)), (56, (.osl 0 g 10 0 l.length)), (57, (.int .i64 ((l.length : Nat) : Int))), (58, (.int .i64 1)), (59, (.int .i64 ((l.length + 1 : Nat) : Int))), (60, (.osl 0 g 10 0 (l.length + 1))), (61, (.sl .clip 10 [(Entry.row x)])), (62, (.osl 0 g 10 0 (l.length + 1))), (63, (.int .i64 ((i : Nat) : Int))), (64, (.int .i64 1)), (65, (.int .i64 ((i + 1 : Nat) : Int))), (66, (.osl 0 g 10 (i + 1) ((l.length + 1) - (i + 1)))), (67, (.bool false)), (68, (.bool true)), (69, (.osl 0 g 10 0 (l.length + 1))), (70, (.int .i64 ((i : Nat) : Int))), (71, (.int .i64 1)), (72, (.int .i64 ((i + 1 : Nat) : Int))), (73, (.osl 0 g 10 (i + 1) ((l.length + 1) - (i + 1)))), (74, (.osl 0 g 10 0 (l.length + 1))), (75, (.int .i64 ((i : Nat) : Int))), (76, (.osl 0 g 10 i ((l.length + 1) - i)))]) ([⟨g, 10, (List.map Entry.row l), some r⟩] : Heap) 1 (opIn Try.f88 15 8) (AV.int .i64 ((((l.length + 1) - (i + 1)) : Nat) : Int)) (Va_6 g l i r)) (.g (.r (.h' (Va_6 g l i r) (.so 2 0 g 10 0 (l.length + 1) ((i : Nat) : Int) (((l.length + 1) : Nat) : Int) (AV.osl 0 g 10 i ((l.length + 1) - i)) (slice_osl (l := i) (h := (l.length + 1)) om om om om om om) (.t 4 (AV.int .i64 1) (Va_5 g l i x r) (sat_copy (o := (opIn Try.f88 16 4)) (t := 108) (e0 := 70) (ti := { d := .slice 70, size := 1, bytes := 24, zero := [.sl .nil 0 []] }) (id := 0) (g := g) (e := i) (n := ((l.length + 1) - i)) (t' := 108) (te := { d := .struct [(58, 0), (2, 9)], size := 10, bytes := 96, zero := [.str ⟨#[]⟩, .str ⟨#[]⟩, .int .i64 0, .int .i64 0, .int .i64 0, .int .i64 0, .int .i64 0, .int .i64 0, .bool false, .int .i64 0] }) (k := 10) (els := (List.map Entry.row (l.take (i + 1) ++ l.drop i))) (els' := (List.map Entry.row (l.take i ++ x :: l.drop i))) (room := some r) (new := [(Entry.row x)]) (s := (AV.sl .clip 10 [(Entry.row x)])) ttOk kr kr kr rfl kr rfl kr kr kr kr om om om (ins4 Entry.row x l hi) (rfl) rfl : Sat Try.prog (X InsER_ann) (mkF 95 [(0, (.osl 0 g 10 0 (l.length + 1))), (1, (.int .i64 ((i : Nat) : Int))), (2, (.sl .clip 10 [(Entry.row x)])), (6, (.sl .nil 0 [])), (7, (.int .i64 1)), (8, (.int .i64 ((l.length : Nat) : Int))), (10, (.osl 0 g 10 0 l.length)), (11, (.int .i64 ((i : Nat) : Int))), (12, (.osl 0 g 10 i (l.length - i))), (13, (.sl .clip 10 [(Entry.row x)])), (14, (.int .i64 1)), (15, (.int .i64 1)), (16, (.bool false)), (18, (.osl 0 g 10 0 l.length)), (19, (.int .i64 ((l.length : Nat) : Int))), (20, (.int .i64 ((i : Nat) : Int))), (21, (.int .i64 ((l.length : Nat) : Int))), (22, (.bool false)), (26, (.int .i64 ((l.length : Nat) : Int))), (27, (.int .i64 1)), (28, (.int .i64 ((l.length + 1 : Nat) : Int))), (29, (.osl 0 g 10 0 l.length)), (30, (.int .i64 ((r : Nat) : Int))), (31, (.bool false)), (56, (.osl 0 g 10 0 l.length)), (57, (.int .i64 ((l.length : Nat) : Int))), (58, (.int .i64 1)), (59, (.int .i64 ((l.length + 1 : Nat) : Int))), (60, (.osl 0 g 10 0 (l.length + 1))), (61, (.sl .clip 10 [(Entry.row x)])), (62, (.osl 0 g 10 0 (l.length + 1))), (63, (.int .i64 ((i : Nat) : Int))), (64, (.int .i64 1)), (65, (.int .i64 ((i + 1 : Nat) : Int))), (66, (.osl 0 g 10 (i + 1) ((l.length + 1) - (i + 1)))), (67, (.bool false)), (68, (.bool true)), (69, (.osl 0 g 10 0 (l.length + 1))), (70, (.int .i64 ((i : Nat) : Int))), (71, (.int .i64 1)), (72, (.int .i64 ((i + 1 : Nat) : Int))), (73, (.osl 0 g 10 (i + 1) ((l.length + 1) - (i + 1)))), (74, (.osl 0 g 10 0 (l.length + 1))), (75, (.int .i64 ((i : Nat) : Int))), (76, (.osl 0 g 10 i ((l.length + 1) - i))), (77, (.int .i64 ((((l.length + 1) - (i + 1)) : Nat) : Int))), (78, (.osl 0 g 10 0 (l.length + 1))), (79, (.int .i64 ((i : Nat) : Int))), (80, (.osl 0 g 10 i ((l.length + 1) - i))), (81, (.sl .clip 10 [(Entry.row x)]))]) (Va_6 g l i r) 1 (opIn Try.f88 16 4) (AV.int .i64 1) (Va_5 g l i x r)) (.g (.r (.g (.h' (Va_5 g l i x r) (.f 1 (AV.osl 0 g 10 0 (l.length + 1)) (.e (AV.osl 0 g 10 0 (l.length + 1))))))))))))))))))))))))))))))))))))))))))))))))))
@[simp] abbrev Va_7 (v1_ : Nat) (v2_ : List Entry) (v3_ : Nat) (v4_ : Entry) : Heap := [⟨(v1_ + 1), 10, (List.map Entry.row (v2_.take v3_ ++ v4_ :: v2_.drop v3_)), none⟩]
theorem InsE_spec (l : List Entry) (x : Entry) (g i n : Nat) (hn : n = l.length) (hi : i ≤ l.length) (hl : l.length < 1048576) : ACalls Try.prog 88 [(.osl 0 g 10 0 n), (.int .i64 ((i : Nat) : Int)), (.sl .clip 10 [(Entry.row x)])] ([⟨g, 10, (List.map Entry.row l), none⟩] : Heap) ((AV.osl 0 (g + 1) 10 0 (n + 1)), (Va_7 g l i x)) := by
  subst hn
  exact ACalls.insert Entry.rows_bdd hi (InsEE_spec l x g hl) (fun h r hr => InsEG_spec l x g i r h hl hr) (fun h r hr => InsER_spec l x g i r h hl hr)
end Go.Proofs.Ytcmfnfkahdconaa.AM

set_option maxRecDepth 100000
set_option linter.unusedVariables false
set_option linter.unusedSimpArgs false
namespace Go.Proofs.Ytcmfnfkahdconaa.AM
open Go Go.Proofs.Ytcmfnfkahdconaa
attribute [local irreducible] ACalls funT codeT codeQ LoopTo
attribute [local irreducible] Tp.card Tp.cardT Tp.next Tp.step Tp.cards Tp.key Tp.keyT sink insSort sortK insK posK beforeK
def findP (l : List Entry) (k : Key) : Nat := (l.takeWhile fun e => beforeK e.card.key k).length
def findB (l : List Entry) (k : Key) : Bool := decide (findP l k < l.length) && Key.eqb (nth l (findP l k)).card.key k
theorem findP_le (l : List Entry) (k : Key) : findP l k ≤ l.length := by
  unfold findP
  have := List.Sublist.length_le (List.takeWhile_sublist (l := l) fun e => beforeK e.card.key k)
  exact this
theorem findP_lt {l : List Entry} {k : Key} : ∀ {i : Nat}, i < findP l k → beforeK (nth l i).card.key k = true := by
  unfold findP
  induction l with
  | nil => intro i h; simp at h
  | cons e l ih =>
    intro i h
    rw [List.takeWhile_cons] at h
    by_cases hb : beforeK e.card.key k = true
    · rw [if_pos hb] at h
      cases i with
      | zero => exact hb
      | succ i => exact ih (by simpa using h)
    · rw [if_neg hb] at h; simp at h
theorem findP_at {l : List Entry} {k : Key} (h : findP l k < l.length) : beforeK (nth l (findP l k)).card.key k = false := by
  unfold findP at *
  induction l with
  | nil => simp at h
  | cons e l ih =>
    rw [List.takeWhile_cons] at h ⊢
    by_cases hb : beforeK e.card.key k = true
    · rw [if_pos hb] at h ⊢
      exact ih (by simpa using h)
    · rw [if_neg hb]
      have h3 : beforeK e.card.key k = false := by simpa using hb
      exact h3
theorem findB_lt {l : List Entry} {k : Key} (h : findB l k = true) : findP l k < l.length := by
  unfold findB at h
  rw [Bool.and_eq_true] at h
  exact of_decide_eq_true h.1
def find_ann : Ann := { refs := [3], base := 2, fin := some 2, live := [(2, [0, 3, 6])], out := [(2, [0, 3, 6])] }
@[simp] abbrev Vb_o1 (v1_ : Int) (v2_ : Nat) (v3_ : Nat) : Ob := ⟨0, 2, [[(AV.int .i64 v1_), (AV.osl 1 v2_ 10 0 v3_)]], none⟩
@[simp] abbrev Vb_1 (v1_ : Int) (v2_ : Nat) (v3_ : Nat) (v4_ : List Entry) : Heap := [Vb_o1 v1_ v2_ v3_, ⟨v2_, 10, (List.map Entry.row v4_), none⟩]
@[simp] abbrev Vb_2 (v1_ : Key) (v2_ : Nat) : Fr := (mkF 50 [(0, (AV.obj 0 0 0 0)), (3, (AV.ref (Key.row v1_) 0)), (6, (AV.int .i64 ((v2_ : Nat) : Int)))])
set_option maxRecDepth 100000 in
theorem find_step (most : Int) (l : List Entry) (k : Key) (g n : Nat) (i : Nat) (hn : n = l.length) (hl : l.length < 1048576) (hi : i ≤ l.length) {eX : Ex} {FX : Fr} {HX : Heap} (k1 : (decide (((i : Nat) : Int) < ((n : Nat) : Int))) = true → (lessK (nth l i).card.key k) = true → LoopTo (codeQ Try.prog (X find_ann) (loopOf Try.f75 0)) (some [0, 3, 6]) (some [0, 3, 6]) (mkF 50 [(0, (.obj 0 0 0 0)), (3, (.ref (Key.row k) 0)), (6, (.int .i64 ((i + 1 : Nat) : Int)))]) (Vb_1 most g n l) eX FX HX) (k2 : (decide (((i : Nat) : Int) < ((n : Nat) : Int))) = true → (lessK (nth l i).card.key k) = false → ((.exit 0 : Ex), (Vb_2 k i), (Vb_1 most g n l)) = (eX, FX, HX)) (k3 : (decide (((i : Nat) : Int) < ((n : Nat) : Int))) = false → ((.exit 0 : Ex), (Vb_2 k i), (Vb_1 most g n l)) = (eX, FX, HX)) : LoopTo (codeQ Try.prog (X find_ann) (loopOf Try.f75 0)) (some [0, 3, 6]) (some [0, 3, 6]) (Vb_2 k i) (Vb_1 most g n l) eX FX HX :=
  stepO (.r (.two (decide (((i : Nat) : Int) < ((n : Nat) : Int))) (fun h1 h1' => (.yes (.yes (.yes (.yes (.yes (.io 13 1 g 10 10 0 n ((i : Nat) : Int) i (IdxOsl.mk _ ow ow) (.yes (.yes (.yes (.t 16 (AV.agg (Key.row (nth l i).card.key)) (Vb_1 most g n l) (load_row (rowAt_map (row := Entry.row) (l := l) (k := 10) (room := none) kr om) kr : LoadTo tt 31 0 (Vb_1 most g n l) (rowAt (Vb_1 most g n l) 1 g i) = some ((AV.agg (Key.row (nth l i).card.key)), (Vb_1 most g n l))) (.yes (.yes (.c 18 (keyLess_at (nth l i).card.key k  (Vb_1 most g n l)) (.g (.two (lessK (nth l i).card.key k) (fun h2 h2' => (.r (.y 1 (.int .i64 (IntKind.i64.wrap (((i : Nat) : Int) + 1))) (AV.int .i64 ((i + 1 : Nat) : Int)) (Yes.add ow ow ow) (.g (.l (k1 h1 h2)))))) (fun h2 h2' => (.l (k2 h1 h2))))))))))))))))))) (fun h1 h1' => (.no (.no (.no (.no (.no (.no (.no (.no (.no (.no (.g (.no (.l (k3 h1)))))))))))))))))
@[simp] abbrev Vb_3 (v1_ : Key) (v2_ : List Entry) : Fr := (mkF 50 [(0, (AV.obj 0 0 0 0)), (3, (AV.ref (Key.row v1_) 0)), (6, (AV.int .i64 (((findP v2_ v1_) : Nat) : Int)))])
theorem find_loop (most : Int) (l : List Entry) (k : Key) (g n : Nat) (hn : n = l.length) (hl : l.length < 1048576) (r : Nat) : ∀ (i : Nat), i + r = findP l k →
    LoopTo (codeQ Try.prog (X find_ann) (loopOf Try.f75 0)) (some [0, 3, 6]) (some [0, 3, 6]) (Vb_2 k i) (Vb_1 most g n l) (.exit 0) (Vb_3 k l) (Vb_1 most g n l) := by
  have hle := findP_le l k
  induction r with
  | zero =>
    intro i hi
    obtain rfl : i = findP l k := by omega
    refine find_step most l k g n (findP l k) hn hl ow (fun h1 h2 => ?_) (fun _ _ => rfl) (fun _ => rfl)
    rw [less_before, findP_at (by have := of_decide_eq_true h1; omega)] at h2; simp at h2
  | succ r ih =>
    intro i hi
    refine find_step most l k g n i hn hl ow (fun _ _ => ih (i + 1) ow) (fun _ h2 => ?_) (fun h1 => ?_)
    · rw [less_before, findP_lt (show i < findP l k by omega)] at h2; simp at h2
    · simp at h1; omega
set_option maxRecDepth 100000 in
theorem find_spec (most : Int) (l : List Entry) (k : Key) (g n : Nat) (hn : n = l.length) (hl : l.length < 1048576) : ACalls Try.prog 75 [(.obj 0 0 0 0), (.agg (Key.row k))] (Vb_1 most g n l) ((AV.tup [(.int .i64 (((findP l k) : Nat) : Int)), (.bool (findB l k))]), (Vb_1 most g n l)) := by
  have hle := findP_le l k
  exact specO (fn := Try.f75) (ann := find_ann) (Has.o Try.func75) (.r (.g (.r (.g (.loop (Vb_3 k l) (show LoopTo (codeQ Try.prog (X find_ann) (loopOf Try.f75 0)) (some [0, 3, 6]) (some [0, 3, 6]) (mkF 50 [(0, (.obj 0 0 0 0)), (3, (.ref (Key.row k) 0)), (6, (.int .i64 0))]) (Vb_1 most g n l) (.exit 0) (Vb_3 k l) (Vb_1 most g n l) from (find_loop most l k g n hn hl (findP l k) 0 ow)) (.r (.two (decide ((((findP l k) : Nat) : Int) < ((n : Nat) : Int))) (fun h1 h1' => (.yes (.yes (.yes (.yes (.yes (.io 14 1 g 10 10 0 n (((findP l k) : Nat) : Int) (findP l k) (IdxOsl.mk _ ow ow) (.yes (.yes (.yes (.t 17 (AV.agg (Key.row (nth l (findP l k)).card.key)) (Vb_1 most g n l) (load_row (rowAt_map (row := Entry.row) (l := l) (k := 10) (room := none) kr om) kr : LoadTo tt 31 0 (Vb_1 most g n l) (rowAt (Vb_1 most g n l) 1 g (findP l k)) = some ((AV.agg (Key.row (nth l (findP l k)).card.key)), (Vb_1 most g n l))) (.yes (.yes (.g (.f 2 (AV.tup [(.int .i64 (((findP l k) : Nat) : Int)), (.bool (Key.eqb (nth l (findP l k)).card.key k))]) (.e (AV.tup [(.int .i64 (((findP l k) : Nat) : Int)), (.bool (Key.eqb (nth l (findP l k)).card.key k))]) (by
        try delta Vb_1 Vb_o1
        have hb : findB l k = Key.eqb (nth l (findP l k)).card.key k := by unfold findB; first | (simp_all; done) | (simp_all; omega) | (simp_all; intro h; omega)
        rw [hb]))))))))))))))))) (fun h1 h1' => (.no (.no (.no (.no (.no (.no (.no (.no (.no (.no (.g (.f 2 (AV.tup [(AV.int .i64 (((findP l k) : Nat) : Int)), (AV.bool false)]) (.e (AV.tup [(AV.int .i64 (((findP l k) : Nat) : Int)), (AV.bool false)]) (by
        try delta Vb_1 Vb_o1
        have hb : findB l k = false := by unfold findB; first | (simp_all; done) | (simp_all; omega) | (simp_all; intro h; omega)
        rw [hb]))))))))))))))))))))))
theorem find_at (most : Int) (l : List Entry) (k : Key) (g n : Nat) (hn : n = l.length) (hl : l.length < 1048576) (H : Heap) : ACalls Try.prog 75 [(.obj 0 0 0 0), (.agg (Key.row k))] ((Vb_1 most g n l) ++ H) ((AV.tup [(.int .i64 (((findP l k) : Nat) : Int)), (.bool (findB l k))]), (Vb_1 most g n l) ++ H) := (find_spec most l k g n hn hl).ext kr kr ob ob kr H
def putIn_ann : Ann := { refs := [3], base := 2, fin := some 2 }
@[simp] abbrev Vb_4 (v1_ : Int) (v2_ : Nat) (v3_ : Nat) (v4_ : List Entry) (v5_ : Entry) : Heap := [Vb_o1 v1_ v2_ v3_, ⟨v2_, 10, (List.map Entry.row (v4_.set (findP v4_ v5_.card.key) v5_)), none⟩]
set_option maxRecDepth 100000 in
theorem putIn_spec (most : Int) (l : List Entry) (e : Entry) (g n : Nat) (hn : n = l.length) (hl : l.length < 1048576) (hb : findB l e.card.key = true) : ACalls Try.prog 45 [(.obj 0 0 0 0), (.agg (Entry.row e))] (Vb_1 most g n l) ((AV.int .i64 0), (Vb_4 most g n l e)) := by
  have hle := findP_le l e.card.key
  have hlt := findB_lt hb
  exact specO (fn := Try.f45) (ann := putIn_ann) (Has.o Try.func45) (.r (.g (.r (.c 4 (find_at most l e.card.key g n oa oa ([] : Heap)) (.g (.r (.y 0 (AV.bool (findB l e.card.key)) (AV.bool true) (Yes.bool (hb)) (.g (.yes (.r (.io 6 1 g 10 10 0 n (((findP l e.card.key) : Nat) : Int) (findP l e.card.key) (IdxOsl.mk _ ow ow) (.st 7 1 g (findP l e.card.key) 10 0 (AV.agg (Entry.row e)) (Vb_4 most g n l e) (store_row (us := (Entry.row e)) (rowAt_map (row := Entry.row) (l := l) (k := 10) (room := none) kr om) kr (by simp [Entry.row]) (by simp [setAt, fillAt, List.map_set, Entry.row])) (.g (.r (.g (.f 2 (AV.int .i64 0) (.e (AV.int .i64 0))))))))))))))))))
def putFull_ann : Ann := { refs := [3], base := 2, fin := some 2 }
set_option maxRecDepth 100000 in
theorem putFull_spec (most : Int) (l : List Entry) (e : Entry) (g n : Nat) (hn : n = l.length) (hl : l.length < 1048576) (hb : findB l e.card.key = false) (hm : most ≤ (n : Int)) : ACalls Try.prog 45 [(.obj 0 0 0 0), (.agg (Entry.row e))] ([⟨0, 2, [[(.int .i64 most), (.osl 1 g 10 0 n)]], none⟩, ⟨g, 10, (List.map Entry.row l), none⟩] : Heap) ((AV.int .i64 24), ([⟨0, 2, [[(.int .i64 most), (.osl 1 g 10 0 n)]], none⟩, ⟨g, 10, (List.map Entry.row l), none⟩] : Heap)) := by
  have hle := findP_le l e.card.key
  exact specO (fn := Try.f45) (ann := putFull_ann) (Has.o Try.func45) (.r (.g (.r (.c 4 (find_at most l e.card.key g n oa oa ([] : Heap)) (.g (.r (.y 0 (AV.bool (findB l e.card.key)) (AV.bool false) (Yes.bool (hb)) (.g (.no (.r (.y 9 (AV.bool (decide (((n : Nat) : Int) ≥ most))) (AV.bool true) (Yes.bool om) (.g (.yes (.r (.g (.f 2 (AV.int .i64 24) (.e (AV.int .i64 24))))))))))))))))))
def putNew_ann : Ann := { refs := [3], base := 2, fin := some 2 }
set_option maxRecDepth 100000 in
theorem putNew_spec (most : Int) (l : List Entry) (e : Entry) (g n : Nat) (hn : n = l.length) (hl : l.length < 1048576) (hb : findB l e.card.key = false) (hm : (n : Int) < most) : ACalls Try.prog 45 [(.obj 0 0 0 0), (.agg (Entry.row e))] ([⟨0, 2, [[(.int .i64 most), (.osl 1 g 10 0 n)]], none⟩, ⟨g, 10, (List.map Entry.row l), none⟩] : Heap) ((AV.int .i64 0), ([⟨0, 2, [[(.int .i64 most), (.osl 1 (g + 1) 10 0 (n + 1))]], none⟩, ⟨(g + 1), 10, (List.map Entry.row (l.take (findP l e.card.key) ++ e :: l.drop (findP l e.card.key))), none⟩] : Heap)) := by
  have hle := findP_le l e.card.key
  exact specO (fn := Try.f45) (ann := putNew_ann) (Has.o Try.func45) (.r (.g (.r (.c 4 (find_at most l e.card.key g n oa oa ([] : Heap)) (.g (.r (.y 0 (AV.bool (findB l e.card.key)) (AV.bool false) (Yes.bool (hb)) (.g (.no (.r (.y 9 (AV.bool (decide (((n : Nat) : Int) ≥ most))) (AV.bool false) (Yes.bool (by simp; omega)) (.g (.no (.r (.ch 8 ([⟨0, 2, [[(AV.int .i64 most), (AV.osl 1 g 10 0 n)]], none⟩, ⟨(g + 1), 10, (List.map Entry.row (l.take (findP l e.card.key) ++ e :: l.drop (findP l e.card.key))), none⟩] : Heap) (ACalls.pre (args' := [(AV.osl 1 g 10 0 n), (AV.int .i64 (((findP l e.card.key) : Nat) : Int)), (AV.sl .clip 10 [(Entry.row e)])]) (ACalls.put2 [1] ([⟨0, 2, [[(AV.int .i64 most), (AV.osl 1 g 10 0 n)]], none⟩, ⟨g, 10, (List.map Entry.row l), none⟩] : Heap) (AV.osl 1 (g + 1) 10 0 (n + 1)) ([⟨0, 2, [[(AV.int .i64 most), (AV.osl 1 g 10 0 n)]], none⟩, ⟨(g + 1), 10, (List.map Entry.row (l.take (findP l e.card.key) ++ e :: l.drop (findP l e.card.key))), none⟩] : Heap) (InsE_spec l e g (findP l e.card.key) n oa oa oa) (⟨Ob.ren0 (Entry.rows_bdd 0 _), trivial⟩) (⟨Ob.ren0 (Entry.rows_bdd 0 _), trivial⟩)) ⟨AV.wk_refl_any _, AV.wk_refl_any _, ⟨rfl, rfl, .inl rfl⟩, trivial⟩) (.g (.r (.g (.h' ([⟨0, 2, [[(AV.int .i64 most), (AV.osl 1 (g + 1) 10 0 (n + 1))]], none⟩, ⟨(g + 1), 10, (List.map Entry.row (l.take (findP l e.card.key) ++ e :: l.drop (findP l e.card.key))), none⟩] : Heap) (.f 2 (AV.int .i64 0) (.e (AV.int .i64 0))))))))))))))))))))))
def putE (most : Int) (l : List Entry) (e : Entry) : Int := if findB l e.card.key = true then 0 else if most ≤ (l.length : Int) then 24 else 0
def putL (most : Int) (l : List Entry) (e : Entry) : List Entry := if findB l e.card.key = true then l.set (findP l e.card.key) e else if most ≤ (l.length : Int) then l else l.take (findP l e.card.key) ++ e :: l.drop (findP l e.card.key)
def putG (most : Int) (l : List Entry) (e : Entry) (g : Nat) : Nat := if findB l e.card.key = true then g else if most ≤ (l.length : Int) then g else g + 1
theorem putL_len (most : Int) (l : List Entry) (e : Entry) : (putL most l e).length ≤ l.length + 1 := by
  have := findP_le l e.card.key
  unfold putL; split
  · simp
  · split
    · omega
    · simp; omega
def zE : Entry := ⟨⟨⟨⟨#[]⟩, ⟨#[]⟩⟩, 0, 0, 0, ⟨0, 0, 0⟩, false⟩, 0⟩
def getE (l : List Entry) (k : Key) : Entry := if findB l k = true then nth l (findP l k) else zE
theorem put_spec (most : Int) (l : List Entry) (e : Entry) (g n : Nat) (hn : n = l.length) (hl : l.length < 1048576) : ACalls Try.prog 45 [(.obj 0 0 0 0), (.agg (Entry.row e))] ([⟨0, 2, [[(.int .i64 most), (.osl 1 g 10 0 n)]], none⟩, ⟨g, 10, (List.map Entry.row l), none⟩] : Heap) ((AV.int .i64 (putE most l e)), ([⟨0, 2, [[(.int .i64 most), (.osl 1 (putG most l e g) 10 0 (List.length (putL most l e)))]], none⟩, ⟨(putG most l e g), 10, (List.map Entry.row (putL most l e)), none⟩] : Heap)) := by
  subst hn
  have hle := findP_le l e.card.key
  cases hb : findB l e.card.key with
  | true =>
    have h1 : putE most l e = 0 := by simp [putE, hb]
    have h2 : putL most l e = l.set (findP l e.card.key) e := by simp [putL, hb]
    have h3 : putG most l e g = g := by simp [putG, hb]
    rw [h1, h2, h3, List.length_set]
    exact putIn_spec most l e g l.length rfl hl hb
  | false =>
    by_cases hm : most ≤ (l.length : Int)
    · have h1 : putE most l e = 24 := by simp [putE, hb, hm]
      have h2 : putL most l e = l := by simp [putL, hb, hm]
      have h3 : putG most l e g = g := by simp [putG, hb, hm]
      rw [h1, h2, h3]
      exact putFull_spec most l e g l.length rfl hl hb hm
    · have h1 : putE most l e = 0 := by simp [putE, hb, hm]
      have h2 : putL most l e = l.take (findP l e.card.key) ++ e :: l.drop (findP l e.card.key) := by simp [putL, hb, hm]
      have h3 : putG most l e g = g + 1 := by simp [putG, hb, hm]
      have h4 : (l.take (findP l e.card.key) ++ e :: l.drop (findP l e.card.key)).length = l.length + 1 := by simp; omega
      rw [h1, h2, h3, h4]
      exact putNew_spec most l e g l.length rfl hl hb ow
def getIn_ann : Ann := { refs := [3], base := 2, fin := some 2 }
@[simp] abbrev Vb_o3  : Ob := ⟨0, 10, [[(AV.str ⟨#[]⟩), (AV.str ⟨#[]⟩), (AV.int .i64 0), (AV.int .i64 0), (AV.int .i64 0), (AV.int .i64 0), (AV.int .i64 0), (AV.int .i64 0), (AV.bool false), (AV.int .i64 0)]], none⟩
@[simp] abbrev Vb_7  : Heap := [Vb_o3]
@[simp] abbrev Vb_8 (v1_ : Int) (v2_ : Nat) (v3_ : Nat) (v4_ : List Entry) : Heap := [Vb_o1 v1_ v2_ v3_, ⟨v2_, 10, (List.map Entry.row v4_), none⟩, Vb_o3]
set_option maxRecDepth 100000 in
theorem getIn_spec (most : Int) (l : List Entry) (k : Key) (g n : Nat) (hn : n = l.length) (hl : l.length < 1048576) (hb : findB l k = true) : ACalls Try.prog 37 [(.obj 0 0 0 0), (.agg (Key.row k))] (Vb_1 most g n l) ((AV.tup [(.agg (Entry.row (nth l (findP l k)))), (.bool true)]), (Vb_1 most g n l)) := by
  have hle := findP_le l k
  have hlt := findB_lt hb
  exact specO (fn := Try.f37) (ann := getIn_ann) (Has.o Try.func37) (.r (.g (.r (.c 2 (find_at most l k g n oa oa Vb_7) (.g (.r (.h' (Vb_8 most g n l) (.y 1 (AV.bool (!(findB l k))) (AV.bool false) (Yes.bool (by rw [hb]; rfl)) (.g (.no (.r (.io 5 1 g 10 10 0 n (((findP l k) : Nat) : Int) (findP l k) (IdxOsl.mk _ ow ow) (.t 6 (AV.agg (Entry.row (nth l (findP l k)))) (Vb_8 most g n l) (load_row (rowAt_map (row := Entry.row) (l := l) (k := 10) (room := none) kr om) kr : LoadTo tt 70 0 (Vb_8 most g n l) (rowAt (Vb_8 most g n l) 1 g (findP l k)) = some ((AV.agg (Entry.row (nth l (findP l k)))), (Vb_8 most g n l))) (.g (.h' (Vb_1 most g n l) (.f 2 (AV.tup [(AV.agg (Entry.row (nth l (findP l k)))), (AV.bool true)]) (.e (AV.tup [(AV.agg (Entry.row (nth l (findP l k)))), (AV.bool true)]))))))))))))))))))
def getOut_ann : Ann := { refs := [3], base := 2, fin := some 2 }
set_option maxRecDepth 100000 in
theorem getOut_spec (most : Int) (l : List Entry) (k : Key) (g n : Nat) (hn : n = l.length) (hl : l.length < 1048576) (hb : findB l k = false) : ACalls Try.prog 37 [(.obj 0 0 0 0), (.agg (Key.row k))] (Vb_1 most g n l) ((AV.tup [(.agg (Entry.row zE)), (.bool false)]), (Vb_1 most g n l)) := by
  have hle := findP_le l k
  exact specO (fn := Try.f37) (ann := getOut_ann) (Has.o Try.func37) (.r (.g (.r (.c 2 (find_at most l k g n oa oa Vb_7) (.g (.r (.h' (Vb_8 most g n l) (.y 1 (AV.bool (!(findB l k))) (AV.bool true) (Yes.bool (by rw [hb]; rfl)) (.g (.yes (.r (.g (.h' (Vb_1 most g n l) (.f 2 (AV.tup [(AV.agg [(AV.str ⟨#[]⟩), (AV.str ⟨#[]⟩), (AV.int .i64 0), (AV.int .i64 0), (AV.int .i64 0), (AV.int .i64 0), (AV.int .i64 0), (AV.int .i64 0), (AV.bool false), (AV.int .i64 0)]), (AV.bool false)]) (.e (AV.tup [(AV.agg [(AV.str ⟨#[]⟩), (AV.str ⟨#[]⟩), (AV.int .i64 0), (AV.int .i64 0), (AV.int .i64 0), (AV.int .i64 0), (AV.int .i64 0), (AV.int .i64 0), (AV.bool false), (AV.int .i64 0)]), (AV.bool false)]))))))))))))))))
theorem get_spec (most : Int) (l : List Entry) (k : Key) (g n : Nat) (hn : n = l.length) (hl : l.length < 1048576) : ACalls Try.prog 37 [(.obj 0 0 0 0), (.agg (Key.row k))] ([⟨0, 2, [[(.int .i64 most), (.osl 1 g 10 0 n)]], none⟩, ⟨g, 10, (List.map Entry.row l), none⟩] : Heap) ((AV.tup [(.agg (Entry.row (getE l k))), (.bool (findB l k))]), ([⟨0, 2, [[(.int .i64 most), (.osl 1 g 10 0 n)]], none⟩, ⟨g, 10, (List.map Entry.row l), none⟩] : Heap)) := by
  cases hb : findB l k with
  | true =>
    have h2 : getE l k = nth l (findP l k) := by simp [getE, hb]
    rw [h2]
    exact getIn_spec most l k g n hn hl hb
  | false =>
    have h2 : getE l k = zE := by simp [getE, hb]
    rw [h2]
    exact getOut_spec most l k g n hn hl hb
theorem get_at (most : Int) (l : List Entry) (k : Key) (g n : Nat) (hn : n = l.length) (hl : l.length < 1048576) (H : Heap) : ACalls Try.prog 37 [(.obj 0 0 0 0), (.agg (Key.row k))] ((Vb_1 most g n l) ++ H) ((AV.tup [(.agg (Entry.row (getE l k))), (.bool (findB l k))]), (Vb_1 most g n l) ++ H) := (get_spec most l k g n hn hl).ext kr kr ob ob kr H
theorem fold_map {α β : Type} (f : α → β) (l : List α) : ∀ (out : List β) (k g : Nat), l.foldl (fun (s : List β × Nat × Nat) c => (s.1 ++ [f c], s.2.1 + 1, s.2.2 + 1)) (out, k, g) = (out ++ l.map f, k + l.length, g + l.length) := by
  induction l with
  | nil => intro out k g; simp
  | cons c l ih => intro out k g; rw [List.foldl_cons, ih]; simp; omega
def scards_ann : Ann := { gha := [(1, .vir 3 9), (6, .cut 3), (7, .frz 2)], base := 2, fin := some 2, live := [(3, [3, 9, 10, 11])], out := [(3, [3, 9, 10, 11])] }
@[simp] abbrev Vb_13 (v1_ : Int) (v2_ : Nat) (v3_ : Nat) (v4_ : List Entry) (v5_ : Nat) (v6_ : List Card) (v7_ : Nat) : Heap := [Vb_o1 v1_ v2_ v3_, ⟨v2_, 10, (List.map Entry.row v4_), none⟩, ⟨(v5_ + 1), 9, (List.map Card.row (v6_ ++ [(nth v4_ v7_).card])), none⟩]
@[simp] abbrev Vb_14 (v1_ : Nat) (v2_ : Nat) (v3_ : Nat) (v4_ : Nat) (v5_ : Nat) : Fr := (mkF 22 [(3, (AV.osl 2 v1_ 9 0 v2_)), (9, (AV.osl 1 v3_ 10 0 v4_)), (10, (AV.int .i64 ((v4_ : Nat) : Int))), (11, (AV.int .i64 ((v5_ : Nat) : Int)))])
@[simp] abbrev Vb_15 (v1_ : Int) (v2_ : Nat) (v3_ : Nat) (v4_ : List Entry) (v5_ : Nat) (v6_ : List Card) : Heap := [Vb_o1 v1_ v2_ v3_, ⟨v2_, 10, (List.map Entry.row v4_), none⟩, ⟨v5_, 9, (List.map Card.row v6_), none⟩]
@[simp] abbrev Vb_16 (v1_ : Int) (v2_ : Nat) (v3_ : Nat) (v4_ : List Entry) (v5_ : Nat) (v6_ : List Card) : Heap := [Vb_o1 v1_ v2_ v3_, ⟨v2_, 10, (List.map Entry.row v4_), none⟩, ⟨v5_, 9, (List.map Card.row v6_), none⟩, Vb_o3]
set_option maxRecDepth 100000 in
theorem scards_step (most : Int) (l : List Entry) (g : Nat) (n : Nat) (out : List Card) (k : Nat) (h : Nat) (i : Nat) (hn : n = l.length) (hl : l.length < 1048576) (hk : k = out.length) (hki : k ≤ i) (hle_ : i ≤ n) {eX : Ex} {FX : Fr} {HX : Heap} (k1 : (decide (((i : Nat) : Int) < ((n : Nat) : Int))) = true → LoopTo (codeQ Try.prog (X scards_ann) (loopOf Try.f34 0)) (some [3, 9, 10, 11]) (some [3, 9, 10, 11]) (mkF 22 [(3, (.osl 2 (h + 1) 9 0 (k + 1))), (9, (.osl 1 g 10 0 n)), (10, (.int .i64 ((n : Nat) : Int))), (11, (.int .i64 ((i + 1 : Nat) : Int)))]) (Vb_13 most g n l h out i) eX FX HX) (k2 : (decide (((i : Nat) : Int) < ((n : Nat) : Int))) = false → ((.exit 0 : Ex), (Vb_14 h k g n i), (Vb_15 most g n l h out)) = (eX, FX, HX)) : LoopTo (codeQ Try.prog (X scards_ann) (loopOf Try.f34 0)) (some [3, 9, 10, 11]) (some [3, 9, 10, 11]) (Vb_14 h k g n i) (Vb_15 most g n l h out) eX FX HX :=
  stepO (.r (.g (.two (decide (((i : Nat) : Int) < ((n : Nat) : Int))) (fun h1 h1' => (.r (.h' (Vb_16 most g n l h out) (.io 0 1 g 10 10 0 n ((i : Nat) : Int) i (IdxOsl.mk _ ow ow) (.t 1 (AV.agg (Entry.row (nth l i))) (Vb_16 most g n l h out) (load_row (rowAt_map (row := Entry.row) (l := l) (k := 10) (room := none) kr om) kr : LoadTo tt 70 0 (Vb_16 most g n l h out) (rowAt (Vb_16 most g n l h out) 1 g i) = some ((AV.agg (Entry.row (nth l i))), (Vb_16 most g n l h out))) (.g (.r (.h' ([⟨0, 2, [[(AV.int .i64 most), (AV.osl 1 g 10 0 n)]], none⟩, ⟨g, 10, (List.map Entry.row l), none⟩, ⟨h, 9, (List.map Card.row out), none⟩, ⟨0, 10, [(Entry.row (nth l i))], none⟩] : Heap) (.ap 4 33 (AV.osl 2 h 9 0 k) (AV.sl .clip 9 [(Card.row (nth l i).card)]) (AV.osl 2 (h + 1) 9 0 (k + 1)) ([⟨0, 2, [[(AV.int .i64 most), (AV.osl 1 g 10 0 n)]], none⟩, ⟨g, 10, (List.map Entry.row l), none⟩, ⟨(h + 1), 9, (List.map Card.row (out ++ [(nth l i).card])), none⟩, ⟨0, 10, [(Entry.row (nth l i))], none⟩] : Heap) (evAppend_one (row := Card.row) (l := out) (x := (nth l i).card) (T := tt) (e := 58) (te := { d := .struct [(31, 0), (3, 2), (3, 3), (2, 4), (56, 5), (4, 8)], size := 9, bytes := 88, zero := [.str ⟨#[]⟩, .str ⟨#[]⟩, .int .i64 0, .int .i64 0, .int .i64 0, .int .i64 0, .int .i64 0, .int .i64 0, .bool false] }) (z := 1) (b := 24) (y := [.sl .nil 0 []]) kr kr rfl (by decide) (by decide) kr (by first | assumption | omega | (simp; done) | (simp; omega)) rfl rfl (by first | omega | (show _ * 88 ≤ _; omega) | (simp; omega))) (.g (.r (.y 0 (.int .i64 (IntKind.i64.wrap (((i : Nat) : Int) + 1))) (AV.int .i64 ((i + 1 : Nat) : Int)) (Yes.add ow ow ow) (.h' (Vb_13 most g n l h out i) (.b 3 (.g (.l (k1 h1))))))))))))))))) (fun h1 h1' => (.l (k2 h1))))))
def scards_f (most : Int) (l : List Entry) (g : Nat) (n : Nat) (i : Nat) (s : (List Card) × Nat × Nat) : (List Card) × Nat × Nat := (s.1 ++ [(nth l i).card], (s.2.1 + 1), (s.2.2 + 1))
theorem scards_loop (most : Int) (l : List Entry) (g : Nat) (n : Nat) (hn : n = l.length) (hl : l.length < 1048576)  (r_ : Nat) : ∀ (out : List Card) (k : Nat) (h : Nat) (i : Nat) (sF : (List Card) × Nat × Nat), i + r_ = n → k = out.length → k ≤ i → sF = iter (scards_f most l g n) r_ i (out, k, h) →
    LoopTo (codeQ Try.prog (X scards_ann) (loopOf Try.f34 0)) (some [3, 9, 10, 11]) (some [3, 9, 10, 11]) (Vb_14 h k g n i) (Vb_15 most g n l h out) (.exit 0) (mkF 22 [(3, (.osl 2 sF.2.2 9 0 sF.2.1)), (9, (.osl 1 g 10 0 n)), (10, (.int .i64 ((n : Nat) : Int))), (11, (.int .i64 ((n : Nat) : Int)))]) ([⟨0, 2, [[(.int .i64 most), (.osl 1 g 10 0 n)]], none⟩, ⟨g, 10, (List.map Entry.row l), none⟩, ⟨sF.2.2, 9, (List.map Card.row sF.1), none⟩] : Heap) := by
  induction r_ with
  | zero =>
    intro out k h i sF hi_ hk hki  hF
    obtain rfl : n = i := by omega
    have e_ : sF = (out, k, h) := hF
    refine scards_step most l g n out k h n hn hl hk hki (Nat.le_refl _) (fun h => by simp at h <;> omega) (fun _ => ?_)
    first | done | rfl | (rw [e_]; done) | (rw [e_]; rfl)
  | succ r_ ih =>
    intro out k h i sF hi_ hk hki  hF
    refine scards_step most l g n out k h i hn hl hk hki ow (fun h1 => ?_) (fun h => by simp at h <;> omega)
    · exact ih (out ++ [(nth l i).card]) (k + 1) (h + 1) (i + 1) sF ow (by first | omega | assumption | (simp; done) | (simp; omega) | (simp [*]; done) | (simp [*]; omega)) (by first | omega | assumption | (simp; done) | (simp; omega) | (simp [*]; done) | (simp [*]; omega))  (by rw [hF] <;> simp only [iter, scards_f, if_true, Bool.false_eq_true, if_false])
theorem scards_iter (most : Int) (l : List Entry) (g : Nat) : (l.map (·.card), l.length, l.length) = iter (scards_f most l g l.length) l.length 0 ([], 0, 0) := by
  rw [iter_all (scards_f most l g l.length) (fun s e => (s.1 ++ [e.card], s.2.1 + 1, s.2.2 + 1)) l (fun i s hi => rfl), fold_map (fun e : Entry => e.card)]; simp
@[simp] abbrev Vb_17 (v1_ : List Entry) (v2_ : Nat) (v3_ : Nat) : Fr := (mkF 22 [(3, (AV.osl 2 v1_.length 9 0 v1_.length)), (9, (AV.osl 1 v2_ 10 0 v3_)), (10, (AV.int .i64 ((v3_ : Nat) : Int))), (11, (AV.int .i64 ((v3_ : Nat) : Int)))])
@[simp] abbrev Vb_18 (v1_ : Int) (v2_ : Nat) (v3_ : Nat) (v4_ : List Entry) : Heap := [Vb_o1 v1_ v2_ v3_, ⟨v2_, 10, (List.map Entry.row v4_), none⟩, ⟨v4_.length, 9, (List.map Card.row (v4_.map (·.card))), none⟩]
set_option maxRecDepth 100000 in
theorem scards_spec (most : Int) (l : List Entry) (g n : Nat) (hn : n = l.length) (hl : l.length < 1048576) : ACalls Try.prog 34 [(.obj 0 0 0 0)] (Vb_1 most g n l) ((AV.sl .any 9 (List.map Card.row (l.map (·.card)))), (Vb_1 most g n l)) :=
  specO (fn := Try.f34) (ann := scards_ann) (Has.o Try.func34) (.r (.g (.r (.g (.r (.g (.loop (Vb_17 l g n) (show LoopTo (codeQ Try.prog (X scards_ann) (loopOf Try.f34 0)) (some [3, 9, 10, 11]) (some [3, 9, 10, 11]) (mkF 22 [(3, (.osl 2 0 9 0 0)), (9, (.osl 1 g 10 0 n)), (10, (.int .i64 ((n : Nat) : Int))), (11, (.int .i64 0))]) ([⟨0, 2, [[(.int .i64 most), (.osl 1 g 10 0 n)]], none⟩, ⟨g, 10, (List.map Entry.row l), none⟩, ⟨0, 9, (List.map Card.row []), none⟩] : Heap) (.exit 0) (Vb_17 l g n) (Vb_18 most g n l) from (scards_loop most l g n hn hl n [] 0 0 0 (l.map (·.card), l.length, l.length) ow rfl ow (by subst hn; exact scards_iter most l g))) (.r (.w' 2 (List.map Card.row (l.map (·.card))) (And.intro (rowsIn_all (room := none) kr om) (Card.rows_bdd _ _) : rowsIn (Vb_18 most g n l) 9 (AV.osl 2 l.length 9 0 l.length) = some (List.map Card.row (l.map (·.card))) ∧ AV.bddss 0 (List.map Card.row (l.map (·.card))) = true) (.g (.h' (Vb_1 most g n l) (.f 2 (AV.sl .any 9 (List.map Card.row (l.map (·.card)))) (.e (AV.sl .any 9 (List.map Card.row (l.map (·.card)))))))))))))))))
theorem scards_at (most : Int) (l : List Entry) (g n : Nat) (hn : n = l.length) (hl : l.length < 1048576) (H : Heap) : ACalls Try.prog 34 [(.obj 0 0 0 0)] ((Vb_1 most g n l) ++ H) ((AV.sl .any 9 (List.map Card.row (l.map (·.card)))), (Vb_1 most g n l) ++ H) := (scards_spec most l g n hn hl).ext kr kr ob ob kr H
end Go.Proofs.Ytcmfnfkahdconaa.AM

set_option maxRecDepth 100000
set_option linter.unusedVariables false
set_option linter.unusedSimpArgs false
namespace Go.Proofs.Ytcmfnfkahdconaa.AM
open Go Go.Proofs.Ytcmfnfkahdconaa
attribute [local irreducible] ACalls funT codeT codeQ LoopTo
attribute [local irreducible] Tp.card Tp.cardT Tp.next Tp.step Tp.cards Tp.key Tp.keyT sink insSort sortK insK posK beforeK
attribute [local irreducible] findP findB putL putE putG getE
def capM (most : Int) : Int := max 0 (min most 32)
def new0_ann : Ann := { fin := some 1 }
@[simp] abbrev Vc_1 (v1_ : Int) : Heap := [⟨0, 2, [[(AV.int .i64 (capM v1_)), (AV.sl .nil 0 [])]], none⟩]
set_option maxRecDepth 100000 in
theorem new0_spec (most : Int)  : ACalls Try.prog 52 [(.int .i64 most)] ([] : Heap) ((AV.obj 0 0 0 0), (Vc_1 most)) :=
  specO (fn := Try.f52) (ann := new0_ann) (Has.o Try.func52) (.r (.g (.r (.y 1 (.int .i64 (if 32 < most then 32 else most)) (AV.int .i64 (min most 32)) (Yes.int (by split <;> omega)) (.y 2 (.int .i64 (if (min most 32) > 0 then (min most 32) else 0)) (AV.int .i64 (max 0 (min most 32))) (Yes.int (by split <;> omega)) (.g (.h' ([⟨0, 2, [[(AV.int .i64 (max 0 (min most 32))), (AV.sl .nil 0 [])]], none⟩] : Heap) (.f 1 (AV.obj 0 0 0 0) (.e (AV.obj 0 0 0 0))))))))))
theorem snew_spec (most : Int)  : ACalls Try.prog 52 [(.int .i64 most)] ([] : Heap) ((AV.obj 0 0 0 0), ([⟨0, 2, [[(.int .i64 (capM most)), (.osl 1 0 10 0 0)]], none⟩, ⟨0, 10, (List.map Entry.row []), none⟩] : Heap)) := (new0_spec most).virField
end Go.Proofs.Ytcmfnfkahdconaa.AM

set_option maxRecDepth 100000
set_option linter.unusedVariables false
set_option linter.unusedSimpArgs false
namespace Go.Proofs.Ytcmfnfkahdconaa.AM
open Go Go.Proofs.Ytcmfnfkahdconaa
attribute [local irreducible] ACalls funT codeT codeQ LoopTo
attribute [local irreducible] hasK lastsK recL
def cloneKN_ann : Ann := { gha := [(2, .vir 2 2)], fin := some 1 }
set_option maxRecDepth 100000 in
theorem cloneKN_spec   : ACalls Try.prog 89 [(.sl .nil 0 [])] ([] : Heap) ((AV.osl 0 0 2 0 0), ([⟨0, 2, (List.map Key.row []), none⟩] : Heap)) :=
  specO (fn := Try.f89) (ann := cloneKN_ann) (Has.o Try.func89) (.r (.g (.r (.g (.yes (.r (.g (.h' ([⟨0, 2, (List.map Key.row []), none⟩] : Heap) (.f 1 (AV.osl 0 0 2 0 0) (.e (AV.osl 0 0 2 0 0)))))))))))
def cloneKO_ann : Ann := { own := [7], fin := some 1 }
set_option maxRecDepth 100000 in
theorem cloneKO_spec (l : List Key) (hl : l.length < 1099511627776) : ACalls Try.prog 89 [(.sl .op 2 (List.map Key.row l))] ([] : Heap) ((AV.osl 0 0 2 0 l.length), ([⟨0, 2, (List.map Key.row l), none⟩] : Heap)) :=
  specO (fn := Try.f89) (ann := cloneKO_ann) (Has.o Try.func89) (.r (.g (.r (.g (.no (.r (.ao 2 34 (AV.sl .clip 2 []) (AV.sl .op 2 (List.map Key.row l)) (AV.osl 0 0 2 0 l.length) ([⟨0, 2, (List.map Key.row l), none⟩] : Heap) (evAppendO_fresh (T := tt) (e := 31) (te := { d := .struct [(9, 0), (9, 1)], size := 2, bytes := 32, zero := [.str ⟨#[]⟩, .str ⟨#[]⟩] }) (z := 1) (b := 24) (y := [.sl .nil 0 []]) (row := Key.row) kr kr rfl (by decide) (by decide) (by simp) (by first | (simp [rowsIn, List.map_take, List.map_drop, List.take_of_length_le]; done) | simp [rowsIn, rU8, rI64, rStr, rBool]) rfl rfl rfl om) (.g (.f 1 (AV.osl 0 0 2 0 l.length) (.e (AV.osl 0 0 2 0 l.length)))))))))))
theorem cloneK_spec (l : List Key) (hl : l.length < 1099511627776) : ACalls Try.prog 89 [(.sl .any 2 (List.map Key.row l))] ([] : Heap) ((AV.osl 0 0 2 0 l.length), ([⟨0, 2, (List.map Key.row l), none⟩] : Heap)) := ACalls.orNil (fun h => by
    have h2 : l = [] := by simpa using h
    subst h2; exact cloneKN_spec) (cloneKO_spec l hl)
theorem cloneKS_spec (l : List Key) (g e n : Nat) (hn : e + n = l.length) (hl : l.length < 1099511627776) : ACalls Try.prog 89 [(.osl 0 g 2 e n)] ([⟨g, 2, (List.map Key.row l), none⟩] : Heap) ((AV.osl 0 (g + 1) 2 0 n), ([⟨(g + 1), 2, (List.map Key.row (l.drop e)), none⟩] : Heap)) := by
  have h := cloneK_spec (l.drop e) (by rw [List.length_drop]; omega)
  have e1 : (l.drop e).length = n := by rw [List.length_drop]; omega
  rw [e1] at h
  have e2 : ((l.map Key.row).drop e).take n = (l.drop e).map Key.row := by rw [List.map_drop]; exact List.take_of_length_le (by rw [List.length_drop, List.length_map]; omega)
  exact ACalls.reclone h (scalss_map (fun x => rfl) _) (Key.rows_bdd _ _) ⟨.osl (by simp [rowsIn, hn, e2]) (Key.rows_bdd _ _), trivial⟩
def seq_ann : Ann := { base := 2, fin := some 2 }
@[simp] abbrev Wa_1 (v1_ : List Key) (v2_ : Nat) : Heap := [⟨0, 2, [[(AV.int .i64 (((List.length v1_) : Nat) : Int)), (AV.osl 1 v2_ 2 0 (List.length (recL v1_)))]], none⟩, ⟨v2_, 2, (List.map Key.row (recL v1_)), none⟩]
set_option maxRecDepth 100000 in
theorem seq_spec (al : List Key) (g : Nat)  : ACalls Try.prog 36 [(.obj 0 0 0 0)] (Wa_1 al g) ((AV.int .i64 ((al.length : Nat) : Int)), (Wa_1 al g)) :=
  specO (fn := Try.f36) (ann := seq_ann) (Has.o Try.func36) (.r (.g (.r (.g (.f 2 (AV.int .i64 (((List.length al) : Nat) : Int)) (.e (AV.int .i64 (((List.length al) : Nat) : Int))))))))
def radd_ann : Ann := { refs := [3], own := [19], base := 2, fin := some 2 }
@[simp] abbrev Wa_2 (v1_ : List Key) (v2_ : Key) (v3_ : Nat) : Heap := [⟨0, 2, [[(AV.int .i64 (((List.length (v1_ ++ [v2_])) : Nat) : Int)), (AV.osl 1 (v3_ + 1 + 1) 2 0 (List.length (recL (v1_ ++ [v2_]))))]], none⟩, ⟨(v3_ + 1 + 1), 2, (List.map Key.row (recL (v1_ ++ [v2_]))), none⟩]
@[simp] abbrev Wa_o1 (v1_ : List Key) (v2_ : Nat) : Ob := ⟨0, 2, [[(AV.int .i64 (((List.length v1_) + 1 : Nat) : Int)), (AV.osl 1 (v2_ + 1) 2 0 ((List.length (recL v1_)) + 1))]], none⟩
@[simp] abbrev Wa_3 (v1_ : List Key) (v2_ : Nat) (v3_ : Key) : Heap := [Wa_o1 v1_ v2_, ⟨(v2_ + 1), 2, (List.map Key.row ((recL v1_) ++ [v3_])), none⟩]
@[simp] abbrev Wa_4 (v1_ : List Key) (v2_ : Nat) (v3_ : Key) : Heap := [Wa_o1 v1_ v2_, ⟨((v2_ + 1) + 1), 2, (List.map Key.row (((recL v1_) ++ [v3_]).drop (((List.length (recL v1_)) + 1) - 16))), none⟩]
set_option maxRecDepth 100000 in
theorem radd_spec (al : List Key) (k : Key) (g : Nat) (ha : al.length < 1000000) : ACalls Try.prog 46 [(.obj 0 0 0 0), (.agg (Key.row k))] (Wa_1 al g) ((AV.int .i64 (((al ++ [k]).length : Nat) : Int)), (Wa_2 al k g)) := by
  have hr := recL_len al
  have h1 := recL_add al k
  have h2 : (recL al).length + 1 - ((recL al).length + 1 - 16) = (recL (al ++ [k])).length := by rw [← h1]; simp
  exact specO (fn := Try.f46) (ann := radd_ann) (Has.o Try.func46) (.r (.g (.r (.y 4 (.int .i64 (IntKind.i64.wrap ((((List.length al) : Nat) : Int) + 1))) (AV.int .i64 (((List.length al) + 1 : Nat) : Int)) (Yes.add ow ow ow) (.g (.r (.h' ([⟨0, 2, [[(AV.int .i64 (((List.length al) + 1 : Nat) : Int)), (AV.osl 1 g 2 0 (List.length (recL al)))]], none⟩, ⟨g, 2, (List.map Key.row (recL al)), none⟩] : Heap) (.ao 7 34 (AV.osl 1 g 2 0 (List.length (recL al))) (AV.sl .clip 2 [(Key.row k)]) (AV.osl 1 (g + 1) 2 0 ((List.length (recL al)) + 1)) ([⟨0, 2, [[(AV.int .i64 (((List.length al) + 1 : Nat) : Int)), (AV.osl 1 g 2 0 (List.length (recL al)))]], none⟩, ⟨(g + 1), 2, (List.map Key.row ((recL al) ++ [k])), none⟩] : Heap) (evAppendO_end (T := tt) (e := 31) (te := { d := .struct [(9, 0), (9, 1)], size := 2, bytes := 32, zero := [.str ⟨#[]⟩, .str ⟨#[]⟩] }) (z := 1) (b := 24) (y := [.sl .nil 0 []]) (row := Key.row) (l := (recL al)) kr kr rfl (by decide) (by decide) kr (by first | (simp [rowsIn, List.map_take, List.map_drop, List.take_of_length_le]; done) | simp [rowsIn, rU8, rI64, rStr, rBool]) om rfl rfl (by first | omega | (show _ * 32 ≤ _; omega) | (simp; done) | (simp; omega))) (.g (.r (.h' (Wa_3 al g k) (.y 10 (.int .i64 (IntKind.i64.wrap (((((List.length (recL al)) + 1) : Nat) : Int) - 16))) (AV.int .i64 (((((List.length (recL al)) + 1) : Nat) : Int) - 16)) (Yes.add ow ow rfl) (.y 11 (.int .i64 (if ((((List.length (recL al)) + 1) : Nat) : Int) - 16 > 0 then ((((List.length (recL al)) + 1) : Nat) : Int) - 16 else 0)) (AV.int .i64 (((((List.length (recL al)) + 1) - 16) : Nat) : Int)) (Yes.int (by split <;> omega)) (.so 12 1 (g + 1) 2 0 ((List.length (recL al)) + 1) (((((List.length (recL al)) + 1) - 16) : Nat) : Int) ((((List.length (recL al)) + 1) : Nat) : Int) (AV.osl 1 (g + 1) 2 (((List.length (recL al)) + 1) - 16) (((List.length (recL al)) + 1) - (((List.length (recL al)) + 1) - 16))) (slice_osl (l := (((List.length (recL al)) + 1) - 16)) (h := ((List.length (recL al)) + 1)) om om om om om om) (.ch 13 (Wa_4 al g k) (ACalls.pre (args' := [(AV.osl 1 (g + 1) 2 (((List.length (recL al)) + 1) - 16) (((List.length (recL al)) + 1) - (((List.length (recL al)) + 1) - 16)))]) (ACalls.put2 [1] (Wa_3 al g k) (AV.osl 1 ((g + 1) + 1) 2 0 (((List.length (recL al)) + 1) - (((List.length (recL al)) + 1) - 16))) (Wa_4 al g k) (cloneKS_spec ((recL al) ++ [k]) (g + 1) (((List.length (recL al)) + 1) - 16) (((List.length (recL al)) + 1) - (((List.length (recL al)) + 1) - 16)) oa oa) (⟨Ob.ren0 (Key.rows_bdd 0 _), trivial⟩) (⟨Ob.ren0 (Key.rows_bdd 0 _), trivial⟩)) ⟨AV.wk_refl_any _, trivial⟩) (.g (.r (.g (.h' ([⟨0, 2, [[(AV.int .i64 (((List.length al) + 1 : Nat) : Int)), (AV.osl 1 ((g + 1) + 1) 2 0 (((List.length (recL al)) + 1) - (((List.length (recL al)) + 1) - 16)))]], none⟩, ⟨((g + 1) + 1), 2, (List.map Key.row (((recL al) ++ [k]).drop (((List.length (recL al)) + 1) - 16))), none⟩] : Heap) (.f 2 (AV.int .i64 (((List.length al) + 1 : Nat) : Int)) (.e (AV.int .i64 (((List.length al) + 1 : Nat) : Int)) (by
        try delta Wa_1 Wa_2
        rw [h2, h1, List.length_append]; rfl))))))))))))))))))))))
end Go.Proofs.Ytcmfnfkahdconaa.AM

set_option maxRecDepth 100000
set_option linter.unusedVariables false
set_option linter.unusedSimpArgs false
namespace Go.Proofs.Ytcmfnfkahdconaa.AM
open Go Go.Proofs.Ytcmfnfkahdconaa
attribute [local irreducible] ACalls funT codeT codeQ LoopTo
attribute [local irreducible] hasK lastsK recL
theorem hasKeyO_spec (l : List Key) (v : Key) (g q n : Nat) (hn : q + n = l.length) (hl : l.length < 1099511627776) : ACalls Try.prog 95 [(.osl 0 g 2 q n), (.agg (Key.row v))] ([⟨g, 2, (List.map Key.row l), none⟩] : Heap) ((AV.bool (hasK (l.drop q) v)), ([⟨g, 2, (List.map Key.row l), none⟩] : Heap)) := by
  have h := hasKey_spec (l.drop q) v (by rw [List.length_drop]; omega)
  have e2 : ((l.map Key.row).drop q).take n = (l.drop q).map Key.row := by rw [List.map_drop]; exact List.take_of_length_le (by rw [List.length_drop, List.length_map]; omega)
  exact h.borrow rfl ⟨.osl (by simp [rowsIn, hn, e2]) (Key.rows_bdd _ _), .same (by simp [AV.bdd]), trivial⟩
def since_ann : Ann := { gh := [(11, .frz 7)], gha := [(2, .any 4 2), (4, .vir 7 2), (10, .cut 3)], base := 2, fin := some 2, live := [(6, [6, 7, 46, 47, 48])], out := [(6, [6, 7, 46, 47, 48])] }
@[simp] abbrev Wb_o1 (v1_ : List Key) (v2_ : Nat) : Ob := ⟨0, 2, [[(AV.int .i64 (((List.length v1_) : Nat) : Int)), (AV.osl 1 v2_ 2 0 (List.length (recL v1_)))]], none⟩
@[simp] abbrev Wb_1 (v1_ : List Key) (v2_ : Nat) (v3_ : Nat) (v4_ : List Key) (v5_ : Nat) (v6_ : Nat) : Heap := [Wb_o1 v1_ v2_, ⟨v2_, 2, (List.map Key.row (recL v1_)), none⟩, ⟨(v3_ + 1), 2, (List.map Key.row (v4_ ++ [(nth (recL v1_) (v5_ + v6_))])), none⟩]
@[simp] abbrev Wb_2 (v1_ : List Key) (v2_ : Nat) (v3_ : Nat) (v4_ : List Key) : Heap := [Wb_o1 v1_ v2_, ⟨v2_, 2, (List.map Key.row (recL v1_)), none⟩, ⟨v3_, 2, (List.map Key.row v4_), none⟩]
@[simp] abbrev Wb_3 (v1_ : Nat) (v2_ : Nat) (v3_ : Nat) (v4_ : Nat) (v5_ : Nat) (v6_ : Nat) : Fr := (mkF 66 [(6, (AV.osl 1 v1_ 2 v2_ v3_)), (7, (AV.osl 2 v4_ 2 0 v5_)), (46, (AV.osl 1 v1_ 2 v2_ v3_)), (47, (AV.int .i64 ((v3_ : Nat) : Int))), (48, (AV.int .i64 ((v6_ : Nat) : Int)))])
@[simp] abbrev Wb_4 (v1_ : List Key) (v2_ : Nat) (v3_ : Nat) (v4_ : List Key) : Heap := [Wb_o1 v1_ v2_, ⟨v2_, 2, (List.map Key.row (recL v1_)), none⟩, ⟨v3_, 2, (List.map Key.row v4_), none⟩, ⟨0, 2, [[(AV.str ⟨#[]⟩), (AV.str ⟨#[]⟩)]], none⟩]
@[simp] abbrev Wb_5 (v1_ : List Key) (v2_ : Nat) (v3_ : Nat) (v4_ : List Key) (v5_ : Nat) (v6_ : Nat) : Heap := [Wb_o1 v1_ v2_, ⟨v2_, 2, (List.map Key.row (recL v1_)), none⟩, ⟨v3_, 2, (List.map Key.row v4_), none⟩, ⟨0, 2, [(Key.row (nth (recL v1_) (v5_ + v6_)))], none⟩]
set_option maxRecDepth 100000 in
theorem since_step (al : List Key) (gq : Nat) (q : Nat) (n : Nat) (out : List Key) (k : Nat) (g : Nat) (i : Nat) (hn : q + n = (recL al).length) (hl : (recL al).length < 1048576) (hk : k = out.length) (hki : k ≤ i) (hle_ : i ≤ n) {eX : Ex} {FX : Fr} {HX : Heap} (k1 : (decide (((i : Nat) : Int) < ((n : Nat) : Int))) = true → (!(hasK ((recL al).drop (q + (i + 1))) (nth (recL al) (q + i)))) = true → LoopTo (codeQ Try.prog (X since_ann) (loopOf Try.f50 0)) (some [6, 7, 46, 47, 48]) (some [6, 7, 46, 47, 48]) (mkF 66 [(6, (.osl 1 gq 2 q n)), (7, (.osl 2 (g + 1) 2 0 (k + 1))), (46, (.osl 1 gq 2 q n)), (47, (.int .i64 ((n : Nat) : Int))), (48, (.int .i64 ((i + 1 : Nat) : Int)))]) (Wb_1 al gq g out q i) eX FX HX) (k2 : (decide (((i : Nat) : Int) < ((n : Nat) : Int))) = true → (!(hasK ((recL al).drop (q + (i + 1))) (nth (recL al) (q + i)))) = false → LoopTo (codeQ Try.prog (X since_ann) (loopOf Try.f50 0)) (some [6, 7, 46, 47, 48]) (some [6, 7, 46, 47, 48]) (mkF 66 [(6, (.osl 1 gq 2 q n)), (7, (.osl 2 g 2 0 k)), (46, (.osl 1 gq 2 q n)), (47, (.int .i64 ((n : Nat) : Int))), (48, (.int .i64 ((i + 1 : Nat) : Int)))]) (Wb_2 al gq g out) eX FX HX) (k3 : (decide (((i : Nat) : Int) < ((n : Nat) : Int))) = false → ((.exit 0 : Ex), (Wb_3 gq q n g k i), (Wb_2 al gq g out)) = (eX, FX, HX)) : LoopTo (codeQ Try.prog (X since_ann) (loopOf Try.f50 0)) (some [6, 7, 46, 47, 48]) (some [6, 7, 46, 47, 48]) (Wb_3 gq q n g k i) (Wb_2 al gq g out) eX FX HX :=
  stepO (.r (.g (.two (decide (((i : Nat) : Int) < ((n : Nat) : Int))) (fun h1 h1' => (.r (.h' (Wb_4 al gq g out) (.io 1 1 gq 2 2 q n ((i : Nat) : Int) (q + i) (IdxOsl.mko i _ ow ow ow) (.t 2 (AV.agg (Key.row (nth (recL al) (q + i)))) (Wb_4 al gq g out) (load_row (rowAt_map (row := Key.row) (l := (recL al)) (k := 2) (room := none) kr om) kr : LoadTo tt 31 0 (Wb_4 al gq g out) (rowAt (Wb_4 al gq g out) 1 gq (q + i)) = some ((AV.agg (Key.row (nth (recL al) (q + i)))), (Wb_4 al gq g out))) (.g (.r (.h' (Wb_5 al gq g out q i) (.y 2 (.int .i64 (IntKind.i64.wrap (((i : Nat) : Int) + 1))) (AV.int .i64 ((i + 1 : Nat) : Int)) (Yes.add ow ow ow) (.so 3 1 gq 2 q n ((i + 1 : Nat) : Int) ((n : Nat) : Int) (AV.osl 1 gq 2 (q + (i + 1)) (n - (i + 1))) (slice_osl (l := i + 1) (h := n) om om om om om om) (.c 5 (ACalls.pre (args' := [(AV.osl 1 gq 2 (q + (i + 1)) (n - (i + 1))), (AV.agg (Key.row (nth (recL al) (q + i))))]) (ACalls.put2 [1] (Wb_5 al gq g out q i) (AV.bool (hasK ((recL al).drop (q + (i + 1))) (nth (recL al) (q + i)))) (Wb_5 al gq g out q i) (hasKeyO_spec (recL al) (nth (recL al) (q + i)) gq (q + (i + 1)) (n - (i + 1)) oa oa) (⟨Ob.ren0 (Key.rows_bdd 0 _), trivial⟩) (⟨Ob.ren0 (Key.rows_bdd 0 _), trivial⟩)) ⟨AV.wk_refl_any _, AV.wk_refl_any _, trivial⟩) (.g (.two (!(hasK ((recL al).drop (q + (i + 1))) (nth (recL al) (q + i)))) (fun h2 h2' => (.r (.ap 3 34 (AV.osl 2 g 2 0 k) (AV.sl .clip 2 [(Key.row (nth (recL al) (q + i)))]) (AV.osl 2 (g + 1) 2 0 (k + 1)) ([⟨0, 2, [[(AV.int .i64 (((List.length al) : Nat) : Int)), (AV.osl 1 gq 2 0 (List.length (recL al)))]], none⟩, ⟨gq, 2, (List.map Key.row (recL al)), none⟩, ⟨(g + 1), 2, (List.map Key.row (out ++ [(nth (recL al) (q + i))])), none⟩, ⟨0, 2, [(Key.row (nth (recL al) (q + i)))], none⟩] : Heap) (evAppend_one (row := Key.row) (l := out) (x := (nth (recL al) (q + i))) (T := tt) (e := 31) (te := { d := .struct [(9, 0), (9, 1)], size := 2, bytes := 32, zero := [.str ⟨#[]⟩, .str ⟨#[]⟩] }) (z := 1) (b := 24) (y := [.sl .nil 0 []]) kr kr rfl (by decide) (by decide) kr (by first | assumption | omega | (simp; done) | (simp; omega)) rfl rfl (by first | omega | (show _ * 32 ≤ _; omega) | (simp; omega))) (.g (.r (.y 0 (.int .i64 (IntKind.i64.wrap (((i : Nat) : Int) + 1))) (AV.int .i64 ((i + 1 : Nat) : Int)) (Yes.add ow ow ow) (.h' (Wb_1 al gq g out q i) (.b 3 (.g (.l (k1 h1 h2))))))))))) (fun h2 h2' => (.r (.y 0 (.int .i64 (IntKind.i64.wrap (((i : Nat) : Int) + 1))) (AV.int .i64 ((i + 1 : Nat) : Int)) (Yes.add ow ow ow) (.h' (Wb_2 al gq g out) (.b 3 (.g (.l (k2 h1 h2))))))))))))))))))))) (fun h1 h1' => (.l (k3 h1))))))
def since_f (al : List Key) (gq : Nat) (q : Nat) (n : Nat) (i : Nat) (s : (List Key) × Nat × Nat) : (List Key) × Nat × Nat := (if (!(hasK ((recL al).drop (q + (i + 1))) (nth (recL al) (q + i)))) = true then (s.1 ++ [(nth (recL al) (q + i))], (s.2.1 + 1), (s.2.2 + 1)) else (s.1, s.2.1, s.2.2))
theorem since_loop (al : List Key) (gq : Nat) (q : Nat) (n : Nat) (hn : q + n = (recL al).length) (hl : (recL al).length < 1048576)  (r_ : Nat) : ∀ (out : List Key) (k : Nat) (g : Nat) (i : Nat) (sF : (List Key) × Nat × Nat), i + r_ = n → k = out.length → k ≤ i → sF = iter (since_f al gq q n) r_ i (out, k, g) →
    LoopTo (codeQ Try.prog (X since_ann) (loopOf Try.f50 0)) (some [6, 7, 46, 47, 48]) (some [6, 7, 46, 47, 48]) (Wb_3 gq q n g k i) (Wb_2 al gq g out) (.exit 0) (mkF 66 [(6, (.osl 1 gq 2 q n)), (7, (.osl 2 sF.2.2 2 0 sF.2.1)), (46, (.osl 1 gq 2 q n)), (47, (.int .i64 ((n : Nat) : Int))), (48, (.int .i64 ((n : Nat) : Int)))]) ([⟨0, 2, [[(.int .i64 (((List.length al) : Nat) : Int)), (.osl 1 gq 2 0 (List.length (recL al)))]], none⟩, ⟨gq, 2, (List.map Key.row (recL al)), none⟩, ⟨sF.2.2, 2, (List.map Key.row sF.1), none⟩] : Heap) := by
  induction r_ with
  | zero =>
    intro out k g i sF hi_ hk hki  hF
    obtain rfl : n = i := by omega
    have e_ : sF = (out, k, g) := hF
    refine since_step al gq q n out k g n hn hl hk hki (Nat.le_refl _) (fun h _ => by simp at h <;> omega) (fun h _ => by simp at h <;> omega) (fun _ => ?_)
    first | done | rfl | (rw [e_]; done) | (rw [e_]; rfl)
  | succ r_ ih =>
    intro out k g i sF hi_ hk hki  hF
    refine since_step al gq q n out k g i hn hl hk hki ow (fun h1 h2 => ?_) (fun h1 h2 => ?_) (fun h => by simp at h <;> omega)
    · exact ih (out ++ [(nth (recL al) (q + i))]) (k + 1) (g + 1) (i + 1) sF ow (by first | omega | assumption | (simp; done) | (simp; omega) | (simp [*]; done) | (simp [*]; omega)) (by first | omega | assumption | (simp; done) | (simp; omega) | (simp [*]; done) | (simp [*]; omega))  (by rw [hF] <;> simp only [iter, since_f, h2, if_true, Bool.false_eq_true, if_false])
    · exact ih out k g (i + 1) sF ow (by first | omega | assumption | (simp; done) | (simp; omega) | (simp [*]; done) | (simp [*]; omega)) (by first | omega | assumption | (simp; done) | (simp; omega) | (simp [*]; done) | (simp [*]; omega))  (by rw [hF] <;> simp only [iter, since_f, h2, if_true, Bool.false_eq_true, if_false])
theorem since_iter0 (al : List Key) (gq q n : Nat) (hn : q + n = (recL al).length) (r : Nat) : ∀ (i : Nat) (out : List Key) (k g : Nat), i + r = n →
    iter (since_f al gq q n) r i (out, k, g) = (out ++ lastsK ((recL al).drop (q + i)), k + (lastsK ((recL al).drop (q + i))).length, g + (lastsK ((recL al).drop (q + i))).length) := by
  induction r with
  | zero =>
    intro i out k g hi
    have : (recL al).drop (q + i) = [] := List.drop_of_length_le ow
    rw [this]; simp [iter, lastsK]
  | succ r ih =>
    intro i out k g hi
    rw [drop_nth (show q + i < (recL al).length by omega)]
    simp only [iter, lastsK, since_f]
    have e1 : q + i + 1 = q + (i + 1) := by omega
    rw [e1]
    by_cases h : (!(hasK ((recL al).drop (q + (i + 1))) (nth (recL al) (q + i)))) = true
    · rw [if_pos h, if_pos h, ih (i + 1) _ _ _ ow]; simp; omega
    · rw [if_neg h, if_neg h, ih (i + 1) _ _ _ ow]
theorem since_iter (al : List Key) (gq q n : Nat) (hn : q + n = (recL al).length) : (lastsK ((recL al).drop q), (lastsK ((recL al).drop q)).length, (lastsK ((recL al).drop q)).length) = iter (since_f al gq q n) n 0 ([], 0, 0) := by
  rw [since_iter0 al gq q n hn n 0 [] 0 0 ow]; simp
@[simp] abbrev Wb_6 (v1_ : List Key) (v2_ : Nat) : Heap := [Wb_o1 v1_ v2_, ⟨v2_, 2, (List.map Key.row (recL v1_)), none⟩]
@[simp] abbrev Wb_7 (v1_ : Nat) (v2_ : List Key) (v3_ : Nat) : Fr := (mkF 66 [(6, (AV.osl 1 v1_ 2 ((List.length (recL v2_)) - ((List.length v2_) - v3_)) ((List.length (recL v2_)) - ((List.length (recL v2_)) - ((List.length v2_) - v3_))))), (7, (AV.osl 2 (lastsK ((recL v2_).drop ((List.length (recL v2_)) - ((List.length v2_) - v3_)))).length 2 0 (lastsK ((recL v2_).drop ((List.length (recL v2_)) - ((List.length v2_) - v3_)))).length)), (46, (AV.osl 1 v1_ 2 ((List.length (recL v2_)) - ((List.length v2_) - v3_)) ((List.length (recL v2_)) - ((List.length (recL v2_)) - ((List.length v2_) - v3_))))), (47, (AV.int .i64 ((((List.length (recL v2_)) - ((List.length (recL v2_)) - ((List.length v2_) - v3_))) : Nat) : Int))), (48, (AV.int .i64 ((((List.length (recL v2_)) - ((List.length (recL v2_)) - ((List.length v2_) - v3_))) : Nat) : Int)))])
@[simp] abbrev Wb_8 (v1_ : List Key) (v2_ : Nat) (v3_ : Nat) : Heap := [Wb_o1 v1_ v2_, ⟨v2_, 2, (List.map Key.row (recL v1_)), none⟩, ⟨(lastsK ((recL v1_).drop ((List.length (recL v1_)) - ((List.length v1_) - v3_)))).length, 2, (List.map Key.row (lastsK ((recL v1_).drop ((List.length (recL v1_)) - ((List.length v1_) - v3_))))), none⟩]
set_option maxRecDepth 100000 in
theorem sinceS_spec (al : List Key) (g : Nat) (n : Nat) (ha : al.length < 1000000) (h1 : n ≤ al.length) (h2 : al.length - n ≤ 16) : ACalls Try.prog 50 [(.obj 0 0 0 0), (.int .i64 ((n : Nat) : Int))] (Wb_6 al g) ((AV.tup [(.sl .any 2 (List.map Key.row (lastsK (al.drop n)))), (.bool true)]), (Wb_6 al g)) := by
  have hr := recL_len al
  have h3 := recL_since h1 h2
  have h4 := lastsK_len (al.drop n)
  have h5 : (al.drop n).length = al.length - n := List.length_drop
  exact specO (fn := Try.f50) (ann := since_ann) (Has.o Try.func50) (.r (.g (.r (.y 1 (AV.bool (decide (((n : Nat) : Int) < 0))) (AV.bool false) (Yes.bool (by simp)) (.no (.no (.no (.no (.no (.no (.y 8 (AV.bool (decide (((n : Nat) : Int) > (((List.length al) : Nat) : Int)))) (AV.bool false) (Yes.bool (by simp; omega)) (.no (.no (.no (.no (.no (.no (.y 16 (.int .i64 (IntKind.i64.wrap ((((List.length al) : Nat) : Int) - ((n : Nat) : Int)))) (AV.int .i64 (((List.length al) - n : Nat) : Int)) (Yes.add ow ow ow) (.no (.y 17 (AV.bool (decide ((((List.length al) - n : Nat) : Int) > 16))) (AV.bool false) (Yes.bool (by simp; omega)) (.g (.no (.r (.y 14 (.int .i64 (IntKind.i64.wrap ((((List.length al) : Nat) : Int) - ((n : Nat) : Int)))) (AV.int .i64 (((List.length al) - n : Nat) : Int)) (Yes.add ow ow ow) (.y 15 (.int .i64 (IntKind.i64.wrap ((((List.length (recL al)) : Nat) : Int) - (((List.length al) - n : Nat) : Int)))) (AV.int .i64 (((List.length (recL al)) - ((List.length al) - n) : Nat) : Int)) (Yes.add ow ow ow) (.so 16 1 g 2 0 (List.length (recL al)) (((List.length (recL al)) - ((List.length al) - n) : Nat) : Int) (((List.length (recL al)) : Nat) : Int) (AV.osl 1 g 2 ((List.length (recL al)) - ((List.length al) - n)) ((List.length (recL al)) - ((List.length (recL al)) - ((List.length al) - n)))) (slice_osl (l := (List.length (recL al)) - ((List.length al) - n)) (h := (List.length (recL al))) om om om om om om) (.g (.r (.g (.r (.g (.loop (Wb_7 g al n) (show LoopTo (codeQ Try.prog (X since_ann) (loopOf Try.f50 0)) (some [6, 7, 46, 47, 48]) (some [6, 7, 46, 47, 48]) (mkF 66 [(6, (.osl 1 g 2 ((List.length (recL al)) - ((List.length al) - n)) ((List.length (recL al)) - ((List.length (recL al)) - ((List.length al) - n))))), (7, (.osl 2 0 2 0 0)), (46, (.osl 1 g 2 ((List.length (recL al)) - ((List.length al) - n)) ((List.length (recL al)) - ((List.length (recL al)) - ((List.length al) - n))))), (47, (.int .i64 (((List.length (recL al)) - ((List.length (recL al)) - ((List.length al) - n)) : Nat) : Int))), (48, (.int .i64 0))]) ([⟨0, 2, [[(.int .i64 (((List.length al) : Nat) : Int)), (.osl 1 g 2 0 (List.length (recL al)))]], none⟩, ⟨g, 2, (List.map Key.row (recL al)), none⟩, ⟨0, 2, (List.map Key.row []), none⟩] : Heap) (.exit 0) (Wb_7 g al n) (Wb_8 al g n) from (since_loop al g ((List.length (recL al)) - ((List.length al) - n)) ((List.length (recL al)) - ((List.length (recL al)) - ((List.length al) - n))) ow ow ((List.length (recL al)) - ((List.length (recL al)) - ((List.length al) - n))) [] 0 0 0 (lastsK (List.drop ((List.length (recL al)) - ((List.length al) - n)) (recL al)), (lastsK (List.drop ((List.length (recL al)) - ((List.length al) - n)) (recL al))).length, (lastsK (List.drop ((List.length (recL al)) - ((List.length al) - n)) (recL al))).length) ow rfl ow (since_iter _ _ _ _ ow))) (.r (.w 7 (List.map Key.row (lastsK ((recL al).drop ((List.length (recL al)) - ((List.length al) - n))))) (And.intro (rowsIn_all (room := none) kr (by first | omega | (simp [h3]; done) | (simp [h3]; omega))) (Key.rows_bdd _ _) : rowsIn (Wb_8 al g n) 2 (AV.osl 2 (lastsK ((recL al).drop ((List.length (recL al)) - ((List.length al) - n)))).length 2 0 (lastsK ((recL al).drop ((List.length (recL al)) - ((List.length al) - n)))).length) = some (List.map Key.row (lastsK ((recL al).drop ((List.length (recL al)) - ((List.length al) - n))))) ∧ AV.bddss 0 (List.map Key.row (lastsK ((recL al).drop ((List.length (recL al)) - ((List.length al) - n))))) = true) (.g (.h' (Wb_6 al g) (.f 2 (AV.tup [(.sl .any 2 (List.map Key.row (lastsK ((recL al).drop ((List.length (recL al)) - ((List.length al) - n)))))), (.bool true)]) (.e (AV.tup [(.sl .any 2 (List.map Key.row (lastsK ((recL al).drop ((List.length (recL al)) - ((List.length al) - n)))))), (.bool true)]) (by
        try delta Wb_6 Wb_o1
        rw [h3])))))))))))))))))))))))))))))))))))))))
set_option maxRecDepth 100000 in
theorem sinceN1_spec (al : List Key) (g : Nat) (n : Int) (ha : al.length < 1000000) (h : n < 0) : ACalls Try.prog 50 [(.obj 0 0 0 0), (.int .i64 n)] (Wb_6 al g) ((AV.tup [(.sl .any 2 (List.map Key.row [])), (.bool false)]), (Wb_6 al g)) :=
  specO (fn := Try.f50) (ann := since_ann) (Has.o Try.func50) (.r (.g (.r (.y 1 (AV.bool (decide (n < 0))) (AV.bool true) (Yes.bool (by simp; omega)) (.yes (.yes (.yes (.yes (.yes (.yes (.yes (.yes (.yes (.yes (.yes (.yes (.yes (.g (.yes (.r (.g (.f 2 (AV.tup [(AV.sl .any 2 []), (AV.bool false)]) (.e (AV.tup [(AV.sl .any 2 []), (AV.bool false)]))))))))))))))))))))))))
set_option maxRecDepth 100000 in
theorem sinceN2_spec (al : List Key) (g : Nat) (n : Int) (ha : al.length < 1000000) (h : 0 ≤ n) (h1 : (al.length : Int) < n) : ACalls Try.prog 50 [(.obj 0 0 0 0), (.int .i64 n)] (Wb_6 al g) ((AV.tup [(.sl .any 2 (List.map Key.row [])), (.bool false)]), (Wb_6 al g)) :=
  specO (fn := Try.f50) (ann := since_ann) (Has.o Try.func50) (.r (.g (.r (.y 1 (AV.bool (decide (n < 0))) (AV.bool false) (Yes.bool (by simp; omega)) (.no (.no (.no (.no (.no (.no (.y 8 (AV.bool (decide (n > (((List.length al) : Nat) : Int)))) (AV.bool true) (Yes.bool (by simp; omega)) (.yes (.yes (.yes (.yes (.yes (.yes (.yes (.g (.yes (.r (.g (.f 2 (AV.tup [(AV.sl .any 2 []), (AV.bool false)]) (.e (AV.tup [(AV.sl .any 2 []), (AV.bool false)])))))))))))))))))))))))))
set_option maxRecDepth 100000 in
theorem sinceN3_spec (al : List Key) (g : Nat) (n : Nat) (ha : al.length < 1000000) (h1 : n ≤ al.length) (h2 : 16 < al.length - n) : ACalls Try.prog 50 [(.obj 0 0 0 0), (.int .i64 ((n : Nat) : Int))] (Wb_6 al g) ((AV.tup [(.sl .any 2 (List.map Key.row [])), (.bool false)]), (Wb_6 al g)) :=
  specO (fn := Try.f50) (ann := since_ann) (Has.o Try.func50) (.r (.g (.r (.y 1 (AV.bool (decide (((n : Nat) : Int) < 0))) (AV.bool false) (Yes.bool (by simp)) (.no (.no (.no (.no (.no (.no (.y 8 (AV.bool (decide (((n : Nat) : Int) > (((List.length al) : Nat) : Int)))) (AV.bool false) (Yes.bool (by simp; omega)) (.no (.no (.no (.no (.no (.no (.y 16 (.int .i64 (IntKind.i64.wrap ((((List.length al) : Nat) : Int) - ((n : Nat) : Int)))) (AV.int .i64 (((List.length al) - n : Nat) : Int)) (Yes.add ow ow ow) (.no (.y 17 (AV.bool (decide ((((List.length al) - n : Nat) : Int) > 16))) (AV.bool true) (Yes.bool (by simp; omega)) (.g (.yes (.r (.g (.f 2 (AV.tup [(AV.sl .any 2 []), (AV.bool false)]) (.e (AV.tup [(AV.sl .any 2 []), (AV.bool false)])))))))))))))))))))))))))))
theorem since_spec (al : List Key) (g : Nat) (n : Int) (ha : al.length < 1000000) : ACalls Try.prog 50 [(.obj 0 0 0 0), (.int .i64 n)] ([⟨0, 2, [[(.int .i64 (((List.length al) : Nat) : Int)), (.osl 1 g 2 0 (List.length (recL al)))]], none⟩, ⟨g, 2, (List.map Key.row (recL al)), none⟩] : Heap) ((AV.tup [(.sl .any 2 (List.map Key.row (sinceK al n))), (.bool (okS al n))]), ([⟨0, 2, [[(.int .i64 (((List.length al) : Nat) : Int)), (.osl 1 g 2 0 (List.length (recL al)))]], none⟩, ⟨g, 2, (List.map Key.row (recL al)), none⟩] : Heap)) := by
  by_cases h : n < 0 ∨ (al.length : Int) < n ∨ 16 < (al.length : Int) - n
  · rw [sinceK_false h, okS_false h]
    by_cases h0 : n < 0
    · exact sinceN1_spec al g n ha h0
    · by_cases h1 : (al.length : Int) < n
      · exact sinceN2_spec al g n ha ow h1
      · obtain ⟨m, rfl⟩ := Int.eq_ofNat_of_zero_le (show 0 ≤ n by omega)
        exact sinceN3_spec al g m ha ow ow
  · obtain ⟨m, rfl⟩ := Int.eq_ofNat_of_zero_le (show 0 ≤ n by omega)
    rw [sinceK_nat ow ow, okS_nat ow ow]
    exact sinceS_spec al g m ha ow ow
end Go.Proofs.Ytcmfnfkahdconaa.AM

set_option maxRecDepth 100000
set_option linter.unusedVariables false
set_option linter.unusedSimpArgs false
namespace Go.Proofs.Ytcmfnfkahdconaa.AM
open Go Go.Proofs.Ytcmfnfkahdconaa
attribute [local irreducible] ACalls funT codeT codeQ LoopTo
attribute [local irreducible] Tp.card Tp.cardT Tp.next Tp.step Tp.cards Tp.key Tp.keyT sink insSort sortK insK posK beforeK sortP cmpK byteB cutS textB byteAt intB showsC hereL seenK cardB sealB sumStep sumB ofB strL bstr
def sort20S_ann : Ann := { base := 1, fin := some 1 }
set_option maxRecDepth 100000 in
theorem sort20S_spec (cmp : Card → Card → Int) (f : Nat) (xs : List AV) (g : Nat) (l : List Card) (hc : ∀ (x y : Card) (H : Heap), ACalls Try.prog f ([AV.agg (Card.row x), AV.agg (Card.row y)] ++ xs) H (AV.int .i64 (cmp x y), H)) (hxs : AV.bdds 1 xs = true) (hn : l.length = 20) : ACalls Try.prog 145 [(.osl 0 g 9 0 20), (.int .i64 20), (.func f xs)] ([⟨g, 9, (List.map Card.row l), none⟩] : Heap) ((AV.tup []), ([⟨g, 9, (List.map Card.row (insSort cmp 0 (20 - 1) 1 l)), none⟩] : Heap)) :=
  specO (fn := Try.f145) (ann := sort20S_ann) (Has.o Try.func145) (.r (.g (.r (.g (.roll 2 (.r (.g (.yes (.r (.t 4 (AV.tup []) ([⟨g, 9, (List.map Card.row (insSort cmp 0 (20 - (0 + 1)) (0 + 1) l)), none⟩] : Heap) (ACalls.pre (args' := [(.osl 0 g 9 0 20), (.int .i64 0), (.int .i64 20), (.func f xs)]) (insC_at _ f xs 0 20 20 g l (by first | exact hc | exact hxs | omega | (rw [insSort_len]; omega) | rfl) (by first | exact hc | exact hxs | omega | (rw [insSort_len]; omega) | rfl) (by first | exact hc | exact hxs | omega | (rw [insSort_len]; omega) | rfl) (by first | exact hc | exact hxs | omega | (rw [insSort_len]; omega) | rfl) (by first | exact hc | exact hxs | omega | (rw [insSort_len]; omega) | rfl) (by first | exact hc | exact hxs | omega | (rw [insSort_len]; omega) | rfl) ([] : Heap)) ⟨AV.wk_refl_any _, AV.wk_refl_any _, AV.wk_refl_any _, AV.wk_refl_any _, trivial⟩ : ACalls Try.prog 156 [(.osl 0 g 9 0 20), (.int .i64 0), (.int .i64 20), (.func f xs)] ([⟨g, 9, (List.map Card.row l), none⟩] : Heap) ((AV.tup []), ([⟨g, 9, (List.map Card.row (insSort cmp 0 (20 - (0 + 1)) (0 + 1) l)), none⟩] : Heap))) (.g (.r (.g (.r (.g (.r (.g (.no (.r (.t 4 (AV.tup []) ([⟨g, 9, (List.map Card.row (insSort cmp 20 (20 - (20 + 1)) (20 + 1) (insSort cmp 0 (20 - (0 + 1)) (0 + 1) l))), none⟩] : Heap) (ACalls.pre (args' := [(.osl 0 g 9 0 20), (.int .i64 20), (.int .i64 20), (.func f xs)]) (insC_at _ f xs 20 20 20 g (insSort cmp 0 (20 - (0 + 1)) (0 + 1) l) (by first | exact hc | exact hxs | omega | (rw [insSort_len]; omega) | rfl) (by first | exact hc | exact hxs | omega | (rw [insSort_len]; omega) | rfl) (by first | exact hc | exact hxs | omega | (rw [insSort_len]; omega) | rfl) (by first | exact hc | exact hxs | omega | (rw [insSort_len]; omega) | rfl) (by first | exact hc | exact hxs | omega | (rw [insSort_len]; omega) | rfl) (by first | exact hc | exact hxs | omega | (rw [insSort_len]; omega) | rfl) ([] : Heap)) ⟨AV.wk_refl_any _, AV.wk_refl_any _, AV.wk_refl_any _, AV.wk_refl_any _, trivial⟩ : ACalls Try.prog 156 [(.osl 0 g 9 0 20), (.int .i64 20), (.int .i64 20), (.func f xs)] ([⟨g, 9, (List.map Card.row (insSort cmp 0 (20 - (0 + 1)) (0 + 1) l)), none⟩] : Heap) ((AV.tup []), ([⟨g, 9, (List.map Card.row (insSort cmp 20 (20 - (20 + 1)) (20 + 1) (insSort cmp 0 (20 - (0 + 1)) (0 + 1) l))), none⟩] : Heap))) (.g (.roll 1 (.r (.g (.no (.h' ([⟨g, 9, (List.map Card.row (insSort cmp 20 (20 - (20 + 1)) (20 + 1) (insSort cmp 0 (20 - (0 + 1)) (0 + 1) l))), none⟩] : Heap) (.f 1 (AV.tup []) (.e (AV.tup []) (by
        simp [insSort])))))))))))))))))))))))))))))
theorem sort20S_at (cmp : Card → Card → Int) (f : Nat) (xs : List AV) (g : Nat) (l : List Card) (hc : ∀ (x y : Card) (H : Heap), ACalls Try.prog f ([AV.agg (Card.row x), AV.agg (Card.row y)] ++ xs) H (AV.int .i64 (cmp x y), H)) (hxs : AV.bdds 1 xs = true) (hn : l.length = 20) (H : Heap) : ACalls Try.prog 145 [(.osl 0 g 9 0 20), (.int .i64 20), (.func f xs)] (([⟨g, 9, (List.map Card.row l), none⟩] : Heap) ++ H) ((AV.tup []), ([⟨g, 9, (List.map Card.row (insSort cmp 0 (20 - 1) 1 l)), none⟩] : Heap) ++ H) := (sort20S_spec cmp f xs g l hc hxs hn).ext (by simp [AV.bdds, AV.bdd, *]) kr ob ob kr H
def sort20_ann : Ann := { base := 1, fin := some 1 }
set_option maxRecDepth 100000 in
theorem sort20_spec (cmp : Card → Card → Int) (f : Nat) (xs : List AV) (g : Nat) (l : List Card) (hc : ∀ (x y : Card) (H : Heap), ACalls Try.prog f ([AV.agg (Card.row x), AV.agg (Card.row y)] ++ xs) H (AV.int .i64 (cmp x y), H)) (hxs : AV.bdds 1 xs = true) (hn : l.length = 20) : ACalls Try.prog 113 [(.osl 0 g 9 0 20), (.func f xs)] ([⟨g, 9, (List.map Card.row l), none⟩] : Heap) ((AV.tup []), ([⟨g, 9, (List.map Card.row (insSort cmp 0 (20 - 1) 1 l)), none⟩] : Heap)) :=
  specO (fn := Try.f113) (ann := sort20_ann) (Has.o Try.func113) (.r (.t 4 (AV.tup []) ([⟨g, 9, (List.map Card.row (insSort cmp 0 (20 - 1) 1 l)), none⟩] : Heap) (sort20S_at _ f xs g l (by first | exact hc | exact hxs | omega) (by first | exact hc | exact hxs | omega) (by first | exact hc | exact hxs | omega) ([] : Heap) : ACalls Try.prog 145 [(.osl 0 g 9 0 20), (.int .i64 20), (.func f xs)] ([⟨g, 9, (List.map Card.row l), none⟩] : Heap) ((AV.tup []), ([⟨g, 9, (List.map Card.row (insSort cmp 0 (20 - 1) 1 l)), none⟩] : Heap))) (.g (.h' ([⟨g, 9, (List.map Card.row (insSort cmp 0 (20 - 1) 1 l)), none⟩] : Heap) (.f 1 (AV.tup []) (.e (AV.tup [])))))))
theorem sortC21_spec (cmp : Card → Card → Int) (f : Nat) (xs : List AV) (n g : Nat) (l : List Card) (hc : ∀ (x y : Card) (H : Heap), ACalls Try.prog f ([AV.agg (Card.row x), AV.agg (Card.row y)] ++ xs) H (AV.int .i64 (cmp x y), H)) (hxs : AV.bdds 1 xs = true) (hn : n = l.length) (hb : n < 21) : ACalls Try.prog 113 [(.osl 0 g 9 0 n), (.func f xs)] ([⟨g, 9, (List.map Card.row l), none⟩] : Heap) ((AV.tup []), ([⟨g, 9, (List.map Card.row (insSort cmp 0 (n - 1) 1 l)), none⟩] : Heap)) := by
  by_cases h : n = 20
  · subst h
    exact sort20_spec cmp f xs g l hc hxs ow
  · exact sortC_spec cmp f xs n g l hc hxs hn ow
theorem sortC21_at (cmp : Card → Card → Int) (f : Nat) (xs : List AV) (n g : Nat) (l : List Card) (hc : ∀ (x y : Card) (H : Heap), ACalls Try.prog f ([AV.agg (Card.row x), AV.agg (Card.row y)] ++ xs) H (AV.int .i64 (cmp x y), H)) (hxs : AV.bdds 1 xs = true) (hn : n = l.length) (hb : n < 21) (H : Heap) : ACalls Try.prog 113 [(.osl 0 g 9 0 n), (.func f xs)] (([⟨g, 9, (List.map Card.row l), none⟩] : Heap) ++ H) ((AV.tup []), ([⟨g, 9, (List.map Card.row (insSort cmp 0 (n - 1) 1 l)), none⟩] : Heap) ++ H) := (sortC21_spec cmp f xs n g l hc hxs hn hb).ext (by simp [AV.bdds, AV.bdd, *]) kr ob ob kr H
def sortCard0W_ann : Ann := { gha := [(2, .frz 3)], fin := some 0 }
set_option maxRecDepth 100000 in
theorem sortCard0W_spec (l : List Card) (hl : l.length < 21) : ACalls Try.prog 62 [(.sl .any 9 (List.map Card.row l))] ([] : Heap) ((AV.sl .cn 9 (List.map Card.row (sortP l))), ([] : Heap)) := by
  have hpl := sortP_len l
  exact specO (fn := Try.f62) (ann := sortCard0W_ann) (Has.o Try.func62) (.r (.g (.r (.ch 1 ([⟨0, 9, (List.map Card.row l), none⟩] : Heap) (cloneC_at l oa ([] : Heap)) (.g (.r (.ch 1 ([⟨0, 9, (List.map Card.row (insSort (fun a b => cmpK a.key b.key) 0 (l.length - 1) 1 l)), none⟩] : Heap) (sortC21_at (fun a b => cmpK a.key b.key) 114 [] l.length 0 l (fun x y H => sortcmp_at x y H) (rfl) oa oa ([] : Heap)) (.w' 3 (List.map Card.row (insSort (fun a b => cmpK a.key b.key) 0 (l.length - 1) 1 l)) (And.intro (rowsIn_all (room := none) kr (by first | omega | (simp [insSort_len]; done) | (simp [insSort_len]; omega))) (Card.rows_bdd _ _) : rowsIn ([⟨0, 9, (List.map Card.row (insSort (fun a b => cmpK a.key b.key) 0 (l.length - 1) 1 l)), none⟩] : Heap) 9 (AV.osl 0 0 9 0 l.length) = some (List.map Card.row (insSort (fun a b => cmpK a.key b.key) 0 (l.length - 1) 1 l)) ∧ AV.bddss 0 (List.map Card.row (insSort (fun a b => cmpK a.key b.key) 0 (l.length - 1) 1 l)) = true) (.g (.r (.c 1 (clipC_at (insSort (fun a b => cmpK a.key b.key) 0 (l.length - 1) 1 l) (by rw [insSort_len]; omega) ([⟨1, 9, [], none⟩] : Heap)) (.g (.h' ([] : Heap) (.f 0 (AV.sl .cn 9 (List.map Card.row (insSort (fun a b => cmpK a.key b.key) 0 (l.length - 1) 1 l))) (.e (AV.sl .cn 9 (List.map Card.row (insSort (fun a b => cmpK a.key b.key) 0 (l.length - 1) 1 l))) (by
        with_unfolding_all rfl))))))))))))))))
theorem sortCardW_spec (l : List Card) (hl : l.length < 21) : ACalls Try.prog 62 [(.sl .any 9 (List.map Card.row l))] ([] : Heap) ((AV.sl .any 9 (List.map Card.row (sortP l))), ([] : Heap)) := (sortCard0W_spec l hl).post ⟨rfl, rfl, .inl rfl⟩
theorem sortCardW_at (l : List Card) (hl : l.length < 21) (H : Heap) : ACalls Try.prog 62 [(.sl .any 9 (List.map Card.row l))] H ((AV.sl .any 9 (List.map Card.row (sortP l))), H) := (sortCardW_spec l hl).lift kr kr H
@[simp] abbrev Vt_1 (v1_ : List Card) : Fr := (mkF 22 [(3, (AV.osl 0 (hereL v1_).length 9 0 (hereL v1_).length)), (6, (AV.sl .any 9 (List.map Card.row v1_))), (7, (AV.int .i64 ((v1_.length : Nat) : Int))), (8, (AV.int .i64 ((v1_.length : Nat) : Int)))])
set_option maxRecDepth 100000 in
theorem seenW_spec (l : List Card) (hl : l.length < 21) : ACalls Try.prog 85 [(.sl .any 9 (List.map Card.row l))] ([] : Heap) ((AV.sl .any 9 (List.map Card.row (seenK l))), ([] : Heap)) := by
  have hk := hereL_len l
  exact specO (fn := Try.f85) (ann := seen_ann) (Has.o Try.func85) (.r (.g (.r (.g (.r (.h' ([⟨0, 9, (List.map Card.row []), none⟩] : Heap) (.y 1 (.int .i64 ((List.length (List.map Card.row l) : Nat) : Int)) (AV.int .i64 ((l.length : Nat) : Int)) (Yes.len _ _ _) (.g (.loop (Vt_1 l) (show LoopTo (codeQ Try.prog (X seen_ann) (loopOf Try.f85 0)) (some [3, 6, 7, 8]) (some [3, 6, 7, 8]) (mkF 22 [(3, (.osl 0 0 9 0 0)), (6, (.sl .any 9 (List.map Card.row l))), (7, (.int .i64 ((l.length : Nat) : Int))), (8, (.int .i64 0))]) ([⟨0, 9, (List.map Card.row []), none⟩] : Heap) (.exit 0) (Vt_1 l) ([⟨(hereL l).length, 9, (List.map Card.row (hereL l)), none⟩] : Heap) from (seen_loop l ow (List.length l) [] 0 0 0 (hereL l, (hereL l).length, (hereL l).length) ow rfl ow (seen_iter _))) (.r (.w 3 (List.map Card.row (hereL l)) (And.intro (rowsIn_all (room := none) kr om) (Card.rows_bdd _ _) : rowsIn ([⟨(hereL l).length, 9, (List.map Card.row (hereL l)), none⟩] : Heap) 9 (AV.osl 0 (hereL l).length 9 0 (hereL l).length) = some (List.map Card.row (hereL l)) ∧ AV.bddss 0 (List.map Card.row (hereL l)) = true) (.c 1 (sortCardW_at (hereL l) oa ([⟨((hereL l).length + 1), 9, [], none⟩] : Heap)) (.g (.h' ([] : Heap) (.f 0 (AV.sl .any 9 (List.map Card.row (sortP (hereL l)))) (.e (AV.sl .any 9 (List.map Card.row (sortP (hereL l)))) (by
        with_unfolding_all rfl)))))))))))))))))
theorem seenW_at (l : List Card) (hl : l.length < 21) (H : Heap) : ACalls Try.prog 85 [(.sl .any 9 (List.map Card.row l))] H ((AV.sl .any 9 (List.map Card.row (seenK l))), H) := (seenW_spec l hl).lift kr kr H
@[simp] abbrev Vt_2 (v1_ : List Card) : Fr := (mkF 31 [(3, (AV.sl .any 1 (List.map rU8 (List.foldl cardB [] (seenK v1_))))), (7, (AV.sl .any 9 (List.map Card.row (seenK v1_)))), (8, (AV.int .i64 (((seenK v1_).length : Nat) : Int))), (9, (AV.int .i64 (((seenK v1_).length : Nat) : Int)))])
set_option maxRecDepth 100000 in
theorem sealBW_spec (l : List Card) (hl : l.length < 21) : ACalls Try.prog 49 [(.sl .any 9 (List.map Card.row l))] ([] : Heap) ((AV.sl .any 1 (List.map rU8 (sealB l))), ([] : Heap)) := by
  have h1 := seenK_len l
  exact specO (fn := Try.f49) (ann := sealB_ann) (Has.o Try.func49) (.r (.g (.r (.g (.r (.c 1 (seenW_at l oa ([] : Heap)) (.y 2 (.int .i64 ((List.length (List.map Card.row (seenK l)) : Nat) : Int)) (AV.int .i64 (((seenK l).length : Nat) : Int)) (Yes.len _ _ _) (.g (.loop (Vt_2 l) (show LoopTo (codeQ Try.prog (X sealB_ann) (loopOf Try.f49 0)) (some [3, 7, 8, 9]) (some [3, 7, 8, 9]) (mkF 31 [(3, (.sl .any 1 [])), (7, (.sl .any 9 (List.map Card.row (seenK l)))), (8, (.int .i64 (((seenK l).length : Nat) : Int))), (9, (.int .i64 0))]) ([] : Heap) (.exit 0) (Vt_2 l) ([] : Heap) from (sealB_loop (seenK l) ow (List.length (seenK l)) [] 0 (List.foldl cardB [] (seenK l)) ow (by simp) (sealB_iter _))) (.r (.g (.f 0 (AV.sl .any 1 (List.map rU8 (List.foldl cardB [] (seenK l)))) (.e (AV.sl .any 1 (List.map rU8 (List.foldl cardB [] (seenK l)))) (by
        with_unfolding_all rfl))))))))))))))
theorem sealBW_at (l : List Card) (hl : l.length < 21) (H : Heap) : ACalls Try.prog 49 [(.sl .any 9 (List.map Card.row l))] H ((AV.sl .any 1 (List.map rU8 (sealB l))), H) := (sealBW_spec l hl).lift kr kr H
def sealOfW_ann : Ann := { fin := some 0 }
set_option maxRecDepth 100000 in
theorem sealOfW_spec (l : List Card) (hl : l.length < 21) : ACalls Try.prog 48 [(.sl .any 9 (List.map Card.row l))] ([] : Heap) ((AV.int .u32 (ofB l)), ([] : Heap)) := by
  have h1 := sealB_len l
  exact specO (fn := Try.f48) (ann := sealOfW_ann) (Has.o Try.func48) (.r (.g (.r (.c 1 (sealBW_at l oa ([] : Heap)) (.c 2 (sum_at (sealB l) oa ([] : Heap)) (.g (.f 0 (AV.int .u32 (sumB (sealB l))) (.e (AV.int .u32 (sumB (sealB l))) (by
        with_unfolding_all rfl)))))))))
theorem sealOfW_at (l : List Card) (hl : l.length < 21) (H : Heap) : ACalls Try.prog 48 [(.sl .any 9 (List.map Card.row l))] H ((AV.int .u32 (ofB l)), H) := (sealOfW_spec l hl).lift kr kr H
end Go.Proofs.Ytcmfnfkahdconaa.AM

set_option maxRecDepth 100000
set_option linter.unusedVariables false
set_option linter.unusedSimpArgs false
namespace Go.Proofs.Ytcmfnfkahdconaa.AM
open Go Go.Proofs.Ytcmfnfkahdconaa
attribute [local irreducible] ACalls funT codeT codeQ LoopTo
abbrev zRow : List AV := [(AV.int .i64 0), (AV.int .i64 0), (AV.int .i64 0), (AV.int .i64 0), (AV.int .i64 0), (AV.int .i64 0), (AV.int .i64 0), (AV.str ⟨#[]⟩), (AV.str ⟨#[]⟩), (AV.bool false), (AV.int .u32 0), (AV.sl .nil 0 []), (AV.sl .nil 0 [])]
abbrev mRow (x b u c : AV) : List AV := [(AV.int .i64 2), (AV.int .i64 5), (AV.int .i64 0), (AV.int .i64 0), (AV.int .i64 0), (AV.int .i64 0), x, (AV.str ⟨#[]⟩), (AV.str ⟨#[]⟩), b, u, c, (AV.sl .nil 0 [])]
@[simp] theorem zRow_bdds (n : Nat) : AV.bdds n zRow = true := by simp [AV.bdds, AV.bdd]
@[simp] theorem mRow_bdds (n : Nat) (x b u c : AV) : AV.bdds n (mRow x b u c) = (AV.bdd n x && (AV.bdd n b && (AV.bdd n u && AV.bdd n c))) := by simp [AV.bdds, AV.bdd]
attribute [local irreducible] hasK lastsK recL okS sinceK findP findB putL putE putG getE capM seenK sealB ofB sortP hereL sortK
def begun_ann : Ann := { base := 4, fin := some 4 }
@[simp] abbrev Wc_o1 (v1_ : Int) (v2_ : Nat) (v3_ : Nat) : Ob := ⟨0, 2, [[(AV.int .i64 v1_), (AV.osl 1 v2_ 10 0 v3_)]], none⟩
@[simp] abbrev Wc_o2 (v1_ : List Key) (v2_ : Nat) : Ob := ⟨0, 2, [[(AV.int .i64 (((List.length v1_) : Nat) : Int)), (AV.osl 3 v2_ 2 0 (List.length (recL v1_)))]], none⟩
@[simp] abbrev Wc_1 (v1_ : Int) (v2_ : Nat) (v3_ : Nat) (v4_ : List Entry) (v5_ : List Key) (v6_ : Nat) : Heap := [Wc_o1 v1_ v2_ v3_, ⟨v2_, 10, (List.map Entry.row v4_), none⟩, Wc_o2 v5_ v6_, ⟨v6_, 2, (List.map Key.row (recL v5_)), none⟩]
@[simp] abbrev Wc_2 (v1_ : Int) (v2_ : Nat) (v3_ : Nat) (v4_ : List Entry) (v5_ : List Key) (v6_ : Nat) : Heap := [Wc_o1 v1_ v2_ v3_, ⟨v2_, 10, (List.map Entry.row v4_), none⟩, Wc_o2 v5_ v6_, ⟨v6_, 2, (List.map Key.row (recL v5_)), none⟩, ⟨0, 13, [zRow], none⟩]
set_option maxRecDepth 100000 in
theorem begun_spec (most : Int) (l : List Entry) (g n : Nat) (al : List Key) (ga : Nat) (hn : n = l.length) (hl : l.length < 21) (ha : al.length < 1000000) : ACalls Try.prog 84 [(.obj 0 0 0 0), (.obj 2 0 0 0)] (Wc_1 most g n l al ga) ((AV.agg (mRow (AV.int .i64 ((al.length : Nat) : Int)) (AV.bool false) (AV.int .u32 (ofB (List.map Entry.card l))) (AV.sl .nil 0 []))), (Wc_1 most g n l al ga)) := by
  have hm : (List.map Entry.card l).length = l.length := List.length_map _
  exact specO (fn := Try.f84) (ann := begun_ann) (Has.o Try.func84) (.r (.g (.r (.t 1 (AV.int .i64 ((al.length : Nat) : Int)) (Wc_2 most g n l al ga) (ACalls.pre (args' := [(.obj 2 0 0 0)]) (ACalls.put2 [2, 3] (Wc_2 most g n l al ga) (AV.int .i64 ((al.length : Nat) : Int)) (Wc_2 most g n l al ga) (seq_spec _ ga ) (⟨rfl, ⟨Ob.ren0 (Key.rows_bdd 0 _), trivial⟩⟩) (⟨rfl, ⟨Ob.ren0 (Key.rows_bdd 0 _), trivial⟩⟩)) ⟨AV.wk_refl_any _, trivial⟩ : ACalls Try.prog 36 [(.obj 2 0 0 0)] (Wc_2 most g n l al ga) ((AV.int .i64 ((al.length : Nat) : Int)), (Wc_2 most g n l al ga))) (.c 3 (scards_at most l g n oa oa ([⟨0, 2, [[(.int .i64 (((List.length al) : Nat) : Int)), (.osl 3 ga 2 0 (List.length (recL al)))]], none⟩, ⟨ga, 2, (List.map Key.row (recL al)), none⟩, ⟨0, 13, [zRow], none⟩] : Heap)) (.c 4 (sealOfW_at (l.map (·.card)) oa (Wc_2 most g n l al ga)) (.g (.f 4 (AV.agg (mRow (AV.int .i64 ((al.length : Nat) : Int)) (AV.bool false) (AV.int .u32 (ofB (l.map (·.card)))) (AV.sl .nil 0 []))) (.e (AV.agg (mRow (AV.int .i64 ((al.length : Nat) : Int)) (AV.bool false) (AV.int .u32 (ofB (l.map (·.card)))) (AV.sl .nil 0 []))))))))))))
theorem begun_at (most : Int) (l : List Entry) (g n : Nat) (al : List Key) (ga : Nat) (hn : n = l.length) (hl : l.length < 21) (ha : al.length < 1000000) (H : Heap) : ACalls Try.prog 84 [(.obj 0 0 0 0), (.obj 2 0 0 0)] ((Wc_1 most g n l al ga) ++ H) ((AV.agg (mRow (AV.int .i64 ((al.length : Nat) : Int)) (AV.bool false) (AV.int .u32 (ofB (List.map Entry.card l))) (AV.sl .nil 0 []))), (Wc_1 most g n l al ga) ++ H) := (begun_spec most l g n al ga hn hl ha).ext kr kr ob ob kr H
def ffull_ann : Ann := { base := 4, fin := some 4 }
@[simp] abbrev Wc_3 (v1_ : Int) (v2_ : Nat) (v3_ : Nat) (v4_ : List Entry) (v5_ : List Key) (v6_ : Nat) : Heap := [Wc_o1 v1_ v2_ v3_, ⟨v2_, 10, (List.map Entry.row v4_), none⟩, Wc_o2 v5_ v6_, ⟨v6_, 2, (List.map Key.row (recL v5_)), none⟩, ⟨0, 13, [zRow], none⟩, ⟨0, 13, [zRow], none⟩]
set_option maxRecDepth 100000 in
theorem ffull_spec (most : Int) (l : List Entry) (g n : Nat) (al : List Key) (ga : Nat) (hn : n = l.length) (hl : l.length < 21) (ha : al.length < 1000000) : ACalls Try.prog 42 [(.obj 0 0 0 0), (.obj 2 0 0 0)] (Wc_1 most g n l al ga) ((AV.agg (mRow (AV.int .i64 ((al.length : Nat) : Int)) (AV.bool true) (AV.int .u32 (ofB (List.map Entry.card l))) (AV.sl .any 9 (List.map Card.row (seenK (List.map Entry.card l)))))), (Wc_1 most g n l al ga)) := by
  have hm : (List.map Entry.card l).length = l.length := List.length_map _
  exact specO (fn := Try.f42) (ann := ffull_ann) (Has.o Try.func42) (.r (.g (.r (.no (.no (.g (.no (.r (.t 2 (AV.agg (mRow (AV.int .i64 ((al.length : Nat) : Int)) (AV.bool false) (AV.int .u32 (ofB (List.map Entry.card l))) (AV.sl .nil 0 []))) (Wc_3 most g n l al ga) (begun_at most l g n _ ga oa oa oa ([⟨0, 13, [zRow], none⟩, ⟨0, 13, [zRow], none⟩] : Heap) : ACalls Try.prog 84 [(.obj 0 0 0 0), (.obj 2 0 0 0)] (Wc_3 most g n l al ga) ((AV.agg (mRow (AV.int .i64 ((al.length : Nat) : Int)) (AV.bool false) (AV.int .u32 (ofB (List.map Entry.card l))) (AV.sl .nil 0 []))), (Wc_3 most g n l al ga))) (.g (.r (.c 1 (scards_at most l g n oa oa ([⟨0, 2, [[(.int .i64 (((List.length al) : Nat) : Int)), (.osl 3 ga 2 0 (List.length (recL al)))]], none⟩, ⟨ga, 2, (List.map Key.row (recL al)), none⟩, ⟨0, 13, [zRow], none⟩, ⟨0, 13, [(mRow (AV.int .i64 ((al.length : Nat) : Int)) (AV.bool false) (AV.int .u32 (ofB (List.map Entry.card l))) (AV.sl .nil 0 []))], none⟩] : Heap)) (.c 2 (seenW_at (l.map (·.card)) oa ([⟨0, 2, [[(.int .i64 most), (.osl 1 g 10 0 n)]], none⟩, ⟨g, 10, (List.map Entry.row l), none⟩, ⟨0, 2, [[(.int .i64 (((List.length al) : Nat) : Int)), (.osl 3 ga 2 0 (List.length (recL al)))]], none⟩, ⟨ga, 2, (List.map Key.row (recL al)), none⟩, ⟨0, 13, [zRow], none⟩, ⟨0, 13, [(mRow (AV.int .i64 ((al.length : Nat) : Int)) (AV.bool false) (AV.int .u32 (ofB (List.map Entry.card l))) (AV.sl .nil 0 []))], none⟩] : Heap)) (.g (.r (.g (.f 4 (AV.agg (mRow (AV.int .i64 ((al.length : Nat) : Int)) (AV.bool true) (AV.int .u32 (ofB (List.map Entry.card l))) (AV.sl .any 9 (List.map Card.row (seenK (l.map (·.card))))))) (.e (AV.agg (mRow (AV.int .i64 ((al.length : Nat) : Int)) (AV.bool true) (AV.int .u32 (ofB (List.map Entry.card l))) (AV.sl .any 9 (List.map Card.row (seenK (l.map (·.card)))))))))))))))))))))))))
theorem ffull_at (most : Int) (l : List Entry) (g n : Nat) (al : List Key) (ga : Nat) (hn : n = l.length) (hl : l.length < 21) (ha : al.length < 1000000) (H : Heap) : ACalls Try.prog 42 [(.obj 0 0 0 0), (.obj 2 0 0 0)] ((Wc_1 most g n l al ga) ++ H) ((AV.agg (mRow (AV.int .i64 ((al.length : Nat) : Int)) (AV.bool true) (AV.int .u32 (ofB (List.map Entry.card l))) (AV.sl .any 9 (List.map Card.row (seenK (List.map Entry.card l)))))), (Wc_1 most g n l al ga) ++ H) := (ffull_spec most l g n al ga hn hl ha).ext kr kr ob ob kr H
def goneC (k : Key) : Card := ⟨k, 2, 0, 1, ⟨0, 0, 0⟩, true⟩
def atC (l : List Entry) (k : Key) : Card := if findB l k = true then (getE l k).card else goneC k
theorem fold_push {α β : Type} (f : α → β) (l : List α) : ∀ (out : List β) (k g : Nat), l.foldl (fun (s : List β × Nat × Nat) c => (s.1 ++ [f c], s.2.1 + 1, s.2.2 + 1)) (out, k, g) = (out ++ l.map f, k + l.length, g + l.length) := by
  induction l with
  | nil => intro out k g; simp
  | cons c l ih => intro out k g; rw [List.foldl_cons, ih]; simp; omega
def delta_ann : Ann := { gh := [(16, .frzf 9 11 9)], gha := [(6, .virf 9 11 9), (15, .cut 7)], base := 4, fin := some 4, live := [(8, [0, 6, 9, 36, 37, 38])], out := [(8, [0, 6, 9, 36, 37, 38])] }
@[simp] abbrev Wc_4 (v1_ : List Key) (v2_ : Nat) : Fr := (mkF 61 [(0, (AV.obj 0 0 0 0)), (6, (AV.obj 4 0 0 0)), (9, (AV.obj 5 0 0 0)), (36, (AV.sl .any 2 (List.map Key.row v1_))), (37, (AV.int .i64 ((v1_.length : Nat) : Int))), (38, (AV.int .i64 ((v2_ + 1 : Nat) : Int)))])
@[simp] abbrev Wc_o3 (v1_ : List Key) (v2_ : List Entry) (v3_ : Nat) (v4_ : Nat) : Ob := ⟨0, 13, [(mRow (AV.int .i64 ((v1_.length : Nat) : Int)) (AV.bool false) (AV.int .u32 (ofB (List.map Entry.card v2_))) (AV.osl 6 (v3_ + 1) 9 0 (v4_ + 1)))], none⟩
@[simp] abbrev Wc_o4 (v1_ : Nat) (v2_ : List Card) (v3_ : List Entry) (v4_ : List Key) (v5_ : Nat) : Ob := ⟨(v1_ + 1), 9, (List.map Card.row (v2_ ++ [(getE v3_ (nth v4_ v5_)).card])), none⟩
@[simp] abbrev Wc_5 (v1_ : Int) (v2_ : Nat) (v3_ : Nat) (v4_ : List Entry) (v5_ : List Key) (v6_ : Nat) (v7_ : Nat) (v8_ : Nat) (v9_ : List Card) (v10_ : List Key) (v11_ : Nat) : Heap := [Wc_o1 v1_ v2_ v3_, ⟨v2_, 10, (List.map Entry.row v4_), none⟩, Wc_o2 v5_ v6_, ⟨v6_, 2, (List.map Key.row (recL v5_)), none⟩, ⟨0, 13, [zRow], none⟩, Wc_o3 v5_ v4_ v7_ v8_, Wc_o4 v7_ v9_ v4_ v10_ v11_]
@[simp] abbrev Wc_o5 (v1_ : Nat) (v2_ : List Card) (v3_ : List Key) (v4_ : Nat) : Ob := ⟨(v1_ + 1), 9, (List.map Card.row (v2_ ++ [(Card.mk (nth v3_ v4_) 2 0 1 (Stamp.mk 0 0 0) true)])), none⟩
@[simp] abbrev Wc_6 (v1_ : Int) (v2_ : Nat) (v3_ : Nat) (v4_ : List Entry) (v5_ : List Key) (v6_ : Nat) (v7_ : Nat) (v8_ : Nat) (v9_ : List Card) (v10_ : List Key) (v11_ : Nat) : Heap := [Wc_o1 v1_ v2_ v3_, ⟨v2_, 10, (List.map Entry.row v4_), none⟩, Wc_o2 v5_ v6_, ⟨v6_, 2, (List.map Key.row (recL v5_)), none⟩, ⟨0, 13, [zRow], none⟩, Wc_o3 v5_ v4_ v7_ v8_, Wc_o5 v7_ v9_ v10_ v11_]
@[simp] abbrev Wc_7 (v1_ : List Key) (v2_ : Nat) : Fr := (mkF 61 [(0, (AV.obj 0 0 0 0)), (6, (AV.obj 4 0 0 0)), (9, (AV.obj 5 0 0 0)), (36, (AV.sl .any 2 (List.map Key.row v1_))), (37, (AV.int .i64 ((v1_.length : Nat) : Int))), (38, (AV.int .i64 ((v2_ : Nat) : Int)))])
@[simp] abbrev Wc_8 (v1_ : Int) (v2_ : Nat) (v3_ : Nat) (v4_ : List Entry) (v5_ : List Key) (v6_ : Nat) (v7_ : Nat) (v8_ : Nat) (v9_ : List Card) : Heap := [Wc_o1 v1_ v2_ v3_, ⟨v2_, 10, (List.map Entry.row v4_), none⟩, Wc_o2 v5_ v6_, ⟨v6_, 2, (List.map Key.row (recL v5_)), none⟩, ⟨0, 13, [zRow], none⟩, ⟨0, 13, [(mRow (AV.int .i64 ((v5_.length : Nat) : Int)) (AV.bool false) (AV.int .u32 (ofB (List.map Entry.card v4_))) (AV.osl 6 v7_ 9 0 v8_))], none⟩, ⟨v7_, 9, (List.map Card.row v9_), none⟩]
set_option maxRecDepth 100000 in
theorem delta_step (most : Int) (l : List Entry) (g : Nat) (n : Nat) (al : List Key) (ga : Nat) (ks : List Key) (out : List Card) (k : Nat) (gc : Nat) (i : Nat) (hn : n = l.length) (hl : l.length < 21) (ha : al.length < 1000000) (hk : ks.length < 1000000) (hko : k = out.length) (hki : k ≤ i) (hle_ : i ≤ ks.length) {eX : Ex} {FX : Fr} {HX : Heap} (k1 : (decide (((i : Nat) : Int) < ((ks.length : Nat) : Int))) = true → (findB l (nth ks i)) = true → LoopTo (codeQ Try.prog (X delta_ann) (loopOf Try.f47 0)) (some [0, 6, 9, 36, 37, 38]) (some [0, 6, 9, 36, 37, 38]) (Wc_4 ks i) (Wc_5 most g n l al ga gc k out ks i) eX FX HX) (k2 : (decide (((i : Nat) : Int) < ((ks.length : Nat) : Int))) = true → (findB l (nth ks i)) = false → LoopTo (codeQ Try.prog (X delta_ann) (loopOf Try.f47 0)) (some [0, 6, 9, 36, 37, 38]) (some [0, 6, 9, 36, 37, 38]) (Wc_4 ks i) (Wc_6 most g n l al ga gc k out ks i) eX FX HX) (k3 : (decide (((i : Nat) : Int) < ((ks.length : Nat) : Int))) = false → ((.exit 0 : Ex), (Wc_7 ks i), (Wc_8 most g n l al ga gc k out)) = (eX, FX, HX)) : LoopTo (codeQ Try.prog (X delta_ann) (loopOf Try.f47 0)) (some [0, 6, 9, 36, 37, 38]) (some [0, 6, 9, 36, 37, 38]) (Wc_7 ks i) (Wc_8 most g n l al ga gc k out) eX FX HX :=
  stepO (.r (.g (.two (decide (((i : Nat) : Int) < ((ks.length : Nat) : Int))) (fun h1 h1' => (.r (.h' ([⟨0, 2, [[(AV.int .i64 most), (AV.osl 1 g 10 0 n)]], none⟩, ⟨g, 10, (List.map Entry.row l), none⟩, ⟨0, 2, [[(AV.int .i64 (((List.length al) : Nat) : Int)), (AV.osl 3 ga 2 0 (List.length (recL al)))]], none⟩, ⟨ga, 2, (List.map Key.row (recL al)), none⟩, ⟨0, 13, [zRow], none⟩, ⟨0, 13, [(mRow (AV.int .i64 ((al.length : Nat) : Int)) (AV.bool false) (AV.int .u32 (ofB (List.map Entry.card l))) (AV.osl 6 gc 9 0 k))], none⟩, ⟨gc, 9, (List.map Card.row out), none⟩, ⟨0, 2, [[(AV.str ⟨#[]⟩), (AV.str ⟨#[]⟩)]], none⟩] : Heap) (.is 0 2 2 (List.map Key.row ks) ((i : Nat) : Int) (Key.row (nth ks i)) (IdxSl.mk _ ow ow) (.g (.r (.g (.r (.c 2 (get_at most l (nth ks i) g n oa oa ([⟨0, 2, [[(AV.int .i64 (((List.length al) : Nat) : Int)), (AV.osl 3 ga 2 0 (List.length (recL al)))]], none⟩, ⟨ga, 2, (List.map Key.row (recL al)), none⟩, ⟨0, 13, [zRow], none⟩, ⟨0, 13, [(mRow (AV.int .i64 ((al.length : Nat) : Int)) (AV.bool false) (AV.int .u32 (ofB (List.map Entry.card l))) (AV.osl 6 gc 9 0 k))], none⟩, ⟨gc, 9, (List.map Card.row out), none⟩, ⟨0, 2, [(Key.row (nth ks i))], none⟩, ⟨0, 9, [[(AV.str (nth ks i).app), (AV.str (nth ks i).id), (AV.int .i64 2), (AV.int .i64 0), (AV.int .i64 1), (AV.int .i64 0), (AV.int .i64 0), (AV.int .i64 0), (AV.bool true)]], none⟩, ⟨0, 10, [[(AV.str ⟨#[]⟩), (AV.str ⟨#[]⟩), (AV.int .i64 0), (AV.int .i64 0), (AV.int .i64 0), (AV.int .i64 0), (AV.int .i64 0), (AV.int .i64 0), (AV.bool false), (AV.int .i64 0)]], none⟩] : Heap)) (.g (.r (.g (.two (findB l (nth ks i)) (fun h2 h2' => (.r (.g (.r (.h' ([⟨0, 2, [[(AV.int .i64 most), (AV.osl 1 g 10 0 n)]], none⟩, ⟨g, 10, (List.map Entry.row l), none⟩, ⟨0, 2, [[(AV.int .i64 (((List.length al) : Nat) : Int)), (AV.osl 3 ga 2 0 (List.length (recL al)))]], none⟩, ⟨ga, 2, (List.map Key.row (recL al)), none⟩, ⟨0, 13, [zRow], none⟩, ⟨0, 13, [(mRow (AV.int .i64 ((al.length : Nat) : Int)) (AV.bool false) (AV.int .u32 (ofB (List.map Entry.card l))) (AV.osl 6 gc 9 0 k))], none⟩, ⟨gc, 9, (List.map Card.row out), none⟩, ⟨0, 2, [(Key.row (nth ks i))], none⟩, ⟨0, 9, [(Card.row (getE l (nth ks i)).card)], none⟩, ⟨0, 10, [(Entry.row (getE l (nth ks i)))], none⟩] : Heap) (.ap 4 33 (AV.osl 6 gc 9 0 k) (AV.sl .clip 9 [(Card.row (getE l (nth ks i)).card)]) (AV.osl 6 (gc + 1) 9 0 (k + 1)) ([⟨0, 2, [[(AV.int .i64 most), (AV.osl 1 g 10 0 n)]], none⟩, ⟨g, 10, (List.map Entry.row l), none⟩, ⟨0, 2, [[(AV.int .i64 (((List.length al) : Nat) : Int)), (AV.osl 3 ga 2 0 (List.length (recL al)))]], none⟩, ⟨ga, 2, (List.map Key.row (recL al)), none⟩, ⟨0, 13, [zRow], none⟩, ⟨0, 13, [(mRow (AV.int .i64 ((al.length : Nat) : Int)) (AV.bool false) (AV.int .u32 (ofB (List.map Entry.card l))) (AV.osl 6 gc 9 0 k))], none⟩, ⟨(gc + 1), 9, (List.map Card.row (out ++ [(getE l (nth ks i)).card])), none⟩, ⟨0, 2, [(Key.row (nth ks i))], none⟩, ⟨0, 9, [(Card.row (getE l (nth ks i)).card)], none⟩, ⟨0, 10, [(Entry.row (getE l (nth ks i)))], none⟩] : Heap) (evAppend_one (row := Card.row) (l := out) (x := (getE l (nth ks i)).card) (T := tt) (e := 58) (te := { d := .struct [(31, 0), (3, 2), (3, 3), (2, 4), (56, 5), (4, 8)], size := 9, bytes := 88, zero := [.str ⟨#[]⟩, .str ⟨#[]⟩, .int .i64 0, .int .i64 0, .int .i64 0, .int .i64 0, .int .i64 0, .int .i64 0, .bool false] }) (z := 1) (b := 24) (y := [.sl .nil 0 []]) kr kr rfl (by decide) (by decide) kr (by first | assumption | omega | (simp; done) | (simp; omega)) rfl rfl (by first | omega | (show _ * 88 ≤ _; omega) | (simp; omega))) (.g (.r (.h' ([⟨0, 2, [[(AV.int .i64 most), (AV.osl 1 g 10 0 n)]], none⟩, ⟨g, 10, (List.map Entry.row l), none⟩, ⟨0, 2, [[(AV.int .i64 (((List.length al) : Nat) : Int)), (AV.osl 3 ga 2 0 (List.length (recL al)))]], none⟩, ⟨ga, 2, (List.map Key.row (recL al)), none⟩, ⟨0, 13, [zRow], none⟩, ⟨0, 13, [(mRow (AV.int .i64 ((al.length : Nat) : Int)) (AV.bool false) (AV.int .u32 (ofB (List.map Entry.card l))) (AV.osl 6 (gc + 1) 9 0 (k + 1)))], none⟩, ⟨(gc + 1), 9, (List.map Card.row (out ++ [(getE l (nth ks i)).card])), none⟩, ⟨0, 2, [(Key.row (nth ks i))], none⟩, ⟨0, 9, [(Card.row (getE l (nth ks i)).card)], none⟩, ⟨0, 10, [(Entry.row (getE l (nth ks i)))], none⟩] : Heap) (.y 0 (.int .i64 (IntKind.i64.wrap (((i : Nat) : Int) + 1))) (AV.int .i64 ((i + 1 : Nat) : Int)) (Yes.add ow ow ow) (.h' (Wc_5 most g n l al ga gc k out ks i) (.b 7 (.g (.l (k1 h1 h2))))))))))))))) (fun h2 h2' => (.r (.h' ([⟨0, 2, [[(AV.int .i64 most), (AV.osl 1 g 10 0 n)]], none⟩, ⟨g, 10, (List.map Entry.row l), none⟩, ⟨0, 2, [[(AV.int .i64 (((List.length al) : Nat) : Int)), (AV.osl 3 ga 2 0 (List.length (recL al)))]], none⟩, ⟨ga, 2, (List.map Key.row (recL al)), none⟩, ⟨0, 13, [zRow], none⟩, ⟨0, 13, [(mRow (AV.int .i64 ((al.length : Nat) : Int)) (AV.bool false) (AV.int .u32 (ofB (List.map Entry.card l))) (AV.osl 6 gc 9 0 k))], none⟩, ⟨gc, 9, (List.map Card.row out), none⟩, ⟨0, 2, [(Key.row (nth ks i))], none⟩, ⟨0, 9, [[(AV.str (nth ks i).app), (AV.str (nth ks i).id), (AV.int .i64 2), (AV.int .i64 0), (AV.int .i64 1), (AV.int .i64 0), (AV.int .i64 0), (AV.int .i64 0), (AV.bool true)]], none⟩, ⟨0, 10, [(Entry.row (getE l (nth ks i)))], none⟩] : Heap) (.ap 4 33 (AV.osl 6 gc 9 0 k) (AV.sl .clip 9 [[(AV.str (nth ks i).app), (AV.str (nth ks i).id), (AV.int .i64 2), (AV.int .i64 0), (AV.int .i64 1), (AV.int .i64 0), (AV.int .i64 0), (AV.int .i64 0), (AV.bool true)]]) (AV.osl 6 (gc + 1) 9 0 (k + 1)) ([⟨0, 2, [[(AV.int .i64 most), (AV.osl 1 g 10 0 n)]], none⟩, ⟨g, 10, (List.map Entry.row l), none⟩, ⟨0, 2, [[(AV.int .i64 (((List.length al) : Nat) : Int)), (AV.osl 3 ga 2 0 (List.length (recL al)))]], none⟩, ⟨ga, 2, (List.map Key.row (recL al)), none⟩, ⟨0, 13, [zRow], none⟩, ⟨0, 13, [(mRow (AV.int .i64 ((al.length : Nat) : Int)) (AV.bool false) (AV.int .u32 (ofB (List.map Entry.card l))) (AV.osl 6 gc 9 0 k))], none⟩, ⟨(gc + 1), 9, (List.map Card.row (out ++ [(Card.mk (nth ks i) 2 0 1 (Stamp.mk 0 0 0) true)])), none⟩, ⟨0, 2, [(Key.row (nth ks i))], none⟩, ⟨0, 9, [[(AV.str (nth ks i).app), (AV.str (nth ks i).id), (AV.int .i64 2), (AV.int .i64 0), (AV.int .i64 1), (AV.int .i64 0), (AV.int .i64 0), (AV.int .i64 0), (AV.bool true)]], none⟩, ⟨0, 10, [(Entry.row (getE l (nth ks i)))], none⟩] : Heap) (evAppend_one (row := Card.row) (l := out) (x := (Card.mk (nth ks i) 2 0 1 (Stamp.mk 0 0 0) true)) (T := tt) (e := 58) (te := { d := .struct [(31, 0), (3, 2), (3, 3), (2, 4), (56, 5), (4, 8)], size := 9, bytes := 88, zero := [.str ⟨#[]⟩, .str ⟨#[]⟩, .int .i64 0, .int .i64 0, .int .i64 0, .int .i64 0, .int .i64 0, .int .i64 0, .bool false] }) (z := 1) (b := 24) (y := [.sl .nil 0 []]) kr kr rfl (by decide) (by decide) kr (by first | assumption | omega | (simp; done) | (simp; omega)) rfl rfl (by first | omega | (show _ * 88 ≤ _; omega) | (simp; omega))) (.g (.r (.h' ([⟨0, 2, [[(AV.int .i64 most), (AV.osl 1 g 10 0 n)]], none⟩, ⟨g, 10, (List.map Entry.row l), none⟩, ⟨0, 2, [[(AV.int .i64 (((List.length al) : Nat) : Int)), (AV.osl 3 ga 2 0 (List.length (recL al)))]], none⟩, ⟨ga, 2, (List.map Key.row (recL al)), none⟩, ⟨0, 13, [zRow], none⟩, ⟨0, 13, [(mRow (AV.int .i64 ((al.length : Nat) : Int)) (AV.bool false) (AV.int .u32 (ofB (List.map Entry.card l))) (AV.osl 6 (gc + 1) 9 0 (k + 1)))], none⟩, ⟨(gc + 1), 9, (List.map Card.row (out ++ [(Card.mk (nth ks i) 2 0 1 (Stamp.mk 0 0 0) true)])), none⟩, ⟨0, 2, [(Key.row (nth ks i))], none⟩, ⟨0, 9, [[(AV.str (nth ks i).app), (AV.str (nth ks i).id), (AV.int .i64 2), (AV.int .i64 0), (AV.int .i64 1), (AV.int .i64 0), (AV.int .i64 0), (AV.int .i64 0), (AV.bool true)]], none⟩, ⟨0, 10, [(Entry.row (getE l (nth ks i)))], none⟩] : Heap) (.y 0 (.int .i64 (IntKind.i64.wrap (((i : Nat) : Int) + 1))) (AV.int .i64 ((i + 1 : Nat) : Int)) (Yes.add ow ow ow) (.h' (Wc_6 most g n l al ga gc k out ks i) (.b 7 (.g (.l (k2 h1 h2)))))))))))))))))))))))))) (fun h1 h1' => (.l (k3 h1))))))
def delta_f (most : Int) (l : List Entry) (g : Nat) (n : Nat) (al : List Key) (ga : Nat) (ks : List Key) (i : Nat) (s : (List Card) × Nat × Nat) : (List Card) × Nat × Nat := (if (findB l (nth ks i)) = true then (s.1 ++ [(getE l (nth ks i)).card], (s.2.1 + 1), (s.2.2 + 1)) else (s.1 ++ [(Card.mk (nth ks i) 2 0 1 (Stamp.mk 0 0 0) true)], (s.2.1 + 1), (s.2.2 + 1)))
theorem delta_loop (most : Int) (l : List Entry) (g : Nat) (n : Nat) (al : List Key) (ga : Nat) (ks : List Key) (hn : n = l.length) (hl : l.length < 21) (ha : al.length < 1000000) (hk : ks.length < 1000000)  (r_ : Nat) : ∀ (out : List Card) (k : Nat) (gc : Nat) (i : Nat) (sF : (List Card) × Nat × Nat), i + r_ = ks.length → k = out.length → k ≤ i → sF = iter (delta_f most l g n al ga ks) r_ i (out, k, gc) →
    LoopTo (codeQ Try.prog (X delta_ann) (loopOf Try.f47 0)) (some [0, 6, 9, 36, 37, 38]) (some [0, 6, 9, 36, 37, 38]) (Wc_7 ks i) (Wc_8 most g n l al ga gc k out) (.exit 0) (mkF 61 [(0, (.obj 0 0 0 0)), (6, (.obj 4 0 0 0)), (9, (.obj 5 0 0 0)), (36, (.sl .any 2 (List.map Key.row ks))), (37, (.int .i64 ((ks.length : Nat) : Int))), (38, (.int .i64 ((ks.length : Nat) : Int)))]) ([⟨0, 2, [[(.int .i64 most), (.osl 1 g 10 0 n)]], none⟩, ⟨g, 10, (List.map Entry.row l), none⟩, ⟨0, 2, [[(.int .i64 (((List.length al) : Nat) : Int)), (.osl 3 ga 2 0 (List.length (recL al)))]], none⟩, ⟨ga, 2, (List.map Key.row (recL al)), none⟩, ⟨0, 13, [zRow], none⟩, ⟨0, 13, [(mRow (AV.int .i64 ((al.length : Nat) : Int)) (AV.bool false) (AV.int .u32 (ofB (List.map Entry.card l))) (AV.osl 6 sF.2.2 9 0 sF.2.1))], none⟩, ⟨sF.2.2, 9, (List.map Card.row sF.1), none⟩] : Heap) := by
  induction r_ with
  | zero =>
    intro out k gc i sF hi_ hko hki  hF
    obtain rfl : ks.length = i := by omega
    have e_ : sF = (out, k, gc) := hF
    refine delta_step most l g n al ga ks out k gc ks.length hn hl ha hk hko hki (Nat.le_refl _) (fun h _ => by simp at h <;> omega) (fun h _ => by simp at h <;> omega) (fun _ => ?_)
    first | done | rfl | (rw [e_]; done) | (rw [e_]; rfl)
  | succ r_ ih =>
    intro out k gc i sF hi_ hko hki  hF
    refine delta_step most l g n al ga ks out k gc i hn hl ha hk hko hki ow (fun h1 h2 => ?_) (fun h1 h2 => ?_) (fun h => by simp at h <;> omega)
    · exact ih (out ++ [(getE l (nth ks i)).card]) (k + 1) (gc + 1) (i + 1) sF ow (by first | omega | assumption | (simp; done) | (simp; omega) | (simp [*]; done) | (simp [*]; omega)) (by first | omega | assumption | (simp; done) | (simp; omega) | (simp [*]; done) | (simp [*]; omega))  (by rw [hF] <;> simp only [iter, delta_f, h2, if_true, Bool.false_eq_true, if_false])
    · exact ih (out ++ [(Card.mk (nth ks i) 2 0 1 (Stamp.mk 0 0 0) true)]) (k + 1) (gc + 1) (i + 1) sF ow (by first | omega | assumption | (simp; done) | (simp; omega) | (simp [*]; done) | (simp [*]; omega)) (by first | omega | assumption | (simp; done) | (simp; omega) | (simp [*]; done) | (simp [*]; omega))  (by rw [hF] <;> simp only [iter, delta_f, h2, if_true, Bool.false_eq_true, if_false])
theorem delta_iter (most : Int) (l : List Entry) (g n : Nat) (al : List Key) (ga : Nat) (ks : List Key) : (ks.map (atC l), (ks.map (atC l)).length, (ks.map (atC l)).length) = iter (delta_f most l g n al ga ks) ks.length 0 ([], 0, 0) := by
  rw [iter_all (delta_f most l g n al ga ks) (fun s k => (s.1 ++ [atC l k], s.2.1 + 1, s.2.2 + 1)) ks (fun i s hi => ?_)]
  · rw [fold_push (atC l) ks]; simp
  · simp only [delta_f, atC, goneC]
    by_cases h1 : findB l (nth ks i) = true <;> simp [h1]
@[simp] abbrev Wc_9 (v1_ : Int) (v2_ : Nat) (v3_ : Nat) (v4_ : List Entry) (v5_ : List Key) (v6_ : Nat) : Heap := [Wc_o1 v1_ v2_ v3_, ⟨v2_, 10, (List.map Entry.row v4_), none⟩, Wc_o2 v5_ v6_, ⟨v6_, 2, (List.map Key.row (recL v5_)), none⟩, ⟨0, 13, [zRow], none⟩, ⟨0, 13, [(mRow (AV.int .i64 ((v5_.length : Nat) : Int)) (AV.bool false) (AV.int .u32 (ofB (List.map Entry.card v4_))) (AV.osl 6 0 9 0 0))], none⟩, ⟨0, 9, (List.map Card.row []), none⟩]
@[simp] abbrev Wc_10 (v1_ : List Key) (v2_ : Int) : Fr := (mkF 61 [(0, (AV.obj 0 0 0 0)), (6, (AV.obj 4 0 0 0)), (9, (AV.obj 5 0 0 0)), (36, (AV.sl .any 2 (List.map Key.row (sinceK v1_ v2_)))), (37, (AV.int .i64 (((sinceK v1_ v2_).length : Nat) : Int))), (38, (AV.int .i64 (((sinceK v1_ v2_).length : Nat) : Int)))])
@[simp] abbrev Wc_o6 (v1_ : List Entry) (v2_ : List Key) (v3_ : Int) : Ob := ⟨(List.map (atC v1_) (sinceK v2_ v3_)).length, 9, (List.map Card.row (List.map (atC v1_) (sinceK v2_ v3_))), none⟩
@[simp] abbrev Wc_11 (v1_ : Int) (v2_ : Nat) (v3_ : Nat) (v4_ : List Entry) (v5_ : List Key) (v6_ : Nat) (v7_ : Int) : Heap := [Wc_o1 v1_ v2_ v3_, ⟨v2_, 10, (List.map Entry.row v4_), none⟩, Wc_o2 v5_ v6_, ⟨v6_, 2, (List.map Key.row (recL v5_)), none⟩, ⟨0, 13, [zRow], none⟩, ⟨0, 13, [(mRow (AV.int .i64 ((v5_.length : Nat) : Int)) (AV.bool false) (AV.int .u32 (ofB (List.map Entry.card v4_))) (AV.osl 6 (List.map (atC v4_) (sinceK v5_ v7_)).length 9 0 (List.map (atC v4_) (sinceK v5_ v7_)).length))], none⟩, Wc_o6 v4_ v5_ v7_]
set_option maxRecDepth 100000 in
theorem deltaS_spec (most : Int) (l : List Entry) (g n : Nat) (al : List Key) (ga : Nat) (since : Int) (hn : n = l.length) (hl : l.length < 21) (ha : al.length < 1000000) (hok : okS al since = true) : ACalls Try.prog 47 [(.obj 0 0 0 0), (.obj 2 0 0 0), (.int .i64 since)] (Wc_1 most g n l al ga) ((AV.agg (mRow (AV.int .i64 ((al.length : Nat) : Int)) (AV.bool false) (AV.int .u32 (ofB (List.map Entry.card l))) (AV.sl .any 9 (List.map Card.row (List.map (atC l) (sinceK al since)))))), (Wc_1 most g n l al ga)) := by
  have hm : (List.map Entry.card l).length = l.length := List.length_map _
  have hs := sinceK_len al since
  have hd : (List.map (atC l) (sinceK al since)).length = (sinceK al since).length := List.length_map _
  exact specO (fn := Try.f47) (ann := delta_ann) (Has.o Try.func47) (.r (.g (.r (.no (.no (.g (.no (.r (.t 2 (AV.tup [(.sl .any 2 (List.map Key.row (sinceK al since))), (.bool (okS al since))]) (Wc_2 most g n l al ga) (ACalls.pre (args' := [(.obj 2 0 0 0), (.int .i64 since)]) (ACalls.put2 [2, 3] (Wc_2 most g n l al ga) (AV.tup [(.sl .any 2 (List.map Key.row (sinceK al since))), (.bool (okS al since))]) (Wc_2 most g n l al ga) (since_spec _ ga since oa) (⟨rfl, ⟨Ob.ren0 (Key.rows_bdd 0 _), trivial⟩⟩) (⟨rfl, ⟨Ob.ren0 (Key.rows_bdd 0 _), trivial⟩⟩)) ⟨AV.wk_refl_any _, AV.wk_refl_any _, trivial⟩ : ACalls Try.prog 50 [(.obj 2 0 0 0), (.int .i64 since)] (Wc_2 most g n l al ga) ((AV.tup [(.sl .any 2 (List.map Key.row (sinceK al since))), (.bool (okS al since))]), (Wc_2 most g n l al ga))) (.g (.r (.h' (Wc_2 most g n l al ga) (.y 1 (AV.bool (!(okS al since))) (AV.bool false) (Yes.bool (by rw [hok]; rfl)) (.g (.no (.r (.t 2 (AV.agg (mRow (AV.int .i64 ((al.length : Nat) : Int)) (AV.bool false) (AV.int .u32 (ofB (List.map Entry.card l))) (AV.sl .nil 0 []))) (Wc_3 most g n l al ga) (begun_at most l g n _ ga oa oa oa ([⟨0, 13, [zRow], none⟩, ⟨0, 13, [zRow], none⟩] : Heap) : ACalls Try.prog 84 [(.obj 0 0 0 0), (.obj 2 0 0 0)] (Wc_3 most g n l al ga) ((AV.agg (mRow (AV.int .i64 ((al.length : Nat) : Int)) (AV.bool false) (AV.int .u32 (ofB (List.map Entry.card l))) (AV.sl .nil 0 []))), (Wc_3 most g n l al ga))) (.o (rfl : 0 = 0) (.g (.r (.h' (Wc_9 most g n l al ga) (.y 1 (.int .i64 ((List.length (List.map Key.row (sinceK al since)) : Nat) : Int)) (AV.int .i64 (((sinceK al since).length : Nat) : Int)) (Yes.len _ _ _) (.g (.loop (Wc_10 al since) (show LoopTo (codeQ Try.prog (X delta_ann) (loopOf Try.f47 0)) (some [0, 6, 9, 36, 37, 38]) (some [0, 6, 9, 36, 37, 38]) (mkF 61 [(0, (.obj 0 0 0 0)), (6, (.obj 4 0 0 0)), (9, (.obj 5 0 0 0)), (36, (.sl .any 2 (List.map Key.row (sinceK al since)))), (37, (.int .i64 (((sinceK al since).length : Nat) : Int))), (38, (.int .i64 0))]) (Wc_9 most g n l al ga) (.exit 0) (Wc_10 al since) (Wc_11 most g n l al ga since) from (delta_loop most l g n al ga (sinceK al since) ow ow ow ow (List.length (sinceK al since)) [] 0 0 0 (List.map (atC l) (sinceK al since), (List.map (atC l) (sinceK al since)).length, (List.map (atC l) (sinceK al since)).length) ow rfl ow (delta_iter _ _ _ _ _ _ _))) (.r (.w 9 (List.map Card.row (List.map (atC l) (sinceK al since))) (And.intro rfl (And.intro (rowsIn_all (room := none) kr om) (Card.rows_bdd _ _)) : 0 = 0 ∧ rowsIn (Wc_11 most g n l al ga since) 9 (AV.osl 6 (List.map (atC l) (sinceK al since)).length 9 0 (List.map (atC l) (sinceK al since)).length) = some (List.map Card.row (List.map (atC l) (sinceK al since))) ∧ AV.bddss 0 (List.map Card.row (List.map (atC l) (sinceK al since))) = true) (.g (.h' (Wc_1 most g n l al ga) (.f 4 (AV.agg (mRow (AV.int .i64 ((al.length : Nat) : Int)) (AV.bool false) (AV.int .u32 (ofB (List.map Entry.card l))) (AV.sl .any 9 (List.map Card.row (List.map (atC l) (sinceK al since)))))) (.e (AV.agg (mRow (AV.int .i64 ((al.length : Nat) : Int)) (AV.bool false) (AV.int .u32 (ofB (List.map Entry.card l))) (AV.sl .any 9 (List.map Card.row (List.map (atC l) (sinceK al since))))))))))))))))))))))))))))))))))))
set_option maxRecDepth 100000 in
theorem deltaN_spec (most : Int) (l : List Entry) (g n : Nat) (al : List Key) (ga : Nat) (since : Int) (hn : n = l.length) (hl : l.length < 21) (ha : al.length < 1000000) (hok : okS al since = false) : ACalls Try.prog 47 [(.obj 0 0 0 0), (.obj 2 0 0 0), (.int .i64 since)] (Wc_1 most g n l al ga) ((AV.agg (mRow (AV.int .i64 ((al.length : Nat) : Int)) (AV.bool true) (AV.int .u32 (ofB (List.map Entry.card l))) (AV.sl .any 9 (List.map Card.row (seenK (List.map Entry.card l)))))), (Wc_1 most g n l al ga)) := by
  have hm : (List.map Entry.card l).length = l.length := List.length_map _
  have hs := sinceK_len al since
  have hd : (List.map (atC l) (sinceK al since)).length = (sinceK al since).length := List.length_map _
  exact specO (fn := Try.f47) (ann := delta_ann) (Has.o Try.func47) (.r (.g (.r (.no (.no (.g (.no (.r (.t 2 (AV.tup [(.sl .any 2 (List.map Key.row (sinceK al since))), (.bool (okS al since))]) (Wc_2 most g n l al ga) (ACalls.pre (args' := [(.obj 2 0 0 0), (.int .i64 since)]) (ACalls.put2 [2, 3] (Wc_2 most g n l al ga) (AV.tup [(.sl .any 2 (List.map Key.row (sinceK al since))), (.bool (okS al since))]) (Wc_2 most g n l al ga) (since_spec _ ga since oa) (⟨rfl, ⟨Ob.ren0 (Key.rows_bdd 0 _), trivial⟩⟩) (⟨rfl, ⟨Ob.ren0 (Key.rows_bdd 0 _), trivial⟩⟩)) ⟨AV.wk_refl_any _, AV.wk_refl_any _, trivial⟩ : ACalls Try.prog 50 [(.obj 2 0 0 0), (.int .i64 since)] (Wc_2 most g n l al ga) ((AV.tup [(.sl .any 2 (List.map Key.row (sinceK al since))), (.bool (okS al since))]), (Wc_2 most g n l al ga))) (.g (.r (.h' (Wc_2 most g n l al ga) (.y 1 (AV.bool (!(okS al since))) (AV.bool true) (Yes.bool (by rw [hok]; rfl)) (.g (.yes (.r (.t 2 (AV.agg (mRow (AV.int .i64 ((al.length : Nat) : Int)) (AV.bool true) (AV.int .u32 (ofB (List.map Entry.card l))) (AV.sl .any 9 (List.map Card.row (seenK (List.map Entry.card l)))))) (Wc_2 most g n l al ga) (ffull_at most l g n _ ga oa oa oa ([⟨0, 13, [zRow], none⟩] : Heap) : ACalls Try.prog 42 [(.obj 0 0 0 0), (.obj 2 0 0 0)] (Wc_2 most g n l al ga) ((AV.agg (mRow (AV.int .i64 ((al.length : Nat) : Int)) (AV.bool true) (AV.int .u32 (ofB (List.map Entry.card l))) (AV.sl .any 9 (List.map Card.row (seenK (List.map Entry.card l)))))), (Wc_2 most g n l al ga))) (.g (.h' (Wc_1 most g n l al ga) (.f 4 (AV.agg (mRow (AV.int .i64 ((al.length : Nat) : Int)) (AV.bool true) (AV.int .u32 (ofB (List.map Entry.card l))) (AV.sl .any 9 (List.map Card.row (seenK (List.map Entry.card l)))))) (.e (AV.agg (mRow (AV.int .i64 ((al.length : Nat) : Int)) (AV.bool true) (AV.int .u32 (ofB (List.map Entry.card l))) (AV.sl .any 9 (List.map Card.row (seenK (List.map Entry.card l)))))))))))))))))))))))))))
def dCards (l : List Entry) (al : List Key) (since : Int) : List Card := if okS al since = true then (sinceK al since).map (atC l) else seenK (List.map Entry.card l)
theorem delta_spec (most : Int) (l : List Entry) (g n : Nat) (al : List Key) (ga : Nat) (since : Int) (hn : n = l.length) (hl : l.length < 21) (ha : al.length < 1000000) : ACalls Try.prog 47 [(.obj 0 0 0 0), (.obj 2 0 0 0), (.int .i64 since)] ([⟨0, 2, [[(.int .i64 most), (.osl 1 g 10 0 n)]], none⟩, ⟨g, 10, (List.map Entry.row l), none⟩, ⟨0, 2, [[(.int .i64 (((List.length al) : Nat) : Int)), (.osl 3 ga 2 0 (List.length (recL al)))]], none⟩, ⟨ga, 2, (List.map Key.row (recL al)), none⟩] : Heap) ((AV.agg (mRow (AV.int .i64 ((al.length : Nat) : Int)) (AV.bool (!(okS al since))) (AV.int .u32 (ofB (List.map Entry.card l))) (AV.sl .any 9 (List.map Card.row (dCards l al since))))), ([⟨0, 2, [[(.int .i64 most), (.osl 1 g 10 0 n)]], none⟩, ⟨g, 10, (List.map Entry.row l), none⟩, ⟨0, 2, [[(.int .i64 (((List.length al) : Nat) : Int)), (.osl 3 ga 2 0 (List.length (recL al)))]], none⟩, ⟨ga, 2, (List.map Key.row (recL al)), none⟩] : Heap)) := by
  cases h : okS al since with
  | true => have h1 := deltaS_spec most l g n al ga since hn hl ha h; unfold dCards; rw [if_pos h]; exact h1
  | false => have h1 := deltaN_spec most l g n al ga since hn hl ha h; unfold dCards; rw [if_neg (by rw [h]; simp)]; exact h1
end Go.Proofs.Ytcmfnfkahdconaa.AM
