/- Texts put together: ShelfS, MapN3, MapN4, MapN5, Face0, Loop, Free, Free2, Free3, Meet, Meet2, Box, Box2, Kx, Fn1, Fn2, Fn3, Fn4, VmTell, VmEpoch, Wn1, Wn2, We1, We2, Wn3, Wn4. What is proved stands at the head of each part. -/
import Derived.Test.YtkkgimhbliocoaaGreatBnLawFindEmpty13
import Derived.Shelf.Sort.Plain
/- Sorting numbers in place: the library's contract at this program (its table of numbers and its one application were written by the kit's own commands lay-shelf and lay-plain). -/
namespace Go.Proofs
open Go.Shelf
def Tryz.lays189_ren : Go.Shelf.Ren := ⟨fun | 189 => 108 | 125 => 153 | 257 => 164 | 128 => 192 | 129 => 193 | 294 => 204 | 295 => 205 | 296 => 206 | 297 => 207 | 298 => 208 | 299 => 209 | 216 => 210 | 300 => 211 | 301 => 212 | 328 => 232 | 329 => 224 | 330 => 225 | 331 => 233 | 332 => 234 | 215 => 154 | 343 => 243 | n => n, fun | 28 => 37 | 3 => 3 | 46 => 182 | 0 => 0 | 51 => 214 | 53 => 216 | 4 => 4 | 183 => 208 | 182 => 207 | 131 => 48 | 5 => 5 | 9 => 9 | 218 => 230 | 222 => 234 | 228 => 244 | 229 => 245 | n => n, fun | n => n⟩
theorem Tryz.lays189 : Go.Proofs.Lays.n189 Tryz.prog Tryz.lays189_ren := {
  mixed := by kernel_rfl
  f125 := Tryz.func153.trans (congrArg some (by kernel_rfl))
  f128 := Tryz.func192.trans (congrArg some (by kernel_rfl))
  f129 := Tryz.func193.trans (congrArg some (by kernel_rfl))
  f189 := Tryz.func108.trans (congrArg some (by kernel_rfl))
  f215 := Tryz.func154.trans (congrArg some (by kernel_rfl))
  f216 := Tryz.func210.trans (congrArg some (by kernel_rfl))
  f257 := Tryz.func164.trans (congrArg some (by kernel_rfl))
  f294 := Tryz.func204.trans (congrArg some (by kernel_rfl))
  f295 := Tryz.func205.trans (congrArg some (by kernel_rfl))
  f296 := Tryz.func206.trans (congrArg some (by kernel_rfl))
  f297 := Tryz.func207.trans (congrArg some (by kernel_rfl))
  f298 := Tryz.func208.trans (congrArg some (by kernel_rfl))
  f299 := Tryz.func209.trans (congrArg some (by kernel_rfl))
  f300 := Tryz.func211.trans (congrArg some (by kernel_rfl))
  f301 := Tryz.func212.trans (congrArg some (by kernel_rfl))
  f328 := Tryz.func232.trans (congrArg some (by kernel_rfl))
  f329 := Tryz.func224.trans (congrArg some (by kernel_rfl))
  f330 := Tryz.func225.trans (congrArg some (by kernel_rfl))
  f331 := Tryz.func233.trans (congrArg some (by kernel_rfl))
  f332 := Tryz.func234.trans (congrArg some (by kernel_rfl))
  f343 := Tryz.func243.trans (congrArg some (by kernel_rfl))
  t0 := Tryz.underlying0
  a0 := Tryz.isAgg0
  z0 := Tryz.sizeOf0
  v0 := Tryz.zeroValue0
  t3 := Tryz.underlying3
  a3 := Tryz.isAgg3
  z3 := Tryz.sizeOf3
  v3 := Tryz.zeroValue3
  t4 := Tryz.underlying4
  a4 := Tryz.isAgg4
  z4 := Tryz.sizeOf4
  v4 := Tryz.zeroValue4
  t5 := Tryz.underlying5
  a5 := Tryz.isAgg5
  z5 := Tryz.sizeOf5
  v5 := Tryz.zeroValue5
  t9 := Tryz.underlying9
  a9 := Tryz.isAgg9
  z9 := Tryz.sizeOf9
  v9 := Tryz.zeroValue9
  t28 := Tryz.underlying37
  a28 := Tryz.isAgg37
  z28 := Tryz.sizeOf37
  v28 := Tryz.zeroValue37
  t46 := Tryz.underlying182
  a46 := Tryz.isAgg182
  z46 := Tryz.sizeOf182
  v46 := Tryz.zeroValue182
  t51 := Tryz.underlying214
  a51 := Tryz.isAgg214
  z51 := Tryz.sizeOf214
  v51 := Tryz.zeroValue214
  t53 := Tryz.underlying216
  a53 := Tryz.isAgg216
  z53 := Tryz.sizeOf216
  v53 := Tryz.zeroValue216
  t131 := Tryz.underlying48
  a131 := Tryz.isAgg48
  z131 := Tryz.sizeOf48
  v131 := Tryz.zeroValue48
  t182 := Tryz.underlying207
  a182 := Tryz.isAgg207
  z182 := Tryz.sizeOf207
  v182 := Tryz.zeroValue207
  t183 := Tryz.underlying208
  a183 := Tryz.isAgg208
  z183 := Tryz.sizeOf208
  v183 := Tryz.zeroValue208
  t218 := Tryz.underlying230
  a218 := Tryz.isAgg230
  z218 := Tryz.sizeOf230
  v218 := Tryz.zeroValue230
  t222 := Tryz.underlying234
  a222 := Tryz.isAgg234
  z222 := Tryz.sizeOf234
  v222 := Tryz.zeroValue234
  t228 := Tryz.underlying244
  a228 := Tryz.isAgg244
  z228 := Tryz.sizeOf244
  v228 := Tryz.zeroValue244
  t229 := Tryz.underlying245
  a229 := Tryz.isAgg245
  z229 := Tryz.sizeOf245
  v229 := Tryz.zeroValue245 }
open Go.Sort Go.RowKit in
theorem Tryz.slices_Sort_int (blk off cap : Nat) (zs : List Int) (w : World) (hH : Holds (Value.int .i64) w blk off zs.toArray) (hblk : blk < w.heap.size) (hsz : zs.length < 4611686018427387904) :
    Calls Tryz.prog 108 #[.slice (some ⟨blk, off, none⟩) zs.length cap] w fun e w' =>
      e = .returned (.tuple #[]) ∧ ∃ n os, w' = grow (putRow (Value.int .i64) (Sort.ahead w n) blk off (zs.mergeSort fun x y => decide (x ≤ y)).toArray) os := Any.slices_Sort_int Tryz.lays189 blk off cap zs w hH hblk hsz
end Go.Proofs
/- face.MapOf of a plan without edges: sorting given. -/
namespace Go.Proofs.YtkkgimhbliocoaaGreat
open Go Vm M
set_option linter.unusedVariables false
set_option linter.unusedSimpArgs false
def unInts : List AVal → Option (List Int) := mapO fun x => match x with
  | .v (.int .i64 z) => some z
  | _ => none
theorem unInts_int : ∀ zs : List Int, unInts (intA zs) = some zs
  | [] => rfl
  | z :: zs => by
    have ih := unInts_int zs
    unfold unInts intA at ih ⊢
    simp only [List.map_cons, mapO, ih]
theorem unInts_some : ∀ {xs : List AVal} {zs : List Int}, unInts xs = some zs → xs = intA zs
  | [], zs, h => by simp only [unInts, mapO, Option.some.injEq] at h; subst h; rfl
  | x :: xs, zs, h => by
    unfold unInts at h
    simp only [mapO] at h
    split at h
    · rename_i y ys h1 h2
      simp only [Option.some.injEq] at h
      subst h
      rw [unInts_some (xs := xs) (zs := ys) h2]
      split at h1
      · simp only [Option.some.injEq] at h1
        subst h1
        rfl
      · cases h1
    · cases h
def srtI (zs : List Int) : List Int := zs.mergeSort fun x y => decide (x ≤ y)
/-- Sorting in place, told. -/
noncomputable def gSort (lo : Nat) (args : List AVal) (S : List AObj) : Option (AVal × List AObj) :=
  match args with
  | [.row o e 1 0 n] => match S[o]? with
    | some (.row 1 e' none xs) => match unInts xs with
      | some zs => if e' = e ∧ lo ≤ o ∧ 0 < n ∧ zs.length = n ∧ n < 4611686018427387904 then some (.tup [], S.set o (.row 1 e none (intA (srtI zs)))) else none
      | none => none
    | _ => none
  | _ => none
theorem gSort_ok {lo : Nat} {args : List AVal} {S : List AObj} {r : AVal} {S' : List AObj} (h : gSort lo args S = some (r, S')) : CallsA Tryz.prog 108 args S r S' ∧ Stays lo S S' := by
  unfold gSort at h
  split at h
  · rename_i o e n
    split at h
    · rename_i e' xs hx
      split at h
      · rename_i zs hz
        split at h
        · rename_i hc
          obtain ⟨rfl, hlo, hn, rfl, hb⟩ := hc
          have hxs := unInts_some hz
          subst hxs
          simp only [Option.some.injEq, Prod.mk.injEq] at h
          obtain ⟨rfl, rfl⟩ := h
          refine ⟨sort_ok (fun zs => by simp [srtI]) (fun blk off cap zs w hH hblk hsz => Tryz.slices_Sort_int blk off cap zs w hH hblk hsz) hn hb hx, by simp, fun q hq _ => by rw [List.getElem?_set, if_neg (by omega)]⟩
        · cases h
      · cases h
    · cases h
  · cases h
def md3 (f : FuncId) : Nat := bif clipF f then 7 else md2 f
noncomputable def giS (f : FuncId) : Option (Nat → List AVal → List AObj → Option (AVal × List AObj)) := bif Nat.beq f 108 then some gSort else none
def giV (f : FuncId) : Option (List AVal → Option AVal) := bif clipF f then some gClip else none
noncomputable def cfgS (mode : FuncId → Nat) (L : Lib Tryz.prog) : Cfg := { cfgOf lives mode L with givenS := giS, givenV := giV }
set_option maxRecDepth 100000 in
theorem cfgS_ok (mode : FuncId → Nat) (L : Lib Tryz.prog) : CfgOk (cfgS mode L) where
  mixed := mixed_prog
  tab := fun f a h => tabOf_ok named_prog h rfl
  givenP := L.ok
  givenV := fun f g h => by
    have h' : giV f = some g := h
    unfold giV at h'
    cases hb : clipF f with
    | true =>
      rw [hb] at h'
      simp only [cond_true, Option.some.injEq] at h'
      subst h'
      exact clipF_spec hb
    | false => rw [hb] at h'; cases h'
  givenS := fun f g h => by
    have h' : giS f = some g := h
    unfold giS at h'
    cases hb : Nat.beq f 108 with
    | true =>
      rw [hb] at h'
      simp only [cond_true, Option.some.injEq] at h'
      have hf : f = 108 := Nat.eq_of_beq_eq_true hb
      subst h' hf
      exact ⟨Vm.enters_of named_prog Tryz.func108 (by kernel_rfl), fun lo args S r S' h => gSort_ok h⟩
    | false => rw [hb] at h'; cases h'
noncomputable def cS : Cfg := cfgS md3 KN
theorem cS_ok : CfgOk cS := cfgS_ok md3 KN
noncomputable def evS : Ev := evalF cS 60
theorem evS_ok : EvOk cS evS := evalF_ok cS_ok 60
noncomputable def mpB : Code := Tryz.f57.body.getD .skip
end Go.Proofs.YtkkgimhbliocoaaGreat
/- face.MapOf of a plan without edges: its one region. -/
namespace Go.Proofs.YtkkgimhbliocoaaGreat
open Go Vm M
set_option linter.unusedVariables false
set_option linter.unusedSimpArgs false
def mrT (i : Int) : List AVal := jk 4 ++ [.ptr 3 0 0] ++ jk 189 ++ [iA 1, iA i] ++ jk 39
def mrG (ns : List Nd) (k : Nat) (zs : List Int) : AExit × List AVal × List AObj :=
  (AExit.normal, ((jk 4 ++ [AVal.ptr 3 0 0] ++ jk 189 ++ [iA (Int.ofNat 1), iA (Int.ofNat 1)] ++ jk 39), ([AObj.free, AObj.row 3 0 none [AVal.v (Value.slice none 0 0), AVal.v (Value.slice none 0 0), AVal.row 32 0 1 0 k], AObj.mapo false [] [], AObj.box [AVal.row 1 0 3 0 1, AVal.mp 2, AVal.v (Value.slice none 0 0), AVal.fmap [] []]] ++ List.replicate 28 AObj.free ++ [AObj.row 1 0 none (intA (srtI zs))] ++ List.replicate 18 AObj.free)))
theorem mrG_eq (ns : List Nd) (k : Nat) (zs : List Int) (e0 : callA cS evS 0 108 [AVal.row 32 0 1 0 k] [AObj.free, AObj.row 3 0 none [AVal.v (Value.slice none 0 0), AVal.v (Value.slice none 0 0), AVal.row 32 0 1 0 k], AObj.mapo false [] [], AObj.box [AVal.row 1 0 3 0 1, AVal.mp 2, AVal.v (Value.slice none 0 0), AVal.fmap [] []], AObj.free, AObj.free, AObj.free, AObj.free, AObj.free, AObj.free, AObj.free, AObj.free, AObj.free, AObj.free, AObj.free, AObj.free, AObj.free, AObj.free, AObj.free, AObj.free, AObj.free, AObj.free, AObj.free, AObj.free, AObj.free, AObj.free, AObj.free, AObj.free, AObj.free, AObj.free, AObj.free, AObj.free, AObj.row 1 0 none (intA zs)] = some (AVal.tup [], [AObj.free, AObj.row 3 0 none [AVal.v (Value.slice none 0 0), AVal.v (Value.slice none 0 0), AVal.row 32 0 1 0 k], AObj.mapo false [] [], AObj.box [AVal.row 1 0 3 0 1, AVal.mp 2, AVal.v (Value.slice none 0 0), AVal.fmap [] []], AObj.free, AObj.free, AObj.free, AObj.free, AObj.free, AObj.free, AObj.free, AObj.free, AObj.free, AObj.free, AObj.free, AObj.free, AObj.free, AObj.free, AObj.free, AObj.free, AObj.free, AObj.free, AObj.free, AObj.free, AObj.free, AObj.free, AObj.free, AObj.free, AObj.free, AObj.free, AObj.free, AObj.free, AObj.row 1 0 none (intA (srtI zs))])) : evalC (cS) (evS) (mpLv) 0 0 60 (loopAt Tryz.f57 3) (mrT 0) (mnS ns k (intA zs)) = some (mrG ns k zs) := by
  have key := fun (bs : List Bool) (r : AExit × List AVal × List AObj) (ob : List Prop) (h : pathP (cS) (evS) (mpLv) 0 0 60 [(38, 4, Hint.call (AVal.tup []) (mnS ns k (intA (srtI zs))))] (loopAt Tryz.f57 3) (mrT 0) (mnS ns k (intA zs)) bs [] = .ok (r.1, r.2.1, r.2.2, ob)) (hp : allOb ob) => pathP_ok h hp
  unfold mrG
  exact key [true] ((AExit.normal, ((jk 4 ++ [AVal.ptr 3 0 0] ++ jk 189 ++ [iA (Int.ofNat 1), iA (Int.ofNat 1)] ++ jk 39), ([AObj.free, AObj.row 3 0 none [AVal.v (Value.slice none 0 0), AVal.v (Value.slice none 0 0), AVal.row 32 0 1 0 k], AObj.mapo false [] [], AObj.box [AVal.row 1 0 3 0 1, AVal.mp 2, AVal.v (Value.slice none 0 0), AVal.fmap [] []]] ++ List.replicate 28 AObj.free ++ [AObj.row 1 0 none (intA (srtI zs))] ++ List.replicate 18 AObj.free)))) _ (by kernel_rfl) (allOb_cons (by exact e0) (allOb_cons lit_t allOb_nil))
def mrH (ns : List Nd) (k : Nat) (zs : List Int) : AExit × List AVal × List AObj :=
  (AExit.exit 6, ((jk 4 ++ [AVal.ptr 3 0 0] ++ jk 189 ++ [iA (Int.ofNat 1), iA (Int.ofNat 1), bA false] ++ jk 38), ([AObj.free, AObj.row 3 0 none [AVal.v (Value.slice none 0 0), AVal.v (Value.slice none 0 0), AVal.row 32 0 1 0 k], AObj.mapo false [] [], AObj.box [AVal.row 1 0 3 0 1, AVal.mp 2, AVal.v (Value.slice none 0 0), AVal.fmap [] []]] ++ List.replicate 28 AObj.free ++ [AObj.row 1 0 none (intA zs)])))
theorem mrH_eq (ns : List Nd) (k : Nat) (zs : List Int) : evalC (cS) (evS) (mpLv) 0 0 60 (loopAt Tryz.f57 3) (mrT 1) (mnS ns k (intA zs)) = some (mrH ns k zs) := by
  have key := fun (bs : List Bool) (r : AExit × List AVal × List AObj) (ob : List Prop) (h : pathP (cS) (evS) (mpLv) 0 0 60 [] (loopAt Tryz.f57 3) (mrT 1) (mnS ns k (intA zs)) bs [] = .ok (r.1, r.2.1, r.2.2, ob)) (hp : allOb ob) => pathP_ok h hp
  unfold mrH
  exact key [false] ((AExit.exit 6, ((jk 4 ++ [AVal.ptr 3 0 0] ++ jk 189 ++ [iA (Int.ofNat 1), iA (Int.ofNat 1), bA false] ++ jk 38), ([AObj.free, AObj.row 3 0 none [AVal.v (Value.slice none 0 0), AVal.v (Value.slice none 0 0), AVal.row 32 0 1 0 k], AObj.mapo false [] [], AObj.box [AVal.row 1 0 3 0 1, AVal.mp 2, AVal.v (Value.slice none 0 0), AVal.fmap [] []]] ++ List.replicate 28 AObj.free ++ [AObj.row 1 0 none (intA zs)])))) _ (by kernel_rfl) (allOb_cons lit_f allOb_nil)
def mrG0 (ns : List Nd) : AExit × List AVal × List AObj :=
  (AExit.normal, ((jk 4 ++ [AVal.ptr 3 0 0] ++ jk 189 ++ [iA (Int.ofNat 1), iA (Int.ofNat 1)] ++ jk 39), ([AObj.free, AObj.row 3 0 none [AVal.v (Value.slice none 0 0), AVal.v (Value.slice none 0 0), AVal.v (Value.slice none 0 0)], AObj.mapo false [] [], AObj.box [AVal.row 1 0 3 0 1, AVal.mp 2, AVal.v (Value.slice none 0 0), AVal.fmap [] []]] ++ List.replicate 18 AObj.free)))
theorem mrG0_eq (ns : List Nd) : evalC (cN) (evN) (mpLv) 0 0 60 (loopAt Tryz.f57 3) (mrT 0) (mnS0 ns) = some (mrG0 ns) := by
  have key := fun (bs : List Bool) (r : AExit × List AVal × List AObj) (ob : List Prop) (h : pathP (cN) (evN) (mpLv) 0 0 60 [] (loopAt Tryz.f57 3) (mrT 0) (mnS0 ns) bs [] = .ok (r.1, r.2.1, r.2.2, ob)) (hp : allOb ob) => pathP_ok h hp
  unfold mrG0
  exact key [true] ((AExit.normal, ((jk 4 ++ [AVal.ptr 3 0 0] ++ jk 189 ++ [iA (Int.ofNat 1), iA (Int.ofNat 1)] ++ jk 39), ([AObj.free, AObj.row 3 0 none [AVal.v (Value.slice none 0 0), AVal.v (Value.slice none 0 0), AVal.v (Value.slice none 0 0)], AObj.mapo false [] [], AObj.box [AVal.row 1 0 3 0 1, AVal.mp 2, AVal.v (Value.slice none 0 0), AVal.fmap [] []]] ++ List.replicate 18 AObj.free)))) _ (by kernel_rfl) (allOb_cons lit_t allOb_nil)
def mrH0 (ns : List Nd) : AExit × List AVal × List AObj :=
  (AExit.exit 6, ((jk 4 ++ [AVal.ptr 3 0 0] ++ jk 189 ++ [iA (Int.ofNat 1), iA (Int.ofNat 1), bA false] ++ jk 38), ([AObj.free, AObj.row 3 0 none [AVal.v (Value.slice none 0 0), AVal.v (Value.slice none 0 0), AVal.v (Value.slice none 0 0)], AObj.mapo false [] [], AObj.box [AVal.row 1 0 3 0 1, AVal.mp 2, AVal.v (Value.slice none 0 0), AVal.fmap [] []]])))
theorem mrH0_eq (ns : List Nd) : evalC (cN) (evN) (mpLv) 0 0 60 (loopAt Tryz.f57 3) (mrT 1) (mnS0 ns) = some (mrH0 ns) := by
  have key := fun (bs : List Bool) (r : AExit × List AVal × List AObj) (ob : List Prop) (h : pathP (cN) (evN) (mpLv) 0 0 60 [] (loopAt Tryz.f57 3) (mrT 1) (mnS0 ns) bs [] = .ok (r.1, r.2.1, r.2.2, ob)) (hp : allOb ob) => pathP_ok h hp
  unfold mrH0
  exact key [false] ((AExit.exit 6, ((jk 4 ++ [AVal.ptr 3 0 0] ++ jk 189 ++ [iA (Int.ofNat 1), iA (Int.ofNat 1), bA false] ++ jk 38), ([AObj.free, AObj.row 3 0 none [AVal.v (Value.slice none 0 0), AVal.v (Value.slice none 0 0), AVal.v (Value.slice none 0 0)], AObj.mapo false [] [], AObj.box [AVal.row 1 0 3 0 1, AVal.mp 2, AVal.v (Value.slice none 0 0), AVal.fmap [] []]])))) _ (by kernel_rfl) (allOb_cons lit_f allOb_nil)
end Go.Proofs.YtkkgimhbliocoaaGreat
/- face.MapOf of a plan without edges, told whole. -/
namespace Go.Proofs.YtkkgimhbliocoaaGreat
open Go Vm M
set_option linter.unusedVariables false
set_option linter.unusedSectionVars false
set_option linter.unusedSimpArgs false
theorem EV.cast {c c' : Cfg} {base : Nat} {code : Code} {T T' : List AVal} {S S' : List AObj} {x : AExit} (h : c.P = c'.P) (k : EV c base code T S x T' S') : EV c' base code T S x T' S' := by
  intro ro C0 C a d0 hro hb hS hE hT hd hCS
  rw [← h]
  exact k ro C0 C a d0 hro hb hS hE hT hd hCS
theorem intA_plain (zs : List Int) : (intA zs).all plainV = true := by
  unfold intA
  rw [List.all_eq_true]
  intro x hx
  simp only [List.mem_map] at hx
  obtain ⟨n, _, rfl⟩ := hx
  rfl
theorem gSort_mn (ns : List Nd) {k : Nat} {zs : List Int} (hk : zs.length = k) (h : 0 < k) (hb : k ≤ 1000) : gSort 0 [.row 32 0 1 0 k] (mnS ns k (intA zs)) = some (.tup [], mnS ns k (intA (srtI zs))) := by
  have e : (mnS ns k (intA zs))[32]? = some (.row 1 0 none (intA zs)) := rfl
  unfold gSort
  simp only [e, unInts_int]
  rw [if_pos ⟨trivial, by omega, h, hk, by omega⟩]
  rfl
noncomputable abbrev mrB : Code := loopAt Tryz.f57 3
theorem mr_round (ns : List Nd) {k : Nat} {zs : List Int} (hk : zs.length = k) (h : 0 < k) (hb : k ≤ 1000) : EV cS 0 mrB (mrT 0) (mnS ns k (intA zs)) .normal (mrT 1) (mnS ns k (intA (srtI zs))) := by
  refine EV.tidy [32] (EV.of cS_ok evS_ok (mrG_eq ns k zs (gSort_mn ns hk h hb))) (fun q hq y hy => ?_) ?_
  · simp only [List.mem_singleton] at hq
    subst hq
    have : y = .row 1 0 none (intA (srtI zs)) := by
      have h2 := Option.some.inj hy
      exact h2.symm
    subst this
    exact intA_plain _
  · kernel_rfl
def mrE : List AVal := jk 4 ++ [.ptr 3 0 0] ++ jk 189 ++ [iA 1, iA 1, bA false] ++ jk 38
theorem mr_loop (ns : List Nd) {k : Nat} {zs : List Int} (hk : zs.length = k) (h : 0 < k) (hb : k ≤ 1000) : EV cS 0 (.loop mrB) (mrT 0) (mnS ns k (intA zs)) (.exit 6) mrE (mnS ns k (intA (srtI zs))) := by
  refine EV.loop (c := cS) (base := 0) (body := mrB) (n := 1) (T := fun i => mrT i) (S := fun i => bif Nat.beq i 0 then mnS ns k (intA zs) else mnS ns k (intA (srtI zs))) (x := .exit 6) (fun i hi => ?_) ?_ (by simp)
  · obtain rfl : i = 0 := by omega
    exact mr_round ns hk h hb
  · exact EV.of cS_ok evS_ok (mrH_eq ns k (srtI zs))
theorem mr_loop0 (ns : List Nd) : EV cN 0 (.loop mrB) (mrT 0) (mnS0 ns) (.exit 6) mrE (mnS0 ns) := by
  refine EV.loop (c := cN) (base := 0) (body := mrB) (n := 1) (T := fun i => mrT i) (S := fun i => mnS0 ns) (x := .exit 6) (fun i hi => ?_) ?_ (by simp)
  · obtain rfl : i = 0 := by omega
    refine EV.tidy [] (EV.of cN_ok evN_ok (mrG0_eq ns)) (fun q hq y hy => by simp at hq) ?_
    kernel_rfl
  · exact EV.of cN_ok evN_ok (mrH0_eq ns)
/-! ## the pieces -/
noncomputable def mp26 : Code := c1 (c1 (tailC 7 mpB))
noncomputable def mp34 : Code := c1 (c1 (c2 (tailC 7 mpB)))
noncomputable def mp41 : Code := c2 (c2 (tailC 7 mpB))
theorem mp_tail : tailC 7 mpB = .seq (.seq mp26 (.block 4 (.loop mnB))) (.seq (.seq mp34 (.block 6 (.loop mrB))) mp41) := by kernel_rfl
noncomputable def mpA : FnA := (cS.tab 57).getD ⟨0, #[], .skip, []⟩
theorem mpA_tab : cS.tab 57 = some mpA := by kernel_rfl
theorem mpA_body : mpA.body = mpB := by kernel_rfl
section
variable (ns : List Nd)
noncomputable def mp7 : List AVal × List AObj := (evalL cN evN mpLv 0 0 60 (headL 7 mpB) (upL [plN ns.length (flatN ns)] ++ List.replicate (mpA.ntmps - (upL [plN ns.length (flatN ns)]).length) (.v undef)) []).getD ([], [])
theorem mp7_eq : evalL cN evN mpLv 0 0 60 (headL 7 mpB) (upL [plN ns.length (flatN ns)] ++ List.replicate (mpA.ntmps - (upL [plN ns.length (flatN ns)]).length) (.v undef)) [] = some ((mp7 ns).1, (mp7 ns).2) := by kernel_rfl
noncomputable def mp8 : AExit × List AVal × List AObj := (evalC cN evN mpLv 0 0 60 mp26 (mp7 ns).1 (mp7 ns).2).getD (.normal, [], [])
theorem mp8_eq : evalC cN evN mpLv 0 0 60 mp26 (mp7 ns).1 (mp7 ns).2 = some (.normal, (mp8 ns).2.1, (mp8 ns).2.2) := by kernel_rfl
theorem mp8_ev : EV cN 0 mp26 (mp7 ns).1 (mp7 ns).2 .normal (mnT ns (0 : Nat)) (mnS0 ns) := EV.tidy [] (EV.of cN_ok evN_ok (mp8_eq ns)) (fun q hq y hy => by simp at hq) (by kernel_rfl)
theorem mp34_ev (xs : List AVal) (hx : xs.all plainV = true) : EV cN 0 mp34 (mnE ns ns.length) (mnS ns ns.length xs) .normal (mrT 0) (mnS ns ns.length xs) := by
  refine EV.tidy [32] (EV.of cN_ok evN_ok (T' := ((evalC cN evN mpLv 0 0 60 mp34 (mnE ns ns.length) (mnS ns ns.length xs)).getD (.normal, [], [])).2.1) (S' := mnS ns ns.length xs) (lv := mpLv) (lo := 0) (n := 60) (by kernel_rfl)) (fun q hq y hy => ?_) ?_
  · simp only [List.mem_singleton] at hq
    subst hq
    have : y = .row 1 0 none xs := (Option.some.inj hy).symm
    subst this
    exact hx
  · kernel_rfl
theorem mp34_ev0 : EV cN 0 mp34 (mnE ns ns.length) (mnS0 ns) .normal (mrT 0) (mnS0 ns) :=
  EV.tidy [] (EV.of cN_ok evN_ok (T' := ((evalC cN evN mpLv 0 0 60 mp34 (mnE ns ns.length) (mnS0 ns)).getD (.normal, [], [])).2.1) (S' := mnS0 ns) (lv := mpLv) (lo := 0) (n := 60) (by kernel_rfl)) (fun q hq y hy => by simp at hq) (by kernel_rfl)
noncomputable def mp9 (k : Nat) (xs : List AVal) : AExit × List AVal × List AObj := (evalC cS evS mpLv 0 0 60 mp41 mrE (mnS ns k xs)).getD (.normal, [], [])
theorem mp9_eq (k : Nat) (xs : List AVal) : evalC cS evS mpLv 0 0 60 mp41 mrE (mnS ns k xs) = some (.ret, (mp9 ns k xs).2.1, mnS ns k xs) := by kernel_rfl
noncomputable def mp90 : AExit × List AVal × List AObj := (evalC cS evS mpLv 0 0 60 mp41 mrE (mnS0 ns)).getD (.normal, [], [])
theorem mp90_eq : evalC cS evS mpLv 0 0 60 mp41 mrE (mnS0 ns) = some (.ret, (mp90 ns).2.1, mnS0 ns) := by kernel_rfl
def idsI (ns : List Nd) : List Int := ns.map fun n => n.1
theorem idsI_eq : intA (idsI ns) = idsA ns ns.length := by
  unfold intA idsI idsA
  rw [List.take_length, List.map_map]
  rfl
theorem mp_callsA (h : 0 < ns.length) (hl : ns.length ≤ 1000) : CallsA Tryz.prog 57 (upL [plN ns.length (flatN ns)]) [] (.ptr 3 0 0) (mnS ns ns.length (intA (srtI (idsI ns)))) := by
  refine callsA_of_EV cS_ok mpA_tab (x := .ret) (.inr rfl) (T' := (mp9 ns ns.length (intA (srtI (idsI ns)))).2.1) (by kernel_rfl) ?_
  rw [mpA_body]
  refine EV.cast (c := cN) rfl (EV.head cN_ok evN_ok 7 (mp7_eq ns) ?_)
  rw [mp_tail]
  refine EV.seq (EV.seq (mp8_ev ns) (EV.block (mn_loop ns hl))) (EV.cast (c := cS) rfl (EV.seq (EV.seq ?_ (EV.block (mr_loop ns (zs := idsI ns) (k := ns.length) (by simp [idsI]) h hl))) (EV.of cS_ok evS_ok (mp9_eq ns _ _))))
  have hb : Nat.beq ns.length 0 = false := by
    cases hb : Nat.beq ns.length 0 with
    | true => have := Nat.eq_of_beq_eq_true hb; omega
    | false => rfl
  rw [hb, cond_false, idsI_eq]
  exact EV.cast (c := cN) rfl (mp34_ev ns _ (idsA_plain ns _))
theorem mp_callsA0 (h : ns.length = 0) : CallsA Tryz.prog 57 (upL [plN ns.length (flatN ns)]) [] (.ptr 3 0 0) (mnS0 ns) := by
  refine callsA_of_EV cS_ok mpA_tab (x := .ret) (.inr rfl) (T' := (mp90 ns).2.1) (by kernel_rfl) ?_
  rw [mpA_body]
  refine EV.cast (c := cN) rfl (EV.head cN_ok evN_ok 7 (mp7_eq ns) ?_)
  rw [mp_tail]
  refine EV.seq (EV.seq (mp8_ev ns) (EV.block (mn_loop ns (by omega)))) (EV.seq (EV.seq ?_ (EV.block (mr_loop0 ns))) (EV.cast (c := cS) rfl (EV.of cS_ok evS_ok (mp90_eq ns))))
  have hb : Nat.beq ns.length 0 = true := by rw [h]; rfl
  rw [hb, cond_true]
  exact mp34_ev0 ns
/-! ## what comes back, as a value -/
theorem mark_ints (lo n : Nat) (S : List AObj) : ∀ zs : List Int, (intA zs).foldl (Vm.mark lo n) S = S
  | [] => rfl
  | z :: zs => by
    cases n with
    | zero => simp only [intA, List.map_cons, List.foldl_cons, Vm.mark]; exact mark_ints lo 0 S zs
    | succ n => simp only [intA, List.map_cons, List.foldl_cons, Vm.mark]; exact mark_ints lo (n + 1) S zs
theorem mark_int {S : List AObj} {o e ep off len n : Nat} {fz : Option Nat} {zs : List Int} (h : S[o]? = some (.row 1 e fz (intA zs))) : Vm.mark 0 (n + 1) S (.row o ep 1 off len) = S.set o (.row 1 e (some (intA zs).length) (intA zs)) := by
  simp only [Vm.mark, h]
  rw [if_pos (Nat.zero_le _), mark_ints]
theorem peek_ints (S : List AObj) (n : Nat) : ∀ zs : List Int, mapO (peek S (n + 1)) (intA zs) = some (intP zs)
  | [] => rfl
  | z :: zs => by
    have ih := peek_ints S n zs
    unfold intA intP at ih ⊢
    simp only [List.map_cons, mapO, peek, ih]
theorem peek_int {S : List AObj} {o n e : Nat} {zs : List Int} (h : S[o]? = some (.row 1 e (some (intA zs).length) (intA zs))) : peek S (n + 2) (.row o e 1 0 zs.length) = some (slI zs) := by
  simp only [peek, h]
  rw [if_pos ⟨trivial, trivial, by rw [intA_length]; omega⟩]
  have e : cutA (intA zs) 1 0 (0 + zs.length) = intA zs := by
    unfold cutA
    rw [Nat.zero_mul, List.drop_zero, List.take_of_length_le (by rw [intA_length]; omega)]
  rw [e, peek_ints]
  rfl
def mnM (ns : List Nd) (k : Nat) (zs : List Int) : List AObj := [.free, .row 3 0 (some 3) [nilA, nilA, .row 32 0 1 0 k], .mapo true [] [], .row 1 0 (some 4) [.row 1 0 3 0 1, .mp 2, nilA, .fmap [] []]] ++ List.replicate 28 .free ++ [.row 1 0 (some (intA zs).length) (intA zs)]
def mnQ (ns : List Nd) (k : Nat) (zs : List Int) : List AObj := [.free, .row 3 0 (some 3) [nilA, nilA, .row 32 0 1 0 k], .mapo false [] [], .row 1 0 (some 4) [.row 1 0 3 0 1, .mp 2, nilA, .fmap [] []]] ++ List.replicate 28 .free ++ [.row 1 0 none (intA zs)]
theorem mn_mark1 (k : Nat) (zs : List Int) : Vm.mark 0 deep (mnS ns k (intA zs)) (.ptr 3 0 0) = Vm.mark 0 5 (Vm.mark 0 5 (Vm.mark 0 5 (Vm.mark 0 4 (mnQ ns k zs) (.row 32 0 1 0 k)) (.mp 2)) nilA) (.fmap [] []) := by kernel_rfl
theorem mn_mark (k : Nat) (zs : List Int) : Vm.mark 0 deep (mnS ns k (intA zs)) (.ptr 3 0 0) = mnM ns k zs := by
  rw [mn_mark1, mark_int (S := mnQ ns k zs) (o := 32) (e := 0) (fz := none) (zs := zs) (n := 3) rfl]
  kernel_rfl
def mapV (x : PVal) : PVal := .ptr [.list 1 [nilP, nilP, x], .map [] [], nilP, .map [] []]
theorem mn_peek {k : Nat} {zs : List Int} (hk : zs.length = k) : peek (mnM ns k zs) deep (.ptr 3 0 0) = some (mapV (slI zs)) := by
  subst hk
  have p : peek (mnM ns zs.length zs) 4 (.row 32 0 1 0 zs.length) = some (slI zs) := peek_int (n := 2) rfl
  have q : peek (mnM ns zs.length zs) 5 (.row 1 0 3 0 1) = some (.list 1 [nilP, nilP, slI zs]) := by
    have e : mapO (peek (mnM ns zs.length zs) 4) [nilA, nilA, .row 32 0 1 0 zs.length] = some [nilP, nilP, slI zs] := by
      simp only [mapO, p, show peek (mnM ns zs.length zs) 4 nilA = some nilP from rfl]
    show (if 3 = 3 ∧ 0 = 0 ∧ (0 + 1) * 3 ≤ 3 then (mapO (peek (mnM ns zs.length zs) 4) [nilA, nilA, .row 32 0 1 0 zs.length]).map (PVal.list 1) else none) = _
    rw [if_pos (by decide), e]
    rfl
  have e : mapO (peek (mnM ns zs.length zs) 5) [.row 1 0 3 0 1, .mp 2, nilA, .fmap [] []] = some [.list 1 [nilP, nilP, slI zs], .map [] [], nilP, .map [] []] := by
    simp only [mapO, q, show peek (mnM ns zs.length zs) 5 nilA = some nilP from rfl, show peek (mnM ns zs.length zs) 5 (.mp 2) = some (.map [] []) from rfl, show peek (mnM ns zs.length zs) 5 (.fmap [] []) = some (.map [] []) from rfl]
  show (if 0 = 0 ∧ 4 ≤ 4 then (mapO (peek (mnM ns zs.length zs) 5) [.row 1 0 3 0 1, .mp 2, nilA, .fmap [] []]).map PVal.ptr else none) = _
  rw [if_pos (by decide), e]
  rfl
/-- The map of a plan without edges. -/
noncomputable def mapN (ns : List Nd) : PVal := mapV (bif Nat.beq ns.length 0 then nilP else slI (srtI (idsI ns)))
theorem mapN_calls (hl : ns.length ≤ 1000) : CallsP Tryz.prog 57 [plN ns.length (flatN ns)] (mapN ns) := by
  unfold mapN
  cases hb : Nat.beq ns.length 0 with
  | true => exact callsP_of_A (mp_callsA0 ns (Nat.eq_of_beq_eq_true hb)) (by kernel_rfl)
  | false =>
    have h : 0 < ns.length := by
      rcases Nat.eq_zero_or_pos ns.length with h0 | h0
      · rw [h0] at hb; cases hb
      · exact h0
    refine callsP_of_A (mp_callsA ns h hl) ?_
    rw [mn_mark]
    exact mn_peek ns (by simp [srtI, idsI])
end
end Go.Proofs.YtkkgimhbliocoaaGreat
/- The face of a point in a plan without edges. -/
namespace Go.Proofs.YtkkgimhbliocoaaGreat
open Go Vm M
set_option linter.unusedVariables false
set_option linter.unusedSimpArgs false
def unN : List PVal → Option (List Nd)
  | [] => some []
  | .v (.int .i64 a) :: .v (.int .i64 b) :: .v (.int .i64 c) :: .v (.int .i64 d) :: r => match unN r with
    | some ns => some ((a, (b, c), d) :: ns)
    | none => none
  | _ => none
theorem unN_flat : ∀ ns : List Nd, unN (flatN ns) = some ns
  | [] => rfl
  | n :: ns => by simp only [flatN, unN, unN_flat ns]
theorem unN_some : ∀ {xs : List PVal} {ns : List Nd}, unN xs = some ns → xs = flatN ns := by
  intro xs
  induction xs using unN.induct with
  | case1 => intro ns h; simp only [unN, Option.some.injEq] at h; subst h; rfl
  | case2 a b c d r ns hr ih =>
    intro ms h
    simp only [unN, hr, Option.some.injEq] at h
    subst h
    rw [ih hr]
    rfl
  | case3 a b c d r hr ih => intro ms h; simp only [unN, hr] at h; cases h
  | case4 xs h1 h2 => intro ms h; rw [unN] at h; cases h; exact h1; exact h2
/-- What takes a plan without edges, of its nodes. -/
def withNs (args : List PVal) (F : List Nd → List PVal → Option PVal) : Option PVal :=
  match args with
  | .agg [.list n xs, .v (.slice none 0 0)] :: r => match unN xs with
    | some ns => if n = ns.length then F ns r else none
    | none => none
  | _ => none
theorem withNs_ok (F : List Nd → List PVal → Option PVal) (ns : List Nd) (r : List PVal) : withNs (plN ns.length (flatN ns) :: r) F = F ns r := by
  unfold withNs plN nilP
  simp only [unN_flat, if_true]
theorem withNs_spec {P : Program} {f : FuncId} {F : List Nd → List PVal → Option PVal} (h : ∀ ns r v, F ns r = some v → CallsP P f (plN ns.length (flatN ns) :: r) v) : ∀ args v, withNs args F = some v → CallsP P f args v := by
  intro args v hv
  unfold withNs at hv
  split at hv
  · rename_i n xs r
    split at hv
    · rename_i ns hn
      split at hv
      · rename_i hl
        subst hl
        have := unN_some hn
        subst this
        exact h ns r v hv
      · cases hv
    · cases hv
  · cases hv
noncomputable def gMapOf (args : List PVal) : Option PVal := withNs args fun ns r => match r with
  | [] => if ns.length ≤ 1000 then some (mapN ns) else none
  | _ => none
theorem gMapOf_spec : ∀ args v, gMapOf args = some v → CallsP Tryz.prog 57 args v := withNs_spec fun ns r v h => by
  split at h
  · split at h
    · rename_i hl
      simp only [Option.some.injEq] at h
      subst h
      exact mapN_calls ns hl
    · cases h
  · cases h
noncomputable def KM : Lib Tryz.prog := KN.add 57 gMapOf (Vm.enters_of named_prog Tryz.func57 (by kernel_rfl)) gMapOf_spec
noncomputable abbrev cfM (L : Lib Tryz.prog) : Cfg := cfgS md3 L
theorem cfM_ok (L : Lib Tryz.prog) : CfgOk (cfM L) := cfgS_ok md3 L
def faAt (ns : List Nd) (x : PVal) (q : P2) : PVal :=
  iP (Int.ofNat 0)
theorem faAt_calls (ns : List Nd) (x : PVal) (q : P2) (e0 : pureCall (cfM KM) (evalF (cfM KM) 60) 57 [PVal.agg [PVal.list (List.length ns) (flatN ns), PVal.v (Value.slice none 0 0)]] = some (PVal.ptr [PVal.list 1 [PVal.v (Value.slice none 0 0), PVal.v (Value.slice none 0 0), x], PVal.map [] [], PVal.v (Value.slice none 0 0), PVal.map [] []])) : CallsP Tryz.prog 69 [plN (List.length ns) (flatN ns), ptP q] (faAt ns x q) := by
  have key := fun (bs : List Bool) (r : PVal) (ob : List Prop) (h : callP (cfM KM) (evalF (cfM KM) 60) 60 [(1, 1, Hint.pcall (mapV x))] 69 [plN (List.length ns) (flatN ns), ptP q] bs [] (none) = .ok (r, ob)) (hp : allOb ob) => callP_ok (cfM_ok KM) h hp
  unfold faAt
  exact key [] (iP (Int.ofNat 0)) _ (by kernel_rfl) (allOb_cons (by exact e0) allOb_nil)
end Go.Proofs.YtkkgimhbliocoaaGreat
/- The first of some numbers (seat B: without what leans on loops of seat A's kind); loops that look for something. -/
namespace Go.Proofs.YtkkgimhbliocoaaGreat
open Go Vm M
set_option linter.unusedVariables false
set_option linter.unusedSimpArgs false
/-- The first number from k on, of d, at which c is. -/
def firstAt (c : Nat → Bool) : Nat → Nat → Option Nat
  | 0, _ => none
  | d + 1, k => bif c k then some k else firstAt c d (k + 1)
theorem firstAt_some {c : Nat → Bool} : ∀ {d k j : Nat}, firstAt c d k = some j → k ≤ j ∧ j < k + d ∧ c j = true ∧ ∀ i, k ≤ i → i < j → c i = false
  | 0, k, j, h => by simp [firstAt] at h
  | d + 1, k, j, h => by
    unfold firstAt at h
    cases hc : c k with
    | true =>
      rw [hc] at h
      simp only [cond_true, Option.some.injEq] at h
      subst h
      exact ⟨Nat.le_refl _, by omega, hc, fun i h1 h2 => by omega⟩
    | false =>
      rw [hc] at h
      simp only [cond_false] at h
      obtain ⟨h1, h2, h3, h4⟩ := firstAt_some h
      refine ⟨by omega, by omega, h3, fun i h5 h6 => ?_⟩
      by_cases hi : i = k
      · rw [hi]; exact hc
      · exact h4 i (by omega) h6
theorem firstAt_none {c : Nat → Bool} : ∀ {d k : Nat}, firstAt c d k = none → ∀ i, k ≤ i → i < k + d → c i = false
  | 0, k, h => fun i h1 h2 => by omega
  | d + 1, k, h => by
    unfold firstAt at h
    cases hc : c k with
    | true => rw [hc] at h; cases h
    | false =>
      rw [hc] at h
      simp only [cond_false] at h
      intro i h1 h2
      by_cases hi : i = k
      · rw [hi]; exact hc
      · exact firstAt_none h i (by omega) (by omega)
theorem firstAt_congr {c c' : Nat → Bool} : ∀ {d k : Nat}, (∀ i, k ≤ i → i < k + d → c i = c' i) → firstAt c d k = firstAt c' d k
  | 0, k, h => rfl
  | d + 1, k, h => by
    unfold firstAt
    rw [h k (by omega) (by omega), firstAt_congr (d := d) (k := k + 1) fun i h1 h2 => h i (by omega) (by omega)]
theorem firstAt_eq_some {c : Nat → Bool} {d k j : Nat} (h1 : k ≤ j) (h2 : j < k + d) (h3 : c j = true) (h4 : ∀ i, k ≤ i → i < j → c i = false) : firstAt c d k = some j := by
  cases h : firstAt c d k with
  | none => rw [firstAt_none h j h1 h2] at h3; cases h3
  | some i =>
    obtain ⟨g1, g2, g3, g4⟩ := firstAt_some h
    by_cases hlt : i < j
    · rw [h4 i g1 hlt] at g3; cases g3
    · by_cases hgt : j < i
      · rw [g4 j h1 hgt] at h3; cases h3
      · rw [show i = j by omega]
theorem firstAt_eq_none {c : Nat → Bool} {d k : Nat} (h : ∀ i, k ≤ i → i < k + d → c i = false) : firstAt c d k = none := by
  cases hf : firstAt c d k with
  | none => rfl
  | some j =>
    obtain ⟨g1, g2, g3, _⟩ := firstAt_some hf
    rw [h j g1 g2] at g3; cases g3
/-- A loop that looks for something: found. -/
theorem EV.found {cf : Cfg} {base : Nat} {body : Code} {T : Nat → List AVal} {S : Nat → List AObj} {n j : Nat} {c : Nat → Bool} {x : AExit} {T' : List AVal} {S' : List AObj} (h : firstAt c n 0 = some j) (hs : ∀ k, k < n → c k = false → EV cf base body (T k) (S k) .normal (T (k + 1)) (S (k + 1)))
    (he : j < n → c j = true → EV cf base body (T j) (S j) x T' S') (hx : x ≠ .normal) : EV cf base (.loop body) (T 0) (S 0) x T' S' := by
  obtain ⟨h1, h2, h3, h4⟩ := firstAt_some h
  exact EV.loop (n := j) (fun k hk => hs k (by omega) (h4 k (by omega) hk)) (he (by omega) h3) hx
/-- Not found. -/
theorem EV.missed {cf : Cfg} {base : Nat} {body : Code} {T : Nat → List AVal} {S : Nat → List AObj} {n : Nat} {c : Nat → Bool} {x : AExit} {T' : List AVal} {S' : List AObj} (h : firstAt c n 0 = none) (hs : ∀ k, k < n → c k = false → EV cf base body (T k) (S k) .normal (T (k + 1)) (S (k + 1)))
    (he : EV cf base body (T n) (S n) x T' S') (hx : x ≠ .normal) : EV cf base (.loop body) (T 0) (S 0) x T' S' :=
  EV.loop (n := n) (fun k hk => hs k hk (firstAt_none h k (by omega) (by omega))) he hx
theorem wrS {k : Nat} (h : k < 9000000000000000000) : IntKind.i64.wrap ((k : Int) + 1) = ((k + 1 : Nat) : Int) := by
  rw [IntWalk.i64_in _ (by omega)]
  omega
end Go.Proofs.YtkkgimhbliocoaaGreat
/- Whether a node has a point: the search for it. -/
namespace Go.Proofs.YtkkgimhbliocoaaGreat
open Go Vm M
set_option linter.unusedVariables false
set_option linter.unusedSimpArgs false
theorem pure_given {c : Cfg} {ev : Ev} {F : FuncId} {ps : List PVal} {r : PVal} {g : List PVal → Option PVal} (hg : c.givenP F = some g) (h : g ps = some r) : pureCall c ev F ps = some r := by
  unfold pureCall
  simp only [hg, h]
noncomputable def ixLv : List Nat := (lives.lookup 165).getD []
def ptE (p : P2) : PVal := .ptr [.v (.int .i64 p.1), .v (.int .i64 p.2)]
def frP (p : P2) : PVal := .fn 114 [.ptr [.v (.int .i64 p.1), .v (.int .i64 p.2)]]
def frF (p : P2) : AVal := .fn 114 [.eptr [.v (.int .i64 p.1), .v (.int .i64 p.2)]]
def nxT (ns : List Nd) (p : P2) (i : Int) : List AVal := [nsA ns, frF p] ++ jk 5 ++ [iA ns.length, iA i] ++ jk 10
def fr1 (n : Nd) (p : P2) : PVal :=
  bP (eqB (Prod.fst (Prod.snd n)) p)
theorem fr1_calls (n : Nd) (p : P2) : CallsP Tryz.prog 114 [ndP n, ptE p] (fr1 n p) := by
  have key := fun (bs : List Bool) (r : PVal) (ob : List Prop) (h : callP (cfM KM) (evalF (cfM KM) 60) 60 [] 114 [ndP n, ptE p] bs [] (none) = .ok (r, ob)) (hp : allOb ob) => callP_ok (cfM_ok KM) h hp
  unfold fr1
  exact key [] (bP (eqB (Prod.fst (Prod.snd n)) p)) _ (by kernel_rfl) allOb_nil
def gFr1 : List PVal → Option PVal
  | [.agg [.v (.int .i64 a), .v (.int .i64 b), .v (.int .i64 c), .v (.int .i64 d)], .ptr [.v (.int .i64 x), .v (.int .i64 y)]] => some (bP (eqB (b, c) (x, y)))
  | _ => none
theorem gFr1_spec : ∀ args v, gFr1 args = some v → CallsP Tryz.prog 114 args v := by
  intro args v h
  unfold gFr1 at h
  split at h
  · rename_i a b c d x y
    simp only [Option.some.injEq] at h
    subst h
    exact fr1_calls (a, (b, c), d) (x, y)
  · cases h
noncomputable def KF : Lib Tryz.prog := KM.add 114 gFr1 (Vm.enters_of named_prog Tryz.func114 (by kernel_rfl)) gFr1_spec
def nxK (ns : List Nd) (p : P2) (i : Int) (q : Nd) (j : Bool) : AExit × List AVal × List AObj :=
  (bif decide (i < (↑(List.length ns) : Int)) then (bif j then (AExit.ret, ((jk 4 ++ [iA i] ++ jk 14), [])) else (AExit.normal, (([AVal.list (List.length ns) (flatN ns), AVal.fn 114 [AVal.eptr [iP (Prod.fst p), iP (Prod.snd p)]]] ++ jk 5 ++ [iA (Int.ofNat (List.length ns)), iA (IntKind.i64.wrap (i + 1))] ++ jk 10), []))) else (AExit.exit 0, (([AVal.list (List.length ns) (flatN ns), AVal.fn 114 [AVal.eptr [iP (Prod.fst p), iP (Prod.snd p)]]] ++ jk 5 ++ [iA (Int.ofNat (List.length ns)), iA i, bA false] ++ jk 9), [])))
theorem nxK_eq (ns : List Nd) (p : P2) (i : Int) (q : Nd) (j : Bool) (b0 : (decide (i < (↑(List.length ns) : Int))) = true → (0 : Int) ≤ i ∧ (i : Int) < (↑(List.length ns) : Int)) (e0 : (decide (i < (↑(List.length ns) : Int))) = true → partA (Cfg.P (cfM KF)) 30 (upL (List.drop (Int.toNat i * 4) (flatN ns))) 0 = some (ndA q)) (e1 : (decide (i < (↑(List.length ns) : Int))) = true → pureCall (cfM KF) (evalF (cfM KF) 60) 114 [PVal.agg [iP (Prod.fst q), iP (Prod.fst (Prod.fst (Prod.snd q))), iP (Prod.snd (Prod.fst (Prod.snd q))), iP (Prod.snd (Prod.snd q))], PVal.ptr [iP (Prod.fst p), iP (Prod.snd p)]] = some (bP j)) : evalC (cfM KF) (evalF (cfM KF) 60) (ixLv) 0 0 60 (loopAt Tryz.f165 0) (nxT ns p i) ([]) = some (nxK ns p i q j) := by
  have key := fun (bs : List Bool) (r : AExit × List AVal × List AObj) (ob : List Prop) (h : pathP (cfM KF) (evalF (cfM KF) 60) (ixLv) 0 0 60 [(4, 3, Hint.idx), (4, 4, Hint.load (ndA q)), (4, 5, Hint.pcall (bP j))] (loopAt Tryz.f165 0) (nxT ns p i) ([]) bs [] = .ok (r.1, r.2.1, r.2.2, ob)) (hp : allOb ob) => pathP_ok h hp
  unfold nxK
  exact bif_case (P := fun r => evalC (cfM KF) (evalF (cfM KF) 60) (ixLv) 0 0 60 (loopAt Tryz.f165 0) (nxT ns p i) ([]) = some r)
    (fun h0 => bif_case (P := fun r => evalC (cfM KF) (evalF (cfM KF) 60) (ixLv) 0 0 60 (loopAt Tryz.f165 0) (nxT ns p i) ([]) = some r)
     (fun h1 => key [true, true] ((AExit.ret, ((jk 4 ++ [iA i] ++ jk 14), []))) _ (by kernel_rfl) (allOb_cons h1 (allOb_cons (by exact (e1 h0)) (allOb_cons (by exact (e0 h0)) (allOb_cons (idx_okN (b0 h0)) (allOb_cons h0 allOb_nil))))))
     (fun h1 => key [true, false] ((AExit.normal, (([AVal.list (List.length ns) (flatN ns), AVal.fn 114 [AVal.eptr [iP (Prod.fst p), iP (Prod.snd p)]]] ++ jk 5 ++ [iA (Int.ofNat (List.length ns)), iA (IntKind.i64.wrap (i + 1))] ++ jk 10), []))) _ (by kernel_rfl) (allOb_cons h1 (allOb_cons (by exact (e1 h0)) (allOb_cons (by exact (e0 h0)) (allOb_cons (idx_okN (b0 h0)) (allOb_cons h0 allOb_nil)))))))
    (fun h0 => key [false] ((AExit.exit 0, (([AVal.list (List.length ns) (flatN ns), AVal.fn 114 [AVal.eptr [iP (Prod.fst p), iP (Prod.snd p)]]] ++ jk 5 ++ [iA (Int.ofNat (List.length ns)), iA i, bA false] ++ jk 9), []))) _ (by kernel_rfl) (allOb_cons h0 allOb_nil))
end Go.Proofs.YtkkgimhbliocoaaGreat
/- Whether a node has a point; face.Free of a plan without edges. -/
namespace Go.Proofs.YtkkgimhbliocoaaGreat
open Go Vm M
set_option linter.unusedVariables false
set_option linter.unusedSectionVars false
set_option linter.unusedSimpArgs false
def atP (ns : List Nd) (p : P2) (k : Nat) : Bool := eqB (nAt ns k).2.1 p
def ixN (ns : List Nd) (p : P2) : Int := match firstAt (atP ns p) ns.length 0 with
  | some j => (j : Int)
  | none => -1
def hasN (ns : List Nd) (p : P2) : Bool := (firstAt (atP ns p) ns.length 0).isSome
theorem hasN_ix (ns : List Nd) (p : P2) : decide (ixN ns p ≥ 0) = hasN ns p := by
  unfold ixN hasN
  split
  · rename_i j h; rw [h]; simp
  · rename_i h; rw [h]; rfl
noncomputable def ixB : Code := Tryz.f165.body.getD .skip
noncomputable abbrev ixK : Code := loopAt Tryz.f165 0
noncomputable def ix1 : Code := c1 (c1 (tailC 1 ixB))
noncomputable def ix2 : Code := c2 (tailC 1 ixB)
theorem ix_tail : tailC 1 ixB = .seq (.seq ix1 (.block 0 (.loop ixK))) ix2 := by kernel_rfl
noncomputable def ixA : FnA := ((cfM KF).tab 165).getD ⟨0, #[], .skip, []⟩
theorem ixA_tab : (cfM KF).tab 165 = some ixA := by kernel_rfl
theorem ixA_body : ixA.body = ixB := by kernel_rfl
theorem frG (n : Nd) (p : P2) {ev : Ev} : pureCall (cfM KF) ev 114 [ndP n, ptE p] = some (bP (eqB n.2.1 p)) := pure_given (g := gFr1) (by kernel_rfl) rfl
theorem evF_ok : EvOk (cfM KF) (evalF (cfM KF) 60) := evalF_ok (cfM_ok KF) 60
section
variable (ns : List Nd) (p : P2)
theorem nx_at (hl : ns.length ≤ 1000) {k : Nat} (h : k < ns.length) : evalC (cfM KF) (evalF (cfM KF) 60) ixLv 0 0 60 ixK (nxT ns p k) [] = some (nxK ns p k (nAt ns k) (atP ns p k)) :=
  nxK_eq ns p k (nAt ns k) (atP ns p k) (fun _ => by omega) (fun _ => partN h) (fun _ => frG (nAt ns k) p)
theorem nx_step (hl : ns.length ≤ 1000) {k : Nat} (h : k < ns.length) (hc : atP ns p k = false) : EV (cfM KF) 0 ixK (nxT ns p k) [] .normal (nxT ns p (k + 1 : Nat)) [] := by
  have e := nx_at ns p hl h
  unfold nxK at e
  rw [decide_eq_true (by omega : ((k : Int) < (ns.length : Int))), cond_true, hc, cond_false, wrS (by omega)] at e
  exact EV.of (cfM_ok KF) evF_ok e
theorem nx_hit (hl : ns.length ≤ 1000) {k : Nat} (h : k < ns.length) (hc : atP ns p k = true) : EV (cfM KF) 0 ixK (nxT ns p k) [] .ret (jk 4 ++ [iA k] ++ jk 14) [] := by
  have e := nx_at ns p hl h
  unfold nxK at e
  rw [decide_eq_true (by omega : ((k : Int) < (ns.length : Int))), cond_true, hc, cond_true] at e
  exact EV.of (cfM_ok KF) evF_ok e
def nxE : List AVal := [nsA ns, frF p] ++ jk 5 ++ [iA ns.length, iA ns.length, bA false] ++ jk 9
theorem nx_end (hl : ns.length ≤ 1000) : EV (cfM KF) 0 ixK (nxT ns p ns.length) [] (.exit 0) (nxE ns p) [] := by
  have e := nxK_eq ns p ns.length (nAt ns 0) false (fun h => by have := of_decide_eq_true h; omega) (fun h => by have := of_decide_eq_true h; omega) (fun h => by have := of_decide_eq_true h; omega)
  unfold nxK at e
  rw [decide_eq_false (by omega : ¬ ((ns.length : Int) < (ns.length : Int))), cond_false] at e
  exact EV.of (cfM_ok KF) evF_ok e
noncomputable def ix0 : List AVal × List AObj := (evalL (cfM KF) (evalF (cfM KF) 60) ixLv 0 0 60 (headL 1 ixB) (upL [nsP ns, frP p] ++ List.replicate (ixA.ntmps - (upL [nsP ns, frP p]).length) (.v undef)) []).getD ([], [])
theorem ix0_eq : evalL (cfM KF) (evalF (cfM KF) 60) ixLv 0 0 60 (headL 1 ixB) (upL [nsP ns, frP p] ++ List.replicate (ixA.ntmps - (upL [nsP ns, frP p]).length) (.v undef)) [] = some ((ix0 ns p).1, (ix0 ns p).2) := by kernel_rfl
noncomputable def ix3 : AExit × List AVal × List AObj := (evalC (cfM KF) (evalF (cfM KF) 60) ixLv 0 0 60 ix1 (ix0 ns p).1 (ix0 ns p).2).getD (.normal, [], [])
theorem ix3_eq : evalC (cfM KF) (evalF (cfM KF) 60) ixLv 0 0 60 ix1 (ix0 ns p).1 (ix0 ns p).2 = some (.normal, (ix3 ns p).2.1, (ix3 ns p).2.2) := by kernel_rfl
theorem ix3_ev : EV (cfM KF) 0 ix1 (ix0 ns p).1 (ix0 ns p).2 .normal (nxT ns p (0 : Nat)) [] := EV.tidy [] (EV.of (cfM_ok KF) evF_ok (ix3_eq ns p)) (fun q hq y hy => by simp at hq) (by kernel_rfl)
noncomputable def ix9 : AExit × List AVal × List AObj := (evalC (cfM KF) (evalF (cfM KF) 60) ixLv 0 0 60 ix2 (nxE ns p) []).getD (.normal, [], [])
theorem ix9_eq : evalC (cfM KF) (evalF (cfM KF) 60) ixLv 0 0 60 ix2 (nxE ns p) [] = some (.ret, (ix9 ns p).2.1, (ix9 ns p).2.2) := by kernel_rfl
theorem ixN_calls (hl : ns.length ≤ 1000) : CallsP Tryz.prog 165 [nsP ns, frP p] (iP (ixN ns p)) := by
  unfold ixN
  cases h : firstAt (atP ns p) ns.length 0 with
  | some j =>
    refine callsP_of_A (r0 := iA j) (S := []) (callsA_of_EV (cfM_ok KF) ixA_tab (x := .ret) (.inr rfl) (T' := jk 4 ++ [iA j] ++ jk 14) (by kernel_rfl) ?_) (by kernel_rfl)
    rw [ixA_body]
    refine EV.head (cfM_ok KF) evF_ok 1 (ix0_eq ns p) ?_
    rw [ix_tail]
    exact EV.seqX (EV.seq (ix3_ev ns p) (EV.blockR (EV.found (T := fun k => nxT ns p k) (S := fun _ => []) h (fun k hk hc => nx_step ns p hl hk hc) (fun hk hc => nx_hit ns p hl hk hc) (by simp)))) (by simp)
  | none =>
    refine callsP_of_A (r0 := iA (-1)) (S := (ix9 ns p).2.2) (callsA_of_EV (cfM_ok KF) ixA_tab (x := .ret) (.inr rfl) (T' := (ix9 ns p).2.1) (by kernel_rfl) ?_) (by kernel_rfl)
    rw [ixA_body]
    refine EV.head (cfM_ok KF) evF_ok 1 (ix0_eq ns p) ?_
    rw [ix_tail]
    exact EV.seq (EV.seq (ix3_ev ns p) (EV.block (EV.missed (T := fun k => nxT ns p k) (S := fun _ => []) h (fun k hk hc => nx_step ns p hl hk hc) (nx_end ns p hl) (by simp)))) (EV.of (cfM_ok KF) evF_ok (ix9_eq ns p))
end
/-- What is given a slice of nodes, and whether it is a point's. -/
def withFr (args : List PVal) (F : List Nd → P2 → PVal) : Option PVal :=
  match args with
  | [.list n xs, .fn f [.ptr [.v (.int .i64 x), .v (.int .i64 y)]]] => match unN xs with
    | some ns => if f = 114 ∧ n = ns.length ∧ ns.length ≤ 1000 then some (F ns (x, y)) else none
    | none => none
  | _ => none
theorem withFr_ok (F : List Nd → P2 → PVal) (ns : List Nd) (p : P2) (h : ns.length ≤ 1000) : withFr [nsP ns, frP p] F = some (F ns p) := by
  unfold withFr nsP frP
  simp only [unN_flat]
  rw [if_pos ⟨trivial, trivial, h⟩]
theorem withFr_spec {P : Program} {f : FuncId} {F : List Nd → P2 → PVal} (h : ∀ ns p, ns.length ≤ 1000 → CallsP P f [nsP ns, frP p] (F ns p)) : ∀ args v, withFr args F = some v → CallsP P f args v := by
  intro args v hv
  unfold withFr at hv
  split at hv
  · rename_i n xs F x y
    split at hv
    · rename_i ns hn
      split at hv
      · rename_i hl
        obtain ⟨rfl, rfl, hl⟩ := hl
        have := unN_some hn
        subst this
        simp only [Option.some.injEq] at hv
        subst hv
        exact h ns (x, y) hl
      · cases hv
    · cases hv
  · cases hv
end Go.Proofs.YtkkgimhbliocoaaGreat
/- face.Free of a plan without edges. -/
namespace Go.Proofs.YtkkgimhbliocoaaGreat
open Go Vm M
set_option linter.unusedVariables false
set_option linter.unusedSimpArgs false
noncomputable def KF2 : Lib Tryz.prog := KF.add 165 (fun a => withFr a fun ns p => iP (ixN ns p)) (Vm.enters_of named_prog Tryz.func165 (by kernel_rfl)) (withFr_spec fun ns p h => ixN_calls ns p h)
theorem ixG (ns : List Nd) (p : P2) (h : ns.length ≤ 1000) {ev : Ev} : pureCall (cfM KF2) ev 165 [nsP ns, frP p] = some (iP (ixN ns p)) := pure_given (g := fun a => withFr a fun ns p => iP (ixN ns p)) (by kernel_rfl) (withFr_ok _ ns p h)
def nhC (ns : List Nd) (p : P2) (i : Int) : PVal :=
  bP (decide (i ≥ 0))
theorem nhC_calls (ns : List Nd) (p : P2) (i : Int) (e0 : pureCall (cfM KF2) (evalF (cfM KF2) 60) 165 [PVal.list (List.length ns) (flatN ns), PVal.fn 114 [PVal.ptr [iP (Prod.fst p), iP (Prod.snd p)]]] = some (iP i)) : CallsP Tryz.prog 113 [nsP ns, frP p] (nhC ns p i) := by
  have key := fun (bs : List Bool) (r : PVal) (ob : List Prop) (h : callP (cfM KF2) (evalF (cfM KF2) 60) 60 [(1, 2, Hint.pcall (iP i))] 113 [nsP ns, frP p] bs [] (none) = .ok (r, ob)) (hp : allOb ob) => callP_ok (cfM_ok KF2) h hp
  unfold nhC
  exact key [] (bP (decide (i ≥ 0))) _ (by kernel_rfl) (allOb_cons (by exact e0) allOb_nil)
theorem hasN_calls (ns : List Nd) (p : P2) (h : ns.length ≤ 1000) : CallsP Tryz.prog 113 [nsP ns, frP p] (bP (hasN ns p)) := by
  have := nhC_calls ns p (ixN ns p) (ixG ns p h)
  unfold nhC at this
  rw [hasN_ix] at this
  exact this
noncomputable def KF3 : Lib Tryz.prog := KF2.add 113 (fun a => withFr a fun ns p => bP (hasN ns p)) (Vm.enters_of named_prog Tryz.func113 (by kernel_rfl)) (withFr_spec fun ns p h => hasN_calls ns p h)
theorem hasG (ns : List Nd) (p : P2) (h : ns.length ≤ 1000) {ev : Ev} : pureCall (cfM KF3) ev 113 [nsP ns, frP p] = some (bP (hasN ns p)) := pure_given (g := fun a => withFr a fun ns p => bP (hasN ns p)) (by kernel_rfl) (withFr_ok _ ns p h)
theorem nearG3 (p : P2) {ev : Ev} : pureCall (cfM KF3) ev 112 [ptP p] = some (ptP (nearP p)) := pure_given (g := g1 fun p => ptP (nearP p)) (by kernel_rfl) rfl
def freC (ns : List Nd) (p : P2) (q : P2) (h : Bool) : PVal :=
  (bif !h then bP true else bP false)
theorem freC_calls (ns : List Nd) (p : P2) (q : P2) (h : Bool) (e0 : pureCall (cfM KF3) (evalF (cfM KF3) 60) 112 [ptP p] = some (ptP q)) (e1 : pureCall (cfM KF3) (evalF (cfM KF3) 60) 113 [PVal.list (List.length ns) (flatN ns), PVal.fn 114 [PVal.ptr [iP (Prod.fst q), iP (Prod.snd q)]]] = some (bP h)) : CallsP Tryz.prog 59 [plN (List.length ns) (flatN ns), ptP p] (freC ns p q h) := by
  have key := fun (bs : List Bool) (r : PVal) (ob : List Prop) (h : callP (cfM KF3) (evalF (cfM KF3) 60) 60 [(1, 1, Hint.pcall (ptP q)), (2, 3, Hint.pcall (bP h))] 59 [plN (List.length ns) (flatN ns), ptP p] bs [] (none) = .ok (r, ob)) (hp : allOb ob) => callP_ok (cfM_ok KF3) h hp
  unfold freC
  exact bif_case (P := fun r => CallsP Tryz.prog 59 [plN (List.length ns) (flatN ns), ptP p] r)
    (fun h0 => key [true] (bP true) _ (by kernel_rfl) (allOb_cons h0 (allOb_cons (by exact e1) (allOb_cons (by exact e0) allOb_nil))))
    (fun h0 => key [false] (bP false) _ (by kernel_rfl) (allOb_cons h0 (allOb_cons (by exact e1) (allOb_cons (by exact e0) allOb_nil))))
theorem free_calls (ns : List Nd) (p : P2) (h : ns.length ≤ 1000) : CallsP Tryz.prog 59 [plN ns.length (flatN ns), ptP p] (bP (!hasN ns (nearP p))) := by
  have := freC_calls ns p (nearP p) (hasN ns (nearP p)) (nearG3 p) (hasG ns (nearP p) h)
  unfold freC at this
  cases hh : hasN ns (nearP p) with
  | true => rw [hh] at this; exact this
  | false => rw [hh] at this; exact this
/-- What takes a plan without edges and a point. -/
def withNP (args : List PVal) (F : List Nd → P2 → PVal) : Option PVal := withNs args fun ns r => match r with
  | [.agg [.v (.int .i64 x), .v (.int .i64 y)]] => if ns.length ≤ 1000 then some (F ns (x, y)) else none
  | _ => none
theorem withNP_ok (F : List Nd → P2 → PVal) (ns : List Nd) (p : P2) (h : ns.length ≤ 1000) : withNP [plN ns.length (flatN ns), ptP p] F = some (F ns p) := by
  unfold withNP
  rw [withNs_ok]
  exact if_pos h
theorem withNP_spec {P : Program} {f : FuncId} {F : List Nd → P2 → PVal} (h : ∀ ns p, ns.length ≤ 1000 → CallsP P f [plN ns.length (flatN ns), ptP p] (F ns p)) : ∀ args v, withNP args F = some v → CallsP P f args v := withNs_spec fun ns r v hv => by
  split at hv
  · rename_i x y
    split at hv
    · rename_i hl
      simp only [Option.some.injEq] at hv
      subst hv
      exact h ns (x, y) hl
    · cases hv
  · cases hv
noncomputable def KF4 : Lib Tryz.prog := KF3.add 59 (fun a => withNP a fun ns p => bP (!hasN ns (nearP p))) (Vm.enters_of named_prog Tryz.func59 (by kernel_rfl)) (withNP_spec free_calls)
theorem freeG (ns : List Nd) (p : P2) (h : ns.length ≤ 1000) {c : Cfg} (hc : c.givenP 59 = KF4.given 59) {ev : Ev} : pureCall c ev 59 [plN ns.length (flatN ns), ptP p] = some (bP (!hasN ns (nearP p))) := pure_given (g := fun a => withNP a fun ns p => bP (!hasN ns (nearP p))) (hc.trans (by kernel_rfl)) (withNP_ok _ ns p h)
theorem mapG (ns : List Nd) (h : ns.length ≤ 1000) {ev : Ev} : pureCall (cfM KM) ev 57 [plN ns.length (flatN ns)] = some (mapN ns) := pure_given (g := gMapOf) (by kernel_rfl) (by unfold gMapOf; rw [withNs_ok]; exact if_pos h)
theorem faceAt_calls (ns : List Nd) (p : P2) (h : ns.length ≤ 1000) : CallsP Tryz.prog 69 [plN ns.length (flatN ns), ptP p] (iP 0) := faAt_calls ns _ p (mapG ns h)
noncomputable def KF5 : Lib Tryz.prog := KF4.add 69 (fun a => withNP a fun ns p => iP 0) (Vm.enters_of named_prog Tryz.func69 (by kernel_rfl)) (withNP_spec faceAt_calls)
theorem faceG (ns : List Nd) (p : P2) (h : ns.length ≤ 1000) {c : Cfg} (hc : c.givenP 69 = KF5.given 69) {ev : Ev} : pureCall c ev 69 [plN ns.length (flatN ns), ptP p] = some (iP 0) := pure_given (g := fun a => withNP a fun ns p => iP 0) (hc.trans (by kernel_rfl)) (withNP_ok _ ns p h)
end Go.Proofs.YtkkgimhbliocoaaGreat
/- pt.Meet: its rounds, its calls. -/
namespace Go.Proofs.YtkkgimhbliocoaaGreat
open Go Vm M
set_option linter.unusedVariables false
set_option linter.unusedSimpArgs false
def mtT (A C : P2) (i : Int) : List AVal := jk 10 ++ [AVal.ptr 15 0 0, bA true] ++ jk 14 ++ [AVal.agg (cellsP A ++ cellsP C), iA i] ++ jk 21
def mtS (B D : P2) (R : List AObj) : List AObj := R ++ [.box (cellsP B ++ cellsP D)]
def mtU (A C B D : P2) (i k : Int) : List AVal := jk 10 ++ [AVal.ptr 15 0 0, bA true, .junk, AVal.ptr 0 0 0] ++ jk 12 ++ [AVal.agg (cellsP A ++ cellsP C), iA i, .junk, .junk, AVal.agg (cellsP B ++ cellsP D), iA k] ++ jk 17
def mtV (A C B D : P2) (i k : Int) : List AVal := jk 10 ++ [AVal.ptr 15 0 0, bA true, .junk, AVal.ptr 0 0 0] ++ jk 12 ++ [AVal.agg (cellsP A ++ cellsP C), iA i, .junk, .junk, AVal.agg (cellsP B ++ cellsP D), iA k, bA false] ++ jk 16
def mtX : List AVal := jk 11 ++ [bA false] ++ jk 37
def mtE (A C : P2) (i : Int) : List AVal := jk 10 ++ [AVal.ptr 15 0 0, bA true] ++ jk 14 ++ [AVal.agg (cellsP A ++ cellsP C), iA i, bA false] ++ jk 20
def fr15 : List AObj := List.replicate 15 .free
def fr14 (X : P2) : List AObj := .box (cellsP X) :: List.replicate 14 .free
def mi0 (L : Lib Tryz.prog) (A : P2) (C : P2) (B : P2) (D : P2) (X : P2) (i : Int) : AExit × List AVal × List AObj :=
  (bif decide (Prod.fst X > Prod.fst B) then (AExit.exit 0, ((jk 11 ++ [bA false] ++ jk 37), [])) else (bif decide (Prod.snd X > Prod.snd B) then (AExit.exit 0, ((jk 11 ++ [bA false] ++ jk 37), [])) else (AExit.normal, ((jk 10 ++ [AVal.ptr 15 0 0, bA true, AVal.junk, AVal.ptr 0 0 0] ++ jk 12 ++ [AVal.agg [iA (Prod.fst A), iA (Prod.snd A), iA (Prod.fst C), iA (Prod.snd C)], iA i, AVal.junk, AVal.junk, AVal.agg [iA (Prod.fst B), iA (Prod.snd B), iA (Prod.fst D), iA (Prod.snd D)], iA (Int.ofNat 1)] ++ jk 17), ([AObj.box [iA (Prod.fst X), iA (Prod.snd X)]] ++ List.replicate 14 AObj.free ++ [AObj.box [iA (Prod.fst B), iA (Prod.snd B), iA (Prod.fst D), iA (Prod.snd D)]])))))
theorem mi0_eq (L : Lib Tryz.prog) (A : P2) (C : P2) (B : P2) (D : P2) (X : P2) (i : Int) : roundC 0 (evalC (cfM L) (evalF (cfM L) 201) (Option.getD (List.lookup 145 lives) []) 0 0 201 (loopAt Tryz.f145 1)) (mtU A C B D i 0) (mtS B D (fr14 X)) = some (mi0 L A C B D X i) := by
  have key := fun (bs : List Bool) (r : AExit × List AVal × List AObj) (ob : List Prop) (h : roundP (cfM L) (evalF (cfM L) 201) (Option.getD (List.lookup 145 lives) []) 0 0 201 [(9999, 0, Hint.idx)] (loopAt Tryz.f145 1) (mtU A C B D i 0) (mtS B D (fr14 X)) bs [] = .ok (r.1, r.2.1, r.2.2, ob)) (hp : allOb ob) => roundP_ok h hp
  unfold mi0
  exact bif_case (P := fun r => roundC 0 (evalC (cfM L) (evalF (cfM L) 201) (Option.getD (List.lookup 145 lives) []) 0 0 201 (loopAt Tryz.f145 1)) (mtU A C B D i 0) (mtS B D (fr14 X)) = some r)
    (fun h0 => key [true, true, true] ((AExit.exit 0, ((jk 11 ++ [bA false] ++ jk 37), []))) _ (by kernel_rfl) (allOb_cons (show Plain ([AObj.box [iA (Prod.fst X), iA (Prod.snd X)], AObj.box [iA (Prod.fst B), iA (Prod.snd B)]] ++ List.replicate 13 AObj.free ++ [AObj.box [iA (Prod.fst B), iA (Prod.snd B), iA (Prod.fst D), iA (Prod.snd D)]]) from by simp only [Plain, List.all_append, List.all_cons, List.all_nil, plainO, upL_flatPP, flatP_plain, Nat.zero_mul, List.drop_zero] <;> rfl) (allOb_cons lit_t (allOb_cons h0 (allOb_cons lit_t allOb_nil)))))
    (fun h0 => bif_case (P := fun r => roundC 0 (evalC (cfM L) (evalF (cfM L) 201) (Option.getD (List.lookup 145 lives) []) 0 0 201 (loopAt Tryz.f145 1)) (mtU A C B D i 0) (mtS B D (fr14 X)) = some r)
     (fun h1 => key [true, false, true] ((AExit.exit 0, ((jk 11 ++ [bA false] ++ jk 37), []))) _ (by kernel_rfl) (allOb_cons (show Plain ([AObj.box [iA (Prod.fst X), iA (Prod.snd X)], AObj.box [iA (Prod.fst B), iA (Prod.snd B)]] ++ List.replicate 13 AObj.free ++ [AObj.box [iA (Prod.fst B), iA (Prod.snd B), iA (Prod.fst D), iA (Prod.snd D)]]) from by simp only [Plain, List.all_append, List.all_cons, List.all_nil, plainO, upL_flatPP, flatP_plain, Nat.zero_mul, List.drop_zero] <;> rfl) (allOb_cons h1 (allOb_cons h0 (allOb_cons lit_t allOb_nil)))))
     (fun h1 => key [true, false, false] ((AExit.normal, ((jk 10 ++ [AVal.ptr 15 0 0, bA true, AVal.junk, AVal.ptr 0 0 0] ++ jk 12 ++ [AVal.agg [iA (Prod.fst A), iA (Prod.snd A), iA (Prod.fst C), iA (Prod.snd C)], iA i, AVal.junk, AVal.junk, AVal.agg [iA (Prod.fst B), iA (Prod.snd B), iA (Prod.fst D), iA (Prod.snd D)], iA (Int.ofNat 1)] ++ jk 17), ([AObj.box [iA (Prod.fst X), iA (Prod.snd X)]] ++ List.replicate 14 AObj.free ++ [AObj.box [iA (Prod.fst B), iA (Prod.snd B), iA (Prod.fst D), iA (Prod.snd D)]])))) _ (by kernel_rfl) (allOb_cons (show Plain ([AObj.box [iA (Prod.fst X), iA (Prod.snd X)], AObj.box [iA (Prod.fst B), iA (Prod.snd B)]] ++ List.replicate 13 AObj.free ++ [AObj.box [iA (Prod.fst B), iA (Prod.snd B), iA (Prod.fst D), iA (Prod.snd D)]]) from by simp only [Plain, List.all_append, List.all_cons, List.all_nil, plainO, upL_flatPP, flatP_plain, Nat.zero_mul, List.drop_zero] <;> rfl) (allOb_cons h1 (allOb_cons h0 (allOb_cons lit_t allOb_nil))))))
def mi1 (L : Lib Tryz.prog) (A : P2) (C : P2) (B : P2) (D : P2) (X : P2) (i : Int) : AExit × List AVal × List AObj :=
  (bif decide (Prod.fst X > Prod.fst D) then (AExit.exit 0, ((jk 11 ++ [bA false] ++ jk 37), [])) else (bif decide (Prod.snd X > Prod.snd D) then (AExit.exit 0, ((jk 11 ++ [bA false] ++ jk 37), [])) else (AExit.normal, ((jk 10 ++ [AVal.ptr 15 0 0, bA true, AVal.junk, AVal.ptr 0 0 0] ++ jk 12 ++ [AVal.agg [iA (Prod.fst A), iA (Prod.snd A), iA (Prod.fst C), iA (Prod.snd C)], iA i, AVal.junk, AVal.junk, AVal.agg [iA (Prod.fst B), iA (Prod.snd B), iA (Prod.fst D), iA (Prod.snd D)], iA (Int.ofNat 2)] ++ jk 17), ([AObj.box [iA (Prod.fst X), iA (Prod.snd X)]] ++ List.replicate 14 AObj.free ++ [AObj.box [iA (Prod.fst B), iA (Prod.snd B), iA (Prod.fst D), iA (Prod.snd D)]])))))
theorem mi1_eq (L : Lib Tryz.prog) (A : P2) (C : P2) (B : P2) (D : P2) (X : P2) (i : Int) : roundC 0 (evalC (cfM L) (evalF (cfM L) 201) (Option.getD (List.lookup 145 lives) []) 0 0 201 (loopAt Tryz.f145 1)) (mtU A C B D i 1) (mtS B D (fr14 X)) = some (mi1 L A C B D X i) := by
  have key := fun (bs : List Bool) (r : AExit × List AVal × List AObj) (ob : List Prop) (h : roundP (cfM L) (evalF (cfM L) 201) (Option.getD (List.lookup 145 lives) []) 0 0 201 [(9999, 0, Hint.idx)] (loopAt Tryz.f145 1) (mtU A C B D i 1) (mtS B D (fr14 X)) bs [] = .ok (r.1, r.2.1, r.2.2, ob)) (hp : allOb ob) => roundP_ok h hp
  unfold mi1
  exact bif_case (P := fun r => roundC 0 (evalC (cfM L) (evalF (cfM L) 201) (Option.getD (List.lookup 145 lives) []) 0 0 201 (loopAt Tryz.f145 1)) (mtU A C B D i 1) (mtS B D (fr14 X)) = some r)
    (fun h0 => key [true, true, true] ((AExit.exit 0, ((jk 11 ++ [bA false] ++ jk 37), []))) _ (by kernel_rfl) (allOb_cons (show Plain ([AObj.box [iA (Prod.fst X), iA (Prod.snd X)], AObj.box [iA (Prod.fst D), iA (Prod.snd D)]] ++ List.replicate 13 AObj.free ++ [AObj.box [iA (Prod.fst B), iA (Prod.snd B), iA (Prod.fst D), iA (Prod.snd D)]]) from by simp only [Plain, List.all_append, List.all_cons, List.all_nil, plainO, upL_flatPP, flatP_plain, Nat.zero_mul, List.drop_zero] <;> rfl) (allOb_cons lit_t (allOb_cons h0 (allOb_cons lit_t allOb_nil)))))
    (fun h0 => bif_case (P := fun r => roundC 0 (evalC (cfM L) (evalF (cfM L) 201) (Option.getD (List.lookup 145 lives) []) 0 0 201 (loopAt Tryz.f145 1)) (mtU A C B D i 1) (mtS B D (fr14 X)) = some r)
     (fun h1 => key [true, false, true] ((AExit.exit 0, ((jk 11 ++ [bA false] ++ jk 37), []))) _ (by kernel_rfl) (allOb_cons (show Plain ([AObj.box [iA (Prod.fst X), iA (Prod.snd X)], AObj.box [iA (Prod.fst D), iA (Prod.snd D)]] ++ List.replicate 13 AObj.free ++ [AObj.box [iA (Prod.fst B), iA (Prod.snd B), iA (Prod.fst D), iA (Prod.snd D)]]) from by simp only [Plain, List.all_append, List.all_cons, List.all_nil, plainO, upL_flatPP, flatP_plain, Nat.zero_mul, List.drop_zero] <;> rfl) (allOb_cons h1 (allOb_cons h0 (allOb_cons lit_t allOb_nil)))))
     (fun h1 => key [true, false, false] ((AExit.normal, ((jk 10 ++ [AVal.ptr 15 0 0, bA true, AVal.junk, AVal.ptr 0 0 0] ++ jk 12 ++ [AVal.agg [iA (Prod.fst A), iA (Prod.snd A), iA (Prod.fst C), iA (Prod.snd C)], iA i, AVal.junk, AVal.junk, AVal.agg [iA (Prod.fst B), iA (Prod.snd B), iA (Prod.fst D), iA (Prod.snd D)], iA (Int.ofNat 2)] ++ jk 17), ([AObj.box [iA (Prod.fst X), iA (Prod.snd X)]] ++ List.replicate 14 AObj.free ++ [AObj.box [iA (Prod.fst B), iA (Prod.snd B), iA (Prod.fst D), iA (Prod.snd D)]])))) _ (by kernel_rfl) (allOb_cons (show Plain ([AObj.box [iA (Prod.fst X), iA (Prod.snd X)], AObj.box [iA (Prod.fst D), iA (Prod.snd D)]] ++ List.replicate 13 AObj.free ++ [AObj.box [iA (Prod.fst B), iA (Prod.snd B), iA (Prod.fst D), iA (Prod.snd D)]]) from by simp only [Plain, List.all_append, List.all_cons, List.all_nil, plainO, upL_flatPP, flatP_plain, Nat.zero_mul, List.drop_zero] <;> rfl) (allOb_cons h1 (allOb_cons h0 (allOb_cons lit_t allOb_nil))))))
def mi2 (L : Lib Tryz.prog) (A : P2) (C : P2) (B : P2) (D : P2) (X : P2) (i : Int) : AExit × List AVal × List AObj :=
  (AExit.exit 2, ((jk 10 ++ [AVal.ptr 15 0 0, bA true, AVal.junk, AVal.ptr 0 0 0] ++ jk 12 ++ [AVal.agg [iA (Prod.fst A), iA (Prod.snd A), iA (Prod.fst C), iA (Prod.snd C)], iA i, AVal.junk, AVal.junk, AVal.agg [iA (Prod.fst B), iA (Prod.snd B), iA (Prod.fst D), iA (Prod.snd D)], iA (Int.ofNat 2), bA false] ++ jk 16), ([AObj.box [iA (Prod.fst X), iA (Prod.snd X)]] ++ List.replicate 14 AObj.free ++ [AObj.box [iA (Prod.fst B), iA (Prod.snd B), iA (Prod.fst D), iA (Prod.snd D)]])))
theorem mi2_eq (L : Lib Tryz.prog) (A : P2) (C : P2) (B : P2) (D : P2) (X : P2) (i : Int) : roundC 0 (evalC (cfM L) (evalF (cfM L) 201) (Option.getD (List.lookup 145 lives) []) 0 0 201 (loopAt Tryz.f145 1)) (mtU A C B D i 2) (mtS B D (fr14 X)) = some (mi2 L A C B D X i) := by
  have key := fun (bs : List Bool) (r : AExit × List AVal × List AObj) (ob : List Prop) (h : roundP (cfM L) (evalF (cfM L) 201) (Option.getD (List.lookup 145 lives) []) 0 0 201 [(9999, 0, Hint.idx)] (loopAt Tryz.f145 1) (mtU A C B D i 2) (mtS B D (fr14 X)) bs [] = .ok (r.1, r.2.1, r.2.2, ob)) (hp : allOb ob) => roundP_ok h hp
  unfold mi2
  exact key [false] ((AExit.exit 2, ((jk 10 ++ [AVal.ptr 15 0 0, bA true, AVal.junk, AVal.ptr 0 0 0] ++ jk 12 ++ [AVal.agg [iA (Prod.fst A), iA (Prod.snd A), iA (Prod.fst C), iA (Prod.snd C)], iA i, AVal.junk, AVal.junk, AVal.agg [iA (Prod.fst B), iA (Prod.snd B), iA (Prod.fst D), iA (Prod.snd D)], iA (Int.ofNat 2), bA false] ++ jk 16), ([AObj.box [iA (Prod.fst X), iA (Prod.snd X)]] ++ List.replicate 14 AObj.free ++ [AObj.box [iA (Prod.fst B), iA (Prod.snd B), iA (Prod.fst D), iA (Prod.snd D)]])))) _ (by kernel_rfl) (allOb_cons (show Plain ([AObj.box [iA (Prod.fst X), iA (Prod.snd X)]] ++ List.replicate 14 AObj.free ++ [AObj.box [iA (Prod.fst B), iA (Prod.snd B), iA (Prod.fst D), iA (Prod.snd D)]]) from by simp only [Plain, List.all_append, List.all_cons, List.all_nil, plainO, upL_flatPP, flatP_plain, Nat.zero_mul, List.drop_zero] <;> rfl) (allOb_cons lit_f allOb_nil))
def mo0 (L : Lib Tryz.prog) (A : P2) (C : P2) (B : P2) (D : P2) : AExit × List AVal × List AObj :=
  (AExit.normal, ((jk 10 ++ [AVal.ptr 15 0 0, bA true] ++ jk 14 ++ [AVal.agg [iA (Prod.fst A), iA (Prod.snd A), iA (Prod.fst C), iA (Prod.snd C)], iA (Int.ofNat 1)] ++ jk 21), (List.replicate 15 AObj.free ++ [AObj.box [iA (Prod.fst B), iA (Prod.snd B), iA (Prod.fst D), iA (Prod.snd D)]])))
theorem mo0_eq (L : Lib Tryz.prog) (A : P2) (C : P2) (B : P2) (D : P2) (e0 : iterC 0 (evalC (cfM L) (evalF (cfM L) 201) ((lives.lookup 145).getD []) 0 0 201 (loopAt Tryz.f145 1)) 201 (jk 10 ++ [AVal.ptr 15 0 0, bA true, AVal.junk, AVal.ptr 0 0 0] ++ jk 12 ++ [AVal.agg [iA (Prod.fst A), iA (Prod.snd A), iA (Prod.fst C), iA (Prod.snd C)], iA (Int.ofNat 0), AVal.junk, AVal.junk, AVal.agg [iA (Prod.fst B), iA (Prod.snd B), iA (Prod.fst D), iA (Prod.snd D)], iA (Int.ofNat 0)] ++ jk 17) ([AObj.box [iA (Prod.fst A), iA (Prod.snd A)]] ++ List.replicate 14 AObj.free ++ [AObj.box [iA (Prod.fst B), iA (Prod.snd B), iA (Prod.fst D), iA (Prod.snd D)]]) = some (AExit.exit 2, ((jk 10 ++ [AVal.ptr 15 0 0, bA true, AVal.junk, AVal.ptr 0 0 0] ++ jk 12 ++ [AVal.agg [iA (Prod.fst A), iA (Prod.snd A), iA (Prod.fst C), iA (Prod.snd C)], iA (Int.ofNat 0), AVal.junk, AVal.junk, AVal.agg [iA (Prod.fst B), iA (Prod.snd B), iA (Prod.fst D), iA (Prod.snd D)], iA (Int.ofNat 2), bA false] ++ jk 16), ([AObj.box [iA (Prod.fst A), iA (Prod.snd A)]] ++ List.replicate 14 AObj.free ++ [AObj.box [iA (Prod.fst B), iA (Prod.snd B), iA (Prod.fst D), iA (Prod.snd D)]])))) : roundC 0 (evalC (cfM L) (evalF (cfM L) 201) (Option.getD (List.lookup 145 lives) []) 0 0 201 (loopAt Tryz.f145 0)) (mtT A C 0) (mtS B D fr15) = some (mo0 L A C B D) := by
  have key := fun (bs : List Bool) (r : AExit × List AVal × List AObj) (ob : List Prop) (h : roundP (cfM L) (evalF (cfM L) 201) (Option.getD (List.lookup 145 lives) []) 0 0 201 [(9999, 0, Hint.idx)] (loopAt Tryz.f145 0) (mtT A C 0) (mtS B D fr15) bs [(AExit.exit 2, mtV A C B D 0 2, mtS B D (fr14 A))] = .ok (r.1, r.2.1, r.2.2, ob)) (hp : allOb ob) => roundP_ok h hp
  unfold mo0
  exact key [true] ((AExit.normal, ((jk 10 ++ [AVal.ptr 15 0 0, bA true] ++ jk 14 ++ [AVal.agg [iA (Prod.fst A), iA (Prod.snd A), iA (Prod.fst C), iA (Prod.snd C)], iA (Int.ofNat 1)] ++ jk 21), (List.replicate 15 AObj.free ++ [AObj.box [iA (Prod.fst B), iA (Prod.snd B), iA (Prod.fst D), iA (Prod.snd D)]])))) _ (by kernel_rfl) (allOb_cons (show Plain ([AObj.box [iA (Prod.fst A), iA (Prod.snd A)]] ++ List.replicate 14 AObj.free ++ [AObj.box [iA (Prod.fst B), iA (Prod.snd B), iA (Prod.fst D), iA (Prod.snd D)]]) from by simp only [Plain, List.all_append, List.all_cons, List.all_nil, plainO, upL_flatPP, flatP_plain, Nat.zero_mul, List.drop_zero] <;> rfl) (allOb_cons (by exact e0) (allOb_cons lit_t allOb_nil)))
def mo0x (L : Lib Tryz.prog) (A : P2) (C : P2) (B : P2) (D : P2) : AExit × List AVal × List AObj :=
  (AExit.exit 0, ((jk 11 ++ [bA false] ++ jk 37), []))
theorem mo0x_eq (L : Lib Tryz.prog) (A : P2) (C : P2) (B : P2) (D : P2) (e0 : iterC 0 (evalC (cfM L) (evalF (cfM L) 201) ((lives.lookup 145).getD []) 0 0 201 (loopAt Tryz.f145 1)) 201 (jk 10 ++ [AVal.ptr 15 0 0, bA true, AVal.junk, AVal.ptr 0 0 0] ++ jk 12 ++ [AVal.agg [iA (Prod.fst A), iA (Prod.snd A), iA (Prod.fst C), iA (Prod.snd C)], iA (Int.ofNat 0), AVal.junk, AVal.junk, AVal.agg [iA (Prod.fst B), iA (Prod.snd B), iA (Prod.fst D), iA (Prod.snd D)], iA (Int.ofNat 0)] ++ jk 17) ([AObj.box [iA (Prod.fst A), iA (Prod.snd A)]] ++ List.replicate 14 AObj.free ++ [AObj.box [iA (Prod.fst B), iA (Prod.snd B), iA (Prod.fst D), iA (Prod.snd D)]]) = some (AExit.exit 0, ((jk 11 ++ [bA false] ++ jk 37), []))) : roundC 0 (evalC (cfM L) (evalF (cfM L) 201) (Option.getD (List.lookup 145 lives) []) 0 0 201 (loopAt Tryz.f145 0)) (mtT A C 0) (mtS B D fr15) = some (mo0x L A C B D) := by
  have key := fun (bs : List Bool) (r : AExit × List AVal × List AObj) (ob : List Prop) (h : roundP (cfM L) (evalF (cfM L) 201) (Option.getD (List.lookup 145 lives) []) 0 0 201 [(9999, 0, Hint.idx)] (loopAt Tryz.f145 0) (mtT A C 0) (mtS B D fr15) bs [(AExit.exit 0, mtX, [])] = .ok (r.1, r.2.1, r.2.2, ob)) (hp : allOb ob) => roundP_ok h hp
  unfold mo0x
  exact key [true] ((AExit.exit 0, ((jk 11 ++ [bA false] ++ jk 37), []))) _ (by kernel_rfl) (allOb_cons (show Plain [] from by simp only [Plain, List.all_append, List.all_cons, List.all_nil, plainO, upL_flatPP, flatP_plain, Nat.zero_mul, List.drop_zero] <;> rfl) (allOb_cons (by exact e0) (allOb_cons lit_t allOb_nil)))
def mo1 (L : Lib Tryz.prog) (A : P2) (C : P2) (B : P2) (D : P2) : AExit × List AVal × List AObj :=
  (AExit.normal, ((jk 10 ++ [AVal.ptr 15 0 0, bA true] ++ jk 14 ++ [AVal.agg [iA (Prod.fst A), iA (Prod.snd A), iA (Prod.fst C), iA (Prod.snd C)], iA (Int.ofNat 2)] ++ jk 21), (List.replicate 15 AObj.free ++ [AObj.box [iA (Prod.fst B), iA (Prod.snd B), iA (Prod.fst D), iA (Prod.snd D)]])))
theorem mo1_eq (L : Lib Tryz.prog) (A : P2) (C : P2) (B : P2) (D : P2) (e0 : iterC 0 (evalC (cfM L) (evalF (cfM L) 201) ((lives.lookup 145).getD []) 0 0 201 (loopAt Tryz.f145 1)) 201 (jk 10 ++ [AVal.ptr 15 0 0, bA true, AVal.junk, AVal.ptr 0 0 0] ++ jk 12 ++ [AVal.agg [iA (Prod.fst A), iA (Prod.snd A), iA (Prod.fst C), iA (Prod.snd C)], iA (Int.ofNat 1), AVal.junk, AVal.junk, AVal.agg [iA (Prod.fst B), iA (Prod.snd B), iA (Prod.fst D), iA (Prod.snd D)], iA (Int.ofNat 0)] ++ jk 17) ([AObj.box [iA (Prod.fst C), iA (Prod.snd C)]] ++ List.replicate 14 AObj.free ++ [AObj.box [iA (Prod.fst B), iA (Prod.snd B), iA (Prod.fst D), iA (Prod.snd D)]]) = some (AExit.exit 2, ((jk 10 ++ [AVal.ptr 15 0 0, bA true, AVal.junk, AVal.ptr 0 0 0] ++ jk 12 ++ [AVal.agg [iA (Prod.fst A), iA (Prod.snd A), iA (Prod.fst C), iA (Prod.snd C)], iA (Int.ofNat 1), AVal.junk, AVal.junk, AVal.agg [iA (Prod.fst B), iA (Prod.snd B), iA (Prod.fst D), iA (Prod.snd D)], iA (Int.ofNat 2), bA false] ++ jk 16), ([AObj.box [iA (Prod.fst C), iA (Prod.snd C)]] ++ List.replicate 14 AObj.free ++ [AObj.box [iA (Prod.fst B), iA (Prod.snd B), iA (Prod.fst D), iA (Prod.snd D)]])))) : roundC 0 (evalC (cfM L) (evalF (cfM L) 201) (Option.getD (List.lookup 145 lives) []) 0 0 201 (loopAt Tryz.f145 0)) (mtT A C 1) (mtS B D fr15) = some (mo1 L A C B D) := by
  have key := fun (bs : List Bool) (r : AExit × List AVal × List AObj) (ob : List Prop) (h : roundP (cfM L) (evalF (cfM L) 201) (Option.getD (List.lookup 145 lives) []) 0 0 201 [(9999, 0, Hint.idx)] (loopAt Tryz.f145 0) (mtT A C 1) (mtS B D fr15) bs [(AExit.exit 2, mtV A C B D 1 2, mtS B D (fr14 C))] = .ok (r.1, r.2.1, r.2.2, ob)) (hp : allOb ob) => roundP_ok h hp
  unfold mo1
  exact key [true] ((AExit.normal, ((jk 10 ++ [AVal.ptr 15 0 0, bA true] ++ jk 14 ++ [AVal.agg [iA (Prod.fst A), iA (Prod.snd A), iA (Prod.fst C), iA (Prod.snd C)], iA (Int.ofNat 2)] ++ jk 21), (List.replicate 15 AObj.free ++ [AObj.box [iA (Prod.fst B), iA (Prod.snd B), iA (Prod.fst D), iA (Prod.snd D)]])))) _ (by kernel_rfl) (allOb_cons (show Plain ([AObj.box [iA (Prod.fst C), iA (Prod.snd C)]] ++ List.replicate 14 AObj.free ++ [AObj.box [iA (Prod.fst B), iA (Prod.snd B), iA (Prod.fst D), iA (Prod.snd D)]]) from by simp only [Plain, List.all_append, List.all_cons, List.all_nil, plainO, upL_flatPP, flatP_plain, Nat.zero_mul, List.drop_zero] <;> rfl) (allOb_cons (by exact e0) (allOb_cons lit_t allOb_nil)))
def mo1x (L : Lib Tryz.prog) (A : P2) (C : P2) (B : P2) (D : P2) : AExit × List AVal × List AObj :=
  (AExit.exit 0, ((jk 11 ++ [bA false] ++ jk 37), []))
theorem mo1x_eq (L : Lib Tryz.prog) (A : P2) (C : P2) (B : P2) (D : P2) (e0 : iterC 0 (evalC (cfM L) (evalF (cfM L) 201) ((lives.lookup 145).getD []) 0 0 201 (loopAt Tryz.f145 1)) 201 (jk 10 ++ [AVal.ptr 15 0 0, bA true, AVal.junk, AVal.ptr 0 0 0] ++ jk 12 ++ [AVal.agg [iA (Prod.fst A), iA (Prod.snd A), iA (Prod.fst C), iA (Prod.snd C)], iA (Int.ofNat 1), AVal.junk, AVal.junk, AVal.agg [iA (Prod.fst B), iA (Prod.snd B), iA (Prod.fst D), iA (Prod.snd D)], iA (Int.ofNat 0)] ++ jk 17) ([AObj.box [iA (Prod.fst C), iA (Prod.snd C)]] ++ List.replicate 14 AObj.free ++ [AObj.box [iA (Prod.fst B), iA (Prod.snd B), iA (Prod.fst D), iA (Prod.snd D)]]) = some (AExit.exit 0, ((jk 11 ++ [bA false] ++ jk 37), []))) : roundC 0 (evalC (cfM L) (evalF (cfM L) 201) (Option.getD (List.lookup 145 lives) []) 0 0 201 (loopAt Tryz.f145 0)) (mtT A C 1) (mtS B D fr15) = some (mo1x L A C B D) := by
  have key := fun (bs : List Bool) (r : AExit × List AVal × List AObj) (ob : List Prop) (h : roundP (cfM L) (evalF (cfM L) 201) (Option.getD (List.lookup 145 lives) []) 0 0 201 [(9999, 0, Hint.idx)] (loopAt Tryz.f145 0) (mtT A C 1) (mtS B D fr15) bs [(AExit.exit 0, mtX, [])] = .ok (r.1, r.2.1, r.2.2, ob)) (hp : allOb ob) => roundP_ok h hp
  unfold mo1x
  exact key [true] ((AExit.exit 0, ((jk 11 ++ [bA false] ++ jk 37), []))) _ (by kernel_rfl) (allOb_cons (show Plain [] from by simp only [Plain, List.all_append, List.all_cons, List.all_nil, plainO, upL_flatPP, flatP_plain, Nat.zero_mul, List.drop_zero] <;> rfl) (allOb_cons (by exact e0) (allOb_cons lit_t allOb_nil)))
def mo2 (L : Lib Tryz.prog) (A : P2) (C : P2) (B : P2) (D : P2) : AExit × List AVal × List AObj :=
  (AExit.exit 0, ((jk 10 ++ [AVal.ptr 15 0 0, bA true] ++ jk 14 ++ [AVal.agg [iA (Prod.fst A), iA (Prod.snd A), iA (Prod.fst C), iA (Prod.snd C)], iA (Int.ofNat 2), bA false] ++ jk 20), (List.replicate 15 AObj.free ++ [AObj.box [iA (Prod.fst B), iA (Prod.snd B), iA (Prod.fst D), iA (Prod.snd D)]])))
theorem mo2_eq (L : Lib Tryz.prog) (A : P2) (C : P2) (B : P2) (D : P2) : roundC 0 (evalC (cfM L) (evalF (cfM L) 201) (Option.getD (List.lookup 145 lives) []) 0 0 201 (loopAt Tryz.f145 0)) (mtT A C 2) (mtS B D fr15) = some (mo2 L A C B D) := by
  have key := fun (bs : List Bool) (r : AExit × List AVal × List AObj) (ob : List Prop) (h : roundP (cfM L) (evalF (cfM L) 201) (Option.getD (List.lookup 145 lives) []) 0 0 201 [(9999, 0, Hint.idx)] (loopAt Tryz.f145 0) (mtT A C 2) (mtS B D fr15) bs [] = .ok (r.1, r.2.1, r.2.2, ob)) (hp : allOb ob) => roundP_ok h hp
  unfold mo2
  exact key [false] ((AExit.exit 0, ((jk 10 ++ [AVal.ptr 15 0 0, bA true] ++ jk 14 ++ [AVal.agg [iA (Prod.fst A), iA (Prod.snd A), iA (Prod.fst C), iA (Prod.snd C)], iA (Int.ofNat 2), bA false] ++ jk 20), (List.replicate 15 AObj.free ++ [AObj.box [iA (Prod.fst B), iA (Prod.snd B), iA (Prod.fst D), iA (Prod.snd D)]])))) _ (by kernel_rfl) (allOb_cons (show Plain (List.replicate 15 AObj.free ++ [AObj.box [iA (Prod.fst B), iA (Prod.snd B), iA (Prod.fst D), iA (Prod.snd D)]]) from by simp only [Plain, List.all_append, List.all_cons, List.all_nil, plainO, upL_flatPP, flatP_plain, Nat.zero_mul, List.drop_zero] <;> rfl) (allOb_cons lit_f allOb_nil))
def mtA (L : Lib Tryz.prog) (a : P2) (b : P2) (c : P2) (d : P2) : PVal :=
  bP true
theorem mtA_calls (L : Lib Tryz.prog) (a : P2) (b : P2) (c : P2) (d : P2) (e0 : pureCall (cfM L) (evalF (cfM L) 201) 112 [ptP a] = some (ptP (nearP a))) (e1 : pureCall (cfM L) (evalF (cfM L) 201) 112 [ptP c] = some (ptP (nearP c))) (e2 : pureCall (cfM L) (evalF (cfM L) 201) 112 [ptP b] = some (ptP (nearP b))) (e3 : pureCall (cfM L) (evalF (cfM L) 201) 112 [ptP d] = some (ptP (nearP d))) (e4 : iterC 0 (evalC (cfM L) (evalF (cfM L) 201) ((lives.lookup 145).getD []) 0 0 201 (loopAt Tryz.f145 0)) 201 (jk 10 ++ [AVal.ptr 15 0 0, bA true] ++ jk 14 ++ [AVal.agg [iA (Prod.fst (nearP a)), iA (Prod.snd (nearP a)), iA (Prod.fst (nearP c)), iA (Prod.snd (nearP c))], iA (Int.ofNat 0)] ++ jk 21) ([AObj.box [iA (Prod.fst a), iA (Prod.snd a)], AObj.box [iA (Prod.fst b), iA (Prod.snd b)], AObj.box [iA (Prod.fst c), iA (Prod.snd c)], AObj.box [iA (Prod.fst d), iA (Prod.snd d)]] ++ List.replicate 10 AObj.free ++ [AObj.box [iA (Prod.fst (nearP a)), iA (Prod.snd (nearP a)), iA (Prod.fst (nearP c)), iA (Prod.snd (nearP c))], AObj.box [iA (Prod.fst (nearP b)), iA (Prod.snd (nearP b)), iA (Prod.fst (nearP d)), iA (Prod.snd (nearP d))], AObj.free, AObj.free]) = some (AExit.exit 0, ((jk 10 ++ [AVal.ptr 15 0 0, bA true] ++ jk 14 ++ [AVal.agg [iA (Prod.fst (nearP a)), iA (Prod.snd (nearP a)), iA (Prod.fst (nearP c)), iA (Prod.snd (nearP c))], iA (Int.ofNat 2), bA false] ++ jk 20), (List.replicate 15 AObj.free ++ [AObj.box [iA (Prod.fst (nearP b)), iA (Prod.snd (nearP b)), iA (Prod.fst (nearP d)), iA (Prod.snd (nearP d))]])))) : CallsP Tryz.prog 145 [ptP a, ptP b, ptP c, ptP d] (mtA L a b c d) := by
  have key := fun (bs : List Bool) (r : PVal) (ob : List Prop) (h : callP (cfM L) (evalF (cfM L) 201) 201 [(9999, 0, Hint.idx), (1, 1, Hint.pcall (ptP (nearP a))), (1, 3, Hint.pcall (ptP (nearP c))), (1, 6, Hint.pcall (ptP (nearP b))), (1, 8, Hint.pcall (ptP (nearP d)))] 145 [ptP a, ptP b, ptP c, ptP d] bs [(AExit.exit 0, mtE (nearP a) (nearP c) 2, mtS (nearP b) (nearP d) fr15)] (none) = .ok (r, ob)) (hp : allOb ob) => callP_ok (cfM_ok L) h hp
  unfold mtA
  exact key [] (bP true) _ (by kernel_rfl) (allOb_cons (by exact e4) (allOb_cons (by exact e3) (allOb_cons (by exact e2) (allOb_cons (by exact e1) (allOb_cons (by exact e0) allOb_nil)))))
def mtB (L : Lib Tryz.prog) (a : P2) (b : P2) (c : P2) (d : P2) : PVal :=
  bP false
theorem mtB_calls (L : Lib Tryz.prog) (a : P2) (b : P2) (c : P2) (d : P2) (e0 : pureCall (cfM L) (evalF (cfM L) 201) 112 [ptP a] = some (ptP (nearP a))) (e1 : pureCall (cfM L) (evalF (cfM L) 201) 112 [ptP c] = some (ptP (nearP c))) (e2 : pureCall (cfM L) (evalF (cfM L) 201) 112 [ptP b] = some (ptP (nearP b))) (e3 : pureCall (cfM L) (evalF (cfM L) 201) 112 [ptP d] = some (ptP (nearP d))) (e4 : iterC 0 (evalC (cfM L) (evalF (cfM L) 201) ((lives.lookup 145).getD []) 0 0 201 (loopAt Tryz.f145 0)) 201 (jk 10 ++ [AVal.ptr 15 0 0, bA true] ++ jk 14 ++ [AVal.agg [iA (Prod.fst (nearP a)), iA (Prod.snd (nearP a)), iA (Prod.fst (nearP c)), iA (Prod.snd (nearP c))], iA (Int.ofNat 0)] ++ jk 21) ([AObj.box [iA (Prod.fst a), iA (Prod.snd a)], AObj.box [iA (Prod.fst b), iA (Prod.snd b)], AObj.box [iA (Prod.fst c), iA (Prod.snd c)], AObj.box [iA (Prod.fst d), iA (Prod.snd d)]] ++ List.replicate 10 AObj.free ++ [AObj.box [iA (Prod.fst (nearP a)), iA (Prod.snd (nearP a)), iA (Prod.fst (nearP c)), iA (Prod.snd (nearP c))], AObj.box [iA (Prod.fst (nearP b)), iA (Prod.snd (nearP b)), iA (Prod.fst (nearP d)), iA (Prod.snd (nearP d))], AObj.free, AObj.free]) = some (AExit.exit 0, ((jk 11 ++ [bA false] ++ jk 37), []))) : CallsP Tryz.prog 145 [ptP a, ptP b, ptP c, ptP d] (mtB L a b c d) := by
  have key := fun (bs : List Bool) (r : PVal) (ob : List Prop) (h : callP (cfM L) (evalF (cfM L) 201) 201 [(9999, 0, Hint.idx), (1, 1, Hint.pcall (ptP (nearP a))), (1, 3, Hint.pcall (ptP (nearP c))), (1, 6, Hint.pcall (ptP (nearP b))), (1, 8, Hint.pcall (ptP (nearP d)))] 145 [ptP a, ptP b, ptP c, ptP d] bs [(AExit.exit 0, mtX, [])] (none) = .ok (r, ob)) (hp : allOb ob) => callP_ok (cfM_ok L) h hp
  unfold mtB
  exact key [] (bP false) _ (by kernel_rfl) (allOb_cons (by exact e4) (allOb_cons (by exact e3) (allOb_cons (by exact e2) (allOb_cons (by exact e1) (allOb_cons (by exact e0) allOb_nil)))))
end Go.Proofs.YtkkgimhbliocoaaGreat
/- pt.Meet: whether two boxes meet. -/
namespace Go.Proofs.YtkkgimhbliocoaaGreat
open Go Vm M
set_option linter.unusedVariables false
set_option linter.unusedSectionVars false
set_option linter.unusedSimpArgs false
theorem iterC_more {base : Nat} {body : List AVal → List AObj → Res} {r : AExit × List AVal × List AObj} : ∀ (n : Nat) (T : List AVal) (S : List AObj), iterC base body n T S = some r → iterC base body (n + 1) T S = some r
  | 0, T, S, h => by simp [iterC] at h
  | n + 1, T, S, h => by
    unfold iterC at h ⊢
    cases hc : canon base T S with
    | none => rw [hc] at h; cases h
    | some c =>
      obtain ⟨T1, S1⟩ := c
      rw [hc] at h
      simp only at h ⊢
      cases hb : body T1 S1 with
      | none => rw [hb] at h; cases h
      | some b =>
        obtain ⟨x, T', S'⟩ := b
        rw [hb] at h
        cases x with
        | normal => exact iterC_more n T' S' h
        | exit i => exact h
        | ret => exact h
theorem at_more {base : Nat} {body : List AVal → List AObj → Res} {n m : Nat} {T1 : List AVal} {S1 : List AObj} {r : AExit × List AVal × List AObj} (h : At base body n T1 S1 (some r)) (hm : n ≤ m) : At base body m T1 S1 (some r) := by
  intro T S hc
  obtain ⟨d, rfl⟩ : ∃ d, m = n + d := ⟨m - n, by omega⟩
  induction d with
  | zero => exact h T S hc
  | succ d ih => exact iterC_more _ _ _ (ih (by omega))
theorem nearGM (p : P2) {ev : Ev} : pureCall (cfM KF5) ev 112 [ptP p] = some (ptP (nearP p)) := pure_given (g := g1 fun p => ptP (nearP p)) (by kernel_rfl) rfl
def leP (a b : P2) : Bool := decide (a.1 ≤ b.1) && decide (a.2 ≤ b.2)
def meetB (al ah bl bh : P2) : Bool := leP (nearP al) (nearP ah) && leP (nearP al) (nearP bh) && (leP (nearP bl) (nearP ah) && leP (nearP bl) (nearP bh))
/-! pt.Meet -/
noncomputable abbrev bodyMo : List AVal → List AObj → Res := evalC (cfM KF5) (evalF (cfM KF5) 201) ((lives.lookup 145).getD []) 0 0 201 (loopAt Tryz.f145 0)
noncomputable abbrev bodyMi : List AVal → List AObj → Res := evalC (cfM KF5) (evalF (cfM KF5) 201) ((lives.lookup 145).getD []) 0 0 201 (loopAt Tryz.f145 1)
theorem gt_le (x y : Int) : decide (x > y) = !decide (x ≤ y) := by
  by_cases h : x ≤ y
  · rw [decide_eq_true h, decide_eq_false (by omega)]; rfl
  · rw [decide_eq_false h, decide_eq_true (by omega)]; rfl
section
variable (A C B D X : P2) (i : Int)
theorem mi0_is : mi0 KF5 A C B D X i = bif leP X B then (.normal, mtU A C B D i 1, mtS B D (fr14 X)) else (.exit 0, mtX, []) := by
  unfold mi0 leP
  rw [gt_le, gt_le]
  cases decide (X.1 ≤ B.1) <;> cases decide (X.2 ≤ B.2) <;> rfl
theorem mi1_is : mi1 KF5 A C B D X i = bif leP X D then (.normal, mtU A C B D i 2, mtS B D (fr14 X)) else (.exit 0, mtX, []) := by
  unfold mi1 leP
  rw [gt_le, gt_le]
  cases decide (X.1 ≤ D.1) <;> cases decide (X.2 ≤ D.2) <;> rfl
theorem mi_loop : At 0 bodyMi 3 (mtU A C B D i 0) (mtS B D (fr14 X)) (some (bif leP X B && leP X D then (.exit 2, mtV A C B D i 2, mtS B D (fr14 X)) else (.exit 0, mtX, []))) := by
  have s0 : roundC 0 bodyMi (mtU A C B D i 0) (mtS B D (fr14 X)) = some (mi0 KF5 A C B D X i) := mi0_eq KF5 A C B D X i
  have s1 : roundC 0 bodyMi (mtU A C B D i 1) (mtS B D (fr14 X)) = some (mi1 KF5 A C B D X i) := mi1_eq KF5 A C B D X i
  have s2 : roundC 0 bodyMi (mtU A C B D i 2) (mtS B D (fr14 X)) = some (.exit 2, mtV A C B D i 2, mtS B D (fr14 X)) := mi2_eq KF5 A C B D X i
  rw [mi0_is] at s0
  rw [mi1_is] at s1
  cases h0 : leP X B with
  | false =>
    rw [h0] at s0
    exact at_more (n := 1) (At.leave s0 (by simp)) (by omega)
  | true =>
    rw [h0] at s0
    cases h1 : leP X D with
    | false =>
      rw [h1] at s1
      exact at_more (n := 2) (At.step s0 (At.leave s1 (by simp))) (by omega)
    | true =>
      rw [h1] at s1
      exact At.step s0 (At.step s1 (At.leave s2 (by simp)))
end
theorem mt_plain (B D : P2) (X : P2) : (mtS B D (fr14 X)).all plainO = true := by rfl
theorem mo_loop (A C B D : P2) : At 0 bodyMo 3 (mtT A C 0) (mtS B D fr15) (some (bif leP A B && leP A D && (leP C B && leP C D) then (.exit 0, mtE A C 2, mtS B D fr15) else (.exit 0, mtX, []))) := by
  have i0 := mi_loop A C B D A 0
  have i1 := mi_loop A C B D C 1
  have s2 : roundC 0 bodyMo (mtT A C 2) (mtS B D fr15) = some (.exit 0, mtE A C 2, mtS B D fr15) := mo2_eq KF5 A C B D
  cases h0 : leP A B && leP A D with
  | false =>
    rw [h0] at i0
    have s0 : roundC 0 bodyMo (mtT A C 0) (mtS B D fr15) = some (.exit 0, mtX, []) := mo0x_eq KF5 A C B D (At.use (at_more i0 (m := 201) (by omega)) (by rfl) (by kernel_rfl))
    exact at_more (n := 1) (At.leave s0 (by simp)) (by omega)
  | true =>
    rw [h0] at i0
    have s0 : roundC 0 bodyMo (mtT A C 0) (mtS B D fr15) = some (.normal, mtT A C 1, mtS B D fr15) := by
      have := mo0_eq KF5 A C B D (At.use (at_more i0 (m := 201) (by omega)) (by rfl) (by kernel_rfl))
      have e : mo0 KF5 A C B D = (.normal, mtT A C (IntKind.i64.wrap (0 + 1)), mtS B D fr15) := by kernel_rfl
      rw [e, show IntKind.i64.wrap (0 + 1) = 1 from IntWalk.i64_in _ (by omega)] at this
      exact this
    cases h1 : leP C B && leP C D with
    | false =>
      rw [h1] at i1
      have s1 : roundC 0 bodyMo (mtT A C 1) (mtS B D fr15) = some (.exit 0, mtX, []) := mo1x_eq KF5 A C B D (At.use (at_more i1 (m := 201) (by omega)) (by rfl) (by kernel_rfl))
      exact at_more (n := 2) (At.step s0 (At.leave s1 (by simp))) (by omega)
    | true =>
      rw [h1] at i1
      have s1 : roundC 0 bodyMo (mtT A C 1) (mtS B D fr15) = some (.normal, mtT A C 2, mtS B D fr15) := by
        have := mo1_eq KF5 A C B D (At.use (at_more i1 (m := 201) (by omega)) (by rfl) (by kernel_rfl))
        have e : mo1 KF5 A C B D = (.normal, mtT A C (IntKind.i64.wrap (1 + 1)), mtS B D fr15) := by kernel_rfl
        rw [e, show IntKind.i64.wrap (1 + 1) = 2 from IntWalk.i64_in _ (by omega)] at this
        exact this
      exact At.step s0 (At.step s1 (At.leave s2 (by simp)))
theorem meet_calls (a b c d : P2) : CallsP Tryz.prog 145 [ptP a, ptP b, ptP c, ptP d] (bP (meetB a b c d)) := by
  have hl := mo_loop (nearP a) (nearP c) (nearP b) (nearP d)
  unfold meetB
  cases h : leP (nearP a) (nearP b) && leP (nearP a) (nearP d) && (leP (nearP c) (nearP b) && leP (nearP c) (nearP d)) with
  | true =>
    rw [h] at hl
    exact mtA_calls KF5 a b c d (nearGM a) (nearGM c) (nearGM b) (nearGM d) (At.use (at_more hl (m := 201) (by omega)) (by rfl) (by kernel_rfl))
  | false =>
    rw [h] at hl
    exact mtB_calls KF5 a b c d (nearGM a) (nearGM c) (nearGM b) (nearGM d) (At.use (at_more hl (m := 201) (by omega)) (by rfl) (by kernel_rfl))
end Go.Proofs.YtkkgimhbliocoaaGreat
/- pt.Box: its rounds. -/
namespace Go.Proofs.YtkkgimhbliocoaaGreat
open Go Vm M
set_option linter.unusedVariables false
set_option linter.unusedSimpArgs false
def bxT (ps : List P2) (i : Int) : List AVal := [slA ps, AVal.junk, AVal.ptr 0 0 0, AVal.ptr 1 0 0, AVal.junk, AVal.junk, AVal.junk, slA ps, iA ps.length, iA i] ++ jk 38
def bxE (ps : List P2) (i : Int) : List AVal := [slA ps, AVal.junk, AVal.ptr 0 0 0, AVal.ptr 1 0 0, AVal.junk, AVal.junk, AVal.junk, slA ps, iA ps.length, iA i, bA false] ++ jk 37
def bxS (l h : P2) : List AObj := [.box (cellsP l), .box (cellsP h)]
def bxR (L : Lib Tryz.prog) (ps : List P2) (i : Int) (l : P2) (h : P2) (q : P2) : AExit × List AVal × List AObj :=
  (bif decide (i < (↑(List.length ps) : Int)) then (bif i == 0 then (AExit.normal, (([slA ps, AVal.junk, AVal.ptr 0 0 0, AVal.ptr 1 0 0, AVal.junk, AVal.junk, AVal.junk, slA ps, iA (Int.ofNat (List.length ps)), iA (IntKind.i64.wrap (i + 1))] ++ jk 38), ([AObj.box [iA (if Prod.fst q < Prod.fst q then Prod.fst q else Prod.fst q), iA (if Prod.snd q < Prod.snd q then Prod.snd q else Prod.snd q)], AObj.box [iA (if Prod.fst q > Prod.fst q then Prod.fst q else Prod.fst q), iA (if Prod.snd q > Prod.snd q then Prod.snd q else Prod.snd q)]]))) else (AExit.normal, (([slA ps, AVal.junk, AVal.ptr 0 0 0, AVal.ptr 1 0 0, AVal.junk, AVal.junk, AVal.junk, slA ps, iA (Int.ofNat (List.length ps)), iA (IntKind.i64.wrap (i + 1))] ++ jk 38), ([AObj.box [iA (if Prod.fst q < Prod.fst l then Prod.fst q else Prod.fst l), iA (if Prod.snd q < Prod.snd l then Prod.snd q else Prod.snd l)], AObj.box [iA (if Prod.fst q > Prod.fst h then Prod.fst q else Prod.fst h), iA (if Prod.snd q > Prod.snd h then Prod.snd q else Prod.snd h)]])))) else (AExit.exit 0, (([slA ps, AVal.junk, AVal.ptr 0 0 0, AVal.ptr 1 0 0, AVal.junk, AVal.junk, AVal.junk, slA ps, iA (Int.ofNat (List.length ps)), iA i, bA false] ++ jk 37), ([AObj.box [iA (Prod.fst l), iA (Prod.snd l)], AObj.box [iA (Prod.fst h), iA (Prod.snd h)]]))))
theorem bxR_eq (L : Lib Tryz.prog) (ps : List P2) (i : Int) (l : P2) (h : P2) (q : P2) (b0 : (decide (i < (↑(List.length ps) : Int))) = true → (0 : Int) ≤ i ∧ (i : Int) < (↑(List.length ps) : Int)) (e0 : (decide (i < (↑(List.length ps) : Int))) = true → pureCall (cfM L) (evalF (cfM L) 201) 112 [ptP (pAt ps (Int.toNat i))] = some (ptP q)) : roundC 0 (evalC (cfM L) (evalF (cfM L) 201) (Option.getD (List.lookup 80 lives) []) 0 0 201 (loopAt Tryz.f80 0)) (bxT ps i) (bxS l h) = some (bxR L ps i l h q) := by
  have key := fun (bs : List Bool) (r : AExit × List AVal × List AObj) (ob : List Prop) (h : roundP (cfM L) (evalF (cfM L) 201) (Option.getD (List.lookup 80 lives) []) 0 0 201 [(9999, 0, Hint.idx), (4, 1, Hint.pcall (ptP q))] (loopAt Tryz.f80 0) (bxT ps i) (bxS l h) bs [] = .ok (r.1, r.2.1, r.2.2, ob)) (hp : allOb ob) => roundP_ok h hp
  unfold bxR
  exact bif_case (P := fun r => roundC 0 (evalC (cfM L) (evalF (cfM L) 201) (Option.getD (List.lookup 80 lives) []) 0 0 201 (loopAt Tryz.f80 0)) (bxT ps i) (bxS l h) = some r)
    (fun h0 => bif_case (P := fun r => roundC 0 (evalC (cfM L) (evalF (cfM L) 201) (Option.getD (List.lookup 80 lives) []) 0 0 201 (loopAt Tryz.f80 0)) (bxT ps i) (bxS l h) = some r)
     (fun h1 => key [true, true] ((AExit.normal, (([slA ps, AVal.junk, AVal.ptr 0 0 0, AVal.ptr 1 0 0, AVal.junk, AVal.junk, AVal.junk, slA ps, iA (Int.ofNat (List.length ps)), iA (IntKind.i64.wrap (i + 1))] ++ jk 38), ([AObj.box [iA (if Prod.fst q < Prod.fst q then Prod.fst q else Prod.fst q), iA (if Prod.snd q < Prod.snd q then Prod.snd q else Prod.snd q)], AObj.box [iA (if Prod.fst q > Prod.fst q then Prod.fst q else Prod.fst q), iA (if Prod.snd q > Prod.snd q then Prod.snd q else Prod.snd q)]])))) _ (by kernel_rfl) (allOb_cons (show Plain ([AObj.box [iA (if Prod.fst q < Prod.fst q then Prod.fst q else Prod.fst q), iA (if Prod.snd q < Prod.snd q then Prod.snd q else Prod.snd q)], AObj.box [iA (if Prod.fst q > Prod.fst q then Prod.fst q else Prod.fst q), iA (if Prod.snd q > Prod.snd q then Prod.snd q else Prod.snd q)], AObj.box [iA (Prod.fst q), iA (Prod.snd q)]] ++ List.replicate 4 AObj.free) from by simp only [Plain, List.all_append, List.all_cons, List.all_nil, plainO, upL_flatPP, flatP_plain, Nat.zero_mul, List.drop_zero] <;> rfl) (allOb_cons h1 (allOb_cons (by exact (e0 h0)) (allOb_cons (part_pt (b0 h0)) (allOb_cons (idx_ok (b0 h0)) (allOb_cons h0 allOb_nil)))))))
     (fun h1 => key [true, false] ((AExit.normal, (([slA ps, AVal.junk, AVal.ptr 0 0 0, AVal.ptr 1 0 0, AVal.junk, AVal.junk, AVal.junk, slA ps, iA (Int.ofNat (List.length ps)), iA (IntKind.i64.wrap (i + 1))] ++ jk 38), ([AObj.box [iA (if Prod.fst q < Prod.fst l then Prod.fst q else Prod.fst l), iA (if Prod.snd q < Prod.snd l then Prod.snd q else Prod.snd l)], AObj.box [iA (if Prod.fst q > Prod.fst h then Prod.fst q else Prod.fst h), iA (if Prod.snd q > Prod.snd h then Prod.snd q else Prod.snd h)]])))) _ (by kernel_rfl) (allOb_cons (show Plain ([AObj.box [iA (if Prod.fst q < Prod.fst l then Prod.fst q else Prod.fst l), iA (if Prod.snd q < Prod.snd l then Prod.snd q else Prod.snd l)], AObj.box [iA (if Prod.fst q > Prod.fst h then Prod.fst q else Prod.fst h), iA (if Prod.snd q > Prod.snd h then Prod.snd q else Prod.snd h)], AObj.box [iA (Prod.fst q), iA (Prod.snd q)]]) from by simp only [Plain, List.all_append, List.all_cons, List.all_nil, plainO, upL_flatPP, flatP_plain, Nat.zero_mul, List.drop_zero] <;> rfl) (allOb_cons h1 (allOb_cons (by exact (e0 h0)) (allOb_cons (part_pt (b0 h0)) (allOb_cons (idx_ok (b0 h0)) (allOb_cons h0 allOb_nil))))))))
    (fun h0 => key [false] ((AExit.exit 0, (([slA ps, AVal.junk, AVal.ptr 0 0 0, AVal.ptr 1 0 0, AVal.junk, AVal.junk, AVal.junk, slA ps, iA (Int.ofNat (List.length ps)), iA i, bA false] ++ jk 37), ([AObj.box [iA (Prod.fst l), iA (Prod.snd l)], AObj.box [iA (Prod.fst h), iA (Prod.snd h)]])))) _ (by kernel_rfl) (allOb_cons (show Plain ([AObj.box [iA (Prod.fst l), iA (Prod.snd l)], AObj.box [iA (Prod.fst h), iA (Prod.snd h)]]) from by simp only [Plain, List.all_append, List.all_cons, List.all_nil, plainO, upL_flatPP, flatP_plain, Nat.zero_mul, List.drop_zero] <;> rfl) (allOb_cons h0 allOb_nil)))
def bxA (L : Lib Tryz.prog) (ps : List P2) (i : Int) (l : P2) (h : P2) : PVal :=
  PVal.tup [ptP l, ptP h, bP (decide ((↑(List.length ps) : Int) > 0))]
theorem bxA_calls (L : Lib Tryz.prog) (ps : List P2) (i : Int) (l : P2) (h : P2) (e0 : iterC 0 (evalC (cfM L) (evalF (cfM L) 201) ((lives.lookup 80).getD []) 0 0 201 (loopAt Tryz.f80 0)) 201 ([AVal.list (List.length ps) (flatPP ps), AVal.junk, AVal.ptr 0 0 0, AVal.ptr 1 0 0, AVal.junk, AVal.junk, AVal.junk, AVal.list (List.length ps) (flatPP ps), iA (Int.ofNat (List.length ps)), iA (Int.ofNat 0)] ++ jk 38) ([AObj.box [iA (Int.ofNat 0), iA (Int.ofNat 0)], AObj.box [iA (Int.ofNat 0), iA (Int.ofNat 0)]]) = some (AExit.exit 0, (([AVal.list (List.length ps) (flatPP ps), AVal.junk, AVal.ptr 0 0 0, AVal.ptr 1 0 0, AVal.junk, AVal.junk, AVal.junk, AVal.list (List.length ps) (flatPP ps), iA (Int.ofNat (List.length ps)), iA i, bA false] ++ jk 37), ([AObj.box [iA (Prod.fst l), iA (Prod.snd l)], AObj.box [iA (Prod.fst h), iA (Prod.snd h)]])))) : CallsP Tryz.prog 80 [slP ps] (bxA L ps i l h) := by
  have key := fun (bs : List Bool) (r : PVal) (ob : List Prop) (h : callP (cfM L) (evalF (cfM L) 201) 201 [(9999, 0, Hint.idx)] 80 [slP ps] bs [(AExit.exit 0, bxE ps i, bxS l h)] (none) = .ok (r, ob)) (hp : allOb ob) => callP_ok (cfM_ok L) h hp
  unfold bxA
  exact key [] (PVal.tup [ptP l, ptP h, bP (decide ((↑(List.length ps) : Int) > 0))]) _ (by kernel_rfl) (allOb_cons (by exact e0) allOb_nil)
end Go.Proofs.YtkkgimhbliocoaaGreat
/- pt.Box: the box of points. -/
namespace Go.Proofs.YtkkgimhbliocoaaGreat
open Go Vm M
set_option linter.unusedVariables false
set_option linter.unusedSectionVars false
set_option linter.unusedSimpArgs false
def minP (p q : P2) : P2 := (min p.1 q.1, min p.2 q.2)
def maxP (p q : P2) : P2 := (max p.1 q.1, max p.2 q.2)
def boxK (ps : List P2) : Nat → P2 × P2
  | 0 => ((0, 0), (0, 0))
  | 1 => (nearP (pAt ps 0), nearP (pAt ps 0))
  | k + 1 + 1 => (minP (boxK ps (k + 1)).1 (nearP (pAt ps (k + 1))), maxP (boxK ps (k + 1)).2 (nearP (pAt ps (k + 1))))
theorem At.upto {base : Nat} {body : List AVal → List AObj → Res} {T : Nat → List AVal} {S : Nat → List AObj} {n m : Nat} {r : Res}
    (hs : ∀ k, k < n → roundC base body (T k) (S k) = some (.normal, T (k + 1), S (k + 1))) (he : At base body m (T n) (S n) r) : ∀ d k, k + d = n → At base body (d + m) (T k) (S k) r
  | 0, k, h => by
    obtain rfl : k = n := by omega
    rw [Nat.zero_add]
    exact he
  | d + 1, k, h => by
    rw [show d + 1 + m = (d + m) + 1 by omega]
    exact At.step (hs k (by omega)) (At.upto hs he d (k + 1) (by omega))
theorem ite_min (q l : Int) : (if q < l then q else l) = min l q := by split <;> omega
theorem ite_max (q h : Int) : (if q > h then q else h) = max h q := by split <;> omega
noncomputable abbrev bodyBx : List AVal → List AObj → Res := evalC (cfM KF5) (evalF (cfM KF5) 201) ((lives.lookup 80).getD []) 0 0 201 (loopAt Tryz.f80 0)
theorem bx_step (ps : List P2) {k : Nat} (hk : k < ps.length) (h200 : ps.length ≤ 200) : roundC 0 bodyBx (bxT ps k) (bxS (boxK ps k).1 (boxK ps k).2) = some (.normal, bxT ps (k + 1 : Nat), bxS (boxK ps (k + 1)).1 (boxK ps (k + 1)).2) := by
  have h := bxR_eq KF5 ps k (boxK ps k).1 (boxK ps k).2 (nearP (pAt ps k)) (fun _ => ⟨by omega, by omega⟩) (fun _ => by rw [Int.toNat_natCast]; exact nearGM _)
  rw [show bodyBx = _ from rfl]
  rw [h]
  unfold bxR
  rw [decide_eq_true (by omega : (k : Int) < (ps.length : Int)), wrS (by omega)]
  cases k with
  | zero =>
    have e : ∀ x : Int, (if x < x then x else x) = x := fun x => by split <;> rfl
    have e2 : ∀ x : Int, (if x > x then x else x) = x := fun x => by split <;> rfl
    simp only [e, e2]
    rfl
  | succ k =>
    rw [beq_eq_false_iff_ne.2 (by omega : ((k + 1 : Nat) : Int) ≠ 0)]
    simp only [ite_min, ite_max]
    rfl
theorem box_calls (ps : List P2) (h200 : ps.length ≤ 200) : CallsP Tryz.prog 80 [slP ps] (.tup [ptP (boxK ps ps.length).1, ptP (boxK ps ps.length).2, bP (decide ((ps.length : Int) > 0))]) := by
  have hend : roundC 0 bodyBx (bxT ps ps.length) (bxS (boxK ps ps.length).1 (boxK ps ps.length).2) = some (.exit 0, bxE ps ps.length, bxS (boxK ps ps.length).1 (boxK ps ps.length).2) := by
    have hf : decide ((ps.length : Int) < (ps.length : Int)) = false := decide_eq_false (by omega)
    have h := bxR_eq KF5 ps ps.length (boxK ps ps.length).1 (boxK ps ps.length).2 (0, 0) (fun h => by rw [hf] at h; cases h) (fun h => by rw [hf] at h; cases h)
    rw [show bodyBx = _ from rfl]
    rw [h]
    unfold bxR
    rw [hf]
    rfl
  have hl := At.upto (base := 0) (body := bodyBx) (T := fun k => bxT ps k) (S := fun k => bxS (boxK ps k).1 (boxK ps k).2) (n := ps.length) (m := 1) (fun k hk => bx_step ps hk h200) (At.leave hend (by simp)) ps.length 0 (by omega)
  exact bxA_calls KF5 ps ps.length (boxK ps ps.length).1 (boxK ps ps.length).2 (At.use (at_more hl (m := 201) (by omega)) (by rfl) (by kernel_rfl))
end Go.Proofs.YtkkgimhbliocoaaGreat
/- pt.Ok, pt.Box, pt.Meet, as given. -/
namespace Go.Proofs.YtkkgimhbliocoaaGreat
open Go Vm M
set_option linter.unusedVariables false
set_option linter.unusedSimpArgs false
def okX (p : P2) : PVal :=
  (bif decide (Prod.fst p ≥ -1048576) then (bif decide (Prod.fst p ≤ 1048576) then (bif decide (Prod.snd p ≥ -1048576) then bP (decide (Prod.snd p ≤ 1048576)) else bP false) else bP false) else bP false)
theorem okX_calls (p : P2) : CallsP Tryz.prog 68 [ptP p] (okX p) := by
  have key := fun (bs : List Bool) (r : PVal) (ob : List Prop) (h : callP (cfM KF5) (evalF (cfM KF5) 60) 60 [] 68 [ptP p] bs [] (none) = .ok (r, ob)) (hp : allOb ob) => callP_ok (cfM_ok KF5) h hp
  unfold okX
  exact bif_case (P := fun r => CallsP Tryz.prog 68 [ptP p] r)
    (fun h0 => bif_case (P := fun r => CallsP Tryz.prog 68 [ptP p] r)
     (fun h1 => bif_case (P := fun r => CallsP Tryz.prog 68 [ptP p] r)
      (fun h2 => key [true, true, true] (bP (decide (Prod.snd p ≤ 1048576))) _ (by kernel_rfl) (allOb_cons h2 (allOb_cons h1 (allOb_cons h0 allOb_nil))))
      (fun h2 => key [true, true, false] (bP false) _ (by kernel_rfl) (allOb_cons h2 (allOb_cons h1 (allOb_cons h0 allOb_nil)))))
     (fun h1 => key [true, false, false] (bP false) _ (by kernel_rfl) (allOb_cons lit_f (allOb_cons h1 (allOb_cons h0 allOb_nil)))))
    (fun h0 => key [false, false, false] (bP false) _ (by kernel_rfl) (allOb_cons lit_f (allOb_cons lit_f (allOb_cons h0 allOb_nil))))
noncomputable def KX1 : Lib Tryz.prog := KF5.add 68 (g1 fun p => okX p) (Vm.enters_of named_prog Tryz.func68 (by kernel_rfl)) (g1_spec okX_calls)
def boxV (ps : List P2) : PVal := .tup [ptP (boxK ps ps.length).1, ptP (boxK ps ps.length).2, bP (decide ((ps.length : Int) > 0))]
def gBox (args : List PVal) : Option PVal :=
  match args with
  | [x] => match unSl x with
    | some ps => if ps.length ≤ 200 then some (boxV ps) else none
    | none => none
  | _ => none
theorem gBox_spec : ∀ args v, gBox args = some v → CallsP Tryz.prog 80 args v := by
  intro args v h
  unfold gBox at h
  split at h
  · split at h
    · rename_i x ps hx
      split at h
      · rename_i hl
        simp only [Option.some.injEq] at h
        subst h
        exact callsP_weak (box_calls ps hl) ⟨unSl_wk hx, trivial⟩
      · cases h
    · cases h
  · cases h
noncomputable def KX2 : Lib Tryz.prog := KX1.add 80 gBox (Vm.enters_of named_prog Tryz.func80 (by kernel_rfl)) gBox_spec
noncomputable def KX3 : Lib Tryz.prog := KX2.add 145 (g4 fun a b c d => bP (meetB a b c d)) (Vm.enters_of named_prog Tryz.func145 (by kernel_rfl)) (g4_spec meet_calls)
theorem boxG (ps : List P2) (h : ps.length ≤ 200) {ev : Ev} : pureCall (cfM KX3) ev 80 [slP ps] = some (boxV ps) := pure_given (g := gBox) (by kernel_rfl) (by
  unfold gBox
  simp only [unSl_slP]
  exact if_pos h)
theorem meetG (a b c d : P2) {ev : Ev} : pureCall (cfM KX3) ev 145 [ptP a, ptP b, ptP c, ptP d] = some (bP (meetB a b c d)) := pure_given (g := g4 fun a b c d => bP (meetB a b c d)) (by kernel_rfl) rfl
end Go.Proofs.YtkkgimhbliocoaaGreat
/- find.FaceAt, find.NodeAt, find.Build of plans without edges: their rounds. -/
namespace Go.Proofs.YtkkgimhbliocoaaGreat
open Go Vm M
set_option linter.unusedVariables false
set_option linter.unusedSimpArgs false
def ffX (ns : List Nd) (p : P2) (okp : Bool) (fr : Bool) (fc : Int) : PVal :=
  (bif !okp then PVal.tup [iP (Int.ofNat 0), bP false] else (bif !fr then PVal.tup [iP (Int.ofNat 0), bP false] else PVal.tup [iP fc, bP true]))
theorem ffX_calls (ns : List Nd) (p : P2) (okp : Bool) (fr : Bool) (fc : Int) (e0 : pureCall (cfM KX3) (evalF (cfM KX3) 60) 68 [ptP p] = some (bP okp)) (e1 : (!okp) = false → pureCall (cfM KX3) (evalF (cfM KX3) 60) 59 [PVal.agg [PVal.list (List.length ns) (flatN ns), PVal.v (Value.slice none 0 0)], ptP p] = some (bP fr)) (e2 : (!okp) = false → (!fr) = false → pureCall (cfM KX3) (evalF (cfM KX3) 60) 69 [PVal.agg [PVal.list (List.length ns) (flatN ns), PVal.v (Value.slice none 0 0)], ptP p] = some (iP fc)) : CallsP Tryz.prog 31 [plN (List.length ns) (flatN ns), ptP p] (ffX ns p okp fr fc) := by
  have key := fun (bs : List Bool) (r : PVal) (ob : List Prop) (h : callP (cfM KX3) (evalF (cfM KX3) 60) 60 [(1, 1, Hint.pcall (bP okp)), (1, 6, Hint.pcall (bP fr)), (3, 2, Hint.pcall (iP fc))] 31 [plN (List.length ns) (flatN ns), ptP p] bs [] (none) = .ok (r, ob)) (hp : allOb ob) => callP_ok (cfM_ok KX3) h hp
  unfold ffX
  exact bif_case (P := fun r => CallsP Tryz.prog 31 [plN (List.length ns) (flatN ns), ptP p] r)
    (fun h0 => key [true, true] (PVal.tup [iP (Int.ofNat 0), bP false]) _ (by kernel_rfl) (allOb_cons lit_t (allOb_cons h0 (allOb_cons (by exact e0) allOb_nil))))
    (fun h0 => bif_case (P := fun r => CallsP Tryz.prog 31 [plN (List.length ns) (flatN ns), ptP p] r)
     (fun h1 => key [false, true] (PVal.tup [iP (Int.ofNat 0), bP false]) _ (by kernel_rfl) (allOb_cons h1 (allOb_cons (by exact (e1 h0)) (allOb_cons h0 (allOb_cons (by exact e0) allOb_nil)))))
     (fun h1 => key [false, false] (PVal.tup [iP fc, bP true]) _ (by kernel_rfl) (allOb_cons (by exact (e2 h0 h1)) (allOb_cons h1 (allOb_cons (by exact (e1 h0)) (allOb_cons h0 (allOb_cons (by exact e0) allOb_nil)))))))
noncomputable def naLv : List Nat := (lives.lookup 33).getD []
def naT (ns : List Nd) (i : Int) : List AVal := jk 3 ++ [.ptr 1 0 0] ++ jk 4 ++ [nsA ns, iA ns.length, iA i] ++ jk 10
def naS (ns : List Nd) (p : P2) : List AObj := [.box [nsA ns, nilA], .box [iA p.1, iA p.2]]
def naK (ns : List Nd) (p : P2) (i : Int) (q : Nd) : AExit × List AVal × List AObj :=
  (bif decide (i < (↑(List.length ns) : Int)) then (bif eqB (Prod.fst (Prod.snd q)) p then (AExit.ret, ((jk 4 ++ [iA (Prod.fst q)] ++ jk 16), ([AObj.box [AVal.list (List.length ns) (flatN ns), AVal.v (Value.slice none 0 0)], AObj.box [iA (Prod.fst p), iA (Prod.snd p)], AObj.box [iA (Prod.fst q), iA (Prod.fst (Prod.fst (Prod.snd q))), iA (Prod.snd (Prod.fst (Prod.snd q))), iA (Prod.snd (Prod.snd q))]]))) else (AExit.normal, (([AVal.junk, AVal.junk, AVal.junk, AVal.ptr 1 0 0] ++ jk 4 ++ [AVal.list (List.length ns) (flatN ns), iA (Int.ofNat (List.length ns)), iA (IntKind.i64.wrap (i + 1))] ++ jk 10), ([AObj.box [AVal.list (List.length ns) (flatN ns), AVal.v (Value.slice none 0 0)], AObj.box [iA (Prod.fst p), iA (Prod.snd p)], AObj.box [iA (Prod.fst q), iA (Prod.fst (Prod.fst (Prod.snd q))), iA (Prod.snd (Prod.fst (Prod.snd q))), iA (Prod.snd (Prod.snd q))]])))) else (AExit.exit 0, (([AVal.junk, AVal.junk, AVal.junk, AVal.ptr 1 0 0] ++ jk 4 ++ [AVal.list (List.length ns) (flatN ns), iA (Int.ofNat (List.length ns)), iA i, bA false] ++ jk 9), ([AObj.box [AVal.list (List.length ns) (flatN ns), AVal.v (Value.slice none 0 0)], AObj.box [iA (Prod.fst p), iA (Prod.snd p)]]))))
theorem naK_eq (ns : List Nd) (p : P2) (i : Int) (q : Nd) (b0 : (decide (i < (↑(List.length ns) : Int))) = true → (0 : Int) ≤ i ∧ (i : Int) < (↑(List.length ns) : Int)) (e0 : (decide (i < (↑(List.length ns) : Int))) = true → partA (Cfg.P (cfM KX3)) 30 (upL (List.drop (Int.toNat i * 4) (flatN ns))) 0 = some (ndA q)) : evalC (cfM KX3) (evalF (cfM KX3) 60) (naLv) 0 0 60 (loopAt Tryz.f33 0) (naT ns i) (naS ns p) = some (naK ns p i q) := by
  have key := fun (bs : List Bool) (r : AExit × List AVal × List AObj) (ob : List Prop) (h : pathP (cfM KX3) (evalF (cfM KX3) 60) (naLv) 0 0 60 [(3, 0, Hint.idx), (3, 1, Hint.load (ndA q))] (loopAt Tryz.f33 0) (naT ns i) (naS ns p) bs [] = .ok (r.1, r.2.1, r.2.2, ob)) (hp : allOb ob) => pathP_ok h hp
  unfold naK
  exact bif_case (P := fun r => evalC (cfM KX3) (evalF (cfM KX3) 60) (naLv) 0 0 60 (loopAt Tryz.f33 0) (naT ns i) (naS ns p) = some r)
    (fun h0 => bif_case (P := fun r => evalC (cfM KX3) (evalF (cfM KX3) 60) (naLv) 0 0 60 (loopAt Tryz.f33 0) (naT ns i) (naS ns p) = some r)
     (fun h1 => key [true, true] ((AExit.ret, ((jk 4 ++ [iA (Prod.fst q)] ++ jk 16), ([AObj.box [AVal.list (List.length ns) (flatN ns), AVal.v (Value.slice none 0 0)], AObj.box [iA (Prod.fst p), iA (Prod.snd p)], AObj.box [iA (Prod.fst q), iA (Prod.fst (Prod.fst (Prod.snd q))), iA (Prod.snd (Prod.fst (Prod.snd q))), iA (Prod.snd (Prod.snd q))]])))) _ (by kernel_rfl) (allOb_cons h1 (allOb_cons (by exact (e0 h0)) (allOb_cons (idx_okN (b0 h0)) (allOb_cons h0 allOb_nil)))))
     (fun h1 => key [true, false] ((AExit.normal, (([AVal.junk, AVal.junk, AVal.junk, AVal.ptr 1 0 0] ++ jk 4 ++ [AVal.list (List.length ns) (flatN ns), iA (Int.ofNat (List.length ns)), iA (IntKind.i64.wrap (i + 1))] ++ jk 10), ([AObj.box [AVal.list (List.length ns) (flatN ns), AVal.v (Value.slice none 0 0)], AObj.box [iA (Prod.fst p), iA (Prod.snd p)], AObj.box [iA (Prod.fst q), iA (Prod.fst (Prod.fst (Prod.snd q))), iA (Prod.snd (Prod.fst (Prod.snd q))), iA (Prod.snd (Prod.snd q))]])))) _ (by kernel_rfl) (allOb_cons h1 (allOb_cons (by exact (e0 h0)) (allOb_cons (idx_okN (b0 h0)) (allOb_cons h0 allOb_nil))))))
    (fun h0 => key [false] ((AExit.exit 0, (([AVal.junk, AVal.junk, AVal.junk, AVal.ptr 1 0 0] ++ jk 4 ++ [AVal.list (List.length ns) (flatN ns), iA (Int.ofNat (List.length ns)), iA i, bA false] ++ jk 9), ([AObj.box [AVal.list (List.length ns) (flatN ns), AVal.v (Value.slice none 0 0)], AObj.box [iA (Prod.fst p), iA (Prod.snd p)]])))) _ (by kernel_rfl) (allOb_cons h0 allOb_nil))
/-- An edge: its number, its ends, its line, its sides. -/
abbrev Ed := Int × Int × Int × List P2 × Int × Int
def edA (e : Ed) : AVal := .agg [iA e.1, iA e.2.1, iA e.2.2.1, .list e.2.2.2.1.length (flatPP e.2.2.2.1), iA e.2.2.2.2.1, iA e.2.2.2.2.2]
def edC (e : Ed) : List PVal := [iP e.1, iP e.2.1, iP e.2.2.1, .list e.2.2.2.1.length (flatPP e.2.2.2.1), iP e.2.2.2.2.1, iP e.2.2.2.2.2]
def flatE : List Ed → List PVal
  | [] => []
  | e :: es => iP e.1 :: iP e.2.1 :: iP e.2.2.1 :: .list e.2.2.2.1.length (flatPP e.2.2.2.1) :: iP e.2.2.2.2.1 :: iP e.2.2.2.2.2 :: flatE es
def esA (es : List Ed) : AVal := .list es.length (flatE es)
def eAt (es : List Ed) (k : Nat) : Ed := es.getD k (0, 0, 0, [], 0, 0)
theorem flatE_length : ∀ es : List Ed, (flatE es).length = es.length * 6
  | [] => rfl
  | e :: es => by simp [flatE, flatE_length es]; omega
theorem flatE_drop : ∀ (es : List Ed) (k : Nat), (flatE es).drop (k * 6) = flatE (es.drop k)
  | es, 0 => by simp
  | [], k + 1 => by simp [flatE]
  | e :: es, k + 1 => by
    rw [show (k + 1) * 6 = k * 6 + 1 + 1 + 1 + 1 + 1 + 1 by omega]
    simp only [flatE, List.drop_succ_cons]
    exact flatE_drop es k
theorem eAt_get {es : List Ed} {k : Nat} {e : Ed} (h : es[k]? = some e) : eAt es k = e := by simp [eAt, List.getD, h]
theorem drop_eAt {es : List Ed} {k : Nat} (h : k < es.length) : (flatE es).drop (k * 6) = iP (eAt es k).1 :: iP (eAt es k).2.1 :: iP (eAt es k).2.2.1 :: .list (eAt es k).2.2.2.1.length (flatPP (eAt es k).2.2.2.1) :: iP (eAt es k).2.2.2.2.1 :: iP (eAt es k).2.2.2.2.2 :: flatE (es.drop (k + 1)) := by
  rw [flatE_drop, List.drop_eq_getElem_cons h, eAt_get (List.getElem?_eq_getElem h)]
  rfl
theorem idx_okE {es : List Ed} {i : Int} (h : 0 ≤ i ∧ i < (es.length : Int)) : 0 ≤ i ∧ i < (es.length : Int) ∧ 0 < 6 ∧ (flatE es).length = es.length * 6 := ⟨h.1, h.2, by omega, flatE_length es⟩
theorem aggE : aggT Tryz.prog 33 = some true := by kernel_rfl
theorem szE : szOf Tryz.prog 33 = some 6 := by kernel_rfl
theorem partE {es : List Ed} {k : Nat} (h : k < es.length) : partA Tryz.prog 33 (upL ((flatE es).drop (k * 6))) 0 = some (edA (eAt es k)) := by
  rw [drop_eAt h]
  unfold partA
  rw [aggE, szE]
  simp [upL, up, edA, iP, iA]
noncomputable def bdLv : List Nat := (lives.lookup 37).getD []
def bdT (ns : List Nd) (i : Int) : List AVal := jk 1 ++ [.ptr 0 0 0, .junk, .ptr 1 0 0] ++ jk 10 ++ [nsA ns, iA ns.length, iA i] ++ jk 51
def bdS0 (ns : List Nd) (es : List Ed) : List AObj := [.box [nsA ns, esA es], .box [nilA, nilA]]
def bdS (ns : List Nd) (es : List Ed) (k : Nat) (xs : List AVal) : List AObj := [.box [nsA ns, esA es], .box [.row 16 0 5 0 k, nilA]] ++ List.replicate 14 .free ++ [.row 5 0 none xs]
def bdF (ns : List Nd) (es : List Ed) (i : Int) (q : Nd) : AExit × List AVal × List AObj :=
  (bif decide (i < (↑(List.length ns) : Int)) then (AExit.normal, (([AVal.junk, AVal.ptr 0 0 0, AVal.junk, AVal.ptr 1 0 0] ++ jk 10 ++ [AVal.list (List.length ns) (flatN ns), iA (Int.ofNat (List.length ns)), iA (IntKind.i64.wrap (i + 1))] ++ jk 51), ([AObj.box [AVal.list (List.length ns) (flatN ns), AVal.list (List.length es) (flatE es)], AObj.box [AVal.row 16 0 5 0 1, AVal.v (Value.slice none 0 0)], AObj.box [iA (Prod.fst q), iA (Prod.fst (Prod.fst (Prod.snd q))), iA (Prod.snd (Prod.fst (Prod.snd q))), iA (Prod.snd (Prod.snd q))]] ++ List.replicate 12 AObj.free ++ [AObj.row 5 0 none [iA (Prod.fst q), iA (Prod.fst (Prod.fst (Prod.snd q))), iA (Prod.snd (Prod.fst (Prod.snd q))), iA (Prod.fst (Prod.fst (Prod.snd q))), iA (Prod.snd (Prod.fst (Prod.snd q)))], AObj.row 5 0 none [iA (Prod.fst q), iA (Prod.fst (Prod.fst (Prod.snd q))), iA (Prod.snd (Prod.fst (Prod.snd q))), iA (Prod.fst (Prod.fst (Prod.snd q))), iA (Prod.snd (Prod.fst (Prod.snd q)))], AObj.free, AObj.free, AObj.free]))) else (AExit.exit 0, (([AVal.junk, AVal.ptr 0 0 0, AVal.junk, AVal.ptr 1 0 0] ++ jk 10 ++ [AVal.list (List.length ns) (flatN ns), iA (Int.ofNat (List.length ns)), iA i, bA false] ++ jk 50), ([AObj.box [AVal.list (List.length ns) (flatN ns), AVal.list (List.length es) (flatE es)], AObj.box [AVal.v (Value.slice none 0 0), AVal.v (Value.slice none 0 0)]]))))
theorem bdF_eq (ns : List Nd) (es : List Ed) (i : Int) (q : Nd) (b0 : (decide (i < (↑(List.length ns) : Int))) = true → (0 : Int) ≤ i ∧ (i : Int) < (↑(List.length ns) : Int)) (e0 : (decide (i < (↑(List.length ns) : Int))) = true → partA (Cfg.P (cfM KX3)) 30 (upL (List.drop (Int.toNat i * 4) (flatN ns))) 0 = some (ndA q)) : evalC (cfM KX3) (evalF (cfM KX3) 60) (bdLv) 0 0 60 (loopAt Tryz.f37 0) (bdT ns i) (bdS0 ns es) = some (bdF ns es i q) := by
  have key := fun (bs : List Bool) (r : AExit × List AVal × List AObj) (ob : List Prop) (h : pathP (cfM KX3) (evalF (cfM KX3) 60) (bdLv) 0 0 60 [(4, 0, Hint.idx), (4, 1, Hint.load (ndA q))] (loopAt Tryz.f37 0) (bdT ns i) (bdS0 ns es) bs [] = .ok (r.1, r.2.1, r.2.2, ob)) (hp : allOb ob) => pathP_ok h hp
  unfold bdF
  exact bif_case (P := fun r => evalC (cfM KX3) (evalF (cfM KX3) 60) (bdLv) 0 0 60 (loopAt Tryz.f37 0) (bdT ns i) (bdS0 ns es) = some r)
    (fun h0 => key [true] ((AExit.normal, (([AVal.junk, AVal.ptr 0 0 0, AVal.junk, AVal.ptr 1 0 0] ++ jk 10 ++ [AVal.list (List.length ns) (flatN ns), iA (Int.ofNat (List.length ns)), iA (IntKind.i64.wrap (i + 1))] ++ jk 51), ([AObj.box [AVal.list (List.length ns) (flatN ns), AVal.list (List.length es) (flatE es)], AObj.box [AVal.row 16 0 5 0 1, AVal.v (Value.slice none 0 0)], AObj.box [iA (Prod.fst q), iA (Prod.fst (Prod.fst (Prod.snd q))), iA (Prod.snd (Prod.fst (Prod.snd q))), iA (Prod.snd (Prod.snd q))]] ++ List.replicate 12 AObj.free ++ [AObj.row 5 0 none [iA (Prod.fst q), iA (Prod.fst (Prod.fst (Prod.snd q))), iA (Prod.snd (Prod.fst (Prod.snd q))), iA (Prod.fst (Prod.fst (Prod.snd q))), iA (Prod.snd (Prod.fst (Prod.snd q)))], AObj.row 5 0 none [iA (Prod.fst q), iA (Prod.fst (Prod.fst (Prod.snd q))), iA (Prod.snd (Prod.fst (Prod.snd q))), iA (Prod.fst (Prod.fst (Prod.snd q))), iA (Prod.snd (Prod.fst (Prod.snd q)))], AObj.free, AObj.free, AObj.free])))) _ (by kernel_rfl) (allOb_cons (by exact (e0 h0)) (allOb_cons (idx_okN (b0 h0)) (allOb_cons h0 allOb_nil))))
    (fun h0 => key [false] ((AExit.exit 0, (([AVal.junk, AVal.ptr 0 0 0, AVal.junk, AVal.ptr 1 0 0] ++ jk 10 ++ [AVal.list (List.length ns) (flatN ns), iA (Int.ofNat (List.length ns)), iA i, bA false] ++ jk 50), ([AObj.box [AVal.list (List.length ns) (flatN ns), AVal.list (List.length es) (flatE es)], AObj.box [AVal.v (Value.slice none 0 0), AVal.v (Value.slice none 0 0)]])))) _ (by kernel_rfl) (allOb_cons h0 allOb_nil))
def bdG (ns : List Nd) (es : List Ed) (i : Int) (q : Nd) (k : Nat) (xs : List AVal) : AExit × List AVal × List AObj :=
  (bif decide (i < (↑(List.length ns) : Int)) then (AExit.normal, (([AVal.junk, AVal.ptr 0 0 0, AVal.junk, AVal.ptr 1 0 0] ++ jk 10 ++ [AVal.list (List.length ns) (flatN ns), iA (Int.ofNat (List.length ns)), iA (IntKind.i64.wrap (i + 1))] ++ jk 51), ([AObj.box [AVal.list (List.length ns) (flatN ns), AVal.list (List.length es) (flatE es)], AObj.box [AVal.row 16 1 5 0 (k + 1), AVal.v (Value.slice none 0 0)], AObj.box [iA (Prod.fst q), iA (Prod.fst (Prod.fst (Prod.snd q))), iA (Prod.snd (Prod.fst (Prod.snd q))), iA (Prod.snd (Prod.snd q))]] ++ List.replicate 13 AObj.free ++ [AObj.row 5 1 none (xs ++ [iA (Prod.fst q), iA (Prod.fst (Prod.fst (Prod.snd q))), iA (Prod.snd (Prod.fst (Prod.snd q))), iA (Prod.fst (Prod.fst (Prod.snd q))), iA (Prod.snd (Prod.fst (Prod.snd q)))])] ++ List.replicate 12 AObj.free ++ [AObj.row 5 0 none [iA (Prod.fst q), iA (Prod.fst (Prod.fst (Prod.snd q))), iA (Prod.snd (Prod.fst (Prod.snd q))), iA (Prod.fst (Prod.fst (Prod.snd q))), iA (Prod.snd (Prod.fst (Prod.snd q)))]] ++ List.replicate 4 AObj.free))) else (AExit.exit 0, (([AVal.junk, AVal.ptr 0 0 0, AVal.junk, AVal.ptr 1 0 0] ++ jk 10 ++ [AVal.list (List.length ns) (flatN ns), iA (Int.ofNat (List.length ns)), iA i, bA false] ++ jk 50), ([AObj.box [AVal.list (List.length ns) (flatN ns), AVal.list (List.length es) (flatE es)], AObj.box [AVal.row 16 0 5 0 k, AVal.v (Value.slice none 0 0)]] ++ List.replicate 14 AObj.free ++ [AObj.row 5 0 none xs]))))
theorem bdG_eq (ns : List Nd) (es : List Ed) (i : Int) (q : Nd) (k : Nat) (xs : List AVal) (b0 : (decide (i < (↑(List.length ns) : Int))) = true → (0 : Int) ≤ i ∧ (i : Int) < (↑(List.length ns) : Int)) (e0 : (decide (i < (↑(List.length ns) : Int))) = true → partA (Cfg.P (cfM KX3)) 30 (upL (List.drop (Int.toNat i * 4) (flatN ns))) 0 = some (ndA q)) (e1 : (decide (i < (↑(List.length ns) : Int))) = true → (0 + k) * 5 = List.length xs ∧ (k + 1) * 40 ≤ 140737488355328 ∧ k + 1 ≤ 9223372036854775807) : evalC (cfM KX3) (evalF (cfM KX3) 60) (bdLv) 0 0 60 (loopAt Tryz.f37 0) (bdT ns i) (bdS ns es k xs) = some (bdG ns es i q k xs) := by
  have key := fun (bs : List Bool) (r : AExit × List AVal × List AObj) (ob : List Prop) (h : pathP (cfM KX3) (evalF (cfM KX3) 60) (bdLv) 0 0 60 [(4, 0, Hint.idx), (4, 1, Hint.load (ndA q)), (5, 13, Hint.app)] (loopAt Tryz.f37 0) (bdT ns i) (bdS ns es k xs) bs [] = .ok (r.1, r.2.1, r.2.2, ob)) (hp : allOb ob) => pathP_ok h hp
  unfold bdG
  exact bif_case (P := fun r => evalC (cfM KX3) (evalF (cfM KX3) 60) (bdLv) 0 0 60 (loopAt Tryz.f37 0) (bdT ns i) (bdS ns es k xs) = some r)
    (fun h0 => key [true] ((AExit.normal, (([AVal.junk, AVal.ptr 0 0 0, AVal.junk, AVal.ptr 1 0 0] ++ jk 10 ++ [AVal.list (List.length ns) (flatN ns), iA (Int.ofNat (List.length ns)), iA (IntKind.i64.wrap (i + 1))] ++ jk 51), ([AObj.box [AVal.list (List.length ns) (flatN ns), AVal.list (List.length es) (flatE es)], AObj.box [AVal.row 16 1 5 0 (k + 1), AVal.v (Value.slice none 0 0)], AObj.box [iA (Prod.fst q), iA (Prod.fst (Prod.fst (Prod.snd q))), iA (Prod.snd (Prod.fst (Prod.snd q))), iA (Prod.snd (Prod.snd q))]] ++ List.replicate 13 AObj.free ++ [AObj.row 5 1 none (xs ++ [iA (Prod.fst q), iA (Prod.fst (Prod.fst (Prod.snd q))), iA (Prod.snd (Prod.fst (Prod.snd q))), iA (Prod.fst (Prod.fst (Prod.snd q))), iA (Prod.snd (Prod.fst (Prod.snd q)))])] ++ List.replicate 12 AObj.free ++ [AObj.row 5 0 none [iA (Prod.fst q), iA (Prod.fst (Prod.fst (Prod.snd q))), iA (Prod.snd (Prod.fst (Prod.snd q))), iA (Prod.fst (Prod.fst (Prod.snd q))), iA (Prod.snd (Prod.fst (Prod.snd q)))]] ++ List.replicate 4 AObj.free)))) _ (by kernel_rfl) (allOb_cons (by exact (e1 h0)) (allOb_cons (by exact (e0 h0)) (allOb_cons (idx_okN (b0 h0)) (allOb_cons h0 allOb_nil)))))
    (fun h0 => key [false] ((AExit.exit 0, (([AVal.junk, AVal.ptr 0 0 0, AVal.junk, AVal.ptr 1 0 0] ++ jk 10 ++ [AVal.list (List.length ns) (flatN ns), iA (Int.ofNat (List.length ns)), iA i, bA false] ++ jk 50), ([AObj.box [AVal.list (List.length ns) (flatN ns), AVal.list (List.length es) (flatE es)], AObj.box [AVal.row 16 0 5 0 k, AVal.v (Value.slice none 0 0)]] ++ List.replicate 14 AObj.free ++ [AObj.row 5 0 none xs])))) _ (by kernel_rfl) (allOb_cons h0 allOb_nil))
noncomputable def bdB : Code := Tryz.f37.body.getD .skip
noncomputable def bd2 : Code := c1 (c2 (c2 bdB))
noncomputable def bd3 : Code := c1 (c2 (c2 (c2 bdB)))
noncomputable def bd4 : Code := c2 (c2 (c2 (c2 bdB)))
noncomputable abbrev bdK : Code := loopAt Tryz.f37 0
noncomputable abbrev beK : Code := loopAt Tryz.f37 1
theorem bd_body : bdB = .seq (c1 bdB) (.seq (c1 (c2 bdB)) (.seq (.seq (c1 bd2) (.block 0 (.loop bdK))) (.seq (.seq (c1 bd3) (.block 2 (.loop beK))) bd4))) := by kernel_rfl
end Go.Proofs.YtkkgimhbliocoaaGreat
/- find.Build: its rounds over edges. -/
namespace Go.Proofs.YtkkgimhbliocoaaGreat
open Go Vm M
set_option linter.unusedVariables false
set_option linter.unusedSimpArgs false
def beT (es : List Ed) (i : Int) : List AVal := jk 3 ++ [.ptr 1 0 0] ++ jk 34 ++ [esA es, iA es.length, iA i] ++ jk 27
def bfS (k : Nat) (xs : List AVal) : List AObj := [.free, .box [.row 16 0 5 0 k, nilA]] ++ List.replicate 14 .free ++ [.row 5 0 none xs]
def beS (k : Nat) (xs : List AVal) (j : Nat) (ys : List AVal) : List AObj := [.free, .box [.row 16 0 5 0 k, .row 28 0 5 0 j]] ++ List.replicate 14 .free ++ [.row 5 0 none xs] ++ List.replicate 11 .free ++ [.row 5 0 none ys]
def beF (es : List Ed) (i : Int) (q : Ed) (lo : P2) (hi : P2) (okb : Bool) (k : Nat) (xs : List AVal) : AExit × List AVal × List AObj :=
  (bif decide (i < (↑(List.length es) : Int)) then (bif okb then (AExit.normal, (([AVal.junk, AVal.junk, AVal.junk, AVal.ptr 1 0 0] ++ jk 34 ++ [AVal.list (List.length es) (flatE es), iA (Int.ofNat (List.length es)), iA (IntKind.i64.wrap (i + 1))] ++ jk 27), ([AObj.box [iA (Prod.fst q), iA (Prod.fst (Prod.snd q)), iA (Prod.fst (Prod.snd (Prod.snd q))), slA (Prod.fst (Prod.snd (Prod.snd (Prod.snd q)))), iA (Prod.fst (Prod.snd (Prod.snd (Prod.snd (Prod.snd q))))), iA (Prod.snd (Prod.snd (Prod.snd (Prod.snd (Prod.snd q)))))], AObj.box [AVal.row 16 0 5 0 k, AVal.row 28 0 5 0 1], AObj.box [iA (Prod.fst lo), iA (Prod.snd lo)], AObj.box [iA (Prod.fst hi), iA (Prod.snd hi)]] ++ List.replicate 12 AObj.free ++ [AObj.row 5 0 none xs] ++ List.replicate 10 AObj.free ++ [AObj.row 5 0 none [iA (Prod.fst q), iA (Prod.fst lo), iA (Prod.snd lo), iA (Prod.fst hi), iA (Prod.snd hi)], AObj.row 5 0 none [iA (Prod.fst q), iA (Prod.fst lo), iA (Prod.snd lo), iA (Prod.fst hi), iA (Prod.snd hi)], AObj.free, AObj.free, AObj.free]))) else (AExit.normal, (([AVal.junk, AVal.junk, AVal.junk, AVal.ptr 1 0 0] ++ jk 34 ++ [AVal.list (List.length es) (flatE es), iA (Int.ofNat (List.length es)), iA (IntKind.i64.wrap (i + 1))] ++ jk 27), ([AObj.box [iA (Prod.fst q), iA (Prod.fst (Prod.snd q)), iA (Prod.fst (Prod.snd (Prod.snd q))), slA (Prod.fst (Prod.snd (Prod.snd (Prod.snd q)))), iA (Prod.fst (Prod.snd (Prod.snd (Prod.snd (Prod.snd q))))), iA (Prod.snd (Prod.snd (Prod.snd (Prod.snd (Prod.snd q)))))], AObj.box [AVal.row 16 0 5 0 k, AVal.v (Value.slice none 0 0)], AObj.box [iA (Prod.fst lo), iA (Prod.snd lo)], AObj.box [iA (Prod.fst hi), iA (Prod.snd hi)]] ++ List.replicate 12 AObj.free ++ [AObj.row 5 0 none xs])))) else (AExit.exit 2, (([AVal.junk, AVal.junk, AVal.junk, AVal.ptr 1 0 0] ++ jk 34 ++ [AVal.list (List.length es) (flatE es), iA (Int.ofNat (List.length es)), iA i, bA false] ++ jk 26), ([AObj.free, AObj.box [AVal.row 16 0 5 0 k, AVal.v (Value.slice none 0 0)]] ++ List.replicate 14 AObj.free ++ [AObj.row 5 0 none xs]))))
theorem beF_eq (es : List Ed) (i : Int) (q : Ed) (lo : P2) (hi : P2) (okb : Bool) (k : Nat) (xs : List AVal) (b0 : (decide (i < (↑(List.length es) : Int))) = true → (0 : Int) ≤ i ∧ (i : Int) < (↑(List.length es) : Int)) (e0 : (decide (i < (↑(List.length es) : Int))) = true → partA (Cfg.P (cfM KX3)) 33 (upL (List.drop (Int.toNat i * 6) (flatE es))) 0 = some (edA q)) (e1 : (decide (i < (↑(List.length es) : Int))) = true → pureCall (cfM KX3) (evalF (cfM KX3) 60) 80 [slP (Prod.fst (Prod.snd (Prod.snd (Prod.snd q))))] = some (PVal.tup [ptP lo, ptP hi, bP okb])) : evalC (cfM KX3) (evalF (cfM KX3) 60) (bdLv) 0 0 60 (loopAt Tryz.f37 1) (beT es i) (bfS k xs) = some (beF es i q lo hi okb k xs) := by
  have key := fun (bs : List Bool) (r : AExit × List AVal × List AObj) (ob : List Prop) (h : pathP (cfM KX3) (evalF (cfM KX3) 60) (bdLv) 0 0 60 [(9, 0, Hint.idx), (9, 1, Hint.load (edA q)), (10, 2, Hint.pcall (PVal.tup [ptP lo, ptP hi, bP okb]))] (loopAt Tryz.f37 1) (beT es i) (bfS k xs) bs [] = .ok (r.1, r.2.1, r.2.2, ob)) (hp : allOb ob) => pathP_ok h hp
  unfold beF
  exact bif_case (P := fun r => evalC (cfM KX3) (evalF (cfM KX3) 60) (bdLv) 0 0 60 (loopAt Tryz.f37 1) (beT es i) (bfS k xs) = some r)
    (fun h0 => bif_case (P := fun r => evalC (cfM KX3) (evalF (cfM KX3) 60) (bdLv) 0 0 60 (loopAt Tryz.f37 1) (beT es i) (bfS k xs) = some r)
     (fun h1 => key [true, true] ((AExit.normal, (([AVal.junk, AVal.junk, AVal.junk, AVal.ptr 1 0 0] ++ jk 34 ++ [AVal.list (List.length es) (flatE es), iA (Int.ofNat (List.length es)), iA (IntKind.i64.wrap (i + 1))] ++ jk 27), ([AObj.box [iA (Prod.fst q), iA (Prod.fst (Prod.snd q)), iA (Prod.fst (Prod.snd (Prod.snd q))), slA (Prod.fst (Prod.snd (Prod.snd (Prod.snd q)))), iA (Prod.fst (Prod.snd (Prod.snd (Prod.snd (Prod.snd q))))), iA (Prod.snd (Prod.snd (Prod.snd (Prod.snd (Prod.snd q)))))], AObj.box [AVal.row 16 0 5 0 k, AVal.row 28 0 5 0 1], AObj.box [iA (Prod.fst lo), iA (Prod.snd lo)], AObj.box [iA (Prod.fst hi), iA (Prod.snd hi)]] ++ List.replicate 12 AObj.free ++ [AObj.row 5 0 none xs] ++ List.replicate 10 AObj.free ++ [AObj.row 5 0 none [iA (Prod.fst q), iA (Prod.fst lo), iA (Prod.snd lo), iA (Prod.fst hi), iA (Prod.snd hi)], AObj.row 5 0 none [iA (Prod.fst q), iA (Prod.fst lo), iA (Prod.snd lo), iA (Prod.fst hi), iA (Prod.snd hi)], AObj.free, AObj.free, AObj.free])))) _ (by kernel_rfl) (allOb_cons h1 (allOb_cons (by exact (e1 h0)) (allOb_cons (by exact (e0 h0)) (allOb_cons (idx_okE (b0 h0)) (allOb_cons h0 allOb_nil))))))
     (fun h1 => key [true, false] ((AExit.normal, (([AVal.junk, AVal.junk, AVal.junk, AVal.ptr 1 0 0] ++ jk 34 ++ [AVal.list (List.length es) (flatE es), iA (Int.ofNat (List.length es)), iA (IntKind.i64.wrap (i + 1))] ++ jk 27), ([AObj.box [iA (Prod.fst q), iA (Prod.fst (Prod.snd q)), iA (Prod.fst (Prod.snd (Prod.snd q))), slA (Prod.fst (Prod.snd (Prod.snd (Prod.snd q)))), iA (Prod.fst (Prod.snd (Prod.snd (Prod.snd (Prod.snd q))))), iA (Prod.snd (Prod.snd (Prod.snd (Prod.snd (Prod.snd q)))))], AObj.box [AVal.row 16 0 5 0 k, AVal.v (Value.slice none 0 0)], AObj.box [iA (Prod.fst lo), iA (Prod.snd lo)], AObj.box [iA (Prod.fst hi), iA (Prod.snd hi)]] ++ List.replicate 12 AObj.free ++ [AObj.row 5 0 none xs])))) _ (by kernel_rfl) (allOb_cons h1 (allOb_cons (by exact (e1 h0)) (allOb_cons (by exact (e0 h0)) (allOb_cons (idx_okE (b0 h0)) (allOb_cons h0 allOb_nil)))))))
    (fun h0 => key [false] ((AExit.exit 2, (([AVal.junk, AVal.junk, AVal.junk, AVal.ptr 1 0 0] ++ jk 34 ++ [AVal.list (List.length es) (flatE es), iA (Int.ofNat (List.length es)), iA i, bA false] ++ jk 26), ([AObj.free, AObj.box [AVal.row 16 0 5 0 k, AVal.v (Value.slice none 0 0)]] ++ List.replicate 14 AObj.free ++ [AObj.row 5 0 none xs])))) _ (by kernel_rfl) (allOb_cons h0 allOb_nil))
def beG (es : List Ed) (i : Int) (q : Ed) (lo : P2) (hi : P2) (okb : Bool) (k : Nat) (xs : List AVal) (j : Nat) (ys : List AVal) : AExit × List AVal × List AObj :=
  (bif decide (i < (↑(List.length es) : Int)) then (bif okb then (AExit.normal, (([AVal.junk, AVal.junk, AVal.junk, AVal.ptr 1 0 0] ++ jk 34 ++ [AVal.list (List.length es) (flatE es), iA (Int.ofNat (List.length es)), iA (IntKind.i64.wrap (i + 1))] ++ jk 27), ([AObj.box [iA (Prod.fst q), iA (Prod.fst (Prod.snd q)), iA (Prod.fst (Prod.snd (Prod.snd q))), slA (Prod.fst (Prod.snd (Prod.snd (Prod.snd q)))), iA (Prod.fst (Prod.snd (Prod.snd (Prod.snd (Prod.snd q))))), iA (Prod.snd (Prod.snd (Prod.snd (Prod.snd (Prod.snd q)))))], AObj.box [AVal.row 16 0 5 0 k, AVal.row 28 1 5 0 (j + 1)], AObj.box [iA (Prod.fst lo), iA (Prod.snd lo)], AObj.box [iA (Prod.fst hi), iA (Prod.snd hi)]] ++ List.replicate 12 AObj.free ++ [AObj.row 5 0 none xs] ++ List.replicate 11 AObj.free ++ [AObj.row 5 1 none (ys ++ [iA (Prod.fst q), iA (Prod.fst lo), iA (Prod.snd lo), iA (Prod.fst hi), iA (Prod.snd hi)])] ++ List.replicate 10 AObj.free ++ [AObj.row 5 0 none [iA (Prod.fst q), iA (Prod.fst lo), iA (Prod.snd lo), iA (Prod.fst hi), iA (Prod.snd hi)]] ++ List.replicate 4 AObj.free))) else (AExit.normal, (([AVal.junk, AVal.junk, AVal.junk, AVal.ptr 1 0 0] ++ jk 34 ++ [AVal.list (List.length es) (flatE es), iA (Int.ofNat (List.length es)), iA (IntKind.i64.wrap (i + 1))] ++ jk 27), ([AObj.box [iA (Prod.fst q), iA (Prod.fst (Prod.snd q)), iA (Prod.fst (Prod.snd (Prod.snd q))), slA (Prod.fst (Prod.snd (Prod.snd (Prod.snd q)))), iA (Prod.fst (Prod.snd (Prod.snd (Prod.snd (Prod.snd q))))), iA (Prod.snd (Prod.snd (Prod.snd (Prod.snd (Prod.snd q)))))], AObj.box [AVal.row 16 0 5 0 k, AVal.row 28 0 5 0 j], AObj.box [iA (Prod.fst lo), iA (Prod.snd lo)], AObj.box [iA (Prod.fst hi), iA (Prod.snd hi)]] ++ List.replicate 12 AObj.free ++ [AObj.row 5 0 none xs] ++ List.replicate 11 AObj.free ++ [AObj.row 5 0 none ys])))) else (AExit.exit 2, (([AVal.junk, AVal.junk, AVal.junk, AVal.ptr 1 0 0] ++ jk 34 ++ [AVal.list (List.length es) (flatE es), iA (Int.ofNat (List.length es)), iA i, bA false] ++ jk 26), ([AObj.free, AObj.box [AVal.row 16 0 5 0 k, AVal.row 28 0 5 0 j]] ++ List.replicate 14 AObj.free ++ [AObj.row 5 0 none xs] ++ List.replicate 11 AObj.free ++ [AObj.row 5 0 none ys]))))
theorem beG_eq (es : List Ed) (i : Int) (q : Ed) (lo : P2) (hi : P2) (okb : Bool) (k : Nat) (xs : List AVal) (j : Nat) (ys : List AVal) (b0 : (decide (i < (↑(List.length es) : Int))) = true → (0 : Int) ≤ i ∧ (i : Int) < (↑(List.length es) : Int)) (e0 : (decide (i < (↑(List.length es) : Int))) = true → partA (Cfg.P (cfM KX3)) 33 (upL (List.drop (Int.toNat i * 6) (flatE es))) 0 = some (edA q)) (e1 : (decide (i < (↑(List.length es) : Int))) = true → pureCall (cfM KX3) (evalF (cfM KX3) 60) 80 [slP (Prod.fst (Prod.snd (Prod.snd (Prod.snd q))))] = some (PVal.tup [ptP lo, ptP hi, bP okb])) (e2 : (decide (i < (↑(List.length es) : Int))) = true → (okb) = true → (0 + j) * 5 = List.length ys ∧ (j + 1) * 40 ≤ 140737488355328 ∧ j + 1 ≤ 9223372036854775807) : evalC (cfM KX3) (evalF (cfM KX3) 60) (bdLv) 0 0 60 (loopAt Tryz.f37 1) (beT es i) (beS k xs j ys) = some (beG es i q lo hi okb k xs j ys) := by
  have key := fun (bs : List Bool) (r : AExit × List AVal × List AObj) (ob : List Prop) (h : pathP (cfM KX3) (evalF (cfM KX3) 60) (bdLv) 0 0 60 [(9, 0, Hint.idx), (9, 1, Hint.load (edA q)), (10, 2, Hint.pcall (PVal.tup [ptP lo, ptP hi, bP okb])), (12, 11, Hint.app)] (loopAt Tryz.f37 1) (beT es i) (beS k xs j ys) bs [] = .ok (r.1, r.2.1, r.2.2, ob)) (hp : allOb ob) => pathP_ok h hp
  unfold beG
  exact bif_case (P := fun r => evalC (cfM KX3) (evalF (cfM KX3) 60) (bdLv) 0 0 60 (loopAt Tryz.f37 1) (beT es i) (beS k xs j ys) = some r)
    (fun h0 => bif_case (P := fun r => evalC (cfM KX3) (evalF (cfM KX3) 60) (bdLv) 0 0 60 (loopAt Tryz.f37 1) (beT es i) (beS k xs j ys) = some r)
     (fun h1 => key [true, true] ((AExit.normal, (([AVal.junk, AVal.junk, AVal.junk, AVal.ptr 1 0 0] ++ jk 34 ++ [AVal.list (List.length es) (flatE es), iA (Int.ofNat (List.length es)), iA (IntKind.i64.wrap (i + 1))] ++ jk 27), ([AObj.box [iA (Prod.fst q), iA (Prod.fst (Prod.snd q)), iA (Prod.fst (Prod.snd (Prod.snd q))), slA (Prod.fst (Prod.snd (Prod.snd (Prod.snd q)))), iA (Prod.fst (Prod.snd (Prod.snd (Prod.snd (Prod.snd q))))), iA (Prod.snd (Prod.snd (Prod.snd (Prod.snd (Prod.snd q)))))], AObj.box [AVal.row 16 0 5 0 k, AVal.row 28 1 5 0 (j + 1)], AObj.box [iA (Prod.fst lo), iA (Prod.snd lo)], AObj.box [iA (Prod.fst hi), iA (Prod.snd hi)]] ++ List.replicate 12 AObj.free ++ [AObj.row 5 0 none xs] ++ List.replicate 11 AObj.free ++ [AObj.row 5 1 none (ys ++ [iA (Prod.fst q), iA (Prod.fst lo), iA (Prod.snd lo), iA (Prod.fst hi), iA (Prod.snd hi)])] ++ List.replicate 10 AObj.free ++ [AObj.row 5 0 none [iA (Prod.fst q), iA (Prod.fst lo), iA (Prod.snd lo), iA (Prod.fst hi), iA (Prod.snd hi)]] ++ List.replicate 4 AObj.free)))) _ (by kernel_rfl) (allOb_cons (by exact (e2 h0 h1)) (allOb_cons h1 (allOb_cons (by exact (e1 h0)) (allOb_cons (by exact (e0 h0)) (allOb_cons (idx_okE (b0 h0)) (allOb_cons h0 allOb_nil)))))))
     (fun h1 => key [true, false] ((AExit.normal, (([AVal.junk, AVal.junk, AVal.junk, AVal.ptr 1 0 0] ++ jk 34 ++ [AVal.list (List.length es) (flatE es), iA (Int.ofNat (List.length es)), iA (IntKind.i64.wrap (i + 1))] ++ jk 27), ([AObj.box [iA (Prod.fst q), iA (Prod.fst (Prod.snd q)), iA (Prod.fst (Prod.snd (Prod.snd q))), slA (Prod.fst (Prod.snd (Prod.snd (Prod.snd q)))), iA (Prod.fst (Prod.snd (Prod.snd (Prod.snd (Prod.snd q))))), iA (Prod.snd (Prod.snd (Prod.snd (Prod.snd (Prod.snd q)))))], AObj.box [AVal.row 16 0 5 0 k, AVal.row 28 0 5 0 j], AObj.box [iA (Prod.fst lo), iA (Prod.snd lo)], AObj.box [iA (Prod.fst hi), iA (Prod.snd hi)]] ++ List.replicate 12 AObj.free ++ [AObj.row 5 0 none xs] ++ List.replicate 11 AObj.free ++ [AObj.row 5 0 none ys])))) _ (by kernel_rfl) (allOb_cons h1 (allOb_cons (by exact (e1 h0)) (allOb_cons (by exact (e0 h0)) (allOb_cons (idx_okE (b0 h0)) (allOb_cons h0 allOb_nil)))))))
    (fun h0 => key [false] ((AExit.exit 2, (([AVal.junk, AVal.junk, AVal.junk, AVal.ptr 1 0 0] ++ jk 34 ++ [AVal.list (List.length es) (flatE es), iA (Int.ofNat (List.length es)), iA i, bA false] ++ jk 26), ([AObj.free, AObj.box [AVal.row 16 0 5 0 k, AVal.row 28 0 5 0 j]] ++ List.replicate 14 AObj.free ++ [AObj.row 5 0 none xs] ++ List.replicate 11 AObj.free ++ [AObj.row 5 0 none ys])))) _ (by kernel_rfl) (allOb_cons h0 allOb_nil))
end Go.Proofs.YtkkgimhbliocoaaGreat
/- find.Build: the boxes of a plan's nodes and edges. -/
namespace Go.Proofs.YtkkgimhbliocoaaGreat
open Go Vm M
set_option linter.unusedVariables false
set_option linter.unusedSectionVars false
set_option linter.unusedSimpArgs false
/-! ## rows of plain values -/
theorem mark_plainV {lo n : Nat} {S : List AObj} {x : AVal} (h : plainV x = true) : Vm.mark lo n S x = S := by
  cases n with
  | zero => rfl
  | succ n => cases x <;> simp only [plainV, Bool.false_eq_true] at h <;> rfl
theorem mark_plains {lo n : Nat} {S : List AObj} : ∀ {xs : List AVal}, xs.all plainV = true → xs.foldl (Vm.mark lo n) S = S
  | [], _ => rfl
  | x :: xs, h => by
    simp only [List.all_cons, Bool.and_eq_true] at h
    rw [List.foldl_cons, mark_plainV h.1]
    exact mark_plains h.2
theorem mark_rowG {S : List AObj} {o e ep sz off len n : Nat} {fz : Option Nat} {xs : List AVal} (h : S[o]? = some (.row sz e fz xs)) (hp : xs.all plainV = true) : Vm.mark 0 (n + 1) S (.row o ep sz off len) = S.set o (.row sz e (some xs.length) xs) := by
  simp only [Vm.mark, h]
  rw [if_pos (Nat.zero_le _), mark_plains hp]
theorem upLX : ∀ xs : List PVal, (upL xs).length = xs.length
  | [] => rfl
  | x :: xs => by simp [upL, upLX xs]
def isPV : PVal → Bool
  | .v _ => true
  | _ => false
theorem peek_flatV (S : List AObj) (n : Nat) : ∀ {ps : List PVal}, ps.all isPV = true → mapO (peek S (n + 1)) (upL ps) = some ps
  | [], _ => rfl
  | p :: ps, h => by
    simp only [List.all_cons, Bool.and_eq_true] at h
    have ih := peek_flatV S n h.2
    cases p <;> simp only [isPV, Bool.false_eq_true] at h
    · simp only [upL, up, mapO, peek, ih]
    all_goals exact absurd h.1 (by simp)
theorem peek_rowG {S : List AObj} {o n e sz len : Nat} {ps : List PVal} (h : S[o]? = some (.row sz e (some (upL ps).length) (upL ps))) (hl : ps.length = len * sz) (hv : ps.all isPV = true) : peek S (n + 2) (.row o e sz 0 len) = some (.list len ps) := by
  simp only [peek, h]
  have hc : cutA (upL ps) sz 0 (0 + len) = upL ps := by
    unfold cutA
    rw [Nat.zero_mul, List.drop_zero, List.take_of_length_le (by rw [upLX, hl, Nat.zero_add, Nat.sub_zero]; exact Nat.le_refl _)]
  rw [if_pos ⟨trivial, trivial, by rw [upLX, hl, Nat.zero_add]; exact Nat.le_refl _⟩, hc, peek_flatV S n hv]
  rfl
theorem upL_plain : ∀ {ps : List PVal}, ps.all isPV = true → (upL ps).all plainV = true
  | [], _ => rfl
  | p :: ps, h => by
    simp only [List.all_cons, Bool.and_eq_true] at h
    have ih := upL_plain h.2
    cases p <;> simp only [isPV, Bool.false_eq_true] at h
    · simp only [upL, up, List.all_cons, plainV, Bool.true_and, ih]
    all_goals exact absurd h.1 (by simp)
/-! ## boxes -/
abbrev Bx := Int × P2 × P2
def flatX : List Bx → List PVal
  | [] => []
  | b :: bs => iP b.1 :: iP b.2.1.1 :: iP b.2.1.2 :: iP b.2.2.1 :: iP b.2.2.2 :: flatX bs
def bsP (bs : List Bx) : PVal := .list bs.length (flatX bs)
def bsA (bs : List Bx) : AVal := .list bs.length (flatX bs)
def bAt (bs : List Bx) (k : Nat) : Bx := bs.getD k (0, (0, 0), (0, 0))
def bxCells (b : Bx) : List AVal := [iA b.1, iA b.2.1.1, iA b.2.1.2, iA b.2.2.1, iA b.2.2.2]
theorem flatX_length : ∀ bs : List Bx, (flatX bs).length = bs.length * 5
  | [] => rfl
  | b :: bs => by simp [flatX, flatX_length bs]; omega
theorem flatX_isV : ∀ bs : List Bx, (flatX bs).all isPV = true
  | [] => rfl
  | b :: bs => by simp [flatX, flatX_isV bs, iP, isPV]
theorem flatX_snoc : ∀ (bs : List Bx) (b : Bx), upL (flatX (bs ++ [b])) = upL (flatX bs) ++ bxCells b
  | [], b => rfl
  | c :: bs, b => by simp only [List.cons_append, flatX, upL, flatX_snoc bs b]
def nBx (n : Nd) : Bx := (n.1, n.2.1, n.2.1)
def eBx (e : Ed) : Bx := (e.1, (boxK e.2.2.2.1 e.2.2.2.1.length).1, (boxK e.2.2.2.1 e.2.2.2.1.length).2)
def xsN (ns : List Nd) (k : Nat) : List AVal := upL (flatX ((ns.take k).map nBx))
def xsE (es : List Ed) (k : Nat) : List AVal := upL (flatX ((es.take k).map eBx))
theorem xsN_succ {ns : List Nd} {k : Nat} (h : k < ns.length) : xsN ns (k + 1) = xsN ns k ++ bxCells (nBx (nAt ns k)) := by
  unfold xsN
  rw [List.take_add_one, List.getElem?_eq_getElem h, Option.toList_some, List.map_append, List.map_singleton, flatX_snoc, nAt_get (List.getElem?_eq_getElem h)]
theorem xsE_succ {es : List Ed} {k : Nat} (h : k < es.length) : xsE es (k + 1) = xsE es k ++ bxCells (eBx (eAt es k)) := by
  unfold xsE
  rw [List.take_add_one, List.getElem?_eq_getElem h, Option.toList_some, List.map_append, List.map_singleton, flatX_snoc, eAt_get (List.getElem?_eq_getElem h)]
theorem xsN_length {ns : List Nd} {k : Nat} (h : k ≤ ns.length) : (xsN ns k).length = k * 5 := by
  unfold xsN
  rw [upLX, flatX_length, List.length_map, List.length_take, Nat.min_eq_left h]
theorem xsE_length {es : List Ed} {k : Nat} (h : k ≤ es.length) : (xsE es k).length = k * 5 := by
  unfold xsE
  rw [upLX, flatX_length, List.length_map, List.length_take, Nat.min_eq_left h]
theorem xsN_plain (ns : List Nd) (k : Nat) : (xsN ns k).all plainV = true := upL_plain (flatX_isV _)
theorem xsE_plain (es : List Ed) (k : Nat) : (xsE es k).all plainV = true := upL_plain (flatX_isV _)
noncomputable abbrev c3X : Cfg := cfM KX3
theorem c3X_ok : CfgOk c3X := cfM_ok KX3
noncomputable abbrev ev3X : Ev := evalF c3X 60
theorem ev3X_ok : EvOk c3X ev3X := evalF_ok c3X_ok 60
theorem partN' {ns : List Nd} {k : Nat} (h : k < ns.length) : partA Tryz.prog 30 (upL ((flatN ns).drop (Int.toNat (k : Int) * 4))) 0 = some (ndA (nAt ns k)) := by
  rw [Int.toNat_natCast]; exact partN h
theorem partE' {es : List Ed} {k : Nat} (h : k < es.length) : partA Tryz.prog 33 (upL ((flatE es).drop (Int.toNat (k : Int) * 6))) 0 = some (edA (eAt es k)) := by
  rw [Int.toNat_natCast]; exact partE h
section
variable (ns : List Nd) (es : List Ed)
/-! ## nodes -/
theorem bd_first (h : 0 < ns.length) : EV c3X 0 bdK (bdT ns (0 : Nat)) (bdS0 ns es) .normal (bdT ns (1 : Nat)) (bdS ns es 1 (xsN ns 1)) := by
  have e := bdF_eq ns es (0 : Nat) (nAt ns 0) (fun _ => by omega) (fun _ => partN' h)
  unfold bdF at e
  rw [decide_eq_true (by omega : (((0 : Nat) : Int) < (ns.length : Int))), cond_true, wrS (by omega)] at e
  refine EV.tidy [16] (EV.of c3X_ok ev3X_ok e) (fun q hq y hy => ?_) ?_
  · simp only [List.mem_singleton] at hq
    subst hq
    have : y = .row 5 0 none (bxCells (nBx (nAt ns 0))) := (Option.some.inj hy).symm
    subst this
    rfl
  · rw [show xsN ns 1 = bxCells (nBx (nAt ns 0)) from xsN_succ h]
    kernel_rfl
theorem bd_round (hl : ns.length ≤ 1000) {k : Nat} (h : k < ns.length) : EV c3X 0 bdK (bdT ns k) (bdS ns es k (xsN ns k)) .normal (bdT ns (k + 1 : Nat)) (bdS ns es (k + 1) (xsN ns (k + 1))) := by
  have e := bdG_eq ns es k (nAt ns k) k (xsN ns k) (fun _ => by omega) (fun _ => partN' h) (fun _ => ⟨by rw [xsN_length (by omega)]; omega, by omega, by omega⟩)
  unfold bdG at e
  rw [decide_eq_true (by omega : ((k : Int) < (ns.length : Int))), cond_true, wrS (by omega)] at e
  refine EV.tidy [16] (EV.of c3X_ok ev3X_ok e) (fun q hq y hy => ?_) ?_
  · simp only [List.mem_singleton] at hq
    subst hq
    have : y = .row 5 1 none (xsN ns k ++ bxCells (nBx (nAt ns k))) := (Option.some.inj hy).symm
    subst this
    simp only [plainO, List.all_append, xsN_plain, Bool.true_and]
    rfl
  · rw [xsN_succ h]
    kernel_rfl
def bdX (ns : List Nd) : List AVal := jk 1 ++ [.ptr 0 0 0, .junk, .ptr 1 0 0] ++ jk 10 ++ [nsA ns, iA ns.length, iA ns.length, bA false] ++ jk 50
theorem bd_end (h : 1 ≤ ns.length) : EV c3X 0 bdK (bdT ns ns.length) (bdS ns es ns.length (xsN ns ns.length)) (.exit 0) (bdX ns) (bdS ns es ns.length (xsN ns ns.length)) := by
  have hd : decide ((ns.length : Int) < (ns.length : Int)) = false := decide_eq_false (by omega)
  have e := bdG_eq ns es ns.length (nAt ns 0) ns.length (xsN ns ns.length) (fun h2 => by rw [hd] at h2; cases h2) (fun h2 => by rw [hd] at h2; cases h2) (fun h2 => by rw [hd] at h2; cases h2)
  unfold bdG at e
  rw [hd, cond_false] at e
  exact EV.of c3X_ok ev3X_ok e
theorem bd_loop (h : 1 ≤ ns.length) (hl : ns.length ≤ 1000) : EV c3X 0 (.loop bdK) (bdT ns (0 : Nat)) (bdS0 ns es) (.exit 0) (bdX ns) (bdS ns es ns.length (xsN ns ns.length)) := by
  have hb : Nat.beq ns.length 0 = false := by
    cases hb : Nat.beq ns.length 0 with
    | true => have := Nat.eq_of_beq_eq_true hb; omega
    | false => rfl
  have := EV.loop (c := c3X) (base := 0) (body := bdK) (n := ns.length) (T := fun k => bdT ns k) (S := fun k => bif Nat.beq k 0 then bdS0 ns es else bdS ns es k (xsN ns k)) (x := .exit 0) (T' := bdX ns) (S' := bdS ns es ns.length (xsN ns ns.length)) (fun k hk => ?_) ?_ (by simp)
  · exact this
  · cases k with
    | zero => exact bd_first ns es (by omega)
    | succ k => exact bd_round ns es hl hk
  · simp only [hb, cond_false]
    exact bd_end ns es h
/-! ## edges -/
def goodE (es : List Ed) : Prop := ∀ k, k < es.length → 1 ≤ (eAt es k).2.2.2.1.length ∧ (eAt es k).2.2.2.1.length ≤ 200
theorem be_box {ev : Ev} (hg : goodE es) {k : Nat} (h : k < es.length) : pureCall (cfM KX3) ev 80 [slP (eAt es k).2.2.2.1] = some (.tup [ptP (eBx (eAt es k)).2.1, ptP (eBx (eAt es k)).2.2, bP true]) := by
  have := boxG (ev := ev) (eAt es k).2.2.2.1 (hg k h).2
  unfold boxV at this
  rw [decide_eq_true (by have := (hg k h).1; omega : ((eAt es k).2.2.2.1.length : Int) > 0)] at this
  exact this
theorem be_first (hg : goodE es) (k : Nat) (xs : List AVal) (hx : xs.all plainV = true) (h : 0 < es.length) : EV c3X 0 beK (beT es (0 : Nat)) (bfS k xs) .normal (beT es (1 : Nat)) (beS k xs 1 (xsE es 1)) := by
  have e := beF_eq es (0 : Nat) (eAt es 0) (eBx (eAt es 0)).2.1 (eBx (eAt es 0)).2.2 true k xs (fun _ => by omega) (fun _ => partE' h) (fun _ => be_box es hg h)
  unfold beF at e
  rw [decide_eq_true (by omega : (((0 : Nat) : Int) < (es.length : Int))), cond_true, cond_true, wrS (by omega)] at e
  refine EV.tidy [16, 28] (EV.of c3X_ok ev3X_ok e) (fun q hq y hy => ?_) ?_
  · simp only [List.mem_cons, List.not_mem_nil, or_false] at hq
    rcases hq with rfl | rfl
    · have : y = .row 5 0 none xs := (Option.some.inj hy).symm
      subst this
      exact hx
    · have : y = .row 5 0 none (bxCells (eBx (eAt es 0))) := (Option.some.inj hy).symm
      subst this
      rfl
  · rw [show xsE es 1 = bxCells (eBx (eAt es 0)) from xsE_succ h]
    kernel_rfl
theorem be_round (hg : goodE es) (hl : es.length ≤ 1000) (k : Nat) (xs : List AVal) (hx : xs.all plainV = true) {j : Nat} (h : j < es.length) : EV c3X 0 beK (beT es j) (beS k xs j (xsE es j)) .normal (beT es (j + 1 : Nat)) (beS k xs (j + 1) (xsE es (j + 1))) := by
  have e := beG_eq es j (eAt es j) (eBx (eAt es j)).2.1 (eBx (eAt es j)).2.2 true k xs j (xsE es j) (fun _ => by omega) (fun _ => partE' h) (fun _ => be_box es hg h) (fun _ _ => ⟨by rw [xsE_length (by omega)]; omega, by omega, by omega⟩)
  unfold beG at e
  rw [decide_eq_true (by omega : ((j : Int) < (es.length : Int))), cond_true, cond_true, wrS (by omega)] at e
  refine EV.tidy [16, 28] (EV.of c3X_ok ev3X_ok e) (fun q hq y hy => ?_) ?_
  · simp only [List.mem_cons, List.not_mem_nil, or_false] at hq
    rcases hq with rfl | rfl
    · have : y = .row 5 0 none xs := (Option.some.inj hy).symm
      subst this
      exact hx
    · have : y = .row 5 1 none (xsE es j ++ bxCells (eBx (eAt es j))) := (Option.some.inj hy).symm
      subst this
      simp only [plainO, List.all_append, xsE_plain, Bool.true_and]
      rfl
  · rw [xsE_succ h]
    kernel_rfl
def beX (es : List Ed) : List AVal := jk 3 ++ [.ptr 1 0 0] ++ jk 34 ++ [esA es, iA es.length, iA es.length, bA false] ++ jk 26
theorem be_end (h : 1 ≤ es.length) (k : Nat) (xs : List AVal) : EV c3X 0 beK (beT es es.length) (beS k xs es.length (xsE es es.length)) (.exit 2) (beX es) (beS k xs es.length (xsE es es.length)) := by
  have hd : decide ((es.length : Int) < (es.length : Int)) = false := decide_eq_false (by omega)
  have e := beG_eq es es.length (eAt es 0) (0, 0) (0, 0) true k xs es.length (xsE es es.length) (fun h2 => by rw [hd] at h2; cases h2) (fun h2 => by rw [hd] at h2; cases h2) (fun h2 => by rw [hd] at h2; cases h2) (fun h2 => by rw [hd] at h2; cases h2)
  unfold beG at e
  rw [hd, cond_false] at e
  exact EV.of c3X_ok ev3X_ok e
theorem be_loop (hg : goodE es) (h : 1 ≤ es.length) (hl : es.length ≤ 1000) (k : Nat) (xs : List AVal) (hx : xs.all plainV = true) : EV c3X 0 (.loop beK) (beT es (0 : Nat)) (bfS k xs) (.exit 2) (beX es) (beS k xs es.length (xsE es es.length)) := by
  have hb : Nat.beq es.length 0 = false := by
    cases hb : Nat.beq es.length 0 with
    | true => have := Nat.eq_of_beq_eq_true hb; omega
    | false => rfl
  have := EV.loop (c := c3X) (base := 0) (body := beK) (n := es.length) (T := fun j => beT es j) (S := fun j => bif Nat.beq j 0 then bfS k xs else beS k xs j (xsE es j)) (x := .exit 2) (T' := beX es) (S' := beS k xs es.length (xsE es es.length)) (fun j hj => ?_) ?_ (by simp)
  · exact this
  · cases j with
    | zero => exact be_first es hg k xs hx (by omega)
    | succ j => exact be_round es hg hl k xs hx hj
  · simp only [hb, cond_false]
    exact be_end es h k xs
end
end Go.Proofs.YtkkgimhbliocoaaGreat
/- find.Build: the whole call. -/
namespace Go.Proofs.YtkkgimhbliocoaaGreat
open Go Vm M
set_option linter.unusedVariables false
set_option linter.unusedSectionVars false
set_option linter.unusedSimpArgs false
noncomputable def bdA : FnA := (c3X.tab 37).getD ⟨0, #[], .skip, []⟩
theorem bdA_tab : c3X.tab 37 = some bdA := by kernel_rfl
theorem bdA_body : bdA.body = bdB := by kernel_rfl
/-- What stands for boxes that were put one by one. -/
def bxP (bs : List Bx) : PVal := bif Nat.beq bs.length 0 then nilP else bsP bs
theorem beq0 {n : Nat} (h : 1 ≤ n) : Nat.beq n 0 = false := by
  cases hb : Nat.beq n 0 with
  | true => have := Nat.eq_of_beq_eq_true hb; omega
  | false => rfl
def plG (ns : List Nd) (es : List Ed) : PVal := .agg [.list ns.length (flatN ns), .list es.length (flatE es)]
def bfX (es : List Ed) : List AVal := jk 3 ++ [.ptr 1 0 0] ++ jk 34 ++ [esA es, iA es.length, iA es.length, bA false] ++ jk 26
section
variable (ns : List Nd) (es : List Ed)
noncomputable def bdT0 (ns : List Nd) (es : List Ed) : List AVal := upL [plG ns es] ++ List.replicate (bdA.ntmps - (upL [plG ns es]).length) (.v undef)
theorem bd_ev0 {code : Code} {x : AExit} {T' : List AVal} {S' : List AObj} (h : EV c3X 0 (.seq (.seq (c1 bd2) (.block 0 (.loop bdK))) code) (jk 1 ++ [.ptr 0 0 0, .junk, .ptr 1 0 0] ++ jk 64) (bdS0 ns es) x T' S') : EV c3X 0 (.seq (c1 bdB) (.seq (c1 (c2 bdB)) (.seq (.seq (c1 bd2) (.block 0 (.loop bdK))) code))) (bdT0 ns es) [] x T' S' := by
  refine EV.seq (EV.of c3X_ok ev3X_ok (lv := bdLv) (lo := 0) (n := 60) (T' := jk 1 ++ [.ptr 0 0 0] ++ jk 66) (S' := [.box [nsA ns, esA es]]) (by kernel_rfl)) ?_
  exact EV.seq (EV.of c3X_ok ev3X_ok (lv := bdLv) (lo := 0) (n := 60) (T' := jk 1 ++ [.ptr 0 0 0, .junk, .ptr 1 0 0] ++ jk 64) (S' := bdS0 ns es) (by kernel_rfl)) h
/-- There are nodes, and edges. -/
theorem build_ne (h1 : 1 ≤ ns.length) (hl : ns.length ≤ 1000) (h2 : 1 ≤ es.length) (hl2 : es.length ≤ 1000) (hg : goodE es) : CallsP Tryz.prog 37 [plG ns es] (.ptr [bxP (ns.map nBx), bxP (es.map eBx)]) := by
  refine callsP_of_A (r0 := .ptr 1 0 0) (S := beS ns.length (xsN ns ns.length) es.length (xsE es es.length)) (callsA_of_EV c3X_ok bdA_tab (x := .ret) (.inr rfl) (T' := jk 2 ++ [.ptr 1 0 0] ++ jk 65) (by kernel_rfl) ?_) ?_
  · rw [bdA_body, bd_body]
    refine bd_ev0 ns es ?_
    refine EV.seq (EV.seq (EV.of c3X_ok ev3X_ok (lv := bdLv) (lo := 0) (n := 60) (T' := bdT ns (0 : Nat)) (S' := bdS0 ns es) (by kernel_rfl)) (EV.block (bd_loop ns es h1 hl))) ?_
    refine EV.seq (EV.seq (T1 := beT es (0 : Nat)) (S1 := bfS ns.length (xsN ns ns.length)) ?_ (EV.block (be_loop es hg h2 hl2 ns.length _ (xsN_plain ns _)))) (EV.of c3X_ok ev3X_ok (lv := bdLv) (lo := 0) (n := 60) (by kernel_rfl))
    refine EV.tidy [16] (EV.of c3X_ok ev3X_ok (lv := bdLv) (lo := 0) (n := 60) (code := c1 bd3) (T' := beT es (0 : Nat)) (S' := bdS ns es ns.length (xsN ns ns.length)) (by kernel_rfl)) (fun q hq y hy => ?_) (by kernel_rfl)
    simp only [List.mem_singleton] at hq
    subst hq
    have : y = .row 5 0 none (xsN ns ns.length) := (Option.some.inj hy).symm
    subst this
    exact xsN_plain ns _
  · have e1 : xsN ns ns.length = upL (flatX (ns.map nBx)) := by unfold xsN; rw [List.take_length]
    have e2 : xsE es es.length = upL (flatX (es.map eBx)) := by unfold xsE; rw [List.take_length]
    have b1 : bxP (ns.map nBx) = .list ns.length (flatX (ns.map nBx)) := by unfold bxP bsP; rw [List.length_map, beq0 h1]; rfl
    have b2 : bxP (es.map eBx) = .list es.length (flatX (es.map eBx)) := by unfold bxP bsP; rw [List.length_map, beq0 h2]; rfl
    rw [e1, e2, b1, b2]
    have m0 : Vm.mark 0 deep (beS ns.length (upL (flatX (ns.map nBx))) es.length (upL (flatX (es.map eBx)))) (.ptr 1 0 0) = [.free, .row 1 0 (some 2) [.row 16 0 5 0 ns.length, .row 28 0 5 0 es.length]] ++ List.replicate 14 .free ++ [.row 5 0 (some (upL (flatX (ns.map nBx))).length) (upL (flatX (ns.map nBx)))] ++ List.replicate 11 .free ++ [.row 5 0 (some (upL (flatX (es.map eBx))).length) (upL (flatX (es.map eBx)))] := by
      show ([.row 16 0 5 0 ns.length, .row 28 0 5 0 es.length] : List AVal).foldl (Vm.mark 0 5) ((beS ns.length (upL (flatX (ns.map nBx))) es.length (upL (flatX (es.map eBx)))).set 1 (.row 1 0 (some 2) [.row 16 0 5 0 ns.length, .row 28 0 5 0 es.length])) = _
      rw [List.foldl_cons, List.foldl_cons, List.foldl_nil]
      have k1 := mark_rowG (S := (beS ns.length (upL (flatX (ns.map nBx))) es.length (upL (flatX (es.map eBx)))).set 1 (.row 1 0 (some 2) [.row 16 0 5 0 ns.length, .row 28 0 5 0 es.length])) (o := 16) (sz := 5) (e := 0) (ep := 0) (off := 0) (len := ns.length) (n := 4) (fz := none) (xs := upL (flatX (ns.map nBx))) rfl (upL_plain (flatX_isV _))
      rw [k1]
      have k2 := mark_rowG (S := ((beS ns.length (upL (flatX (ns.map nBx))) es.length (upL (flatX (es.map eBx)))).set 1 (.row 1 0 (some 2) [.row 16 0 5 0 ns.length, .row 28 0 5 0 es.length])).set 16 (.row 5 0 (some (upL (flatX (ns.map nBx))).length) (upL (flatX (ns.map nBx))))) (o := 28) (sz := 5) (e := 0) (ep := 0) (off := 0) (len := es.length) (n := 4) (fz := none) (xs := upL (flatX (es.map eBx))) rfl (upL_plain (flatX_isV _))
      rw [k2]
      rfl
    rw [m0]
    show (mapO (peek _ 5) [.row 16 0 5 0 ns.length, .row 28 0 5 0 es.length]).map PVal.ptr = _
    simp only [mapO]
    rw [peek_rowG (o := 16) (n := 3) (ps := flatX (ns.map nBx)) rfl (by rw [flatX_length, List.length_map]) (flatX_isV _), peek_rowG (o := 28) (n := 3) (ps := flatX (es.map eBx)) rfl (by rw [flatX_length, List.length_map]) (flatX_isV _)]
    rfl
/-- There are nodes alone. -/
theorem build_n (h1 : 1 ≤ ns.length) (hl : ns.length ≤ 1000) : CallsP Tryz.prog 37 [plG ns []] (.ptr [bxP (ns.map nBx), nilP]) := by
  refine callsP_of_A (r0 := .ptr 1 0 0) (S := bfS ns.length (xsN ns ns.length)) (callsA_of_EV c3X_ok bdA_tab (x := .ret) (.inr rfl) (T' := jk 2 ++ [.ptr 1 0 0] ++ jk 65) (by kernel_rfl) ?_) ?_
  · rw [bdA_body, bd_body]
    refine bd_ev0 ns [] ?_
    refine EV.seq (EV.seq (EV.of c3X_ok ev3X_ok (lv := bdLv) (lo := 0) (n := 60) (T' := bdT ns (0 : Nat)) (S' := bdS0 ns []) (by kernel_rfl)) (EV.block (bd_loop ns [] h1 hl))) ?_
    refine EV.seq (EV.seq (T1 := beT [] (0 : Nat)) (S1 := bfS ns.length (xsN ns ns.length)) ?_ (EV.block (EV.loop (n := 0) (T := fun _ => beT [] (0 : Nat)) (S := fun _ => bfS ns.length (xsN ns ns.length)) (fun k hk => by omega) (EV.of c3X_ok ev3X_ok (lv := bdLv) (lo := 0) (n := 60) (x := .exit 2) (T' := beX []) (S' := bfS ns.length (xsN ns ns.length)) (by kernel_rfl)) (by simp)))) (EV.of c3X_ok ev3X_ok (lv := bdLv) (lo := 0) (n := 60) (by kernel_rfl))
    refine EV.tidy [16] (EV.of c3X_ok ev3X_ok (lv := bdLv) (lo := 0) (n := 60) (code := c1 bd3) (T' := beT [] (0 : Nat)) (S' := bdS ns [] ns.length (xsN ns ns.length)) (by kernel_rfl)) (fun q hq y hy => ?_) (by kernel_rfl)
    simp only [List.mem_singleton] at hq
    subst hq
    have : y = .row 5 0 none (xsN ns ns.length) := (Option.some.inj hy).symm
    subst this
    exact xsN_plain ns _
  · have e1 : xsN ns ns.length = upL (flatX (ns.map nBx)) := by unfold xsN; rw [List.take_length]
    have b1 : bxP (ns.map nBx) = .list ns.length (flatX (ns.map nBx)) := by unfold bxP bsP; rw [List.length_map, beq0 h1]; rfl
    rw [e1, b1]
    have m0 : Vm.mark 0 deep (bfS ns.length (upL (flatX (ns.map nBx)))) (.ptr 1 0 0) = [.free, .row 1 0 (some 2) [.row 16 0 5 0 ns.length, nilA]] ++ List.replicate 14 .free ++ [.row 5 0 (some (upL (flatX (ns.map nBx))).length) (upL (flatX (ns.map nBx)))] := by
      show ([.row 16 0 5 0 ns.length, nilA] : List AVal).foldl (Vm.mark 0 5) ((bfS ns.length (upL (flatX (ns.map nBx)))).set 1 (.row 1 0 (some 2) [.row 16 0 5 0 ns.length, nilA])) = _
      rw [List.foldl_cons, List.foldl_cons, List.foldl_nil]
      have k1 := mark_rowG (S := (bfS ns.length (upL (flatX (ns.map nBx)))).set 1 (.row 1 0 (some 2) [.row 16 0 5 0 ns.length, nilA])) (o := 16) (sz := 5) (e := 0) (ep := 0) (off := 0) (len := ns.length) (n := 4) (fz := none) (xs := upL (flatX (ns.map nBx))) rfl (upL_plain (flatX_isV _))
      rw [k1]
      rfl
    rw [m0]
    show (mapO (peek _ 5) [.row 16 0 5 0 ns.length, nilA]).map PVal.ptr = _
    simp only [mapO]
    rw [peek_rowG (o := 16) (n := 3) (ps := flatX (ns.map nBx)) rfl (by rw [flatX_length, List.length_map]) (flatX_isV _)]
    rfl
end
/-- There is nothing. -/
theorem build_0 : CallsP Tryz.prog 37 [plG [] []] (.ptr [nilP, nilP]) := (pureCall_ok c3X_ok ev3X_ok (f := 37) (ps := [plG [] []]) (r := .ptr [nilP, nilP]) (by kernel_rfl)).2
theorem build_nodes (ns : List Nd) (hl : ns.length ≤ 1000) : CallsP Tryz.prog 37 [plG ns []] (.ptr [bxP (ns.map nBx), nilP]) := by
  cases ns with
  | nil => exact build_0
  | cons q qs => exact build_n (q :: qs) (by simp) hl
end Go.Proofs.YtkkgimhbliocoaaGreat
/- Calls that are told of one state alone; ranges over functions put together by hand. -/
namespace Go.Proofs.YtkkgimhbliocoaaGreat.Vm
open Go Go.RowKit
noncomputable section
set_option linter.unusedVariables false
set_option linter.unusedSimpArgs false
variable {c : Cfg} {base : Nat}
/-- What nothing leads to goes (rows in nl are not looked into); nothing else is turned. -/
theorem EV.sweep {code : Code} {T T1 : List AVal} {S S1 S' : List AObj} {x : AExit} (nl : List Nat) (h : EV c base code T S x T1 S1) (hp : ∀ q ∈ nl, ∀ y, S1[q]? = some y → plainO y = true) (hc : clean (fun q => !memR q nl) base T1 S1 = S') : EV c base code T S x T1 S' := by
  subst hc
  intro ro C0 C a d0 hro hb hS hE hT hd hCS
  refine wpIn_mono (h ro C0 C a d0 hro hb hS hE hT hd hCS) ?_
  rintro e a1 w1 ⟨C1, rfl, e1, k1, k2, k3, k4, k5⟩
  subst e1
  have hpl : PlainAt (fun q => !memR q nl) C1.S := fun o y hy hr => by
    have hm : memR o nl = true := by simpa using hr
    have : o ∈ nl := by
      have key : ∀ l : List Nat, memR o l = true → o ∈ l := by
        intro l
        induction l with
        | nil => intro h; cases h
        | cons q l ih =>
          intro h
          simp only [memR, Bool.or_eq_true] at h
          rcases h with h | h
          · rw [Nat.eq_of_beq_eq_true h]; simp
          · simp [ih h]
      exact key nl hm
    exact hp o this y hy
  obtain ⟨m1, m2, m3⟩ := clean_ok (rw := fun q => !memR q nl) (base := base) k1 k2 k3 hb hpl
  exact ⟨⟨C1.ρ, clean (fun q => !memR q nl) base T1 C1.S, C1.ok, C1.w⟩, rfl, rfl, m1, m2, m3, k4.tidy (C' := ⟨C1.ρ, clean (fun q => !memR q nl) base T1 C1.S, C1.ok, C1.w⟩) rfl rfl rfl (fun o x e hx he => ⟨x, e, clean_old hx he, he⟩), k5⟩
/-- What is free may be out of sight. -/
theorem EV.hush {code : Code} {T T' : List AVal} {S S1 S2 : List AObj} {x : AExit} (h : EV c base code T S x T' S1) (h1 : ∀ (q : Nat) (y : AObj), S1[q]? = some y → y = .free ∨ S2[q]? = some y) (h2 : ∀ (q : Nat) (y : AObj), S2[q]? = some y → y = .hidden ∨ S1[q]? = some y) : EV c base code T S x T' S2 := by
  intro ro C0 C a d0 hro hb hS hE hT hd hCS
  refine wpIn_mono (h ro C0 C a d0 hro hb hS hE hT hd hCS) ?_
  rintro e a1 w1 ⟨C1, rfl, e1, k1, k2, k3, k4, k5⟩
  have up : ∀ (q : Nat) (y : AObj) (e : Nat), C1.S[q]? = some y → y.ep? = some e → S2[q]? = some y := fun q y e hy he => by
    rw [e1] at hy
    rcases h1 q y hy with rfl | h
    · cases he
    · exact h
  have dn : ∀ (q : Nat) (y : AObj) (e : Nat), S2[q]? = some y → y.ep? = some e → C1.S[q]? = some y := fun q y e hy he => by
    rw [e1]
    rcases h2 q y hy with rfl | h
    · cases he
    · exact h
  have hk : ∀ (q : Nat) (y : AObj) (e : Nat), C1.S[q]? = some y → y.ep? = some e → ∃ y', (Ctx.S ⟨C1.ρ, S2, C1.ok, C1.w⟩)[q]? = some y' ∧ y'.ep? = some e := fun q y e hy he => ⟨y, up q y e hy he, he⟩
  have g : Grows C1 ⟨C1.ρ, S2, C1.ok, C1.w⟩ := ⟨Look.Le.refl _, fun q y e hy he => ⟨y, e, up q y e hy he, he, .inl ⟨rfl, rfl⟩⟩⟩
  have hmk : MarksOk C0 d0 ⟨C1.ρ, S2, C1.ok, C1.w⟩ a1.defers := by
    obtain ⟨Ds, m1, m2, m3⟩ := k4
    exact ⟨Ds, m1, m2, fun D hD => ⟨(m3 D hD).1, ⟨fun q y e hy he hbb => (m3 D hD).2.1.1 q y e (dn q y e hy he) he hbb, (m3 D hD).2.1.2⟩, (m3 D hD).2.2⟩⟩
  refine ⟨⟨C1.ρ, S2, C1.ok, C1.w⟩, rfl, rfl, ⟨fun q y hy => ?_, fun q q' y y' e e' hy hy' he he' => k1.inj q q' y y' e e' (dn q y e hy he) (dn q' y' e' hy' he') he he', k1.okIn, fun b j hj q y e hy he => k1.okRow b j hj q y e (dn q y e hy he) he⟩,
    ⟨k2.grows.trans g, k2.os, k2.tape, k2.output, k2.size, k2.ok, k2.frame, k2.okNew, fun q y e hy he => k2.blocks q y e (dn q y e hy he) he⟩, k3.mono g, hmk, k5⟩
  rcases h2 q y hy with rfl | h
  · trivial
  · exact (k1.obj q y (by rw [e1]; exact h)).keep g (fun _ _ h => h) rfl fun _ _ => rfl
open Classical in
/-- One call is told. -/
def tellEv (ev : Ev) (f0 : FuncId) (args0 : List AVal) (S0 : List AObj) (r0 : AVal) (S1 : List AObj) : Ev :=
  ⟨fun lo f args S => if lo = 0 ∧ f = f0 ∧ args = args0 ∧ S = S0 then some (r0, S1) else none, ev.yld⟩
open Classical in
theorem tellEv_ok {ev : Ev} (he : EvOk c ev) {f0 : FuncId} {args0 : List AVal} {S0 : List AObj} {r0 : AVal} {S1 : List AObj} (hf : Enters c.P f0) (h : CallsA c.P f0 args0 S0 r0 S1) (hl : S0.length ≤ S1.length) : EvOk c (tellEv ev f0 args0 S0 r0 S1) where
  ylds := he.ylds
  calls := fun lo f args S r S' k0 => by
    have h' : (if lo = 0 ∧ f = f0 ∧ args = args0 ∧ S = S0 then some (r0, S1) else none) = some (r, S') := k0
    split at h'
    · rename_i hc
      obtain ⟨rfl, rfl, rfl, rfl⟩ := hc
      simp only [Option.some.injEq, Prod.mk.injEq] at h'
      obtain ⟨rfl, rfl⟩ := h'
      exact h
    · cases h'
  enters := fun lo f args S r S' k0 => by
    have h' : (if lo = 0 ∧ f = f0 ∧ args = args0 ∧ S = S0 then some (r0, S1) else none) = some (r, S') := k0
    split at h'
    · rename_i hc
      obtain ⟨rfl, rfl, rfl, rfl⟩ := hc
      exact hf
    · cases h'
  stays := fun lo f args S r S' k0 => by
    have h' : (if lo = 0 ∧ f = f0 ∧ args = args0 ∧ S = S0 then some (r0, S1) else none) = some (r, S') := k0
    split at h'
    · rename_i hc
      obtain ⟨rfl, rfl, rfl, rfl⟩ := hc
      simp only [Option.some.injEq, Prod.mk.injEq] at h'
      obtain ⟨rfl, rfl⟩ := h'
      exact ⟨hl, fun q hq _ => by omega⟩
    · cases h'
/-- A range over a function, from what the function does. -/
theorem EV.rangeF (hc : CfgOk c) {ev : Ev} (he : EvOk c ev) {lv : List Nat} {g : Operand} {ps : Array Tmp} {asg body : Code} {T T' : List AVal} {S S1 S' : List AObj} {f : FuncId} {caps : List AVal} {r : AVal} {x : AExit}
    (hg : opd T g = .fn f caps) (ha : noRF asg = true) (hb : noRF body = true) (h1 : c.givenS f = none) (h2 : c.givenP f = none) (hf : Enters c.P f)
    (h : CallsA c.P f (.yld S.length :: caps) (S ++ [.loop lv T ps asg body .ready]) r S1) (hl : S.length < S1.length) (hx : endLp T S1 S.length = some (x, T', S')) : EV c base (.rangeFunc g ps asg body) T S x T' S' := by
  have he' := tellEv_ok he hf h (by rw [List.length_append]; exact hl)
  refine EV.of hc he' (lv := lv) (lo := 0) (n := 0) ?_
  simp only [evalC, hg, ha, hb, h1, h2, Option.isNone_none, Bool.and_true, Nat.zero_le, Nat.ble_eq_true_of_le, cond_true]
  have e : (tellEv ev f (.yld S.length :: caps) (S ++ [.loop lv T ps asg body .ready]) r S1).call 0 f (.yld S.length :: caps) (S ++ [.loop lv T ps asg body .ready]) = some (r, S1) := if_pos ⟨rfl, rfl, rfl, rfl⟩
  rw [e]
  exact hx
theorem roundA_of {ev : Ev} {k lo q : Nat} {args : List AVal} {S : List AObj} {lv : List Nat} {T T1 T2 : List AVal} {ps : Array Tmp} {asg body : Code} {S1 S2 : List AObj} {x : AExit} {r : AVal × List AObj} (h : S[q]? = some (.loop lv T ps asg body .ready)) (hl : Nat.ble lo q = true) (hn : Nat.beq args.length ps.size = true) (ha : noRF asg = true) (hb : noRF body = true)
    (h1 : evalC c ev lv lo S.length k asg (putsT ps.toList args T) S = some (.normal, T1, S1)) (hr : readyB S1 q = true) (h2 : evalC c ev lv lo S.length k body T1 (setSt S1 q .busy) = some (x, T2, S2)) (hb2 : busyB S2 q = true) (he : endRd S2 q x = some r) : roundA c ev k lo q args S = some r := by
  unfold roundA
  simp only [h, hl, hn, ha, hb, Bool.and_true, cond_true, h1, hr, h2, hb2, he]
end
end Go.Proofs.YtkkgimhbliocoaaGreat.Vm
/- A row to which one box of the caller's leads begins anew. -/
namespace Go.Proofs.YtkkgimhbliocoaaGreat.Vm
open Go Go.RowKit
noncomputable section
set_option linter.unusedVariables false
set_option linter.unusedSimpArgs false
variable {c : Cfg} {base : Nat}
theorem EV.epoch {code : Code} {T T1 : List AVal} {S S1 : List AObj} {x : AExit} {o b e sz len : Nat} {xs : List AVal} (h : EV c base code T S x T1 S1) (ho : S1[o]? = some (.row sz e none xs)) (hb : S1[b]? = some (.box [.row o e sz 0 len])) (hbo : base ≤ o) (hne : b ≠ o)
    (hT : mentL o T1 = false) (hx : ∀ q y, q ≠ b → S1[q]? = some y → mentX o y = false) : EV c base code T S x T1 ((S1.set o (.row sz 0 none xs)).set b (.box [.row o 0 sz 0 len])) := by
  intro ro C0 C a d0 hro hbl hS hE hT0 hd hCS
  refine wpIn_mono (h ro C0 C a d0 hro hbl hS hE hT0 hd hCS) ?_
  rintro en a1 w1 ⟨C1, rfl, e1, k1, k2, k3, k4, k5⟩
  subst e1
  have hol : o < C1.S.length := (List.getElem?_eq_some_iff.1 ho).1
  have hbl2 : b < C1.S.length := (List.getElem?_eq_some_iff.1 hb).1
  let S2 := (C1.S.set o (.row sz 0 none xs)).set b (.box [.row o 0 sz 0 len])
  let C2 : Ctx := ⟨C1.ρ, S2, C1.ok, C1.w⟩
  have g1 : S2[b]? = some (.box [.row o 0 sz 0 len]) := by
    show ((C1.S.set o (.row sz 0 none xs)).set b (.box [.row o 0 sz 0 len]))[b]? = _
    rw [List.getElem?_set, if_pos rfl, if_pos (by rw [List.length_set]; exact hbl2)]
  have g2 : S2[o]? = some (.row sz 0 none xs) := by
    show ((C1.S.set o (.row sz 0 none xs)).set b (.box [.row o 0 sz 0 len]))[o]? = _
    rw [List.getElem?_set, if_neg hne, List.getElem?_set, if_pos rfl, if_pos hol]
  have g3 : ∀ q, q ≠ b → q ≠ o → S2[q]? = C1.S[q]? := fun q h1 h2 => by
    show ((C1.S.set o (.row sz 0 none xs)).set b (.box [.row o 0 sz 0 len]))[q]? = _
    rw [List.getElem?_set, if_neg (Ne.symm h1), List.getElem?_set, if_neg (Ne.symm h2)]
  -- objects other than the row keep their epoch
  have hk : ∀ (q : Nat) (y : AObj) (ep : Nat), q ≠ o → C1.S[q]? = some y → y.ep? = some ep → ∃ y', C2.S[q]? = some y' ∧ y'.ep? = some ep := fun q y ep hq hy he => by
    by_cases h2 : q = b
    · subst h2
      rw [hb] at hy
      cases hy
      exact ⟨_, g1, he⟩
    · exact ⟨y, by show S2[q]? = _; rw [g3 q h2 hq]; exact hy, he⟩
  have back : ∀ (q : Nat) (y : AObj) (ep : Nat), C2.S[q]? = some y → y.ep? = some ep → ∃ (y' : AObj) (ep' : Nat), C1.S[q]? = some y' ∧ y'.ep? = some ep' := fun q y ep hy he => by
    by_cases h2 : q = b
    · subst h2; exact ⟨_, 0, hb, rfl⟩
    · by_cases h3 : q = o
      · subst h3; exact ⟨_, e, ho, rfl⟩
      · exact ⟨y, ep, by rw [← g3 q h2 h3]; exact hy, he⟩
  have st : St C2 := by
    refine ⟨fun q y hy => ?_, fun q q' y y' ep ep' hy hy' he he' hbb => ?_, k1.okIn, fun bk j hj q y ep hy he hbb => ?_⟩
    · by_cases h2 : q = b
      · subst h2
        have : y = .box [.row o 0 sz 0 len] := by
          have := hy.symm.trans g1
          exact Option.some.inj this
        subst this
        obtain ⟨cs, t, m1, m2, m3, m4, m5⟩ := k1.obj q _ hb
        refine ⟨cs, t, m1, m2, m3, ?_, rfl⟩
        simp only [Rvs, Rv] at m4 ⊢
        obtain ⟨⟨u, u1, ad, cc, u2, u3, ob, e0, u4, u5, u6, u7⟩, _⟩ := m4
        rw [ho] at u4
        cases u4
        simp only [AObj.ep?, Option.some.injEq] at u5
        subst u5
        exact ⟨⟨u, u1, ad, cc, u2, u3, _, 0, g2, rfl, Nat.le_refl _, fun _ => u7 rfl⟩, trivial⟩
      · by_cases h3 : q = o
        · subst h3
          have : y = .row sz 0 none xs := by
            have := hy.symm.trans g2
            exact Option.some.inj this
          subst this
          have hr := Robj_ep (C := C1) (C' := C2) rfl rfl rfl (q := q) (x := .row sz e none xs) (fun o' y ep hm hy he => hk o' y ep (fun h4 => by
            subst h4
            rw [hx o' _ h2 ho] at hm
            cases hm) hy he) (k1.obj q _ ho)
          exact hr
        · rw [show C2.S[q]? = C1.S[q]? from g3 q h2 h3] at hy
          exact Robj_ep (C := C1) (C' := C2) rfl rfl rfl (fun o' y' ep hm hy' he => hk o' y' ep (fun h4 => by
            subst h4
            rw [hx q y h2 hy] at hm
            cases hm) hy' he) (k1.obj q y hy)
    · obtain ⟨z, ez, z1, z2⟩ := back q y ep hy he
      obtain ⟨z', ez', z1', z2'⟩ := back q' y' ep' hy' he'
      exact k1.inj q q' z z' ez ez' z1 z1' z2 z2' hbb
    · by_cases h2 : q = b
      · subst h2
        rcases k1.okRow bk j hj q _ 0 hb rfl hbb with ⟨_, _, _, _, h4, _⟩ | ⟨_, _, h4⟩ <;> cases h4
      · by_cases h3 : q = o
        · subst h3
          rcases k1.okRow bk j hj q _ e ho rfl hbb with ⟨_, _, _, _, h4, _⟩ | ⟨_, _, h4⟩ <;> cases h4
        · rw [show C2.S[q]? = C1.S[q]? from g3 q h2 h3] at hy
          exact k1.okRow bk j hj q y ep hy he hbb
  have ext : Ext C0 C2 := by
    refine ⟨⟨k2.grows.sees, fun q y ep hy he => ?_⟩, k2.os, k2.tape, k2.output, k2.size, k2.ok, k2.frame, k2.okNew, fun q y ep hy he => ?_⟩
    · have hq : q < C0.S.length := (List.getElem?_eq_some_iff.1 hy).1
      obtain ⟨y', ep', h1, h2, h3⟩ := k2.grows.refs q y ep hy he
      obtain ⟨y2, h4, h5⟩ := hk q y' ep' (by omega) h1 h2
      exact ⟨y2, ep', h4, h5, h3⟩
    · obtain ⟨z, ez, z1, z2⟩ := back q y ep hy he
      exact k2.blocks q z ez z1 z2
  have rt : RT C2 T1 a1.tmps := ⟨k3.1, Rvs_ep (C := C1) (C' := C2) rfl rfl rfl T1 _ 0 (fun o' y ep hm hy he => hk o' y ep (fun h4 => by
    subst h4
    rw [hT] at hm
    cases hm) hy he) k3.2⟩
  exact ⟨C2, rfl, rfl, st, ext, rt, k4.tidy (C' := C2) rfl rfl rfl back, k5⟩
end
end Go.Proofs.YtkkgimhbliocoaaGreat.Vm
/- find's meet$1, ranged over by Window: its rounds (nodes). -/
namespace Go.Proofs.YtkkgimhbliocoaaGreat
open Go Vm M
set_option linter.unusedVariables false
set_option linter.unusedSimpArgs false
set_option maxRecDepth 100000
def boxA (b : Bx) : AVal := .agg (bxCells b)
theorem flatX_drop : ∀ (bs : List Bx) (k : Nat), (flatX bs).drop (k * 5) = flatX (bs.drop k)
  | bs, 0 => by simp
  | [], k + 1 => by simp [flatX]
  | b :: bs, k + 1 => by
    rw [show (k + 1) * 5 = k * 5 + 1 + 1 + 1 + 1 + 1 by omega]
    simp only [flatX, List.drop_succ_cons]
    exact flatX_drop bs k
theorem bAt_get {bs : List Bx} {k : Nat} {b : Bx} (h : bs[k]? = some b) : bAt bs k = b := by simp [bAt, List.getD, h]
theorem drop_bAt {bs : List Bx} {k : Nat} (h : k < bs.length) : (flatX bs).drop (k * 5) = iP (bAt bs k).1 :: iP (bAt bs k).2.1.1 :: iP (bAt bs k).2.1.2 :: iP (bAt bs k).2.2.1 :: iP (bAt bs k).2.2.2 :: flatX (bs.drop (k + 1)) := by
  rw [flatX_drop, List.drop_eq_getElem_cons h, bAt_get (List.getElem?_eq_getElem h)]
  rfl
theorem idx_okX {bs : List Bx} {i : Int} (h : 0 ≤ i ∧ i < (bs.length : Int)) : 0 ≤ i ∧ i < (bs.length : Int) ∧ 0 < 5 ∧ (flatX bs).length = bs.length * 5 := ⟨h.1, h.2, by omega, flatX_length bs⟩
theorem aggX : aggT Tryz.prog 120 = some true := by kernel_rfl
theorem szX : szOf Tryz.prog 120 = some 5 := by kernel_rfl
theorem partX {bs : List Bx} {k : Nat} (h : k < bs.length) : partA Tryz.prog 120 (upL ((flatX bs).drop (Int.toNat (k : Int) * 5))) 0 = some (boxA (bAt bs k)) := by
  rw [Int.toNat_natCast, drop_bAt h]
  unfold partA
  rw [aggX, szX]
  simp [upL, up, boxA, bxCells, iP, iA]
noncomputable def wnLv : List Nat := (lives.lookup 38).getD []
noncomputable def wnB : Code := Tryz.f38.body.getD .skip
noncomputable def mtLv : List Nat := (lives.lookup 144).getD []
def mtF (bs : List Bx) (lo hi : P2) : AVal := .fn 144 [.eptr [bsP bs], .eptr [iP lo.1, iP lo.2], .eptr [iP hi.1, iP hi.2]]
def mtW (bs : List Bx) (lo hi : P2) (i : Int) : List AVal := [.yld 4, .junk, .eptr [iP lo.1, iP lo.2], .eptr [iP hi.1, iP hi.2]] ++ jk 3 ++ [bsA bs, iA bs.length, iA i] ++ jk 18
noncomputable def wnAs : Code := match (match c2 (c1 (c2 wnB)) with | .block _ r => r | _ => .skip) with
  | .rangeFunc _ _ a _ => a
  | _ => .skip
noncomputable def wnBo : Code := match (match c2 (c1 (c2 wnB)) with | .block _ r => r | _ => .skip) with
  | .rangeFunc _ _ _ b => b
  | _ => .skip
theorem wnrf : (match c2 (c1 (c2 wnB)) with | .block _ r => r | _ => .skip) = .rangeFunc (.tmp 16) #[17] wnAs wnBo := by kernel_rfl
def wnT (px py : PVal) (cl : List Bx) (lo hi : P2) : List AVal := [.eptr [px, py]] ++ jk 3 ++ [.ptr 0 0 0, .ptr 1 0 0, .ptr 2 0 0, .ptr 3 0 0] ++ jk 8 ++ [mtF cl lo hi] ++ jk 18
noncomputable def wnL (st : LpSt) (px py : PVal) (cl : List Bx) (lo hi : P2) : AObj := .loop wnLv (wnT px py cl lo hi) #[17] wnAs wnBo st
noncomputable def wn0 (px py : PVal) (cl : List Bx) (lo hi : P2) : List AObj := [.box [iA lo.1, iA lo.2], .box [iA hi.1, iA hi.2], .box [nilA], .box [nilA]] ++ [wnL .ready px py cl lo hi]
noncomputable def wn1 (px py : PVal) (cl : List Bx) (lo hi : P2) (j : Nat) (xs : List AVal) : List AObj := [.box [iA lo.1, iA lo.2], .box [iA hi.1, iA hi.2], .box [.row 7 0 1 0 j], .box [nilA]] ++ [wnL .ready px py cl lo hi, .free, .free, .row 1 0 none xs]
noncomputable def wnS0 (px py : PVal) (cl : List Bx) (lo hi : P2) (b : Bx) : List AObj := [.box [iA lo.1, iA lo.2], .box [iA hi.1, iA hi.2], .box [nilA], .box [nilA]] ++ [wnL .busy px py cl lo hi, .box (bxCells b)]
noncomputable def wnS1 (px py : PVal) (cl : List Bx) (lo hi : P2) (b : Bx) (j : Nat) (xs : List AVal) : List AObj := [.box [iA lo.1, iA lo.2], .box [iA hi.1, iA hi.2], .box [.row 7 0 1 0 j], .box [nilA]] ++ [wnL .busy px py cl lo hi, .box (bxCells b), .free, .row 1 0 none xs]
def wnU (id : Int) : List AVal := jk 6 ++ [.ptr 2 0 0, .junk, iA id] ++ jk 26
noncomputable def wnbN (px : PVal) (py : PVal) (cl : List Bx) (lo : P2) (hi : P2) (b : Bx) : AExit × List AVal × List AObj :=
  (AExit.normal, ((jk 35), ([AObj.box [iA (Prod.fst lo), iA (Prod.snd lo)], AObj.box [iA (Prod.fst hi), iA (Prod.snd hi)], AObj.box [AVal.row 7 0 1 0 1], AObj.box [AVal.v (Value.slice none 0 0)], AObj.loop [67240945, 67306481, 320, 0, 100664000, 640, 0, 192] [AVal.eptr [px, py], AVal.junk, AVal.junk, AVal.junk, AVal.ptr 0 0 0, AVal.ptr 1 0 0, AVal.ptr 2 0 0, AVal.ptr 3 0 0, AVal.junk, AVal.junk, AVal.junk, AVal.junk, AVal.junk, AVal.junk, AVal.junk, AVal.junk, AVal.fn 144 [AVal.eptr [PVal.list (List.length cl) (flatX cl)], AVal.eptr [iP (Prod.fst lo), iP (Prod.snd lo)], AVal.eptr [iP (Prod.fst hi), iP (Prod.snd hi)]], AVal.junk, AVal.junk, AVal.junk, AVal.junk, AVal.junk, AVal.junk, AVal.junk, AVal.junk, AVal.junk, AVal.junk, AVal.junk, AVal.junk, AVal.junk, AVal.junk, AVal.junk, AVal.junk, AVal.junk, AVal.junk] { toList := [17] } wnAs wnBo LpSt.busy, AObj.box [iA (Prod.fst b), iA (Prod.fst (Prod.fst (Prod.snd b))), iA (Prod.snd (Prod.fst (Prod.snd b))), iA (Prod.fst (Prod.snd (Prod.snd b))), iA (Prod.snd (Prod.snd (Prod.snd b)))], AObj.row 1 0 none [iA (Prod.fst b)], AObj.row 1 0 none [iA (Prod.fst b)]])))
theorem wnbN_eq (px : PVal) (py : PVal) (cl : List Bx) (lo : P2) (hi : P2) (b : Bx) : evalC (c3X) (evalF c3X 59) (wnLv) 0 6 59 (wnBo) (wnU (Prod.fst b)) (wnS0 px py cl lo hi b) = some (wnbN px py cl lo hi b) := by
  have key := fun (bs : List Bool) (r : AExit × List AVal × List AObj) (ob : List Prop) (h : pathP (c3X) (evalF c3X 59) (wnLv) 0 6 59 [] (wnBo) (wnU (Prod.fst b)) (wnS0 px py cl lo hi b) bs [] = .ok (r.1, r.2.1, r.2.2, ob)) (hp : allOb ob) => pathP_ok h hp
  unfold wnbN
  exact key [] ((AExit.normal, ((jk 35), ([AObj.box [iA (Prod.fst lo), iA (Prod.snd lo)], AObj.box [iA (Prod.fst hi), iA (Prod.snd hi)], AObj.box [AVal.row 7 0 1 0 1], AObj.box [AVal.v (Value.slice none 0 0)], AObj.loop [67240945, 67306481, 320, 0, 100664000, 640, 0, 192] [AVal.eptr [px, py], AVal.junk, AVal.junk, AVal.junk, AVal.ptr 0 0 0, AVal.ptr 1 0 0, AVal.ptr 2 0 0, AVal.ptr 3 0 0, AVal.junk, AVal.junk, AVal.junk, AVal.junk, AVal.junk, AVal.junk, AVal.junk, AVal.junk, AVal.fn 144 [AVal.eptr [PVal.list (List.length cl) (flatX cl)], AVal.eptr [iP (Prod.fst lo), iP (Prod.snd lo)], AVal.eptr [iP (Prod.fst hi), iP (Prod.snd hi)]], AVal.junk, AVal.junk, AVal.junk, AVal.junk, AVal.junk, AVal.junk, AVal.junk, AVal.junk, AVal.junk, AVal.junk, AVal.junk, AVal.junk, AVal.junk, AVal.junk, AVal.junk, AVal.junk, AVal.junk, AVal.junk] { toList := [17] } wnAs wnBo LpSt.busy, AObj.box [iA (Prod.fst b), iA (Prod.fst (Prod.fst (Prod.snd b))), iA (Prod.snd (Prod.fst (Prod.snd b))), iA (Prod.fst (Prod.snd (Prod.snd b))), iA (Prod.snd (Prod.snd (Prod.snd b)))], AObj.row 1 0 none [iA (Prod.fst b)], AObj.row 1 0 none [iA (Prod.fst b)]])))) _ (by kernel_rfl) allOb_nil
noncomputable def wnbR (px : PVal) (py : PVal) (cl : List Bx) (lo : P2) (hi : P2) (b : Bx) (j : Nat) (xs : List AVal) : AExit × List AVal × List AObj :=
  (AExit.normal, ((jk 35), ([AObj.box [iA (Prod.fst lo), iA (Prod.snd lo)], AObj.box [iA (Prod.fst hi), iA (Prod.snd hi)], AObj.box [AVal.row 7 1 1 0 (j + 1)], AObj.box [AVal.v (Value.slice none 0 0)], AObj.loop [67240945, 67306481, 320, 0, 100664000, 640, 0, 192] [AVal.eptr [px, py], AVal.junk, AVal.junk, AVal.junk, AVal.ptr 0 0 0, AVal.ptr 1 0 0, AVal.ptr 2 0 0, AVal.ptr 3 0 0, AVal.junk, AVal.junk, AVal.junk, AVal.junk, AVal.junk, AVal.junk, AVal.junk, AVal.junk, AVal.fn 144 [AVal.eptr [PVal.list (List.length cl) (flatX cl)], AVal.eptr [iP (Prod.fst lo), iP (Prod.snd lo)], AVal.eptr [iP (Prod.fst hi), iP (Prod.snd hi)]], AVal.junk, AVal.junk, AVal.junk, AVal.junk, AVal.junk, AVal.junk, AVal.junk, AVal.junk, AVal.junk, AVal.junk, AVal.junk, AVal.junk, AVal.junk, AVal.junk, AVal.junk, AVal.junk, AVal.junk, AVal.junk] { toList := [17] } wnAs wnBo LpSt.busy, AObj.box [iA (Prod.fst b), iA (Prod.fst (Prod.fst (Prod.snd b))), iA (Prod.snd (Prod.fst (Prod.snd b))), iA (Prod.fst (Prod.snd (Prod.snd b))), iA (Prod.snd (Prod.snd (Prod.snd b)))], AObj.row 1 0 none [iA (Prod.fst b)], AObj.row 1 1 none (xs ++ [iA (Prod.fst b)])])))
theorem wnbR_eq (px : PVal) (py : PVal) (cl : List Bx) (lo : P2) (hi : P2) (b : Bx) (j : Nat) (xs : List AVal) (e0 : (0 + j) * 1 = List.length xs ∧ (j + 1) * 8 ≤ 140737488355328 ∧ j + 1 ≤ 9223372036854775807) : evalC (c3X) (evalF c3X 59) (wnLv) 0 8 59 (wnBo) (wnU (Prod.fst b)) (wnS1 px py cl lo hi b j xs) = some (wnbR px py cl lo hi b j xs) := by
  have key := fun (bs : List Bool) (r : AExit × List AVal × List AObj) (ob : List Prop) (h : pathP (c3X) (evalF c3X 59) (wnLv) 0 8 59 [(3, 3, Hint.app)] (wnBo) (wnU (Prod.fst b)) (wnS1 px py cl lo hi b j xs) bs [] = .ok (r.1, r.2.1, r.2.2, ob)) (hp : allOb ob) => pathP_ok h hp
  unfold wnbR
  exact key [] ((AExit.normal, ((jk 35), ([AObj.box [iA (Prod.fst lo), iA (Prod.snd lo)], AObj.box [iA (Prod.fst hi), iA (Prod.snd hi)], AObj.box [AVal.row 7 1 1 0 (j + 1)], AObj.box [AVal.v (Value.slice none 0 0)], AObj.loop [67240945, 67306481, 320, 0, 100664000, 640, 0, 192] [AVal.eptr [px, py], AVal.junk, AVal.junk, AVal.junk, AVal.ptr 0 0 0, AVal.ptr 1 0 0, AVal.ptr 2 0 0, AVal.ptr 3 0 0, AVal.junk, AVal.junk, AVal.junk, AVal.junk, AVal.junk, AVal.junk, AVal.junk, AVal.junk, AVal.fn 144 [AVal.eptr [PVal.list (List.length cl) (flatX cl)], AVal.eptr [iP (Prod.fst lo), iP (Prod.snd lo)], AVal.eptr [iP (Prod.fst hi), iP (Prod.snd hi)]], AVal.junk, AVal.junk, AVal.junk, AVal.junk, AVal.junk, AVal.junk, AVal.junk, AVal.junk, AVal.junk, AVal.junk, AVal.junk, AVal.junk, AVal.junk, AVal.junk, AVal.junk, AVal.junk, AVal.junk, AVal.junk] { toList := [17] } wnAs wnBo LpSt.busy, AObj.box [iA (Prod.fst b), iA (Prod.fst (Prod.fst (Prod.snd b))), iA (Prod.snd (Prod.fst (Prod.snd b))), iA (Prod.fst (Prod.snd (Prod.snd b))), iA (Prod.snd (Prod.snd (Prod.snd b)))], AObj.row 1 0 none [iA (Prod.fst b)], AObj.row 1 1 none (xs ++ [iA (Prod.fst b)])])))) _ (by kernel_rfl) (allOb_cons (by exact e0) allOb_nil)
noncomputable def wnkN (px : PVal) (py : PVal) (cl : List Bx) (lo : P2) (hi : P2) (i : Int) (b : Bx) (m : Bool) : AExit × List AVal × List AObj :=
  (bif decide (i < (↑(List.length cl) : Int)) then (bif m then (AExit.normal, (([AVal.yld 4, AVal.junk, AVal.eptr [iP (Prod.fst lo), iP (Prod.snd lo)], AVal.eptr [iP (Prod.fst hi), iP (Prod.snd hi)], AVal.junk, AVal.junk, AVal.junk, AVal.list (List.length cl) (flatX cl), iA (Int.ofNat (List.length cl)), iA (IntKind.i64.wrap (i + 1))] ++ jk 18), ([AObj.box [iA (Prod.fst lo), iA (Prod.snd lo)], AObj.box [iA (Prod.fst hi), iA (Prod.snd hi)], AObj.box [AVal.row 7 0 1 0 1], AObj.box [AVal.v (Value.slice none 0 0)], AObj.loop [67240945, 67306481, 320, 0, 100664000, 640, 0, 192] [AVal.eptr [px, py], AVal.junk, AVal.junk, AVal.junk, AVal.ptr 0 0 0, AVal.ptr 1 0 0, AVal.ptr 2 0 0, AVal.ptr 3 0 0, AVal.junk, AVal.junk, AVal.junk, AVal.junk, AVal.junk, AVal.junk, AVal.junk, AVal.junk, AVal.fn 144 [AVal.eptr [PVal.list (List.length cl) (flatX cl)], AVal.eptr [iP (Prod.fst lo), iP (Prod.snd lo)], AVal.eptr [iP (Prod.fst hi), iP (Prod.snd hi)]], AVal.junk, AVal.junk, AVal.junk, AVal.junk, AVal.junk, AVal.junk, AVal.junk, AVal.junk, AVal.junk, AVal.junk, AVal.junk, AVal.junk, AVal.junk, AVal.junk, AVal.junk, AVal.junk, AVal.junk, AVal.junk] { toList := [17] } wnAs wnBo LpSt.ready, AObj.box [iA (Prod.fst b), iA (Prod.fst (Prod.fst (Prod.snd b))), iA (Prod.snd (Prod.fst (Prod.snd b))), iA (Prod.fst (Prod.snd (Prod.snd b))), iA (Prod.snd (Prod.snd (Prod.snd b)))], AObj.row 1 0 none [iA (Prod.fst b)], AObj.row 1 0 none [iA (Prod.fst b)]]))) else (AExit.normal, (([AVal.yld 4, AVal.junk, AVal.eptr [iP (Prod.fst lo), iP (Prod.snd lo)], AVal.eptr [iP (Prod.fst hi), iP (Prod.snd hi)], AVal.junk, AVal.junk, AVal.junk, AVal.list (List.length cl) (flatX cl), iA (Int.ofNat (List.length cl)), iA (IntKind.i64.wrap (i + 1))] ++ jk 18), ([AObj.box [iA (Prod.fst lo), iA (Prod.snd lo)], AObj.box [iA (Prod.fst hi), iA (Prod.snd hi)], AObj.box [AVal.v (Value.slice none 0 0)], AObj.box [AVal.v (Value.slice none 0 0)], AObj.loop [67240945, 67306481, 320, 0, 100664000, 640, 0, 192] [AVal.eptr [px, py], AVal.junk, AVal.junk, AVal.junk, AVal.ptr 0 0 0, AVal.ptr 1 0 0, AVal.ptr 2 0 0, AVal.ptr 3 0 0, AVal.junk, AVal.junk, AVal.junk, AVal.junk, AVal.junk, AVal.junk, AVal.junk, AVal.junk, AVal.fn 144 [AVal.eptr [PVal.list (List.length cl) (flatX cl)], AVal.eptr [iP (Prod.fst lo), iP (Prod.snd lo)], AVal.eptr [iP (Prod.fst hi), iP (Prod.snd hi)]], AVal.junk, AVal.junk, AVal.junk, AVal.junk, AVal.junk, AVal.junk, AVal.junk, AVal.junk, AVal.junk, AVal.junk, AVal.junk, AVal.junk, AVal.junk, AVal.junk, AVal.junk, AVal.junk, AVal.junk, AVal.junk] { toList := [17] } wnAs wnBo LpSt.ready, AObj.box [iA (Prod.fst b), iA (Prod.fst (Prod.fst (Prod.snd b))), iA (Prod.snd (Prod.fst (Prod.snd b))), iA (Prod.fst (Prod.snd (Prod.snd b))), iA (Prod.snd (Prod.snd (Prod.snd b)))]])))) else (AExit.exit 0, (([AVal.yld 4, AVal.junk, AVal.eptr [iP (Prod.fst lo), iP (Prod.snd lo)], AVal.eptr [iP (Prod.fst hi), iP (Prod.snd hi)], AVal.junk, AVal.junk, AVal.junk, AVal.list (List.length cl) (flatX cl), iA (Int.ofNat (List.length cl)), iA i, bA false] ++ jk 17), ([AObj.box [iA (Prod.fst lo), iA (Prod.snd lo)], AObj.box [iA (Prod.fst hi), iA (Prod.snd hi)], AObj.box [AVal.v (Value.slice none 0 0)], AObj.box [AVal.v (Value.slice none 0 0)], AObj.loop [67240945, 67306481, 320, 0, 100664000, 640, 0, 192] [AVal.eptr [px, py], AVal.junk, AVal.junk, AVal.junk, AVal.ptr 0 0 0, AVal.ptr 1 0 0, AVal.ptr 2 0 0, AVal.ptr 3 0 0, AVal.junk, AVal.junk, AVal.junk, AVal.junk, AVal.junk, AVal.junk, AVal.junk, AVal.junk, AVal.fn 144 [AVal.eptr [PVal.list (List.length cl) (flatX cl)], AVal.eptr [iP (Prod.fst lo), iP (Prod.snd lo)], AVal.eptr [iP (Prod.fst hi), iP (Prod.snd hi)]], AVal.junk, AVal.junk, AVal.junk, AVal.junk, AVal.junk, AVal.junk, AVal.junk, AVal.junk, AVal.junk, AVal.junk, AVal.junk, AVal.junk, AVal.junk, AVal.junk, AVal.junk, AVal.junk, AVal.junk, AVal.junk] { toList := [17] } wnAs wnBo LpSt.ready]))))
theorem wnkN_eq (px : PVal) (py : PVal) (cl : List Bx) (lo : P2) (hi : P2) (i : Int) (b : Bx) (m : Bool) (b0 : (decide (i < (↑(List.length cl) : Int))) = true → (0 : Int) ≤ i ∧ (i : Int) < (↑(List.length cl) : Int)) (e0 : (decide (i < (↑(List.length cl) : Int))) = true → partA (Cfg.P c3X) 120 (upL (List.drop (Int.toNat i * 5) (flatX cl))) 0 = some (boxA b)) (e1 : (decide (i < (↑(List.length cl) : Int))) = true → pureCall c3X ev3X 145 [ptP (Prod.fst (Prod.snd b)), ptP (Prod.snd (Prod.snd b)), ptP lo, ptP hi] = some (bP m)) (e2 : (decide (i < (↑(List.length cl) : Int))) = true → (m) = true → Ev.yld ev3X 0 4 [iA (Prod.fst b)] [AObj.box [iA (Prod.fst lo), iA (Prod.snd lo)], AObj.box [iA (Prod.fst hi), iA (Prod.snd hi)], AObj.box [AVal.v (Value.slice none 0 0)], AObj.box [AVal.v (Value.slice none 0 0)], AObj.loop [67240945, 67306481, 320, 0, 100664000, 640, 0, 192] [AVal.eptr [px, py], AVal.junk, AVal.junk, AVal.junk, AVal.ptr 0 0 0, AVal.ptr 1 0 0, AVal.ptr 2 0 0, AVal.ptr 3 0 0, AVal.junk, AVal.junk, AVal.junk, AVal.junk, AVal.junk, AVal.junk, AVal.junk, AVal.junk, AVal.fn 144 [AVal.eptr [PVal.list (List.length cl) (flatX cl)], AVal.eptr [iP (Prod.fst lo), iP (Prod.snd lo)], AVal.eptr [iP (Prod.fst hi), iP (Prod.snd hi)]], AVal.junk, AVal.junk, AVal.junk, AVal.junk, AVal.junk, AVal.junk, AVal.junk, AVal.junk, AVal.junk, AVal.junk, AVal.junk, AVal.junk, AVal.junk, AVal.junk, AVal.junk, AVal.junk, AVal.junk, AVal.junk] { toList := [17] } wnAs wnBo LpSt.ready, AObj.box [iA (Prod.fst b), iA (Prod.fst (Prod.fst (Prod.snd b))), iA (Prod.snd (Prod.fst (Prod.snd b))), iA (Prod.fst (Prod.snd (Prod.snd b))), iA (Prod.snd (Prod.snd (Prod.snd b)))]] = some (bA true, [AObj.box [iA (Prod.fst lo), iA (Prod.snd lo)], AObj.box [iA (Prod.fst hi), iA (Prod.snd hi)], AObj.box [AVal.row 7 0 1 0 1], AObj.box [AVal.v (Value.slice none 0 0)], AObj.loop [67240945, 67306481, 320, 0, 100664000, 640, 0, 192] [AVal.eptr [px, py], AVal.junk, AVal.junk, AVal.junk, AVal.ptr 0 0 0, AVal.ptr 1 0 0, AVal.ptr 2 0 0, AVal.ptr 3 0 0, AVal.junk, AVal.junk, AVal.junk, AVal.junk, AVal.junk, AVal.junk, AVal.junk, AVal.junk, AVal.fn 144 [AVal.eptr [PVal.list (List.length cl) (flatX cl)], AVal.eptr [iP (Prod.fst lo), iP (Prod.snd lo)], AVal.eptr [iP (Prod.fst hi), iP (Prod.snd hi)]], AVal.junk, AVal.junk, AVal.junk, AVal.junk, AVal.junk, AVal.junk, AVal.junk, AVal.junk, AVal.junk, AVal.junk, AVal.junk, AVal.junk, AVal.junk, AVal.junk, AVal.junk, AVal.junk, AVal.junk, AVal.junk] { toList := [17] } wnAs wnBo LpSt.ready, AObj.box [iA (Prod.fst b), iA (Prod.fst (Prod.fst (Prod.snd b))), iA (Prod.snd (Prod.fst (Prod.snd b))), iA (Prod.fst (Prod.snd (Prod.snd b))), iA (Prod.snd (Prod.snd (Prod.snd b)))], AObj.row 1 0 none [iA (Prod.fst b)], AObj.row 1 0 none [iA (Prod.fst b)]])) : evalC (c3X) (ev3X) (mtLv) 0 5 60 (loopAt Tryz.f144 0) (mtW cl lo hi i) (wn0 px py cl lo hi) = some (wnkN px py cl lo hi i b m) := by
  have key := fun (bs : List Bool) (r : AExit × List AVal × List AObj) (ob : List Prop) (h : pathP (c3X) (ev3X) (mtLv) 0 5 60 [(2, 0, Hint.idx), (2, 1, Hint.load (boxA b)), (3, 6, Hint.pcall (bP m)), (3, 11, Hint.callS fun a S => (bA true, List.set S 2 (AObj.box [AVal.row 7 0 1 0 1]) ++ [AObj.row 1 0 none a, AObj.row 1 0 none a]))] (loopAt Tryz.f144 0) (mtW cl lo hi i) (wn0 px py cl lo hi) bs [] = .ok (r.1, r.2.1, r.2.2, ob)) (hp : allOb ob) => pathP_ok h hp
  unfold wnkN
  exact bif_case (P := fun r => evalC (c3X) (ev3X) (mtLv) 0 5 60 (loopAt Tryz.f144 0) (mtW cl lo hi i) (wn0 px py cl lo hi) = some r)
    (fun h0 => bif_case (P := fun r => evalC (c3X) (ev3X) (mtLv) 0 5 60 (loopAt Tryz.f144 0) (mtW cl lo hi i) (wn0 px py cl lo hi) = some r)
     (fun h1 => key [true, true, false] ((AExit.normal, (([AVal.yld 4, AVal.junk, AVal.eptr [iP (Prod.fst lo), iP (Prod.snd lo)], AVal.eptr [iP (Prod.fst hi), iP (Prod.snd hi)], AVal.junk, AVal.junk, AVal.junk, AVal.list (List.length cl) (flatX cl), iA (Int.ofNat (List.length cl)), iA (IntKind.i64.wrap (i + 1))] ++ jk 18), ([AObj.box [iA (Prod.fst lo), iA (Prod.snd lo)], AObj.box [iA (Prod.fst hi), iA (Prod.snd hi)], AObj.box [AVal.row 7 0 1 0 1], AObj.box [AVal.v (Value.slice none 0 0)], AObj.loop [67240945, 67306481, 320, 0, 100664000, 640, 0, 192] [AVal.eptr [px, py], AVal.junk, AVal.junk, AVal.junk, AVal.ptr 0 0 0, AVal.ptr 1 0 0, AVal.ptr 2 0 0, AVal.ptr 3 0 0, AVal.junk, AVal.junk, AVal.junk, AVal.junk, AVal.junk, AVal.junk, AVal.junk, AVal.junk, AVal.fn 144 [AVal.eptr [PVal.list (List.length cl) (flatX cl)], AVal.eptr [iP (Prod.fst lo), iP (Prod.snd lo)], AVal.eptr [iP (Prod.fst hi), iP (Prod.snd hi)]], AVal.junk, AVal.junk, AVal.junk, AVal.junk, AVal.junk, AVal.junk, AVal.junk, AVal.junk, AVal.junk, AVal.junk, AVal.junk, AVal.junk, AVal.junk, AVal.junk, AVal.junk, AVal.junk, AVal.junk, AVal.junk] { toList := [17] } wnAs wnBo LpSt.ready, AObj.box [iA (Prod.fst b), iA (Prod.fst (Prod.fst (Prod.snd b))), iA (Prod.snd (Prod.fst (Prod.snd b))), iA (Prod.fst (Prod.snd (Prod.snd b))), iA (Prod.snd (Prod.snd (Prod.snd b)))], AObj.row 1 0 none [iA (Prod.fst b)], AObj.row 1 0 none [iA (Prod.fst b)]])))) _ (by kernel_rfl) (allOb_cons lit_f (allOb_cons (by exact (e2 h0 h1)) (allOb_cons h1 (allOb_cons (by exact (e1 h0)) (allOb_cons (by exact (e0 h0)) (allOb_cons (idx_okX (b0 h0)) (allOb_cons h0 allOb_nil))))))))
     (fun h1 => key [true, false, false] ((AExit.normal, (([AVal.yld 4, AVal.junk, AVal.eptr [iP (Prod.fst lo), iP (Prod.snd lo)], AVal.eptr [iP (Prod.fst hi), iP (Prod.snd hi)], AVal.junk, AVal.junk, AVal.junk, AVal.list (List.length cl) (flatX cl), iA (Int.ofNat (List.length cl)), iA (IntKind.i64.wrap (i + 1))] ++ jk 18), ([AObj.box [iA (Prod.fst lo), iA (Prod.snd lo)], AObj.box [iA (Prod.fst hi), iA (Prod.snd hi)], AObj.box [AVal.v (Value.slice none 0 0)], AObj.box [AVal.v (Value.slice none 0 0)], AObj.loop [67240945, 67306481, 320, 0, 100664000, 640, 0, 192] [AVal.eptr [px, py], AVal.junk, AVal.junk, AVal.junk, AVal.ptr 0 0 0, AVal.ptr 1 0 0, AVal.ptr 2 0 0, AVal.ptr 3 0 0, AVal.junk, AVal.junk, AVal.junk, AVal.junk, AVal.junk, AVal.junk, AVal.junk, AVal.junk, AVal.fn 144 [AVal.eptr [PVal.list (List.length cl) (flatX cl)], AVal.eptr [iP (Prod.fst lo), iP (Prod.snd lo)], AVal.eptr [iP (Prod.fst hi), iP (Prod.snd hi)]], AVal.junk, AVal.junk, AVal.junk, AVal.junk, AVal.junk, AVal.junk, AVal.junk, AVal.junk, AVal.junk, AVal.junk, AVal.junk, AVal.junk, AVal.junk, AVal.junk, AVal.junk, AVal.junk, AVal.junk, AVal.junk] { toList := [17] } wnAs wnBo LpSt.ready, AObj.box [iA (Prod.fst b), iA (Prod.fst (Prod.fst (Prod.snd b))), iA (Prod.snd (Prod.fst (Prod.snd b))), iA (Prod.fst (Prod.snd (Prod.snd b))), iA (Prod.snd (Prod.snd (Prod.snd b)))]])))) _ (by kernel_rfl) (allOb_cons lit_f (allOb_cons h1 (allOb_cons (by exact (e1 h0)) (allOb_cons (by exact (e0 h0)) (allOb_cons (idx_okX (b0 h0)) (allOb_cons h0 allOb_nil))))))))
    (fun h0 => key [false] ((AExit.exit 0, (([AVal.yld 4, AVal.junk, AVal.eptr [iP (Prod.fst lo), iP (Prod.snd lo)], AVal.eptr [iP (Prod.fst hi), iP (Prod.snd hi)], AVal.junk, AVal.junk, AVal.junk, AVal.list (List.length cl) (flatX cl), iA (Int.ofNat (List.length cl)), iA i, bA false] ++ jk 17), ([AObj.box [iA (Prod.fst lo), iA (Prod.snd lo)], AObj.box [iA (Prod.fst hi), iA (Prod.snd hi)], AObj.box [AVal.v (Value.slice none 0 0)], AObj.box [AVal.v (Value.slice none 0 0)], AObj.loop [67240945, 67306481, 320, 0, 100664000, 640, 0, 192] [AVal.eptr [px, py], AVal.junk, AVal.junk, AVal.junk, AVal.ptr 0 0 0, AVal.ptr 1 0 0, AVal.ptr 2 0 0, AVal.ptr 3 0 0, AVal.junk, AVal.junk, AVal.junk, AVal.junk, AVal.junk, AVal.junk, AVal.junk, AVal.junk, AVal.fn 144 [AVal.eptr [PVal.list (List.length cl) (flatX cl)], AVal.eptr [iP (Prod.fst lo), iP (Prod.snd lo)], AVal.eptr [iP (Prod.fst hi), iP (Prod.snd hi)]], AVal.junk, AVal.junk, AVal.junk, AVal.junk, AVal.junk, AVal.junk, AVal.junk, AVal.junk, AVal.junk, AVal.junk, AVal.junk, AVal.junk, AVal.junk, AVal.junk, AVal.junk, AVal.junk, AVal.junk, AVal.junk] { toList := [17] } wnAs wnBo LpSt.ready])))) _ (by kernel_rfl) (allOb_cons h0 allOb_nil))
noncomputable def wnkR (px : PVal) (py : PVal) (cl : List Bx) (lo : P2) (hi : P2) (i : Int) (b : Bx) (m : Bool) (j : Nat) (xs : List AVal) : AExit × List AVal × List AObj :=
  (bif decide (i < (↑(List.length cl) : Int)) then (bif m then (AExit.normal, (([AVal.yld 4, AVal.junk, AVal.eptr [iP (Prod.fst lo), iP (Prod.snd lo)], AVal.eptr [iP (Prod.fst hi), iP (Prod.snd hi)], AVal.junk, AVal.junk, AVal.junk, AVal.list (List.length cl) (flatX cl), iA (Int.ofNat (List.length cl)), iA (IntKind.i64.wrap (i + 1))] ++ jk 18), ([AObj.box [iA (Prod.fst lo), iA (Prod.snd lo)], AObj.box [iA (Prod.fst hi), iA (Prod.snd hi)], AObj.box [AVal.row 7 1 1 0 (j + 1)], AObj.box [AVal.v (Value.slice none 0 0)], AObj.loop [67240945, 67306481, 320, 0, 100664000, 640, 0, 192] [AVal.eptr [px, py], AVal.junk, AVal.junk, AVal.junk, AVal.ptr 0 0 0, AVal.ptr 1 0 0, AVal.ptr 2 0 0, AVal.ptr 3 0 0, AVal.junk, AVal.junk, AVal.junk, AVal.junk, AVal.junk, AVal.junk, AVal.junk, AVal.junk, AVal.fn 144 [AVal.eptr [PVal.list (List.length cl) (flatX cl)], AVal.eptr [iP (Prod.fst lo), iP (Prod.snd lo)], AVal.eptr [iP (Prod.fst hi), iP (Prod.snd hi)]], AVal.junk, AVal.junk, AVal.junk, AVal.junk, AVal.junk, AVal.junk, AVal.junk, AVal.junk, AVal.junk, AVal.junk, AVal.junk, AVal.junk, AVal.junk, AVal.junk, AVal.junk, AVal.junk, AVal.junk, AVal.junk] { toList := [17] } wnAs wnBo LpSt.ready, AObj.box [iA (Prod.fst b), iA (Prod.fst (Prod.fst (Prod.snd b))), iA (Prod.snd (Prod.fst (Prod.snd b))), iA (Prod.fst (Prod.snd (Prod.snd b))), iA (Prod.snd (Prod.snd (Prod.snd b)))], AObj.row 1 0 none [iA (Prod.fst b)], AObj.row 1 1 none (xs ++ [iA (Prod.fst b)])]))) else (AExit.normal, (([AVal.yld 4, AVal.junk, AVal.eptr [iP (Prod.fst lo), iP (Prod.snd lo)], AVal.eptr [iP (Prod.fst hi), iP (Prod.snd hi)], AVal.junk, AVal.junk, AVal.junk, AVal.list (List.length cl) (flatX cl), iA (Int.ofNat (List.length cl)), iA (IntKind.i64.wrap (i + 1))] ++ jk 18), ([AObj.box [iA (Prod.fst lo), iA (Prod.snd lo)], AObj.box [iA (Prod.fst hi), iA (Prod.snd hi)], AObj.box [AVal.row 7 0 1 0 j], AObj.box [AVal.v (Value.slice none 0 0)], AObj.loop [67240945, 67306481, 320, 0, 100664000, 640, 0, 192] [AVal.eptr [px, py], AVal.junk, AVal.junk, AVal.junk, AVal.ptr 0 0 0, AVal.ptr 1 0 0, AVal.ptr 2 0 0, AVal.ptr 3 0 0, AVal.junk, AVal.junk, AVal.junk, AVal.junk, AVal.junk, AVal.junk, AVal.junk, AVal.junk, AVal.fn 144 [AVal.eptr [PVal.list (List.length cl) (flatX cl)], AVal.eptr [iP (Prod.fst lo), iP (Prod.snd lo)], AVal.eptr [iP (Prod.fst hi), iP (Prod.snd hi)]], AVal.junk, AVal.junk, AVal.junk, AVal.junk, AVal.junk, AVal.junk, AVal.junk, AVal.junk, AVal.junk, AVal.junk, AVal.junk, AVal.junk, AVal.junk, AVal.junk, AVal.junk, AVal.junk, AVal.junk, AVal.junk] { toList := [17] } wnAs wnBo LpSt.ready, AObj.box [iA (Prod.fst b), iA (Prod.fst (Prod.fst (Prod.snd b))), iA (Prod.snd (Prod.fst (Prod.snd b))), iA (Prod.fst (Prod.snd (Prod.snd b))), iA (Prod.snd (Prod.snd (Prod.snd b)))], AObj.free, AObj.row 1 0 none xs])))) else (AExit.exit 0, (([AVal.yld 4, AVal.junk, AVal.eptr [iP (Prod.fst lo), iP (Prod.snd lo)], AVal.eptr [iP (Prod.fst hi), iP (Prod.snd hi)], AVal.junk, AVal.junk, AVal.junk, AVal.list (List.length cl) (flatX cl), iA (Int.ofNat (List.length cl)), iA i, bA false] ++ jk 17), ([AObj.box [iA (Prod.fst lo), iA (Prod.snd lo)], AObj.box [iA (Prod.fst hi), iA (Prod.snd hi)], AObj.box [AVal.row 7 0 1 0 j], AObj.box [AVal.v (Value.slice none 0 0)], AObj.loop [67240945, 67306481, 320, 0, 100664000, 640, 0, 192] [AVal.eptr [px, py], AVal.junk, AVal.junk, AVal.junk, AVal.ptr 0 0 0, AVal.ptr 1 0 0, AVal.ptr 2 0 0, AVal.ptr 3 0 0, AVal.junk, AVal.junk, AVal.junk, AVal.junk, AVal.junk, AVal.junk, AVal.junk, AVal.junk, AVal.fn 144 [AVal.eptr [PVal.list (List.length cl) (flatX cl)], AVal.eptr [iP (Prod.fst lo), iP (Prod.snd lo)], AVal.eptr [iP (Prod.fst hi), iP (Prod.snd hi)]], AVal.junk, AVal.junk, AVal.junk, AVal.junk, AVal.junk, AVal.junk, AVal.junk, AVal.junk, AVal.junk, AVal.junk, AVal.junk, AVal.junk, AVal.junk, AVal.junk, AVal.junk, AVal.junk, AVal.junk, AVal.junk] { toList := [17] } wnAs wnBo LpSt.ready, AObj.free, AObj.free, AObj.row 1 0 none xs]))))
theorem wnkR_eq (px : PVal) (py : PVal) (cl : List Bx) (lo : P2) (hi : P2) (i : Int) (b : Bx) (m : Bool) (j : Nat) (xs : List AVal) (b0 : (decide (i < (↑(List.length cl) : Int))) = true → (0 : Int) ≤ i ∧ (i : Int) < (↑(List.length cl) : Int)) (e0 : (decide (i < (↑(List.length cl) : Int))) = true → partA (Cfg.P c3X) 120 (upL (List.drop (Int.toNat i * 5) (flatX cl))) 0 = some (boxA b)) (e1 : (decide (i < (↑(List.length cl) : Int))) = true → pureCall c3X ev3X 145 [ptP (Prod.fst (Prod.snd b)), ptP (Prod.snd (Prod.snd b)), ptP lo, ptP hi] = some (bP m)) (e2 : (decide (i < (↑(List.length cl) : Int))) = true → (m) = true → Ev.yld ev3X 0 4 [iA (Prod.fst b)] [AObj.box [iA (Prod.fst lo), iA (Prod.snd lo)], AObj.box [iA (Prod.fst hi), iA (Prod.snd hi)], AObj.box [AVal.row 7 0 1 0 j], AObj.box [AVal.v (Value.slice none 0 0)], AObj.loop [67240945, 67306481, 320, 0, 100664000, 640, 0, 192] [AVal.eptr [px, py], AVal.junk, AVal.junk, AVal.junk, AVal.ptr 0 0 0, AVal.ptr 1 0 0, AVal.ptr 2 0 0, AVal.ptr 3 0 0, AVal.junk, AVal.junk, AVal.junk, AVal.junk, AVal.junk, AVal.junk, AVal.junk, AVal.junk, AVal.fn 144 [AVal.eptr [PVal.list (List.length cl) (flatX cl)], AVal.eptr [iP (Prod.fst lo), iP (Prod.snd lo)], AVal.eptr [iP (Prod.fst hi), iP (Prod.snd hi)]], AVal.junk, AVal.junk, AVal.junk, AVal.junk, AVal.junk, AVal.junk, AVal.junk, AVal.junk, AVal.junk, AVal.junk, AVal.junk, AVal.junk, AVal.junk, AVal.junk, AVal.junk, AVal.junk, AVal.junk, AVal.junk] { toList := [17] } wnAs wnBo LpSt.ready, AObj.box [iA (Prod.fst b), iA (Prod.fst (Prod.fst (Prod.snd b))), iA (Prod.snd (Prod.fst (Prod.snd b))), iA (Prod.fst (Prod.snd (Prod.snd b))), iA (Prod.snd (Prod.snd (Prod.snd b)))], AObj.free, AObj.row 1 0 none xs] = some (bA true, [AObj.box [iA (Prod.fst lo), iA (Prod.snd lo)], AObj.box [iA (Prod.fst hi), iA (Prod.snd hi)], AObj.box [AVal.row 7 1 1 0 (j + 1)], AObj.box [AVal.v (Value.slice none 0 0)], AObj.loop [67240945, 67306481, 320, 0, 100664000, 640, 0, 192] [AVal.eptr [px, py], AVal.junk, AVal.junk, AVal.junk, AVal.ptr 0 0 0, AVal.ptr 1 0 0, AVal.ptr 2 0 0, AVal.ptr 3 0 0, AVal.junk, AVal.junk, AVal.junk, AVal.junk, AVal.junk, AVal.junk, AVal.junk, AVal.junk, AVal.fn 144 [AVal.eptr [PVal.list (List.length cl) (flatX cl)], AVal.eptr [iP (Prod.fst lo), iP (Prod.snd lo)], AVal.eptr [iP (Prod.fst hi), iP (Prod.snd hi)]], AVal.junk, AVal.junk, AVal.junk, AVal.junk, AVal.junk, AVal.junk, AVal.junk, AVal.junk, AVal.junk, AVal.junk, AVal.junk, AVal.junk, AVal.junk, AVal.junk, AVal.junk, AVal.junk, AVal.junk, AVal.junk] { toList := [17] } wnAs wnBo LpSt.ready, AObj.box [iA (Prod.fst b), iA (Prod.fst (Prod.fst (Prod.snd b))), iA (Prod.snd (Prod.fst (Prod.snd b))), iA (Prod.fst (Prod.snd (Prod.snd b))), iA (Prod.snd (Prod.snd (Prod.snd b)))], AObj.row 1 0 none [iA (Prod.fst b)], AObj.row 1 1 none (xs ++ [iA (Prod.fst b)])])) : evalC (c3X) (ev3X) (mtLv) 0 5 60 (loopAt Tryz.f144 0) (mtW cl lo hi i) (wn1 px py cl lo hi j xs) = some (wnkR px py cl lo hi i b m j xs) := by
  have key := fun (bs : List Bool) (r : AExit × List AVal × List AObj) (ob : List Prop) (h : pathP (c3X) (ev3X) (mtLv) 0 5 60 [(2, 0, Hint.idx), (2, 1, Hint.load (boxA b)), (3, 6, Hint.pcall (bP m)), (3, 11, Hint.callS fun a S => (bA true, List.set (List.set (List.set S 2 (AObj.box [AVal.row 7 1 1 0 (j + 1)])) 6 (AObj.row 1 0 none a)) 7 (AObj.row 1 1 none (xs ++ a))))] (loopAt Tryz.f144 0) (mtW cl lo hi i) (wn1 px py cl lo hi j xs) bs [] = .ok (r.1, r.2.1, r.2.2, ob)) (hp : allOb ob) => pathP_ok h hp
  unfold wnkR
  exact bif_case (P := fun r => evalC (c3X) (ev3X) (mtLv) 0 5 60 (loopAt Tryz.f144 0) (mtW cl lo hi i) (wn1 px py cl lo hi j xs) = some r)
    (fun h0 => bif_case (P := fun r => evalC (c3X) (ev3X) (mtLv) 0 5 60 (loopAt Tryz.f144 0) (mtW cl lo hi i) (wn1 px py cl lo hi j xs) = some r)
     (fun h1 => key [true, true, false] ((AExit.normal, (([AVal.yld 4, AVal.junk, AVal.eptr [iP (Prod.fst lo), iP (Prod.snd lo)], AVal.eptr [iP (Prod.fst hi), iP (Prod.snd hi)], AVal.junk, AVal.junk, AVal.junk, AVal.list (List.length cl) (flatX cl), iA (Int.ofNat (List.length cl)), iA (IntKind.i64.wrap (i + 1))] ++ jk 18), ([AObj.box [iA (Prod.fst lo), iA (Prod.snd lo)], AObj.box [iA (Prod.fst hi), iA (Prod.snd hi)], AObj.box [AVal.row 7 1 1 0 (j + 1)], AObj.box [AVal.v (Value.slice none 0 0)], AObj.loop [67240945, 67306481, 320, 0, 100664000, 640, 0, 192] [AVal.eptr [px, py], AVal.junk, AVal.junk, AVal.junk, AVal.ptr 0 0 0, AVal.ptr 1 0 0, AVal.ptr 2 0 0, AVal.ptr 3 0 0, AVal.junk, AVal.junk, AVal.junk, AVal.junk, AVal.junk, AVal.junk, AVal.junk, AVal.junk, AVal.fn 144 [AVal.eptr [PVal.list (List.length cl) (flatX cl)], AVal.eptr [iP (Prod.fst lo), iP (Prod.snd lo)], AVal.eptr [iP (Prod.fst hi), iP (Prod.snd hi)]], AVal.junk, AVal.junk, AVal.junk, AVal.junk, AVal.junk, AVal.junk, AVal.junk, AVal.junk, AVal.junk, AVal.junk, AVal.junk, AVal.junk, AVal.junk, AVal.junk, AVal.junk, AVal.junk, AVal.junk, AVal.junk] { toList := [17] } wnAs wnBo LpSt.ready, AObj.box [iA (Prod.fst b), iA (Prod.fst (Prod.fst (Prod.snd b))), iA (Prod.snd (Prod.fst (Prod.snd b))), iA (Prod.fst (Prod.snd (Prod.snd b))), iA (Prod.snd (Prod.snd (Prod.snd b)))], AObj.row 1 0 none [iA (Prod.fst b)], AObj.row 1 1 none (xs ++ [iA (Prod.fst b)])])))) _ (by kernel_rfl) (allOb_cons lit_f (allOb_cons (by exact (e2 h0 h1)) (allOb_cons h1 (allOb_cons (by exact (e1 h0)) (allOb_cons (by exact (e0 h0)) (allOb_cons (idx_okX (b0 h0)) (allOb_cons h0 allOb_nil))))))))
     (fun h1 => key [true, false, false] ((AExit.normal, (([AVal.yld 4, AVal.junk, AVal.eptr [iP (Prod.fst lo), iP (Prod.snd lo)], AVal.eptr [iP (Prod.fst hi), iP (Prod.snd hi)], AVal.junk, AVal.junk, AVal.junk, AVal.list (List.length cl) (flatX cl), iA (Int.ofNat (List.length cl)), iA (IntKind.i64.wrap (i + 1))] ++ jk 18), ([AObj.box [iA (Prod.fst lo), iA (Prod.snd lo)], AObj.box [iA (Prod.fst hi), iA (Prod.snd hi)], AObj.box [AVal.row 7 0 1 0 j], AObj.box [AVal.v (Value.slice none 0 0)], AObj.loop [67240945, 67306481, 320, 0, 100664000, 640, 0, 192] [AVal.eptr [px, py], AVal.junk, AVal.junk, AVal.junk, AVal.ptr 0 0 0, AVal.ptr 1 0 0, AVal.ptr 2 0 0, AVal.ptr 3 0 0, AVal.junk, AVal.junk, AVal.junk, AVal.junk, AVal.junk, AVal.junk, AVal.junk, AVal.junk, AVal.fn 144 [AVal.eptr [PVal.list (List.length cl) (flatX cl)], AVal.eptr [iP (Prod.fst lo), iP (Prod.snd lo)], AVal.eptr [iP (Prod.fst hi), iP (Prod.snd hi)]], AVal.junk, AVal.junk, AVal.junk, AVal.junk, AVal.junk, AVal.junk, AVal.junk, AVal.junk, AVal.junk, AVal.junk, AVal.junk, AVal.junk, AVal.junk, AVal.junk, AVal.junk, AVal.junk, AVal.junk, AVal.junk] { toList := [17] } wnAs wnBo LpSt.ready, AObj.box [iA (Prod.fst b), iA (Prod.fst (Prod.fst (Prod.snd b))), iA (Prod.snd (Prod.fst (Prod.snd b))), iA (Prod.fst (Prod.snd (Prod.snd b))), iA (Prod.snd (Prod.snd (Prod.snd b)))], AObj.free, AObj.row 1 0 none xs])))) _ (by kernel_rfl) (allOb_cons lit_f (allOb_cons h1 (allOb_cons (by exact (e1 h0)) (allOb_cons (by exact (e0 h0)) (allOb_cons (idx_okX (b0 h0)) (allOb_cons h0 allOb_nil))))))))
    (fun h0 => key [false] ((AExit.exit 0, (([AVal.yld 4, AVal.junk, AVal.eptr [iP (Prod.fst lo), iP (Prod.snd lo)], AVal.eptr [iP (Prod.fst hi), iP (Prod.snd hi)], AVal.junk, AVal.junk, AVal.junk, AVal.list (List.length cl) (flatX cl), iA (Int.ofNat (List.length cl)), iA i, bA false] ++ jk 17), ([AObj.box [iA (Prod.fst lo), iA (Prod.snd lo)], AObj.box [iA (Prod.fst hi), iA (Prod.snd hi)], AObj.box [AVal.row 7 0 1 0 j], AObj.box [AVal.v (Value.slice none 0 0)], AObj.loop [67240945, 67306481, 320, 0, 100664000, 640, 0, 192] [AVal.eptr [px, py], AVal.junk, AVal.junk, AVal.junk, AVal.ptr 0 0 0, AVal.ptr 1 0 0, AVal.ptr 2 0 0, AVal.ptr 3 0 0, AVal.junk, AVal.junk, AVal.junk, AVal.junk, AVal.junk, AVal.junk, AVal.junk, AVal.junk, AVal.fn 144 [AVal.eptr [PVal.list (List.length cl) (flatX cl)], AVal.eptr [iP (Prod.fst lo), iP (Prod.snd lo)], AVal.eptr [iP (Prod.fst hi), iP (Prod.snd hi)]], AVal.junk, AVal.junk, AVal.junk, AVal.junk, AVal.junk, AVal.junk, AVal.junk, AVal.junk, AVal.junk, AVal.junk, AVal.junk, AVal.junk, AVal.junk, AVal.junk, AVal.junk, AVal.junk, AVal.junk, AVal.junk] { toList := [17] } wnAs wnBo LpSt.ready, AObj.free, AObj.free, AObj.row 1 0 none xs])))) _ (by kernel_rfl) (allOb_cons h0 allOb_nil))
end Go.Proofs.YtkkgimhbliocoaaGreat
/- find's meet$1, ranged over by Window for nodes: the whole call. -/
namespace Go.Proofs.YtkkgimhbliocoaaGreat
open Go Vm M
set_option linter.unusedVariables false
set_option linter.unusedSectionVars false
set_option linter.unusedSimpArgs false
set_option maxRecDepth 100000
def hitB (lo hi : P2) (b : Bx) : Bool := meetB b.2.1 b.2.2 lo hi
def hitL (cl : List Bx) (lo hi : P2) (k : Nat) : List Int := ((cl.take k).filter (hitB lo hi)).map fun b => b.1
theorem hitL_succ {cl : List Bx} {k : Nat} (lo hi : P2) (h : k < cl.length) : hitL cl lo hi (k + 1) = hitL cl lo hi k ++ (bif hitB lo hi (bAt cl k) then [(bAt cl k).1] else []) := by
  unfold hitL
  rw [List.take_add_one, List.getElem?_eq_getElem h, Option.toList_some, List.filter_append, List.map_append, bAt_get (List.getElem?_eq_getElem h), List.filter_cons]
  cases hitB lo hi cl[k] <;> rfl
theorem hitL_le (cl : List Bx) (lo hi : P2) (k : Nat) : (hitL cl lo hi k).length ≤ cl.length := by
  unfold hitL
  rw [List.length_map]
  exact Nat.le_trans (List.length_filter_le _ _) (by rw [List.length_take]; omega)
noncomputable abbrev mtK : Code := loopAt Tryz.f144 0
noncomputable def mtC : Code := Tryz.f144.body.getD .skip
theorem mtC_body : mtC = .seq (c1 mtC) (.block 0 (.loop mtK)) := by kernel_rfl
noncomputable def mtFn : FnA := (c3X.tab 144).getD ⟨0, #[], .skip, []⟩
theorem mtFn_tab : c3X.tab 144 = some mtFn := by kernel_rfl
theorem mtFn_body : mtFn.body = mtC := by kernel_rfl
def mtZ (cl : List Bx) (lo hi : P2) : List AVal := [.yld 4, .junk, .eptr [iP lo.1, iP lo.2], .eptr [iP hi.1, iP hi.2]] ++ jk 3 ++ [bsA cl, iA cl.length, iA cl.length, bA false] ++ jk 17
theorem evalF_yld (c : Cfg) (k : Nat) : (evalF c (k + 1)).yld = fun lo q args S => roundA c (evalF c k) k lo q args S := rfl
section
variable (px py : PVal) (cl : List Bx) (lo hi : P2)
theorem wn_yN (b : Bx) : Ev.yld ev3X 0 4 [iA b.1] (wn0 px py cl lo hi ++ [AObj.box (bxCells b)]) = some (bA true, ((wn0 px py cl lo hi ++ [AObj.box (bxCells b)]).set 2 (.box [.row 7 0 1 0 1])) ++ [.row 1 0 none [iA b.1], .row 1 0 none [iA b.1]]) := by
  refine Eq.trans (congrFun (congrFun (congrFun (congrFun (evalF_yld c3X 59) 0) 4) _) _) ?_
  refine roundA_of (lv := wnLv) (T := wnT px py cl lo hi) (ps := #[17]) (asg := wnAs) (body := wnBo) (T1 := wnU b.1) (S1 := wn0 px py cl lo hi ++ [AObj.box (bxCells b)]) (x := .normal) (T2 := (wnbN px py cl lo hi b).2.1) (S2 := (wnbN px py cl lo hi b).2.2) rfl rfl rfl (by kernel_rfl) (by kernel_rfl) (by kernel_rfl) (by kernel_rfl) ?_ (by kernel_rfl) (by kernel_rfl)
  exact Eq.trans (b := evalC c3X (evalF c3X 59) wnLv 0 6 59 wnBo (wnU b.1) (wnS0 px py cl lo hi b)) (by kernel_rfl) (wnbN_eq px py cl lo hi b)
theorem wn_yR (b : Bx) (j : Nat) (xs : List AVal) (hx : j = xs.length) (hj : j ≤ 1000) : Ev.yld ev3X 0 4 [iA b.1] ((wn1 px py cl lo hi j xs).set 5 (.box (bxCells b))) = some (bA true, ((((wn1 px py cl lo hi j xs).set 5 (.box (bxCells b))).set 2 (.box [.row 7 1 1 0 (j + 1)])).set 6 (.row 1 0 none [iA b.1])).set 7 (.row 1 1 none (xs ++ [iA b.1]))) := by
  refine Eq.trans (congrFun (congrFun (congrFun (congrFun (evalF_yld c3X 59) 0) 4) _) _) ?_
  refine roundA_of (lv := wnLv) (T := wnT px py cl lo hi) (ps := #[17]) (asg := wnAs) (body := wnBo) (T1 := wnU b.1) (S1 := (wn1 px py cl lo hi j xs).set 5 (.box (bxCells b))) (x := .normal) (T2 := (wnbR px py cl lo hi b j xs).2.1) (S2 := (wnbR px py cl lo hi b j xs).2.2) rfl rfl rfl (by kernel_rfl) (by kernel_rfl) (by kernel_rfl) (by kernel_rfl) ?_ (by kernel_rfl) (by kernel_rfl)
  exact Eq.trans (b := evalC c3X (evalF c3X 59) wnLv 0 8 59 wnBo (wnU b.1) (wnS1 px py cl lo hi b j xs)) (by kernel_rfl) (wnbR_eq px py cl lo hi b j xs ⟨by rw [hx]; omega, by omega, by omega⟩)
noncomputable def wnSt (ids : List Int) : List AObj := bif Nat.beq ids.length 0 then wn0 px py cl lo hi else wn1 px py cl lo hi ids.length (intA ids)
theorem wnSt_nil {ids : List Int} (h : ids = []) : wnSt px py cl lo hi ids = wn0 px py cl lo hi := by subst h; rfl
theorem wnSt_cons {ids : List Int} (h : 1 ≤ ids.length) : wnSt px py cl lo hi ids = wn1 px py cl lo hi ids.length (intA ids) := by unfold wnSt; rw [beq0 h]; rfl
theorem wn_round (hl : cl.length ≤ 1000) {k : Nat} (h : k < cl.length) : EV c3X 5 mtK (mtW cl lo hi k) (wnSt px py cl lo hi (hitL cl lo hi k)) .normal (mtW cl lo hi (k + 1 : Nat)) (wnSt px py cl lo hi (hitL cl lo hi (k + 1))) := by
  have hd : decide ((k : Int) < (cl.length : Int)) = true := decide_eq_true (by omega)
  have hle := hitL_le cl lo hi k
  rw [hitL_succ lo hi h]
  by_cases h0 : hitL cl lo hi k = []
  · rw [h0, wnSt_nil px py cl lo hi rfl, List.nil_append]
    have e := wnkN_eq px py cl lo hi k (bAt cl k) (hitB lo hi (bAt cl k)) (fun _ => by omega) (fun _ => partX h) (fun _ => meetG _ _ _ _) (fun _ _ => wn_yN px py cl lo hi (bAt cl k))
    unfold wnkN at e
    rw [hd, cond_true, wrS (by omega)] at e
    cases hm : hitB lo hi (bAt cl k) with
    | true =>
      rw [hm] at e
      simp only [cond_true] at e ⊢
      rw [wnSt_cons px py cl lo hi (by simp)]
      refine EV.sweep [7] (EV.of c3X_ok ev3X_ok e) (fun q hq y hy => ?_) (by kernel_rfl)
      simp only [List.mem_singleton] at hq
      subst hq
      have : y = .row 1 0 none [iA (bAt cl k).1] := (Option.some.inj hy).symm
      subst this
      rfl
    | false =>
      rw [hm] at e
      simp only [cond_false] at e ⊢
      rw [wnSt_nil px py cl lo hi rfl]
      exact EV.sweep [] (EV.of c3X_ok ev3X_ok e) (fun q hq y hy => by simp at hq) (by kernel_rfl)
  · have h1 : 1 ≤ (hitL cl lo hi k).length := by
      cases hh : hitL cl lo hi k with
      | nil => exact absurd hh h0
      | cons a tl => simp
    rw [wnSt_cons px py cl lo hi h1]
    generalize hids : hitL cl lo hi k = ids at *
    have hxl : ids.length = (intA ids).length := by simp [intA]
    have e := wnkR_eq px py cl lo hi k (bAt cl k) (hitB lo hi (bAt cl k)) ids.length (intA ids) (fun _ => by omega) (fun _ => partX h) (fun _ => meetG _ _ _ _) (fun _ _ => wn_yR px py cl lo hi (bAt cl k) ids.length (intA ids) hxl (by omega))
    unfold wnkR at e
    rw [hd, cond_true, wrS (by omega)] at e
    cases hm : hitB lo hi (bAt cl k) with
    | true =>
      rw [hm] at e
      simp only [cond_true] at e ⊢
      rw [wnSt_cons px py cl lo hi (ids := ids ++ [(bAt cl k).1]) (by simp), show intA (ids ++ [(bAt cl k).1]) = intA ids ++ [iA (bAt cl k).1] from by unfold intA; rw [List.map_append]; rfl, show (ids ++ [(bAt cl k).1]).length = ids.length + 1 by simp]
      have e2 := EV.sweep (S' := (((wn1 px py cl lo hi ids.length (intA ids)).set 2 (.box [.row 7 1 1 0 (ids.length + 1)])).set 7 (.row 1 1 none (intA ids ++ [iA (bAt cl k).1])))) [7] (EV.of c3X_ok ev3X_ok e) (fun q hq y hy => by
        simp only [List.mem_singleton] at hq
        subst hq
        have : y = .row 1 1 none (intA ids ++ [iA (bAt cl k).1]) := (Option.some.inj hy).symm
        subst this
        simp only [plainO, List.all_append, intA_plain, Bool.true_and]
        rfl) (by kernel_rfl)
      refine EV.epoch (o := 7) (b := 2) (e := 1) (sz := 1) (len := ids.length + 1) (xs := intA ids ++ [iA (bAt cl k).1]) e2 rfl rfl (by omega) (by omega) (by kernel_rfl) (fun q y hq hy => ?_)
      rcases q with _ | _ | _ | _ | _ | _ | _ | _ | q
      all_goals first
        | exact absurd rfl hq
        | (have := (Option.some.inj hy).symm; subst this; first | rfl | (simp only [mentX]; exact plain_mentL (by simp only [List.all_append, intA_plain, Bool.true_and]; rfl)))
        | (simp [wn1] at hy)
    | false =>
      rw [hm] at e
      simp only [cond_false] at e ⊢
      rw [List.append_nil, wnSt_cons px py cl lo hi h1]
      refine EV.sweep [7] (EV.of c3X_ok ev3X_ok e) (fun q hq y hy => ?_) (by kernel_rfl)
      simp only [List.mem_singleton] at hq
      subst hq
      have : y = .row 1 0 none (intA ids) := (Option.some.inj hy).symm
      subst this
      exact intA_plain ids
theorem wn_end (ids : List Int) : EV c3X 5 mtK (mtW cl lo hi cl.length) (wnSt px py cl lo hi ids) (.exit 0) (mtZ cl lo hi) (wnSt px py cl lo hi ids) := by
  have hd : decide ((cl.length : Int) < (cl.length : Int)) = false := decide_eq_false (by omega)
  by_cases h0 : ids = []
  · rw [wnSt_nil px py cl lo hi h0]
    have e := wnkN_eq px py cl lo hi cl.length (bAt cl 0) true (fun h => by rw [hd] at h; cases h) (fun h => by rw [hd] at h; cases h) (fun h => by rw [hd] at h; cases h) (fun h => by rw [hd] at h; cases h)
    unfold wnkN at e
    rw [hd, cond_false] at e
    exact EV.of c3X_ok ev3X_ok e
  · have h1 : 1 ≤ ids.length := by
      cases ids with
      | nil => exact absurd rfl h0
      | cons a tl => simp
    rw [wnSt_cons px py cl lo hi h1]
    have e := wnkR_eq px py cl lo hi cl.length (bAt cl 0) true ids.length (intA ids) (fun h => by rw [hd] at h; cases h) (fun h => by rw [hd] at h; cases h) (fun h => by rw [hd] at h; cases h) (fun h => by rw [hd] at h; cases h)
    unfold wnkR at e
    rw [hd, cond_false] at e
    exact EV.of c3X_ok ev3X_ok e
theorem wn_callsA (hl : cl.length ≤ 1000) : CallsA Tryz.prog 144 (.yld 4 :: [.eptr [bsP cl], .eptr [iP lo.1, iP lo.2], .eptr [iP hi.1, iP hi.2]]) (wn0 px py cl lo hi) (.tup []) (wnSt px py cl lo hi (hitL cl lo hi cl.length)) := by
  refine callsA_of_EV c3X_ok mtFn_tab (x := .normal) (.inl rfl) (T' := mtZ cl lo hi) (by kernel_rfl) ?_
  rw [mtFn_body, mtC_body, show (wn0 px py cl lo hi).length = 5 from rfl]
  refine EV.seq (EV.of c3X_ok ev3X_ok (lv := mtLv) (lo := 0) (n := 60) (T' := mtW cl lo hi (0 : Nat)) (S' := wn0 px py cl lo hi) (by kernel_rfl)) (EV.block ?_)
  have := EV.loop (c := c3X) (base := 5) (body := mtK) (n := cl.length) (T := fun k => mtW cl lo hi k) (S := fun k => wnSt px py cl lo hi (hitL cl lo hi k)) (x := .exit 0) (T' := mtZ cl lo hi) (S' := wnSt px py cl lo hi (hitL cl lo hi cl.length)) (fun k hk => wn_round px py cl lo hi hl hk) (wn_end px py cl lo hi _) (by simp)
  exact this
end
end Go.Proofs.YtkkgimhbliocoaaGreat
/- find's meet$1, ranged over by Window: its rounds (edges). -/
namespace Go.Proofs.YtkkgimhbliocoaaGreat
open Go Vm M
set_option linter.unusedVariables false
set_option linter.unusedSimpArgs false
set_option maxRecDepth 100000
noncomputable def weAs : Code := match (match c2 (c1 (c2 (c2 wnB))) with | .block _ r => r | _ => .skip) with
  | .rangeFunc _ _ a _ => a
  | _ => .skip
noncomputable def weBo : Code := match (match c2 (c1 (c2 (c2 wnB))) with | .block _ r => r | _ => .skip) with
  | .rangeFunc _ _ _ b => b
  | _ => .skip
theorem werf : (match c2 (c1 (c2 (c2 wnB))) with | .block _ r => r | _ => .skip) = .rangeFunc (.tmp 25) #[26] weAs weBo := by kernel_rfl
def weT (px py : PVal) (cl : List Bx) (lo hi : P2) : List AVal := jk 6 ++ [.ptr 2 0 0, .ptr 3 0 0] ++ jk 17 ++ [mtF cl lo hi] ++ jk 9
noncomputable def weL (st : LpSt) (px py : PVal) (cl : List Bx) (lo hi : P2) : AObj := .loop wnLv (weT px py cl lo hi) #[26] weAs weBo st
noncomputable def we0 (px py : PVal) (cl : List Bx) (lo hi : P2) : List AObj := [.hidden, .hidden, .box [nilA], .box [nilA]] ++ [weL .ready px py cl lo hi]
noncomputable def we1 (px py : PVal) (cl : List Bx) (lo hi : P2) (j : Nat) (xs : List AVal) : List AObj := [.hidden, .hidden, .box [nilA], .box [.row 7 0 1 0 j]] ++ [weL .ready px py cl lo hi, .free, .free, .row 1 0 none xs]
noncomputable def weS0 (px py : PVal) (cl : List Bx) (lo hi : P2) (b : Bx) : List AObj := [.hidden, .hidden, .box [nilA], .box [nilA]] ++ [weL .busy px py cl lo hi, .box (bxCells b)]
noncomputable def weS1 (px py : PVal) (cl : List Bx) (lo hi : P2) (b : Bx) (j : Nat) (xs : List AVal) : List AObj := [.hidden, .hidden, .box [nilA], .box [.row 7 0 1 0 j]] ++ [weL .busy px py cl lo hi, .box (bxCells b), .free, .row 1 0 none xs]
def weU (id : Int) : List AVal := jk 7 ++ [.ptr 3 0 0, .junk, iA id] ++ jk 25
noncomputable def webN (px : PVal) (py : PVal) (cl : List Bx) (lo : P2) (hi : P2) (b : Bx) : AExit × List AVal × List AObj :=
  (AExit.normal, ((jk 35), ([AObj.hidden, AObj.hidden, AObj.box [AVal.v (Value.slice none 0 0)], AObj.box [AVal.row 7 0 1 0 1], AObj.loop [67240945, 67306481, 320, 0, 100664000, 640, 0, 192] [AVal.junk, AVal.junk, AVal.junk, AVal.junk, AVal.junk, AVal.junk, AVal.ptr 2 0 0, AVal.ptr 3 0 0, AVal.junk, AVal.junk, AVal.junk, AVal.junk, AVal.junk, AVal.junk, AVal.junk, AVal.junk, AVal.junk, AVal.junk, AVal.junk, AVal.junk, AVal.junk, AVal.junk, AVal.junk, AVal.junk, AVal.junk, AVal.fn 144 [AVal.eptr [PVal.list (List.length cl) (flatX cl)], AVal.eptr [iP (Prod.fst lo), iP (Prod.snd lo)], AVal.eptr [iP (Prod.fst hi), iP (Prod.snd hi)]], AVal.junk, AVal.junk, AVal.junk, AVal.junk, AVal.junk, AVal.junk, AVal.junk, AVal.junk, AVal.junk] { toList := [26] } weAs weBo LpSt.busy, AObj.box [iA (Prod.fst b), iA (Prod.fst (Prod.fst (Prod.snd b))), iA (Prod.snd (Prod.fst (Prod.snd b))), iA (Prod.fst (Prod.snd (Prod.snd b))), iA (Prod.snd (Prod.snd (Prod.snd b)))], AObj.row 1 0 none [iA (Prod.fst b)], AObj.row 1 0 none [iA (Prod.fst b)]])))
theorem webN_eq (px : PVal) (py : PVal) (cl : List Bx) (lo : P2) (hi : P2) (b : Bx) : evalC (c3X) (evalF c3X 59) (wnLv) 0 6 59 (weBo) (weU (Prod.fst b)) (weS0 px py cl lo hi b) = some (webN px py cl lo hi b) := by
  have key := fun (bs : List Bool) (r : AExit × List AVal × List AObj) (ob : List Prop) (h : pathP (c3X) (evalF c3X 59) (wnLv) 0 6 59 [] (weBo) (weU (Prod.fst b)) (weS0 px py cl lo hi b) bs [] = .ok (r.1, r.2.1, r.2.2, ob)) (hp : allOb ob) => pathP_ok h hp
  unfold webN
  exact key [] ((AExit.normal, ((jk 35), ([AObj.hidden, AObj.hidden, AObj.box [AVal.v (Value.slice none 0 0)], AObj.box [AVal.row 7 0 1 0 1], AObj.loop [67240945, 67306481, 320, 0, 100664000, 640, 0, 192] [AVal.junk, AVal.junk, AVal.junk, AVal.junk, AVal.junk, AVal.junk, AVal.ptr 2 0 0, AVal.ptr 3 0 0, AVal.junk, AVal.junk, AVal.junk, AVal.junk, AVal.junk, AVal.junk, AVal.junk, AVal.junk, AVal.junk, AVal.junk, AVal.junk, AVal.junk, AVal.junk, AVal.junk, AVal.junk, AVal.junk, AVal.junk, AVal.fn 144 [AVal.eptr [PVal.list (List.length cl) (flatX cl)], AVal.eptr [iP (Prod.fst lo), iP (Prod.snd lo)], AVal.eptr [iP (Prod.fst hi), iP (Prod.snd hi)]], AVal.junk, AVal.junk, AVal.junk, AVal.junk, AVal.junk, AVal.junk, AVal.junk, AVal.junk, AVal.junk] { toList := [26] } weAs weBo LpSt.busy, AObj.box [iA (Prod.fst b), iA (Prod.fst (Prod.fst (Prod.snd b))), iA (Prod.snd (Prod.fst (Prod.snd b))), iA (Prod.fst (Prod.snd (Prod.snd b))), iA (Prod.snd (Prod.snd (Prod.snd b)))], AObj.row 1 0 none [iA (Prod.fst b)], AObj.row 1 0 none [iA (Prod.fst b)]])))) _ (by kernel_rfl) allOb_nil
noncomputable def webR (px : PVal) (py : PVal) (cl : List Bx) (lo : P2) (hi : P2) (b : Bx) (j : Nat) (xs : List AVal) : AExit × List AVal × List AObj :=
  (AExit.normal, ((jk 35), ([AObj.hidden, AObj.hidden, AObj.box [AVal.v (Value.slice none 0 0)], AObj.box [AVal.row 7 1 1 0 (j + 1)], AObj.loop [67240945, 67306481, 320, 0, 100664000, 640, 0, 192] [AVal.junk, AVal.junk, AVal.junk, AVal.junk, AVal.junk, AVal.junk, AVal.ptr 2 0 0, AVal.ptr 3 0 0, AVal.junk, AVal.junk, AVal.junk, AVal.junk, AVal.junk, AVal.junk, AVal.junk, AVal.junk, AVal.junk, AVal.junk, AVal.junk, AVal.junk, AVal.junk, AVal.junk, AVal.junk, AVal.junk, AVal.junk, AVal.fn 144 [AVal.eptr [PVal.list (List.length cl) (flatX cl)], AVal.eptr [iP (Prod.fst lo), iP (Prod.snd lo)], AVal.eptr [iP (Prod.fst hi), iP (Prod.snd hi)]], AVal.junk, AVal.junk, AVal.junk, AVal.junk, AVal.junk, AVal.junk, AVal.junk, AVal.junk, AVal.junk] { toList := [26] } weAs weBo LpSt.busy, AObj.box [iA (Prod.fst b), iA (Prod.fst (Prod.fst (Prod.snd b))), iA (Prod.snd (Prod.fst (Prod.snd b))), iA (Prod.fst (Prod.snd (Prod.snd b))), iA (Prod.snd (Prod.snd (Prod.snd b)))], AObj.row 1 0 none [iA (Prod.fst b)], AObj.row 1 1 none (xs ++ [iA (Prod.fst b)])])))
theorem webR_eq (px : PVal) (py : PVal) (cl : List Bx) (lo : P2) (hi : P2) (b : Bx) (j : Nat) (xs : List AVal) (e0 : (0 + j) * 1 = List.length xs ∧ (j + 1) * 8 ≤ 140737488355328 ∧ j + 1 ≤ 9223372036854775807) : evalC (c3X) (evalF c3X 59) (wnLv) 0 8 59 (weBo) (weU (Prod.fst b)) (weS1 px py cl lo hi b j xs) = some (webR px py cl lo hi b j xs) := by
  have key := fun (bs : List Bool) (r : AExit × List AVal × List AObj) (ob : List Prop) (h : pathP (c3X) (evalF c3X 59) (wnLv) 0 8 59 [(6, 3, Hint.app)] (weBo) (weU (Prod.fst b)) (weS1 px py cl lo hi b j xs) bs [] = .ok (r.1, r.2.1, r.2.2, ob)) (hp : allOb ob) => pathP_ok h hp
  unfold webR
  exact key [] ((AExit.normal, ((jk 35), ([AObj.hidden, AObj.hidden, AObj.box [AVal.v (Value.slice none 0 0)], AObj.box [AVal.row 7 1 1 0 (j + 1)], AObj.loop [67240945, 67306481, 320, 0, 100664000, 640, 0, 192] [AVal.junk, AVal.junk, AVal.junk, AVal.junk, AVal.junk, AVal.junk, AVal.ptr 2 0 0, AVal.ptr 3 0 0, AVal.junk, AVal.junk, AVal.junk, AVal.junk, AVal.junk, AVal.junk, AVal.junk, AVal.junk, AVal.junk, AVal.junk, AVal.junk, AVal.junk, AVal.junk, AVal.junk, AVal.junk, AVal.junk, AVal.junk, AVal.fn 144 [AVal.eptr [PVal.list (List.length cl) (flatX cl)], AVal.eptr [iP (Prod.fst lo), iP (Prod.snd lo)], AVal.eptr [iP (Prod.fst hi), iP (Prod.snd hi)]], AVal.junk, AVal.junk, AVal.junk, AVal.junk, AVal.junk, AVal.junk, AVal.junk, AVal.junk, AVal.junk] { toList := [26] } weAs weBo LpSt.busy, AObj.box [iA (Prod.fst b), iA (Prod.fst (Prod.fst (Prod.snd b))), iA (Prod.snd (Prod.fst (Prod.snd b))), iA (Prod.fst (Prod.snd (Prod.snd b))), iA (Prod.snd (Prod.snd (Prod.snd b)))], AObj.row 1 0 none [iA (Prod.fst b)], AObj.row 1 1 none (xs ++ [iA (Prod.fst b)])])))) _ (by kernel_rfl) (allOb_cons (by exact e0) allOb_nil)
noncomputable def wekN (px : PVal) (py : PVal) (cl : List Bx) (lo : P2) (hi : P2) (i : Int) (b : Bx) (m : Bool) : AExit × List AVal × List AObj :=
  (bif decide (i < (↑(List.length cl) : Int)) then (bif m then (AExit.normal, (([AVal.yld 4, AVal.junk, AVal.eptr [iP (Prod.fst lo), iP (Prod.snd lo)], AVal.eptr [iP (Prod.fst hi), iP (Prod.snd hi)], AVal.junk, AVal.junk, AVal.junk, AVal.list (List.length cl) (flatX cl), iA (Int.ofNat (List.length cl)), iA (IntKind.i64.wrap (i + 1))] ++ jk 18), ([AObj.hidden, AObj.hidden, AObj.box [AVal.v (Value.slice none 0 0)], AObj.box [AVal.row 7 0 1 0 1], AObj.loop [67240945, 67306481, 320, 0, 100664000, 640, 0, 192] [AVal.junk, AVal.junk, AVal.junk, AVal.junk, AVal.junk, AVal.junk, AVal.ptr 2 0 0, AVal.ptr 3 0 0, AVal.junk, AVal.junk, AVal.junk, AVal.junk, AVal.junk, AVal.junk, AVal.junk, AVal.junk, AVal.junk, AVal.junk, AVal.junk, AVal.junk, AVal.junk, AVal.junk, AVal.junk, AVal.junk, AVal.junk, AVal.fn 144 [AVal.eptr [PVal.list (List.length cl) (flatX cl)], AVal.eptr [iP (Prod.fst lo), iP (Prod.snd lo)], AVal.eptr [iP (Prod.fst hi), iP (Prod.snd hi)]], AVal.junk, AVal.junk, AVal.junk, AVal.junk, AVal.junk, AVal.junk, AVal.junk, AVal.junk, AVal.junk] { toList := [26] } weAs weBo LpSt.ready, AObj.box [iA (Prod.fst b), iA (Prod.fst (Prod.fst (Prod.snd b))), iA (Prod.snd (Prod.fst (Prod.snd b))), iA (Prod.fst (Prod.snd (Prod.snd b))), iA (Prod.snd (Prod.snd (Prod.snd b)))], AObj.row 1 0 none [iA (Prod.fst b)], AObj.row 1 0 none [iA (Prod.fst b)]]))) else (AExit.normal, (([AVal.yld 4, AVal.junk, AVal.eptr [iP (Prod.fst lo), iP (Prod.snd lo)], AVal.eptr [iP (Prod.fst hi), iP (Prod.snd hi)], AVal.junk, AVal.junk, AVal.junk, AVal.list (List.length cl) (flatX cl), iA (Int.ofNat (List.length cl)), iA (IntKind.i64.wrap (i + 1))] ++ jk 18), ([AObj.hidden, AObj.hidden, AObj.box [AVal.v (Value.slice none 0 0)], AObj.box [AVal.v (Value.slice none 0 0)], AObj.loop [67240945, 67306481, 320, 0, 100664000, 640, 0, 192] [AVal.junk, AVal.junk, AVal.junk, AVal.junk, AVal.junk, AVal.junk, AVal.ptr 2 0 0, AVal.ptr 3 0 0, AVal.junk, AVal.junk, AVal.junk, AVal.junk, AVal.junk, AVal.junk, AVal.junk, AVal.junk, AVal.junk, AVal.junk, AVal.junk, AVal.junk, AVal.junk, AVal.junk, AVal.junk, AVal.junk, AVal.junk, AVal.fn 144 [AVal.eptr [PVal.list (List.length cl) (flatX cl)], AVal.eptr [iP (Prod.fst lo), iP (Prod.snd lo)], AVal.eptr [iP (Prod.fst hi), iP (Prod.snd hi)]], AVal.junk, AVal.junk, AVal.junk, AVal.junk, AVal.junk, AVal.junk, AVal.junk, AVal.junk, AVal.junk] { toList := [26] } weAs weBo LpSt.ready, AObj.box [iA (Prod.fst b), iA (Prod.fst (Prod.fst (Prod.snd b))), iA (Prod.snd (Prod.fst (Prod.snd b))), iA (Prod.fst (Prod.snd (Prod.snd b))), iA (Prod.snd (Prod.snd (Prod.snd b)))]])))) else (AExit.exit 0, (([AVal.yld 4, AVal.junk, AVal.eptr [iP (Prod.fst lo), iP (Prod.snd lo)], AVal.eptr [iP (Prod.fst hi), iP (Prod.snd hi)], AVal.junk, AVal.junk, AVal.junk, AVal.list (List.length cl) (flatX cl), iA (Int.ofNat (List.length cl)), iA i, bA false] ++ jk 17), ([AObj.hidden, AObj.hidden, AObj.box [AVal.v (Value.slice none 0 0)], AObj.box [AVal.v (Value.slice none 0 0)], AObj.loop [67240945, 67306481, 320, 0, 100664000, 640, 0, 192] [AVal.junk, AVal.junk, AVal.junk, AVal.junk, AVal.junk, AVal.junk, AVal.ptr 2 0 0, AVal.ptr 3 0 0, AVal.junk, AVal.junk, AVal.junk, AVal.junk, AVal.junk, AVal.junk, AVal.junk, AVal.junk, AVal.junk, AVal.junk, AVal.junk, AVal.junk, AVal.junk, AVal.junk, AVal.junk, AVal.junk, AVal.junk, AVal.fn 144 [AVal.eptr [PVal.list (List.length cl) (flatX cl)], AVal.eptr [iP (Prod.fst lo), iP (Prod.snd lo)], AVal.eptr [iP (Prod.fst hi), iP (Prod.snd hi)]], AVal.junk, AVal.junk, AVal.junk, AVal.junk, AVal.junk, AVal.junk, AVal.junk, AVal.junk, AVal.junk] { toList := [26] } weAs weBo LpSt.ready]))))
theorem wekN_eq (px : PVal) (py : PVal) (cl : List Bx) (lo : P2) (hi : P2) (i : Int) (b : Bx) (m : Bool) (b0 : (decide (i < (↑(List.length cl) : Int))) = true → (0 : Int) ≤ i ∧ (i : Int) < (↑(List.length cl) : Int)) (e0 : (decide (i < (↑(List.length cl) : Int))) = true → partA (Cfg.P c3X) 120 (upL (List.drop (Int.toNat i * 5) (flatX cl))) 0 = some (boxA b)) (e1 : (decide (i < (↑(List.length cl) : Int))) = true → pureCall c3X ev3X 145 [ptP (Prod.fst (Prod.snd b)), ptP (Prod.snd (Prod.snd b)), ptP lo, ptP hi] = some (bP m)) (e2 : (decide (i < (↑(List.length cl) : Int))) = true → (m) = true → Ev.yld ev3X 0 4 [iA (Prod.fst b)] [AObj.hidden, AObj.hidden, AObj.box [AVal.v (Value.slice none 0 0)], AObj.box [AVal.v (Value.slice none 0 0)], AObj.loop [67240945, 67306481, 320, 0, 100664000, 640, 0, 192] [AVal.junk, AVal.junk, AVal.junk, AVal.junk, AVal.junk, AVal.junk, AVal.ptr 2 0 0, AVal.ptr 3 0 0, AVal.junk, AVal.junk, AVal.junk, AVal.junk, AVal.junk, AVal.junk, AVal.junk, AVal.junk, AVal.junk, AVal.junk, AVal.junk, AVal.junk, AVal.junk, AVal.junk, AVal.junk, AVal.junk, AVal.junk, AVal.fn 144 [AVal.eptr [PVal.list (List.length cl) (flatX cl)], AVal.eptr [iP (Prod.fst lo), iP (Prod.snd lo)], AVal.eptr [iP (Prod.fst hi), iP (Prod.snd hi)]], AVal.junk, AVal.junk, AVal.junk, AVal.junk, AVal.junk, AVal.junk, AVal.junk, AVal.junk, AVal.junk] { toList := [26] } weAs weBo LpSt.ready, AObj.box [iA (Prod.fst b), iA (Prod.fst (Prod.fst (Prod.snd b))), iA (Prod.snd (Prod.fst (Prod.snd b))), iA (Prod.fst (Prod.snd (Prod.snd b))), iA (Prod.snd (Prod.snd (Prod.snd b)))]] = some (bA true, [AObj.hidden, AObj.hidden, AObj.box [AVal.v (Value.slice none 0 0)], AObj.box [AVal.row 7 0 1 0 1], AObj.loop [67240945, 67306481, 320, 0, 100664000, 640, 0, 192] [AVal.junk, AVal.junk, AVal.junk, AVal.junk, AVal.junk, AVal.junk, AVal.ptr 2 0 0, AVal.ptr 3 0 0, AVal.junk, AVal.junk, AVal.junk, AVal.junk, AVal.junk, AVal.junk, AVal.junk, AVal.junk, AVal.junk, AVal.junk, AVal.junk, AVal.junk, AVal.junk, AVal.junk, AVal.junk, AVal.junk, AVal.junk, AVal.fn 144 [AVal.eptr [PVal.list (List.length cl) (flatX cl)], AVal.eptr [iP (Prod.fst lo), iP (Prod.snd lo)], AVal.eptr [iP (Prod.fst hi), iP (Prod.snd hi)]], AVal.junk, AVal.junk, AVal.junk, AVal.junk, AVal.junk, AVal.junk, AVal.junk, AVal.junk, AVal.junk] { toList := [26] } weAs weBo LpSt.ready, AObj.box [iA (Prod.fst b), iA (Prod.fst (Prod.fst (Prod.snd b))), iA (Prod.snd (Prod.fst (Prod.snd b))), iA (Prod.fst (Prod.snd (Prod.snd b))), iA (Prod.snd (Prod.snd (Prod.snd b)))], AObj.row 1 0 none [iA (Prod.fst b)], AObj.row 1 0 none [iA (Prod.fst b)]])) : evalC (c3X) (ev3X) (mtLv) 0 5 60 (loopAt Tryz.f144 0) (mtW cl lo hi i) (we0 px py cl lo hi) = some (wekN px py cl lo hi i b m) := by
  have key := fun (bs : List Bool) (r : AExit × List AVal × List AObj) (ob : List Prop) (h : pathP (c3X) (ev3X) (mtLv) 0 5 60 [(2, 0, Hint.idx), (2, 1, Hint.load (boxA b)), (3, 6, Hint.pcall (bP m)), (3, 11, Hint.callS fun a S => (bA true, List.set S 3 (AObj.box [AVal.row 7 0 1 0 1]) ++ [AObj.row 1 0 none a, AObj.row 1 0 none a]))] (loopAt Tryz.f144 0) (mtW cl lo hi i) (we0 px py cl lo hi) bs [] = .ok (r.1, r.2.1, r.2.2, ob)) (hp : allOb ob) => pathP_ok h hp
  unfold wekN
  exact bif_case (P := fun r => evalC (c3X) (ev3X) (mtLv) 0 5 60 (loopAt Tryz.f144 0) (mtW cl lo hi i) (we0 px py cl lo hi) = some r)
    (fun h0 => bif_case (P := fun r => evalC (c3X) (ev3X) (mtLv) 0 5 60 (loopAt Tryz.f144 0) (mtW cl lo hi i) (we0 px py cl lo hi) = some r)
     (fun h1 => key [true, true, false] ((AExit.normal, (([AVal.yld 4, AVal.junk, AVal.eptr [iP (Prod.fst lo), iP (Prod.snd lo)], AVal.eptr [iP (Prod.fst hi), iP (Prod.snd hi)], AVal.junk, AVal.junk, AVal.junk, AVal.list (List.length cl) (flatX cl), iA (Int.ofNat (List.length cl)), iA (IntKind.i64.wrap (i + 1))] ++ jk 18), ([AObj.hidden, AObj.hidden, AObj.box [AVal.v (Value.slice none 0 0)], AObj.box [AVal.row 7 0 1 0 1], AObj.loop [67240945, 67306481, 320, 0, 100664000, 640, 0, 192] [AVal.junk, AVal.junk, AVal.junk, AVal.junk, AVal.junk, AVal.junk, AVal.ptr 2 0 0, AVal.ptr 3 0 0, AVal.junk, AVal.junk, AVal.junk, AVal.junk, AVal.junk, AVal.junk, AVal.junk, AVal.junk, AVal.junk, AVal.junk, AVal.junk, AVal.junk, AVal.junk, AVal.junk, AVal.junk, AVal.junk, AVal.junk, AVal.fn 144 [AVal.eptr [PVal.list (List.length cl) (flatX cl)], AVal.eptr [iP (Prod.fst lo), iP (Prod.snd lo)], AVal.eptr [iP (Prod.fst hi), iP (Prod.snd hi)]], AVal.junk, AVal.junk, AVal.junk, AVal.junk, AVal.junk, AVal.junk, AVal.junk, AVal.junk, AVal.junk] { toList := [26] } weAs weBo LpSt.ready, AObj.box [iA (Prod.fst b), iA (Prod.fst (Prod.fst (Prod.snd b))), iA (Prod.snd (Prod.fst (Prod.snd b))), iA (Prod.fst (Prod.snd (Prod.snd b))), iA (Prod.snd (Prod.snd (Prod.snd b)))], AObj.row 1 0 none [iA (Prod.fst b)], AObj.row 1 0 none [iA (Prod.fst b)]])))) _ (by kernel_rfl) (allOb_cons lit_f (allOb_cons (by exact (e2 h0 h1)) (allOb_cons h1 (allOb_cons (by exact (e1 h0)) (allOb_cons (by exact (e0 h0)) (allOb_cons (idx_okX (b0 h0)) (allOb_cons h0 allOb_nil))))))))
     (fun h1 => key [true, false, false] ((AExit.normal, (([AVal.yld 4, AVal.junk, AVal.eptr [iP (Prod.fst lo), iP (Prod.snd lo)], AVal.eptr [iP (Prod.fst hi), iP (Prod.snd hi)], AVal.junk, AVal.junk, AVal.junk, AVal.list (List.length cl) (flatX cl), iA (Int.ofNat (List.length cl)), iA (IntKind.i64.wrap (i + 1))] ++ jk 18), ([AObj.hidden, AObj.hidden, AObj.box [AVal.v (Value.slice none 0 0)], AObj.box [AVal.v (Value.slice none 0 0)], AObj.loop [67240945, 67306481, 320, 0, 100664000, 640, 0, 192] [AVal.junk, AVal.junk, AVal.junk, AVal.junk, AVal.junk, AVal.junk, AVal.ptr 2 0 0, AVal.ptr 3 0 0, AVal.junk, AVal.junk, AVal.junk, AVal.junk, AVal.junk, AVal.junk, AVal.junk, AVal.junk, AVal.junk, AVal.junk, AVal.junk, AVal.junk, AVal.junk, AVal.junk, AVal.junk, AVal.junk, AVal.junk, AVal.fn 144 [AVal.eptr [PVal.list (List.length cl) (flatX cl)], AVal.eptr [iP (Prod.fst lo), iP (Prod.snd lo)], AVal.eptr [iP (Prod.fst hi), iP (Prod.snd hi)]], AVal.junk, AVal.junk, AVal.junk, AVal.junk, AVal.junk, AVal.junk, AVal.junk, AVal.junk, AVal.junk] { toList := [26] } weAs weBo LpSt.ready, AObj.box [iA (Prod.fst b), iA (Prod.fst (Prod.fst (Prod.snd b))), iA (Prod.snd (Prod.fst (Prod.snd b))), iA (Prod.fst (Prod.snd (Prod.snd b))), iA (Prod.snd (Prod.snd (Prod.snd b)))]])))) _ (by kernel_rfl) (allOb_cons lit_f (allOb_cons h1 (allOb_cons (by exact (e1 h0)) (allOb_cons (by exact (e0 h0)) (allOb_cons (idx_okX (b0 h0)) (allOb_cons h0 allOb_nil))))))))
    (fun h0 => key [false] ((AExit.exit 0, (([AVal.yld 4, AVal.junk, AVal.eptr [iP (Prod.fst lo), iP (Prod.snd lo)], AVal.eptr [iP (Prod.fst hi), iP (Prod.snd hi)], AVal.junk, AVal.junk, AVal.junk, AVal.list (List.length cl) (flatX cl), iA (Int.ofNat (List.length cl)), iA i, bA false] ++ jk 17), ([AObj.hidden, AObj.hidden, AObj.box [AVal.v (Value.slice none 0 0)], AObj.box [AVal.v (Value.slice none 0 0)], AObj.loop [67240945, 67306481, 320, 0, 100664000, 640, 0, 192] [AVal.junk, AVal.junk, AVal.junk, AVal.junk, AVal.junk, AVal.junk, AVal.ptr 2 0 0, AVal.ptr 3 0 0, AVal.junk, AVal.junk, AVal.junk, AVal.junk, AVal.junk, AVal.junk, AVal.junk, AVal.junk, AVal.junk, AVal.junk, AVal.junk, AVal.junk, AVal.junk, AVal.junk, AVal.junk, AVal.junk, AVal.junk, AVal.fn 144 [AVal.eptr [PVal.list (List.length cl) (flatX cl)], AVal.eptr [iP (Prod.fst lo), iP (Prod.snd lo)], AVal.eptr [iP (Prod.fst hi), iP (Prod.snd hi)]], AVal.junk, AVal.junk, AVal.junk, AVal.junk, AVal.junk, AVal.junk, AVal.junk, AVal.junk, AVal.junk] { toList := [26] } weAs weBo LpSt.ready])))) _ (by kernel_rfl) (allOb_cons h0 allOb_nil))
noncomputable def wekR (px : PVal) (py : PVal) (cl : List Bx) (lo : P2) (hi : P2) (i : Int) (b : Bx) (m : Bool) (j : Nat) (xs : List AVal) : AExit × List AVal × List AObj :=
  (bif decide (i < (↑(List.length cl) : Int)) then (bif m then (AExit.normal, (([AVal.yld 4, AVal.junk, AVal.eptr [iP (Prod.fst lo), iP (Prod.snd lo)], AVal.eptr [iP (Prod.fst hi), iP (Prod.snd hi)], AVal.junk, AVal.junk, AVal.junk, AVal.list (List.length cl) (flatX cl), iA (Int.ofNat (List.length cl)), iA (IntKind.i64.wrap (i + 1))] ++ jk 18), ([AObj.hidden, AObj.hidden, AObj.box [AVal.v (Value.slice none 0 0)], AObj.box [AVal.row 7 1 1 0 (j + 1)], AObj.loop [67240945, 67306481, 320, 0, 100664000, 640, 0, 192] [AVal.junk, AVal.junk, AVal.junk, AVal.junk, AVal.junk, AVal.junk, AVal.ptr 2 0 0, AVal.ptr 3 0 0, AVal.junk, AVal.junk, AVal.junk, AVal.junk, AVal.junk, AVal.junk, AVal.junk, AVal.junk, AVal.junk, AVal.junk, AVal.junk, AVal.junk, AVal.junk, AVal.junk, AVal.junk, AVal.junk, AVal.junk, AVal.fn 144 [AVal.eptr [PVal.list (List.length cl) (flatX cl)], AVal.eptr [iP (Prod.fst lo), iP (Prod.snd lo)], AVal.eptr [iP (Prod.fst hi), iP (Prod.snd hi)]], AVal.junk, AVal.junk, AVal.junk, AVal.junk, AVal.junk, AVal.junk, AVal.junk, AVal.junk, AVal.junk] { toList := [26] } weAs weBo LpSt.ready, AObj.box [iA (Prod.fst b), iA (Prod.fst (Prod.fst (Prod.snd b))), iA (Prod.snd (Prod.fst (Prod.snd b))), iA (Prod.fst (Prod.snd (Prod.snd b))), iA (Prod.snd (Prod.snd (Prod.snd b)))], AObj.row 1 0 none [iA (Prod.fst b)], AObj.row 1 1 none (xs ++ [iA (Prod.fst b)])]))) else (AExit.normal, (([AVal.yld 4, AVal.junk, AVal.eptr [iP (Prod.fst lo), iP (Prod.snd lo)], AVal.eptr [iP (Prod.fst hi), iP (Prod.snd hi)], AVal.junk, AVal.junk, AVal.junk, AVal.list (List.length cl) (flatX cl), iA (Int.ofNat (List.length cl)), iA (IntKind.i64.wrap (i + 1))] ++ jk 18), ([AObj.hidden, AObj.hidden, AObj.box [AVal.v (Value.slice none 0 0)], AObj.box [AVal.row 7 0 1 0 j], AObj.loop [67240945, 67306481, 320, 0, 100664000, 640, 0, 192] [AVal.junk, AVal.junk, AVal.junk, AVal.junk, AVal.junk, AVal.junk, AVal.ptr 2 0 0, AVal.ptr 3 0 0, AVal.junk, AVal.junk, AVal.junk, AVal.junk, AVal.junk, AVal.junk, AVal.junk, AVal.junk, AVal.junk, AVal.junk, AVal.junk, AVal.junk, AVal.junk, AVal.junk, AVal.junk, AVal.junk, AVal.junk, AVal.fn 144 [AVal.eptr [PVal.list (List.length cl) (flatX cl)], AVal.eptr [iP (Prod.fst lo), iP (Prod.snd lo)], AVal.eptr [iP (Prod.fst hi), iP (Prod.snd hi)]], AVal.junk, AVal.junk, AVal.junk, AVal.junk, AVal.junk, AVal.junk, AVal.junk, AVal.junk, AVal.junk] { toList := [26] } weAs weBo LpSt.ready, AObj.box [iA (Prod.fst b), iA (Prod.fst (Prod.fst (Prod.snd b))), iA (Prod.snd (Prod.fst (Prod.snd b))), iA (Prod.fst (Prod.snd (Prod.snd b))), iA (Prod.snd (Prod.snd (Prod.snd b)))], AObj.free, AObj.row 1 0 none xs])))) else (AExit.exit 0, (([AVal.yld 4, AVal.junk, AVal.eptr [iP (Prod.fst lo), iP (Prod.snd lo)], AVal.eptr [iP (Prod.fst hi), iP (Prod.snd hi)], AVal.junk, AVal.junk, AVal.junk, AVal.list (List.length cl) (flatX cl), iA (Int.ofNat (List.length cl)), iA i, bA false] ++ jk 17), ([AObj.hidden, AObj.hidden, AObj.box [AVal.v (Value.slice none 0 0)], AObj.box [AVal.row 7 0 1 0 j], AObj.loop [67240945, 67306481, 320, 0, 100664000, 640, 0, 192] [AVal.junk, AVal.junk, AVal.junk, AVal.junk, AVal.junk, AVal.junk, AVal.ptr 2 0 0, AVal.ptr 3 0 0, AVal.junk, AVal.junk, AVal.junk, AVal.junk, AVal.junk, AVal.junk, AVal.junk, AVal.junk, AVal.junk, AVal.junk, AVal.junk, AVal.junk, AVal.junk, AVal.junk, AVal.junk, AVal.junk, AVal.junk, AVal.fn 144 [AVal.eptr [PVal.list (List.length cl) (flatX cl)], AVal.eptr [iP (Prod.fst lo), iP (Prod.snd lo)], AVal.eptr [iP (Prod.fst hi), iP (Prod.snd hi)]], AVal.junk, AVal.junk, AVal.junk, AVal.junk, AVal.junk, AVal.junk, AVal.junk, AVal.junk, AVal.junk] { toList := [26] } weAs weBo LpSt.ready, AObj.free, AObj.free, AObj.row 1 0 none xs]))))
theorem wekR_eq (px : PVal) (py : PVal) (cl : List Bx) (lo : P2) (hi : P2) (i : Int) (b : Bx) (m : Bool) (j : Nat) (xs : List AVal) (b0 : (decide (i < (↑(List.length cl) : Int))) = true → (0 : Int) ≤ i ∧ (i : Int) < (↑(List.length cl) : Int)) (e0 : (decide (i < (↑(List.length cl) : Int))) = true → partA (Cfg.P c3X) 120 (upL (List.drop (Int.toNat i * 5) (flatX cl))) 0 = some (boxA b)) (e1 : (decide (i < (↑(List.length cl) : Int))) = true → pureCall c3X ev3X 145 [ptP (Prod.fst (Prod.snd b)), ptP (Prod.snd (Prod.snd b)), ptP lo, ptP hi] = some (bP m)) (e2 : (decide (i < (↑(List.length cl) : Int))) = true → (m) = true → Ev.yld ev3X 0 4 [iA (Prod.fst b)] [AObj.hidden, AObj.hidden, AObj.box [AVal.v (Value.slice none 0 0)], AObj.box [AVal.row 7 0 1 0 j], AObj.loop [67240945, 67306481, 320, 0, 100664000, 640, 0, 192] [AVal.junk, AVal.junk, AVal.junk, AVal.junk, AVal.junk, AVal.junk, AVal.ptr 2 0 0, AVal.ptr 3 0 0, AVal.junk, AVal.junk, AVal.junk, AVal.junk, AVal.junk, AVal.junk, AVal.junk, AVal.junk, AVal.junk, AVal.junk, AVal.junk, AVal.junk, AVal.junk, AVal.junk, AVal.junk, AVal.junk, AVal.junk, AVal.fn 144 [AVal.eptr [PVal.list (List.length cl) (flatX cl)], AVal.eptr [iP (Prod.fst lo), iP (Prod.snd lo)], AVal.eptr [iP (Prod.fst hi), iP (Prod.snd hi)]], AVal.junk, AVal.junk, AVal.junk, AVal.junk, AVal.junk, AVal.junk, AVal.junk, AVal.junk, AVal.junk] { toList := [26] } weAs weBo LpSt.ready, AObj.box [iA (Prod.fst b), iA (Prod.fst (Prod.fst (Prod.snd b))), iA (Prod.snd (Prod.fst (Prod.snd b))), iA (Prod.fst (Prod.snd (Prod.snd b))), iA (Prod.snd (Prod.snd (Prod.snd b)))], AObj.free, AObj.row 1 0 none xs] = some (bA true, [AObj.hidden, AObj.hidden, AObj.box [AVal.v (Value.slice none 0 0)], AObj.box [AVal.row 7 1 1 0 (j + 1)], AObj.loop [67240945, 67306481, 320, 0, 100664000, 640, 0, 192] [AVal.junk, AVal.junk, AVal.junk, AVal.junk, AVal.junk, AVal.junk, AVal.ptr 2 0 0, AVal.ptr 3 0 0, AVal.junk, AVal.junk, AVal.junk, AVal.junk, AVal.junk, AVal.junk, AVal.junk, AVal.junk, AVal.junk, AVal.junk, AVal.junk, AVal.junk, AVal.junk, AVal.junk, AVal.junk, AVal.junk, AVal.junk, AVal.fn 144 [AVal.eptr [PVal.list (List.length cl) (flatX cl)], AVal.eptr [iP (Prod.fst lo), iP (Prod.snd lo)], AVal.eptr [iP (Prod.fst hi), iP (Prod.snd hi)]], AVal.junk, AVal.junk, AVal.junk, AVal.junk, AVal.junk, AVal.junk, AVal.junk, AVal.junk, AVal.junk] { toList := [26] } weAs weBo LpSt.ready, AObj.box [iA (Prod.fst b), iA (Prod.fst (Prod.fst (Prod.snd b))), iA (Prod.snd (Prod.fst (Prod.snd b))), iA (Prod.fst (Prod.snd (Prod.snd b))), iA (Prod.snd (Prod.snd (Prod.snd b)))], AObj.row 1 0 none [iA (Prod.fst b)], AObj.row 1 1 none (xs ++ [iA (Prod.fst b)])])) : evalC (c3X) (ev3X) (mtLv) 0 5 60 (loopAt Tryz.f144 0) (mtW cl lo hi i) (we1 px py cl lo hi j xs) = some (wekR px py cl lo hi i b m j xs) := by
  have key := fun (bs : List Bool) (r : AExit × List AVal × List AObj) (ob : List Prop) (h : pathP (c3X) (ev3X) (mtLv) 0 5 60 [(2, 0, Hint.idx), (2, 1, Hint.load (boxA b)), (3, 6, Hint.pcall (bP m)), (3, 11, Hint.callS fun a S => (bA true, List.set (List.set (List.set S 3 (AObj.box [AVal.row 7 1 1 0 (j + 1)])) 6 (AObj.row 1 0 none a)) 7 (AObj.row 1 1 none (xs ++ a))))] (loopAt Tryz.f144 0) (mtW cl lo hi i) (we1 px py cl lo hi j xs) bs [] = .ok (r.1, r.2.1, r.2.2, ob)) (hp : allOb ob) => pathP_ok h hp
  unfold wekR
  exact bif_case (P := fun r => evalC (c3X) (ev3X) (mtLv) 0 5 60 (loopAt Tryz.f144 0) (mtW cl lo hi i) (we1 px py cl lo hi j xs) = some r)
    (fun h0 => bif_case (P := fun r => evalC (c3X) (ev3X) (mtLv) 0 5 60 (loopAt Tryz.f144 0) (mtW cl lo hi i) (we1 px py cl lo hi j xs) = some r)
     (fun h1 => key [true, true, false] ((AExit.normal, (([AVal.yld 4, AVal.junk, AVal.eptr [iP (Prod.fst lo), iP (Prod.snd lo)], AVal.eptr [iP (Prod.fst hi), iP (Prod.snd hi)], AVal.junk, AVal.junk, AVal.junk, AVal.list (List.length cl) (flatX cl), iA (Int.ofNat (List.length cl)), iA (IntKind.i64.wrap (i + 1))] ++ jk 18), ([AObj.hidden, AObj.hidden, AObj.box [AVal.v (Value.slice none 0 0)], AObj.box [AVal.row 7 1 1 0 (j + 1)], AObj.loop [67240945, 67306481, 320, 0, 100664000, 640, 0, 192] [AVal.junk, AVal.junk, AVal.junk, AVal.junk, AVal.junk, AVal.junk, AVal.ptr 2 0 0, AVal.ptr 3 0 0, AVal.junk, AVal.junk, AVal.junk, AVal.junk, AVal.junk, AVal.junk, AVal.junk, AVal.junk, AVal.junk, AVal.junk, AVal.junk, AVal.junk, AVal.junk, AVal.junk, AVal.junk, AVal.junk, AVal.junk, AVal.fn 144 [AVal.eptr [PVal.list (List.length cl) (flatX cl)], AVal.eptr [iP (Prod.fst lo), iP (Prod.snd lo)], AVal.eptr [iP (Prod.fst hi), iP (Prod.snd hi)]], AVal.junk, AVal.junk, AVal.junk, AVal.junk, AVal.junk, AVal.junk, AVal.junk, AVal.junk, AVal.junk] { toList := [26] } weAs weBo LpSt.ready, AObj.box [iA (Prod.fst b), iA (Prod.fst (Prod.fst (Prod.snd b))), iA (Prod.snd (Prod.fst (Prod.snd b))), iA (Prod.fst (Prod.snd (Prod.snd b))), iA (Prod.snd (Prod.snd (Prod.snd b)))], AObj.row 1 0 none [iA (Prod.fst b)], AObj.row 1 1 none (xs ++ [iA (Prod.fst b)])])))) _ (by kernel_rfl) (allOb_cons lit_f (allOb_cons (by exact (e2 h0 h1)) (allOb_cons h1 (allOb_cons (by exact (e1 h0)) (allOb_cons (by exact (e0 h0)) (allOb_cons (idx_okX (b0 h0)) (allOb_cons h0 allOb_nil))))))))
     (fun h1 => key [true, false, false] ((AExit.normal, (([AVal.yld 4, AVal.junk, AVal.eptr [iP (Prod.fst lo), iP (Prod.snd lo)], AVal.eptr [iP (Prod.fst hi), iP (Prod.snd hi)], AVal.junk, AVal.junk, AVal.junk, AVal.list (List.length cl) (flatX cl), iA (Int.ofNat (List.length cl)), iA (IntKind.i64.wrap (i + 1))] ++ jk 18), ([AObj.hidden, AObj.hidden, AObj.box [AVal.v (Value.slice none 0 0)], AObj.box [AVal.row 7 0 1 0 j], AObj.loop [67240945, 67306481, 320, 0, 100664000, 640, 0, 192] [AVal.junk, AVal.junk, AVal.junk, AVal.junk, AVal.junk, AVal.junk, AVal.ptr 2 0 0, AVal.ptr 3 0 0, AVal.junk, AVal.junk, AVal.junk, AVal.junk, AVal.junk, AVal.junk, AVal.junk, AVal.junk, AVal.junk, AVal.junk, AVal.junk, AVal.junk, AVal.junk, AVal.junk, AVal.junk, AVal.junk, AVal.junk, AVal.fn 144 [AVal.eptr [PVal.list (List.length cl) (flatX cl)], AVal.eptr [iP (Prod.fst lo), iP (Prod.snd lo)], AVal.eptr [iP (Prod.fst hi), iP (Prod.snd hi)]], AVal.junk, AVal.junk, AVal.junk, AVal.junk, AVal.junk, AVal.junk, AVal.junk, AVal.junk, AVal.junk] { toList := [26] } weAs weBo LpSt.ready, AObj.box [iA (Prod.fst b), iA (Prod.fst (Prod.fst (Prod.snd b))), iA (Prod.snd (Prod.fst (Prod.snd b))), iA (Prod.fst (Prod.snd (Prod.snd b))), iA (Prod.snd (Prod.snd (Prod.snd b)))], AObj.free, AObj.row 1 0 none xs])))) _ (by kernel_rfl) (allOb_cons lit_f (allOb_cons h1 (allOb_cons (by exact (e1 h0)) (allOb_cons (by exact (e0 h0)) (allOb_cons (idx_okX (b0 h0)) (allOb_cons h0 allOb_nil))))))))
    (fun h0 => key [false] ((AExit.exit 0, (([AVal.yld 4, AVal.junk, AVal.eptr [iP (Prod.fst lo), iP (Prod.snd lo)], AVal.eptr [iP (Prod.fst hi), iP (Prod.snd hi)], AVal.junk, AVal.junk, AVal.junk, AVal.list (List.length cl) (flatX cl), iA (Int.ofNat (List.length cl)), iA i, bA false] ++ jk 17), ([AObj.hidden, AObj.hidden, AObj.box [AVal.v (Value.slice none 0 0)], AObj.box [AVal.row 7 0 1 0 j], AObj.loop [67240945, 67306481, 320, 0, 100664000, 640, 0, 192] [AVal.junk, AVal.junk, AVal.junk, AVal.junk, AVal.junk, AVal.junk, AVal.ptr 2 0 0, AVal.ptr 3 0 0, AVal.junk, AVal.junk, AVal.junk, AVal.junk, AVal.junk, AVal.junk, AVal.junk, AVal.junk, AVal.junk, AVal.junk, AVal.junk, AVal.junk, AVal.junk, AVal.junk, AVal.junk, AVal.junk, AVal.junk, AVal.fn 144 [AVal.eptr [PVal.list (List.length cl) (flatX cl)], AVal.eptr [iP (Prod.fst lo), iP (Prod.snd lo)], AVal.eptr [iP (Prod.fst hi), iP (Prod.snd hi)]], AVal.junk, AVal.junk, AVal.junk, AVal.junk, AVal.junk, AVal.junk, AVal.junk, AVal.junk, AVal.junk] { toList := [26] } weAs weBo LpSt.ready, AObj.free, AObj.free, AObj.row 1 0 none xs])))) _ (by kernel_rfl) (allOb_cons h0 allOb_nil))
end Go.Proofs.YtkkgimhbliocoaaGreat
/- find's meet$1, ranged over by Window for edges: the whole call. -/
namespace Go.Proofs.YtkkgimhbliocoaaGreat
open Go Vm M
set_option linter.unusedVariables false
set_option linter.unusedSectionVars false
set_option linter.unusedSimpArgs false
set_option maxRecDepth 100000
section
variable (px py : PVal) (cl : List Bx) (lo hi : P2)
theorem we_yN (b : Bx) : Ev.yld ev3X 0 4 [iA b.1] (we0 px py cl lo hi ++ [AObj.box (bxCells b)]) = some (bA true, ((we0 px py cl lo hi ++ [AObj.box (bxCells b)]).set 3 (.box [.row 7 0 1 0 1])) ++ [.row 1 0 none [iA b.1], .row 1 0 none [iA b.1]]) := by
  refine Eq.trans (congrFun (congrFun (congrFun (congrFun (evalF_yld c3X 59) 0) 4) _) _) ?_
  refine roundA_of (lv := wnLv) (T := weT px py cl lo hi) (ps := #[26]) (asg := weAs) (body := weBo) (T1 := weU b.1) (S1 := we0 px py cl lo hi ++ [AObj.box (bxCells b)]) (x := .normal) (T2 := (webN px py cl lo hi b).2.1) (S2 := (webN px py cl lo hi b).2.2) rfl rfl rfl (by kernel_rfl) (by kernel_rfl) (by kernel_rfl) (by kernel_rfl) ?_ (by kernel_rfl) (by kernel_rfl)
  exact Eq.trans (b := evalC c3X (evalF c3X 59) wnLv 0 6 59 weBo (weU b.1) (weS0 px py cl lo hi b)) (by kernel_rfl) (webN_eq px py cl lo hi b)
theorem we_yR (b : Bx) (j : Nat) (xs : List AVal) (hx : j = xs.length) (hj : j ≤ 1000) : Ev.yld ev3X 0 4 [iA b.1] ((we1 px py cl lo hi j xs).set 5 (.box (bxCells b))) = some (bA true, ((((we1 px py cl lo hi j xs).set 5 (.box (bxCells b))).set 3 (.box [.row 7 1 1 0 (j + 1)])).set 6 (.row 1 0 none [iA b.1])).set 7 (.row 1 1 none (xs ++ [iA b.1]))) := by
  refine Eq.trans (congrFun (congrFun (congrFun (congrFun (evalF_yld c3X 59) 0) 4) _) _) ?_
  refine roundA_of (lv := wnLv) (T := weT px py cl lo hi) (ps := #[26]) (asg := weAs) (body := weBo) (T1 := weU b.1) (S1 := (we1 px py cl lo hi j xs).set 5 (.box (bxCells b))) (x := .normal) (T2 := (webR px py cl lo hi b j xs).2.1) (S2 := (webR px py cl lo hi b j xs).2.2) rfl rfl rfl (by kernel_rfl) (by kernel_rfl) (by kernel_rfl) (by kernel_rfl) ?_ (by kernel_rfl) (by kernel_rfl)
  exact Eq.trans (b := evalC c3X (evalF c3X 59) wnLv 0 8 59 weBo (weU b.1) (weS1 px py cl lo hi b j xs)) (by kernel_rfl) (webR_eq px py cl lo hi b j xs ⟨by rw [hx]; omega, by omega, by omega⟩)
noncomputable def weSt (ids : List Int) : List AObj := bif Nat.beq ids.length 0 then we0 px py cl lo hi else we1 px py cl lo hi ids.length (intA ids)
theorem weSt_nil {ids : List Int} (h : ids = []) : weSt px py cl lo hi ids = we0 px py cl lo hi := by subst h; rfl
theorem weSt_cons {ids : List Int} (h : 1 ≤ ids.length) : weSt px py cl lo hi ids = we1 px py cl lo hi ids.length (intA ids) := by unfold weSt; rw [beq0 h]; rfl
theorem we_round (hl : cl.length ≤ 1000) {k : Nat} (h : k < cl.length) : EV c3X 5 mtK (mtW cl lo hi k) (weSt px py cl lo hi (hitL cl lo hi k)) .normal (mtW cl lo hi (k + 1 : Nat)) (weSt px py cl lo hi (hitL cl lo hi (k + 1))) := by
  have hd : decide ((k : Int) < (cl.length : Int)) = true := decide_eq_true (by omega)
  have hle := hitL_le cl lo hi k
  rw [hitL_succ lo hi h]
  by_cases h0 : hitL cl lo hi k = []
  · rw [h0, weSt_nil px py cl lo hi rfl, List.nil_append]
    have e := wekN_eq px py cl lo hi k (bAt cl k) (hitB lo hi (bAt cl k)) (fun _ => by omega) (fun _ => partX h) (fun _ => meetG _ _ _ _) (fun _ _ => we_yN px py cl lo hi (bAt cl k))
    unfold wekN at e
    rw [hd, cond_true, wrS (by omega)] at e
    cases hm : hitB lo hi (bAt cl k) with
    | true =>
      rw [hm] at e
      simp only [cond_true] at e ⊢
      rw [weSt_cons px py cl lo hi (by simp)]
      refine EV.sweep [7] (EV.of c3X_ok ev3X_ok e) (fun q hq y hy => ?_) (by kernel_rfl)
      simp only [List.mem_singleton] at hq
      subst hq
      have : y = .row 1 0 none [iA (bAt cl k).1] := (Option.some.inj hy).symm
      subst this
      rfl
    | false =>
      rw [hm] at e
      simp only [cond_false] at e ⊢
      rw [weSt_nil px py cl lo hi rfl]
      exact EV.sweep [] (EV.of c3X_ok ev3X_ok e) (fun q hq y hy => by simp at hq) (by kernel_rfl)
  · have h1 : 1 ≤ (hitL cl lo hi k).length := by
      cases hh : hitL cl lo hi k with
      | nil => exact absurd hh h0
      | cons a tl => simp
    rw [weSt_cons px py cl lo hi h1]
    generalize hids : hitL cl lo hi k = ids at *
    have hxl : ids.length = (intA ids).length := by simp [intA]
    have e := wekR_eq px py cl lo hi k (bAt cl k) (hitB lo hi (bAt cl k)) ids.length (intA ids) (fun _ => by omega) (fun _ => partX h) (fun _ => meetG _ _ _ _) (fun _ _ => we_yR px py cl lo hi (bAt cl k) ids.length (intA ids) hxl (by omega))
    unfold wekR at e
    rw [hd, cond_true, wrS (by omega)] at e
    cases hm : hitB lo hi (bAt cl k) with
    | true =>
      rw [hm] at e
      simp only [cond_true] at e ⊢
      rw [weSt_cons px py cl lo hi (ids := ids ++ [(bAt cl k).1]) (by simp), show intA (ids ++ [(bAt cl k).1]) = intA ids ++ [iA (bAt cl k).1] from by unfold intA; rw [List.map_append]; rfl, show (ids ++ [(bAt cl k).1]).length = ids.length + 1 by simp]
      have e2 := EV.sweep (S' := (((we1 px py cl lo hi ids.length (intA ids)).set 3 (.box [.row 7 1 1 0 (ids.length + 1)])).set 7 (.row 1 1 none (intA ids ++ [iA (bAt cl k).1])))) [7] (EV.of c3X_ok ev3X_ok e) (fun q hq y hy => by
        simp only [List.mem_singleton] at hq
        subst hq
        have : y = .row 1 1 none (intA ids ++ [iA (bAt cl k).1]) := (Option.some.inj hy).symm
        subst this
        simp only [plainO, List.all_append, intA_plain, Bool.true_and]
        rfl) (by kernel_rfl)
      refine EV.epoch (o := 7) (b := 3) (e := 1) (sz := 1) (len := ids.length + 1) (xs := intA ids ++ [iA (bAt cl k).1]) e2 rfl rfl (by omega) (by omega) (by kernel_rfl) (fun q y hq hy => ?_)
      rcases q with _ | _ | _ | _ | _ | _ | _ | _ | q
      all_goals first
        | exact absurd rfl hq
        | (have := (Option.some.inj hy).symm; subst this; first | rfl | (simp only [mentX]; exact plain_mentL (by simp only [List.all_append, intA_plain, Bool.true_and]; rfl)))
        | (simp [we1] at hy)
    | false =>
      rw [hm] at e
      simp only [cond_false] at e ⊢
      rw [List.append_nil, weSt_cons px py cl lo hi h1]
      refine EV.sweep [7] (EV.of c3X_ok ev3X_ok e) (fun q hq y hy => ?_) (by kernel_rfl)
      simp only [List.mem_singleton] at hq
      subst hq
      have : y = .row 1 0 none (intA ids) := (Option.some.inj hy).symm
      subst this
      exact intA_plain ids
theorem we_end (ids : List Int) : EV c3X 5 mtK (mtW cl lo hi cl.length) (weSt px py cl lo hi ids) (.exit 0) (mtZ cl lo hi) (weSt px py cl lo hi ids) := by
  have hd : decide ((cl.length : Int) < (cl.length : Int)) = false := decide_eq_false (by omega)
  by_cases h0 : ids = []
  · rw [weSt_nil px py cl lo hi h0]
    have e := wekN_eq px py cl lo hi cl.length (bAt cl 0) true (fun h => by rw [hd] at h; cases h) (fun h => by rw [hd] at h; cases h) (fun h => by rw [hd] at h; cases h) (fun h => by rw [hd] at h; cases h)
    unfold wekN at e
    rw [hd, cond_false] at e
    exact EV.of c3X_ok ev3X_ok e
  · have h1 : 1 ≤ ids.length := by
      cases ids with
      | nil => exact absurd rfl h0
      | cons a tl => simp
    rw [weSt_cons px py cl lo hi h1]
    have e := wekR_eq px py cl lo hi cl.length (bAt cl 0) true ids.length (intA ids) (fun h => by rw [hd] at h; cases h) (fun h => by rw [hd] at h; cases h) (fun h => by rw [hd] at h; cases h) (fun h => by rw [hd] at h; cases h)
    unfold wekR at e
    rw [hd, cond_false] at e
    exact EV.of c3X_ok ev3X_ok e
theorem we_callsA (hl : cl.length ≤ 1000) : CallsA Tryz.prog 144 (.yld 4 :: [.eptr [bsP cl], .eptr [iP lo.1, iP lo.2], .eptr [iP hi.1, iP hi.2]]) (we0 px py cl lo hi) (.tup []) (weSt px py cl lo hi (hitL cl lo hi cl.length)) := by
  refine callsA_of_EV c3X_ok mtFn_tab (x := .normal) (.inl rfl) (T' := mtZ cl lo hi) (by kernel_rfl) ?_
  rw [mtFn_body, mtC_body, show (we0 px py cl lo hi).length = 5 from rfl]
  refine EV.seq (EV.of c3X_ok ev3X_ok (lv := mtLv) (lo := 0) (n := 60) (T' := mtW cl lo hi (0 : Nat)) (S' := we0 px py cl lo hi) (by kernel_rfl)) (EV.block ?_)
  have := EV.loop (c := c3X) (base := 5) (body := mtK) (n := cl.length) (T := fun k => mtW cl lo hi k) (S := fun k => weSt px py cl lo hi (hitL cl lo hi k)) (x := .exit 0) (T' := mtZ cl lo hi) (S' := weSt px py cl lo hi (hitL cl lo hi cl.length)) (fun k hk => we_round px py cl lo hi hl hk) (we_end px py cl lo hi _) (by simp)
  exact this
end
end Go.Proofs.YtkkgimhbliocoaaGreat
/- find's Window: which boxes meet one. -/
namespace Go.Proofs.YtkkgimhbliocoaaGreat
open Go Vm M
set_option linter.unusedVariables false
set_option linter.unusedSectionVars false
set_option linter.unusedSimpArgs false
set_option maxRecDepth 100000
open Vm in
theorem EV.blockN {c : Cfg} {base id : Nat} {p : Code} {T T' : List AVal} {S S' : List AObj} (h : EV c base p T S .normal T' S') : EV c base (.block id p) T S .normal T' S' := by
  intro ro C0 C a d0 hro hb hS hE hT hd hCS
  refine wpIn_block (wpIn_mono (h ro C0 C a d0 hro.block hb hS hE hT hd hCS) ?_)
  rintro e a1 w1 ⟨C1, rfl, e1, k1, k2, k3, k4, k5⟩
  cases e <;> simp only [AExit.is] at k5
  exact ⟨C1, rfl, e1, k1, k2, k3, k4, trivial⟩
open Vm in
/-- What is in temporaries may be left out of sight. -/
theorem EV.fade {c : Cfg} {base : Nat} {code : Code} {T T1 : List AVal} {S S1 : List AObj} {x : AExit} (m : Nat) (h : EV c base code T S x T1 S1) : EV c base code T S x (forget m T1) S1 := by
  intro ro C0 C a d0 hro hb hS hE hT hd hCS
  refine wpIn_mono (h ro C0 C a d0 hro hb hS hE hT hd hCS) ?_
  rintro e a1 w1 ⟨C1, h1, e1, k1, k2, k3, k4, k5⟩
  exact ⟨C1, h1, e1, k1, k2, forgetRT k3 m, k4, k5⟩
noncomputable def wnRF : Code := match c2 (c1 (c2 wnB)) with
  | .block _ r => r
  | _ => .skip
noncomputable def weRF : Code := match c2 (c1 (c2 (c2 wnB))) with
  | .block _ r => r
  | _ => .skip
noncomputable def wnR1 : Code := c1 (c1 (c2 wnB))
noncomputable def wnR4 : Code := c1 (c1 (c2 (c2 wnB)))
noncomputable def wnZ : Code := c2 (c2 (c2 wnB))
theorem wn_body : wnB = .seq (c1 wnB) (.seq (.seq wnR1 (.block 0 (.rangeFunc (.tmp 16) #[17] wnAs wnBo))) (.seq (.seq wnR4 (.block 2 (.rangeFunc (.tmp 25) #[26] weAs weBo))) wnZ)) := by kernel_rfl
noncomputable def wnFn : FnA := (c3X.tab 38).getD ⟨0, #[], .skip, []⟩
theorem wnFn_tab : c3X.tab 38 = some wnFn := by kernel_rfl
theorem wnFn_body : wnFn.body = wnB := by kernel_rfl
def wnS4 (lo hi : P2) : List AObj := [.box [iA lo.1, iA lo.2], .box [iA hi.1, iA hi.2], .box [nilA], .box [nilA]]
def idsX (ids : List Int) : PVal := bif Nat.beq ids.length 0 then nilP else slI ids
section
variable (cl el : List Bx) (lo hi : P2)
noncomputable def wnA0 : List AVal := upL [.ptr [bsP cl, bsP el], ptP lo, ptP hi] ++ List.replicate (wnFn.ntmps - (upL [.ptr [bsP cl, bsP el], ptP lo, ptP hi]).length) (.v undef)
def wnT0 : List AVal := [.eptr [bsP cl, bsP el]] ++ jk 3 ++ [.ptr 0 0 0, .ptr 1 0 0, .ptr 2 0 0, .ptr 3 0 0] ++ jk 27
theorem wn_r0 : EV c3X 0 (c1 wnB) (wnA0 cl el lo hi) [] .normal (wnT0 cl el) (wnS4 lo hi) := by
  have e := EV.fade 241 (EV.of (base := 0) c3X_ok ev3X_ok (lv := wnLv) (lo := 0) (n := 60) (code := c1 wnB) (T := wnA0 cl el lo hi) (S := []) (x := .normal) (T' := ((evalC c3X ev3X wnLv 0 0 60 (c1 wnB) (wnA0 cl el lo hi) []).getD (.normal, [], [])).2.1) (S' := wnS4 lo hi) (by kernel_rfl))
  have ef : forget 241 ((evalC c3X ev3X wnLv 0 0 60 (c1 wnB) (wnA0 cl el lo hi) []).getD (.normal, [], [])).2.1 = wnT0 cl el := by kernel_rfl
  rw [ef] at e
  exact e
theorem wn_r1 : EV c3X 0 wnR1 (wnT0 cl el) (wnS4 lo hi) .normal (wnT (bsP cl) (bsP el) cl lo hi) (wnS4 lo hi) :=
  EV.sweep [] (EV.of c3X_ok ev3X_ok (lv := wnLv) (lo := 0) (n := 60) (T' := wnT (bsP cl) (bsP el) cl lo hi) (S' := wnS4 lo hi ++ List.replicate 7 .free) (by kernel_rfl)) (fun q hq y hy => by simp at hq) (by kernel_rfl)
theorem entersMt : Vm.Enters c3X.P 144 := Vm.enters_of named_prog Tryz.func144 (by kernel_rfl)
def wnO (ids : List Int) : List AObj := bif Nat.beq ids.length 0 then [.hidden, .hidden, .box [nilA], .box [nilA]] else [.hidden, .hidden, .box [.row 7 0 1 0 ids.length], .box [nilA], .hidden, .hidden, .hidden, .row 1 0 none (intA ids)]
/-- The first range, and what is ahead of the second. -/
theorem wn_rf1 (hl : cl.length ≤ 1000) : EV c3X 0 (.block 0 (.rangeFunc (.tmp 16) #[17] wnAs wnBo)) (wnT (bsP cl) (bsP el) cl lo hi) (wnS4 lo hi) .normal (wnT (bsP cl) (bsP el) cl lo hi) (setSt (wnSt (bsP cl) (bsP el) cl lo hi (hitL cl lo hi cl.length)) 4 .over) := by
  have hA := wn_callsA (bsP cl) (bsP el) cl lo hi hl
  refine EV.blockN (EV.rangeF c3X_ok ev3X_ok (lv := wnLv) (f := 144) (caps := [.eptr [bsP cl], .eptr [iP lo.1, iP lo.2], .eptr [iP hi.1, iP hi.2]]) (r := .tup []) (S1 := wnSt (bsP cl) (bsP el) cl lo hi (hitL cl lo hi cl.length)) (by kernel_rfl) (by kernel_rfl) (by kernel_rfl) (by kernel_rfl) (by kernel_rfl) entersMt hA ?_ ?_)
  · by_cases h0 : hitL cl lo hi cl.length = []
    · rw [h0, wnSt_nil _ _ cl lo hi rfl]
      show 4 < 5
      omega
    · have h1 : 1 ≤ (hitL cl lo hi cl.length).length := by
        cases hh : hitL cl lo hi cl.length with
        | nil => exact absurd hh h0
        | cons a tl => simp
      rw [wnSt_cons _ _ cl lo hi h1]
      show 4 < 8
      omega
  · by_cases h0 : hitL cl lo hi cl.length = []
    · rw [h0, wnSt_nil _ _ cl lo hi rfl]
      show endLp (wnT (bsP cl) (bsP el) cl lo hi) (wn0 (bsP cl) (bsP el) cl lo hi) 4 = _
      kernel_rfl
    · have h1 : 1 ≤ (hitL cl lo hi cl.length).length := by
        cases hh : hitL cl lo hi cl.length with
        | nil => exact absurd hh h0
        | cons a tl => simp
      rw [wnSt_cons _ _ cl lo hi h1]
      show endLp (wnT (bsP cl) (bsP el) cl lo hi) (wn1 (bsP cl) (bsP el) cl lo hi (hitL cl lo hi cl.length).length (intA (hitL cl lo hi cl.length))) 4 = _
      kernel_rfl
theorem wn_r4 (ids : List Int) : EV c3X 0 wnR4 (wnT (bsP cl) (bsP el) cl lo hi) (setSt (wnSt (bsP cl) (bsP el) cl lo hi ids) 4 .over) .normal (weT (bsP cl) (bsP el) el lo hi) (wnO ids) := by
  by_cases h0 : ids = []
  · subst h0
    have e := EV.sweep (S' := [.free, .free, .box [nilA], .box [nilA]]) [] (EV.sweep (S' := wnS4 lo hi) [] (EV.of (base := 0) c3X_ok ev3X_ok (lv := wnLv) (lo := 0) (n := 60) (code := wnR4) (T := wnT (bsP cl) (bsP el) cl lo hi) (S := setSt (wnSt (bsP cl) (bsP el) cl lo hi []) 4 .over) (x := .normal) (T' := weT (bsP cl) (bsP el) el lo hi) (S' := setSt (wnSt (bsP cl) (bsP el) cl lo hi []) 4 .over) (by kernel_rfl)) (fun q hq y hy => by simp at hq) (by kernel_rfl)) (fun q hq y hy => by simp at hq) (by kernel_rfl)
    refine EV.hush e (fun o y hy => ?_) (fun o y hy => ?_)
    · rcases o with _ | _ | _ | _ | o <;> first | exact .inr hy | exact .inl (Option.some.inj hy).symm
    · rcases o with _ | _ | _ | _ | o <;> first | exact .inr hy | exact .inl (Option.some.inj hy).symm
  · have h1 : 1 ≤ ids.length := by
      cases ids with
      | nil => exact absurd rfl h0
      | cons a tl => simp
    rw [wnSt_cons _ _ cl lo hi h1]
    have e := EV.sweep (S' := [.free, .free, .box [.row 7 0 1 0 ids.length], .box [nilA], .free, .free, .free, .row 1 0 none (intA ids)]) [7] (EV.sweep (S' := [.box [iA lo.1, iA lo.2], .box [iA hi.1, iA hi.2], .box [.row 7 0 1 0 ids.length], .box [nilA], .free, .free, .free, .row 1 0 none (intA ids)]) [7] (EV.of (base := 0) c3X_ok ev3X_ok (lv := wnLv) (lo := 0) (n := 60) (code := wnR4) (T := wnT (bsP cl) (bsP el) cl lo hi) (S := setSt (wn1 (bsP cl) (bsP el) cl lo hi ids.length (intA ids)) 4 .over) (x := .normal) (T' := weT (bsP cl) (bsP el) el lo hi) (S' := setSt (wn1 (bsP cl) (bsP el) cl lo hi ids.length (intA ids)) 4 .over) (by kernel_rfl)) (fun q hq y hy => by
      simp only [List.mem_singleton] at hq
      subst hq
      have : y = .row 1 0 none (intA ids) := (Option.some.inj hy).symm
      subst this
      exact intA_plain ids) (by kernel_rfl)) (fun q hq y hy => by
      simp only [List.mem_singleton] at hq
      subst hq
      have : y = .row 1 0 none (intA ids) := (Option.some.inj hy).symm
      subst this
      exact intA_plain ids) (by kernel_rfl)
    have eo : wnO ids = [.hidden, .hidden, .box [.row 7 0 1 0 ids.length], .box [nilA], .hidden, .hidden, .hidden, .row 1 0 none (intA ids)] := by unfold wnO; rw [beq0 h1]; rfl
    rw [eo]
    refine EV.hush e (fun o y hy => ?_) (fun o y hy => ?_)
    · rcases o with _ | _ | _ | _ | _ | _ | _ | _ | o <;> first | exact .inr hy | exact .inl (Option.some.inj hy).symm
    · rcases o with _ | _ | _ | _ | _ | _ | _ | _ | o <;> first | exact .inr hy | exact .inl (Option.some.inj hy).symm
end
end Go.Proofs.YtkkgimhbliocoaaGreat
/- find's Window: the whole call, where no node's box meets it, and where there are no edges. -/
namespace Go.Proofs.YtkkgimhbliocoaaGreat
open Go Vm M
set_option linter.unusedVariables false
set_option linter.unusedSectionVars false
set_option linter.unusedSimpArgs false
set_option maxRecDepth 100000
theorem len_pos {ids : List Int} (h0 : ids ≠ []) : 1 ≤ ids.length := by
  cases ids with
  | nil => exact absurd rfl h0
  | cons a tl => simp
theorem tup_A {S : List AObj} {ids : List Int} (h : S[7]? = some (.row 1 0 none (intA ids))) : peek (Vm.mark 0 deep S (.tup [nilA, .row 7 0 1 0 ids.length])) deep (.tup [nilA, .row 7 0 1 0 ids.length]) = some (.tup [nilP, slI ids]) := by
  have hl : 7 < S.length := (List.getElem?_eq_some_iff.1 h).1
  have m : Vm.mark 0 deep S (.tup [nilA, .row 7 0 1 0 ids.length]) = S.set 7 (.row 1 0 (some (intA ids).length) (intA ids)) := by
    show Vm.mark 0 (4 + 1) S (.row 7 0 1 0 ids.length) = _
    exact mark_int h
  rw [m]
  have hp : peek (S.set 7 (.row 1 0 (some (intA ids).length) (intA ids))) (3 + 2) (.row 7 0 1 0 ids.length) = some (slI ids) := peek_int (by rw [List.getElem?_set, if_pos rfl, if_pos hl])
  show (mapO (peek (S.set 7 (.row 1 0 (some (intA ids).length) (intA ids))) 5) [nilA, .row 7 0 1 0 ids.length]).map PVal.tup = _
  simp only [mapO]
  rw [hp]
  rfl
theorem tup_B {S : List AObj} {ids : List Int} (h : S[7]? = some (.row 1 0 none (intA ids))) : peek (Vm.mark 0 deep S (.tup [.row 7 0 1 0 ids.length, nilA])) deep (.tup [.row 7 0 1 0 ids.length, nilA]) = some (.tup [slI ids, nilP]) := by
  have hl : 7 < S.length := (List.getElem?_eq_some_iff.1 h).1
  have m : Vm.mark 0 deep S (.tup [.row 7 0 1 0 ids.length, nilA]) = S.set 7 (.row 1 0 (some (intA ids).length) (intA ids)) := by
    show Vm.mark 0 5 (Vm.mark 0 (4 + 1) S (.row 7 0 1 0 ids.length)) nilA = _
    rw [mark_int h]
    rfl
  rw [m]
  have hp : peek (S.set 7 (.row 1 0 (some (intA ids).length) (intA ids))) (3 + 2) (.row 7 0 1 0 ids.length) = some (slI ids) := peek_int (by rw [List.getElem?_set, if_pos rfl, if_pos hl])
  show (mapO (peek (S.set 7 (.row 1 0 (some (intA ids).length) (intA ids))) 5) [.row 7 0 1 0 ids.length, nilA]).map PVal.tup = _
  simp only [mapO]
  rw [hp]
  rfl
noncomputable def wnZT (S : List AObj) : AExit × List AVal × List AObj := (evalC c3X ev3X wnLv 0 0 60 wnZ (jk 6 ++ [.ptr 2 0 0, .ptr 3 0 0] ++ jk 27) S).getD (.normal, [], [])
/-- From what is behind the second range to the end. -/
theorem wn_fin (cl el : List Bx) (lo hi : P2) (hl : cl.length ≤ 1000) {S2 : List AObj} {r : PVal} {X Y : AVal}
    (h2 : EV c3X 0 (.block 2 (.rangeFunc (.tmp 25) #[26] weAs weBo)) (weT (bsP cl) (bsP el) el lo hi) (wnO (hitL cl lo hi cl.length)) .normal (weT (bsP cl) (bsP el) el lo hi) S2)
    (hz : evalC c3X ev3X wnLv 0 0 60 wnZ (jk 6 ++ [.ptr 2 0 0, .ptr 3 0 0] ++ jk 27) S2 = some (.ret, (wnZT S2).2.1, (wnZT S2).2.2)) (hr : resultsA c3X.P wnFn.results (wnZT S2).2.1 (wnZT S2).2.2 = some (.tup [X, Y])) (hp : peek (Vm.mark 0 deep (wnZT S2).2.2 (.tup [X, Y])) deep (.tup [X, Y]) = some r) :
    CallsP Tryz.prog 38 [.ptr [bsP cl, bsP el], ptP lo, ptP hi] r := by
  refine callsP_of_A (r0 := .tup [X, Y]) (S := (wnZT S2).2.2) (callsA_of_EV c3X_ok wnFn_tab (x := .ret) (.inr rfl) (T' := (wnZT S2).2.1) hr ?_) hp
  rw [wnFn_body, wn_body]
  have h3 := EV.fade (6 * 32) h2
  have ef : forget (6 * 32) (weT (bsP cl) (bsP el) el lo hi) = jk 6 ++ [.ptr 2 0 0, .ptr 3 0 0] ++ jk 27 := by kernel_rfl
  rw [ef] at h3
  exact EV.seq (wn_r0 cl el lo hi) (EV.seq (EV.seq (wn_r1 cl el lo hi) (wn_rf1 cl el lo hi hl)) (EV.seq (EV.seq (wn_r4 cl el lo hi _) h3) (EV.of c3X_ok ev3X_ok hz)))
section
variable (cl el : List Bx) (lo hi : P2)
/-- No node's box meets it. -/
theorem window_A (hl : cl.length ≤ 1000) (hl2 : el.length ≤ 1000) (h1 : hitL cl lo hi cl.length = []) : CallsP Tryz.prog 38 [.ptr [bsP cl, bsP el], ptP lo, ptP hi] (.tup [nilP, idsX (hitL el lo hi el.length)]) := by
  have hA := we_callsA (bsP cl) (bsP el) el lo hi hl2
  have e0 : wnO (hitL cl lo hi cl.length) = [.hidden, .hidden, .box [nilA], .box [nilA]] := by rw [h1]; rfl
  generalize hids : hitL el lo hi el.length = ids at *
  by_cases h0 : ids = []
  · subst h0
    rw [weSt_nil _ _ el lo hi rfl] at hA
    refine wn_fin cl el lo hi hl (S2 := setSt (we0 (bsP cl) (bsP el) el lo hi) 4 .over) (X := nilA) (Y := nilA) ?_ (by kernel_rfl) (by kernel_rfl) (by kernel_rfl)
    rw [e0]
    exact EV.blockN (EV.rangeF c3X_ok ev3X_ok (lv := wnLv) (f := 144) (caps := [.eptr [bsP el], .eptr [iP lo.1, iP lo.2], .eptr [iP hi.1, iP hi.2]]) (r := .tup []) (S1 := we0 (bsP cl) (bsP el) el lo hi) (by kernel_rfl) (by kernel_rfl) (by kernel_rfl) (by kernel_rfl) (by kernel_rfl) entersMt hA (by show 4 < 5; omega) (by
      show endLp (weT (bsP cl) (bsP el) el lo hi) (we0 (bsP cl) (bsP el) el lo hi) 4 = _
      kernel_rfl))
  · rw [weSt_cons _ _ el lo hi (len_pos h0)] at hA
    have ex : idsX ids = slI ids := by unfold idsX; rw [beq0 (len_pos h0)]; rfl
    rw [ex]
    refine wn_fin cl el lo hi hl (S2 := setSt (we1 (bsP cl) (bsP el) el lo hi ids.length (intA ids)) 4 .over) (X := nilA) (Y := .row 7 0 1 0 ids.length) ?_ (by kernel_rfl) (by kernel_rfl) (tup_A (by kernel_rfl))
    rw [e0]
    exact EV.blockN (EV.rangeF c3X_ok ev3X_ok (lv := wnLv) (f := 144) (caps := [.eptr [bsP el], .eptr [iP lo.1, iP lo.2], .eptr [iP hi.1, iP hi.2]]) (r := .tup []) (S1 := we1 (bsP cl) (bsP el) el lo hi ids.length (intA ids)) (by kernel_rfl) (by kernel_rfl) (by kernel_rfl) (by kernel_rfl) (by kernel_rfl) entersMt hA (by show 4 < 8; omega) (by
      show endLp (weT (bsP cl) (bsP el) el lo hi) (we1 (bsP cl) (bsP el) el lo hi ids.length (intA ids)) 4 = _
      kernel_rfl))
def mt0T (q : Nat) (lo hi : P2) : List AVal := [.yld q, .junk, .eptr [iP lo.1, iP lo.2], .eptr [iP hi.1, iP hi.2]] ++ jk 3 ++ [bsA [], iA 0, iA 0] ++ jk 18
def mt0X (q : Nat) (lo hi : P2) : List AVal := [.yld q, .junk, .eptr [iP lo.1, iP lo.2], .eptr [iP hi.1, iP hi.2]] ++ jk 3 ++ [bsA [], iA 0, iA 0, bA false] ++ jk 17
/-- Nothing is ranged over. -/
theorem mt_none (q : Nat) (S : List AObj) : CallsA Tryz.prog 144 (.yld q :: [.eptr [bsP []], .eptr [iP lo.1, iP lo.2], .eptr [iP hi.1, iP hi.2]]) S (.tup []) S := by
  refine callsA_of_EV c3X_ok mtFn_tab (x := .normal) (.inl rfl) (T' := mt0X q lo hi) (by kernel_rfl) ?_
  rw [mtFn_body, mtC_body]
  refine EV.seq (EV.of c3X_ok ev3X_ok (lv := mtLv) (lo := 0) (n := 60) (T' := mt0T q lo hi) (S' := S) (by kernel_rfl)) (EV.block ?_)
  exact EV.loop (n := 0) (T := fun _ => mt0T q lo hi) (S := fun _ => S) (fun k hk => by omega) (EV.of c3X_ok ev3X_ok (lv := mtLv) (lo := 0) (n := 60) (by kernel_rfl)) (by simp)
/-- There are no edges. -/
theorem window_B (hl : cl.length ≤ 1000) : CallsP Tryz.prog 38 [.ptr [bsP cl, bsP []], ptP lo, ptP hi] (.tup [idsX (hitL cl lo hi cl.length), nilP]) := by
  generalize hids : hitL cl lo hi cl.length = ids
  by_cases h0 : ids = []
  · subst h0
    refine wn_fin cl [] lo hi hl (S2 := [.hidden, .hidden, .box [nilA], .box [nilA]] ++ [weL .over (bsP cl) (bsP []) [] lo hi]) (X := nilA) (Y := nilA) ?_ (by kernel_rfl) (by kernel_rfl) (by kernel_rfl)
    have e0 : wnO (hitL cl lo hi cl.length) = [.hidden, .hidden, .box [nilA], .box [nilA]] := by rw [hids]; rfl
    rw [e0]
    have hA := mt_none lo hi 4 (([.hidden, .hidden, .box [nilA], .box [nilA]] : List AObj) ++ [weL .ready (bsP cl) (bsP []) [] lo hi])
    exact EV.blockN (EV.rangeF c3X_ok ev3X_ok (lv := wnLv) (f := 144) (caps := [.eptr [bsP []], .eptr [iP lo.1, iP lo.2], .eptr [iP hi.1, iP hi.2]]) (r := .tup []) (S1 := (([.hidden, .hidden, .box [nilA], .box [nilA]] : List AObj) ++ [weL .ready (bsP cl) (bsP []) [] lo hi])) (by kernel_rfl) (by kernel_rfl) (by kernel_rfl) (by kernel_rfl) (by kernel_rfl) entersMt hA (by show 4 < 5; omega) (by
      show endLp (weT (bsP cl) (bsP []) [] lo hi) ([.hidden, .hidden, .box [nilA], .box [nilA]] ++ [weL .ready (bsP cl) (bsP []) [] lo hi]) 4 = _
      kernel_rfl))
  · have ex : idsX ids = slI ids := by unfold idsX; rw [beq0 (len_pos h0)]; rfl
    rw [ex]
    refine wn_fin cl [] lo hi hl (S2 := [.hidden, .hidden, .box [.row 7 0 1 0 ids.length], .box [nilA], .hidden, .hidden, .hidden, .row 1 0 none (intA ids)] ++ [weL .over (bsP cl) (bsP []) [] lo hi]) (X := .row 7 0 1 0 ids.length) (Y := nilA) ?_ (by kernel_rfl) (by kernel_rfl) (tup_B (by kernel_rfl))
    have e0 : wnO (hitL cl lo hi cl.length) = [.hidden, .hidden, .box [.row 7 0 1 0 ids.length], .box [nilA], .hidden, .hidden, .hidden, .row 1 0 none (intA ids)] := by rw [hids]; unfold wnO; rw [beq0 (len_pos h0)]; rfl
    rw [e0]
    have hA := mt_none lo hi 8 (([.hidden, .hidden, .box [.row 7 0 1 0 ids.length], .box [nilA], .hidden, .hidden, .hidden, .row 1 0 none (intA ids)] : List AObj) ++ [weL .ready (bsP cl) (bsP []) [] lo hi])
    exact EV.blockN (EV.rangeF c3X_ok ev3X_ok (lv := wnLv) (f := 144) (caps := [.eptr [bsP []], .eptr [iP lo.1, iP lo.2], .eptr [iP hi.1, iP hi.2]]) (r := .tup []) (S1 := (([.hidden, .hidden, .box [.row 7 0 1 0 ids.length], .box [nilA], .hidden, .hidden, .hidden, .row 1 0 none (intA ids)] : List AObj) ++ [weL .ready (bsP cl) (bsP []) [] lo hi])) (by kernel_rfl) (by kernel_rfl) (by kernel_rfl) (by kernel_rfl) (by kernel_rfl) entersMt hA (by show 8 < 9; omega) (by
      show endLp (weT (bsP cl) (bsP []) [] lo hi) ([.hidden, .hidden, .box [.row 7 0 1 0 ids.length], .box [nilA], .hidden, .hidden, .hidden, .row 1 0 none (intA ids)] ++ [weL .ready (bsP cl) (bsP []) [] lo hi]) 8 = _
      kernel_rfl))
end
end Go.Proofs.YtkkgimhbliocoaaGreat
