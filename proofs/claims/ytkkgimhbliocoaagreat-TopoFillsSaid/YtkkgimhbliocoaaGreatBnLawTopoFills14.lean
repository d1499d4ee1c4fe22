/- Texts put together: ShelfS, MapN3, MapN4, MapN5, Face0, Loop, Free, Free2, Free3, Nids, Nids2, Bin, Bin2. What is proved stands at the head of each part. -/
import Derived.Test.YtkkgimhbliocoaaGreatBnLawTopoFills13
import Derived.Shelf.Sort.Plain
/- Sorting numbers in place: the library's contract at this program (its table of numbers and its one application were written by the kit's own commands lay-shelf and lay-plain). -/
namespace Go.Proofs
open Go.Shelf
def Tryz.lays189_ren : Go.Shelf.Ren := ⟨fun | 189 => 108 | 125 => 153 | 257 => 164 | 128 => 192 | 129 => 193 | 294 => 204 | 295 => 205 | 296 => 206 | 297 => 207 | 298 => 208 | 299 => 209 | 216 => 210 | 300 => 211 | 301 => 212 | 328 => 232 | 329 => 224 | 330 => 225 | 331 => 233 | 332 => 234 | 215 => 154 | 343 => 243 | n => n, fun | 28 => 37 | 3 => 3 | 46 => 182 | 0 => 0 | 51 => 214 | 53 => 216 | 4 => 4 | 183 => 208 | 182 => 207 | 131 => 48 | 5 => 5 | 9 => 9 | 218 => 230 | 222 => 234 | 228 => 244 | 229 => 245 | n => n, fun | n => n⟩
theorem Tryz.lays189 : Go.Proofs.Lays.n189 Tryz.prog Tryz.lays189_ren := {
  mixed := by kernel_rfl
  f125 := Tryz.func153.trans (congrArg some (by kernel_rfl))
  f128 := Tryz.func192.trans (congrArg some (by kernel_rfl))
  f129 := Tryz.func193.trans (congrArg some (by kernel_rfl))
  f189 := Tryz.func108.trans (congrArg some (by kernel_rfl))
  f215 := Tryz.func154.trans (congrArg some (by kernel_rfl))
  f216 := Tryz.func210.trans (congrArg some (by kernel_rfl))
  f257 := Tryz.func164.trans (congrArg some (by kernel_rfl))
  f294 := Tryz.func204.trans (congrArg some (by kernel_rfl))
  f295 := Tryz.func205.trans (congrArg some (by kernel_rfl))
  f296 := Tryz.func206.trans (congrArg some (by kernel_rfl))
  f297 := Tryz.func207.trans (congrArg some (by kernel_rfl))
  f298 := Tryz.func208.trans (congrArg some (by kernel_rfl))
  f299 := Tryz.func209.trans (congrArg some (by kernel_rfl))
  f300 := Tryz.func211.trans (congrArg some (by kernel_rfl))
  f301 := Tryz.func212.trans (congrArg some (by kernel_rfl))
  f328 := Tryz.func232.trans (congrArg some (by kernel_rfl))
  f329 := Tryz.func224.trans (congrArg some (by kernel_rfl))
  f330 := Tryz.func225.trans (congrArg some (by kernel_rfl))
  f331 := Tryz.func233.trans (congrArg some (by kernel_rfl))
  f332 := Tryz.func234.trans (congrArg some (by kernel_rfl))
  f343 := Tryz.func243.trans (congrArg some (by kernel_rfl))
  t0 := Tryz.underlying0
  a0 := Tryz.isAgg0
  z0 := Tryz.sizeOf0
  v0 := Tryz.zeroValue0
  t3 := Tryz.underlying3
  a3 := Tryz.isAgg3
  z3 := Tryz.sizeOf3
  v3 := Tryz.zeroValue3
  t4 := Tryz.underlying4
  a4 := Tryz.isAgg4
  z4 := Tryz.sizeOf4
  v4 := Tryz.zeroValue4
  t5 := Tryz.underlying5
  a5 := Tryz.isAgg5
  z5 := Tryz.sizeOf5
  v5 := Tryz.zeroValue5
  t9 := Tryz.underlying9
  a9 := Tryz.isAgg9
  z9 := Tryz.sizeOf9
  v9 := Tryz.zeroValue9
  t28 := Tryz.underlying37
  a28 := Tryz.isAgg37
  z28 := Tryz.sizeOf37
  v28 := Tryz.zeroValue37
  t46 := Tryz.underlying182
  a46 := Tryz.isAgg182
  z46 := Tryz.sizeOf182
  v46 := Tryz.zeroValue182
  t51 := Tryz.underlying214
  a51 := Tryz.isAgg214
  z51 := Tryz.sizeOf214
  v51 := Tryz.zeroValue214
  t53 := Tryz.underlying216
  a53 := Tryz.isAgg216
  z53 := Tryz.sizeOf216
  v53 := Tryz.zeroValue216
  t131 := Tryz.underlying48
  a131 := Tryz.isAgg48
  z131 := Tryz.sizeOf48
  v131 := Tryz.zeroValue48
  t182 := Tryz.underlying207
  a182 := Tryz.isAgg207
  z182 := Tryz.sizeOf207
  v182 := Tryz.zeroValue207
  t183 := Tryz.underlying208
  a183 := Tryz.isAgg208
  z183 := Tryz.sizeOf208
  v183 := Tryz.zeroValue208
  t218 := Tryz.underlying230
  a218 := Tryz.isAgg230
  z218 := Tryz.sizeOf230
  v218 := Tryz.zeroValue230
  t222 := Tryz.underlying234
  a222 := Tryz.isAgg234
  z222 := Tryz.sizeOf234
  v222 := Tryz.zeroValue234
  t228 := Tryz.underlying244
  a228 := Tryz.isAgg244
  z228 := Tryz.sizeOf244
  v228 := Tryz.zeroValue244
  t229 := Tryz.underlying245
  a229 := Tryz.isAgg245
  z229 := Tryz.sizeOf245
  v229 := Tryz.zeroValue245 }
open Go.Sort Go.RowKit in
theorem Tryz.slices_Sort_int (blk off cap : Nat) (zs : List Int) (w : World) (hH : Holds (Value.int .i64) w blk off zs.toArray) (hblk : blk < w.heap.size) (hsz : zs.length < 4611686018427387904) :
    Calls Tryz.prog 108 #[.slice (some ⟨blk, off, none⟩) zs.length cap] w fun e w' =>
      e = .returned (.tuple #[]) ∧ ∃ n os, w' = grow (putRow (Value.int .i64) (Sort.ahead w n) blk off (zs.mergeSort fun x y => decide (x ≤ y)).toArray) os := Any.slices_Sort_int Tryz.lays189 blk off cap zs w hH hblk hsz
end Go.Proofs
/- face.MapOf of a plan without edges: sorting given. -/
namespace Go.Proofs.YtkkgimhbliocoaaGreat
open Go Vm M
set_option linter.unusedVariables false
set_option linter.unusedSimpArgs false
def unInts : List AVal → Option (List Int) := mapO fun x => match x with
  | .v (.int .i64 z) => some z
  | _ => none
theorem unInts_int : ∀ zs : List Int, unInts (intA zs) = some zs
  | [] => rfl
  | z :: zs => by
    have ih := unInts_int zs
    unfold unInts intA at ih ⊢
    simp only [List.map_cons, mapO, ih]
theorem unInts_some : ∀ {xs : List AVal} {zs : List Int}, unInts xs = some zs → xs = intA zs
  | [], zs, h => by simp only [unInts, mapO, Option.some.injEq] at h; subst h; rfl
  | x :: xs, zs, h => by
    unfold unInts at h
    simp only [mapO] at h
    split at h
    · rename_i y ys h1 h2
      simp only [Option.some.injEq] at h
      subst h
      rw [unInts_some (xs := xs) (zs := ys) h2]
      split at h1
      · simp only [Option.some.injEq] at h1
        subst h1
        rfl
      · cases h1
    · cases h
def srtI (zs : List Int) : List Int := zs.mergeSort fun x y => decide (x ≤ y)
/-- Sorting in place, told. -/
noncomputable def gSort (lo : Nat) (args : List AVal) (S : List AObj) : Option (AVal × List AObj) :=
  match args with
  | [.row o e 1 0 n] => match S[o]? with
    | some (.row 1 e' none xs) => match unInts xs with
      | some zs => if e' = e ∧ lo ≤ o ∧ 0 < n ∧ zs.length = n ∧ n < 4611686018427387904 then some (.tup [], S.set o (.row 1 e none (intA (srtI zs)))) else none
      | none => none
    | _ => none
  | _ => none
theorem gSort_ok {lo : Nat} {args : List AVal} {S : List AObj} {r : AVal} {S' : List AObj} (h : gSort lo args S = some (r, S')) : CallsA Tryz.prog 108 args S r S' ∧ Stays lo S S' := by
  unfold gSort at h
  split at h
  · rename_i o e n
    split at h
    · rename_i e' xs hx
      split at h
      · rename_i zs hz
        split at h
        · rename_i hc
          obtain ⟨rfl, hlo, hn, rfl, hb⟩ := hc
          have hxs := unInts_some hz
          subst hxs
          simp only [Option.some.injEq, Prod.mk.injEq] at h
          obtain ⟨rfl, rfl⟩ := h
          refine ⟨sort_ok (fun zs => by simp [srtI]) (fun blk off cap zs w hH hblk hsz => Tryz.slices_Sort_int blk off cap zs w hH hblk hsz) hn hb hx, by simp, fun q hq _ => by rw [List.getElem?_set, if_neg (by omega)]⟩
        · cases h
      · cases h
    · cases h
  · cases h
def md3 (f : FuncId) : Nat := bif clipF f then 7 else md2 f
noncomputable def giS (f : FuncId) : Option (Nat → List AVal → List AObj → Option (AVal × List AObj)) := bif Nat.beq f 108 then some gSort else none
def giV (f : FuncId) : Option (List AVal → Option AVal) := bif clipF f then some gClip else none
noncomputable def cfgS (mode : FuncId → Nat) (L : Lib Tryz.prog) : Cfg := { cfgOf lives mode L with givenS := giS, givenV := giV }
set_option maxRecDepth 100000 in
theorem cfgS_ok (mode : FuncId → Nat) (L : Lib Tryz.prog) : CfgOk (cfgS mode L) where
  mixed := mixed_prog
  tab := fun f a h => tabOf_ok named_prog h rfl
  givenP := L.ok
  givenV := fun f g h => by
    have h' : giV f = some g := h
    unfold giV at h'
    cases hb : clipF f with
    | true =>
      rw [hb] at h'
      simp only [cond_true, Option.some.injEq] at h'
      subst h'
      exact clipF_spec hb
    | false => rw [hb] at h'; cases h'
  givenS := fun f g h => by
    have h' : giS f = some g := h
    unfold giS at h'
    cases hb : Nat.beq f 108 with
    | true =>
      rw [hb] at h'
      simp only [cond_true, Option.some.injEq] at h'
      have hf : f = 108 := Nat.eq_of_beq_eq_true hb
      subst h' hf
      exact ⟨Vm.enters_of named_prog Tryz.func108 (by kernel_rfl), fun lo args S r S' h => gSort_ok h⟩
    | false => rw [hb] at h'; cases h'
noncomputable def cS : Cfg := cfgS md3 KN
theorem cS_ok : CfgOk cS := cfgS_ok md3 KN
noncomputable def evS : Ev := evalF cS 60
theorem evS_ok : EvOk cS evS := evalF_ok cS_ok 60
noncomputable def mpB : Code := Tryz.f57.body.getD .skip
end Go.Proofs.YtkkgimhbliocoaaGreat
/- face.MapOf of a plan without edges: its one region. -/
namespace Go.Proofs.YtkkgimhbliocoaaGreat
open Go Vm M
set_option linter.unusedVariables false
set_option linter.unusedSimpArgs false
def mrT (i : Int) : List AVal := jk 4 ++ [.ptr 3 0 0] ++ jk 189 ++ [iA 1, iA i] ++ jk 39
def mrG (ns : List Nd) (k : Nat) (zs : List Int) : AExit × List AVal × List AObj :=
  (AExit.normal, ((jk 4 ++ [AVal.ptr 3 0 0] ++ jk 189 ++ [iA (Int.ofNat 1), iA (Int.ofNat 1)] ++ jk 39), ([AObj.free, AObj.row 3 0 none [AVal.v (Value.slice none 0 0), AVal.v (Value.slice none 0 0), AVal.row 32 0 1 0 k], AObj.mapo false [] [], AObj.box [AVal.row 1 0 3 0 1, AVal.mp 2, AVal.v (Value.slice none 0 0), AVal.fmap [] []]] ++ List.replicate 28 AObj.free ++ [AObj.row 1 0 none (intA (srtI zs))] ++ List.replicate 18 AObj.free)))
theorem mrG_eq (ns : List Nd) (k : Nat) (zs : List Int) (e0 : callA cS evS 0 108 [AVal.row 32 0 1 0 k] [AObj.free, AObj.row 3 0 none [AVal.v (Value.slice none 0 0), AVal.v (Value.slice none 0 0), AVal.row 32 0 1 0 k], AObj.mapo false [] [], AObj.box [AVal.row 1 0 3 0 1, AVal.mp 2, AVal.v (Value.slice none 0 0), AVal.fmap [] []], AObj.free, AObj.free, AObj.free, AObj.free, AObj.free, AObj.free, AObj.free, AObj.free, AObj.free, AObj.free, AObj.free, AObj.free, AObj.free, AObj.free, AObj.free, AObj.free, AObj.free, AObj.free, AObj.free, AObj.free, AObj.free, AObj.free, AObj.free, AObj.free, AObj.free, AObj.free, AObj.free, AObj.free, AObj.row 1 0 none (intA zs)] = some (AVal.tup [], [AObj.free, AObj.row 3 0 none [AVal.v (Value.slice none 0 0), AVal.v (Value.slice none 0 0), AVal.row 32 0 1 0 k], AObj.mapo false [] [], AObj.box [AVal.row 1 0 3 0 1, AVal.mp 2, AVal.v (Value.slice none 0 0), AVal.fmap [] []], AObj.free, AObj.free, AObj.free, AObj.free, AObj.free, AObj.free, AObj.free, AObj.free, AObj.free, AObj.free, AObj.free, AObj.free, AObj.free, AObj.free, AObj.free, AObj.free, AObj.free, AObj.free, AObj.free, AObj.free, AObj.free, AObj.free, AObj.free, AObj.free, AObj.free, AObj.free, AObj.free, AObj.free, AObj.row 1 0 none (intA (srtI zs))])) : evalC (cS) (evS) (mpLv) 0 0 60 (loopAt Tryz.f57 3) (mrT 0) (mnS ns k (intA zs)) = some (mrG ns k zs) := by
  have key := fun (bs : List Bool) (r : AExit × List AVal × List AObj) (ob : List Prop) (h : pathP (cS) (evS) (mpLv) 0 0 60 [(38, 4, Hint.call (AVal.tup []) (mnS ns k (intA (srtI zs))))] (loopAt Tryz.f57 3) (mrT 0) (mnS ns k (intA zs)) bs [] = .ok (r.1, r.2.1, r.2.2, ob)) (hp : allOb ob) => pathP_ok h hp
  unfold mrG
  exact key [true] ((AExit.normal, ((jk 4 ++ [AVal.ptr 3 0 0] ++ jk 189 ++ [iA (Int.ofNat 1), iA (Int.ofNat 1)] ++ jk 39), ([AObj.free, AObj.row 3 0 none [AVal.v (Value.slice none 0 0), AVal.v (Value.slice none 0 0), AVal.row 32 0 1 0 k], AObj.mapo false [] [], AObj.box [AVal.row 1 0 3 0 1, AVal.mp 2, AVal.v (Value.slice none 0 0), AVal.fmap [] []]] ++ List.replicate 28 AObj.free ++ [AObj.row 1 0 none (intA (srtI zs))] ++ List.replicate 18 AObj.free)))) _ (by kernel_rfl) (allOb_cons (by exact e0) (allOb_cons lit_t allOb_nil))
def mrH (ns : List Nd) (k : Nat) (zs : List Int) : AExit × List AVal × List AObj :=
  (AExit.exit 6, ((jk 4 ++ [AVal.ptr 3 0 0] ++ jk 189 ++ [iA (Int.ofNat 1), iA (Int.ofNat 1), bA false] ++ jk 38), ([AObj.free, AObj.row 3 0 none [AVal.v (Value.slice none 0 0), AVal.v (Value.slice none 0 0), AVal.row 32 0 1 0 k], AObj.mapo false [] [], AObj.box [AVal.row 1 0 3 0 1, AVal.mp 2, AVal.v (Value.slice none 0 0), AVal.fmap [] []]] ++ List.replicate 28 AObj.free ++ [AObj.row 1 0 none (intA zs)])))
theorem mrH_eq (ns : List Nd) (k : Nat) (zs : List Int) : evalC (cS) (evS) (mpLv) 0 0 60 (loopAt Tryz.f57 3) (mrT 1) (mnS ns k (intA zs)) = some (mrH ns k zs) := by
  have key := fun (bs : List Bool) (r : AExit × List AVal × List AObj) (ob : List Prop) (h : pathP (cS) (evS) (mpLv) 0 0 60 [] (loopAt Tryz.f57 3) (mrT 1) (mnS ns k (intA zs)) bs [] = .ok (r.1, r.2.1, r.2.2, ob)) (hp : allOb ob) => pathP_ok h hp
  unfold mrH
  exact key [false] ((AExit.exit 6, ((jk 4 ++ [AVal.ptr 3 0 0] ++ jk 189 ++ [iA (Int.ofNat 1), iA (Int.ofNat 1), bA false] ++ jk 38), ([AObj.free, AObj.row 3 0 none [AVal.v (Value.slice none 0 0), AVal.v (Value.slice none 0 0), AVal.row 32 0 1 0 k], AObj.mapo false [] [], AObj.box [AVal.row 1 0 3 0 1, AVal.mp 2, AVal.v (Value.slice none 0 0), AVal.fmap [] []]] ++ List.replicate 28 AObj.free ++ [AObj.row 1 0 none (intA zs)])))) _ (by kernel_rfl) (allOb_cons lit_f allOb_nil)
def mrG0 (ns : List Nd) : AExit × List AVal × List AObj :=
  (AExit.normal, ((jk 4 ++ [AVal.ptr 3 0 0] ++ jk 189 ++ [iA (Int.ofNat 1), iA (Int.ofNat 1)] ++ jk 39), ([AObj.free, AObj.row 3 0 none [AVal.v (Value.slice none 0 0), AVal.v (Value.slice none 0 0), AVal.v (Value.slice none 0 0)], AObj.mapo false [] [], AObj.box [AVal.row 1 0 3 0 1, AVal.mp 2, AVal.v (Value.slice none 0 0), AVal.fmap [] []]] ++ List.replicate 18 AObj.free)))
theorem mrG0_eq (ns : List Nd) : evalC (cN) (evN) (mpLv) 0 0 60 (loopAt Tryz.f57 3) (mrT 0) (mnS0 ns) = some (mrG0 ns) := by
  have key := fun (bs : List Bool) (r : AExit × List AVal × List AObj) (ob : List Prop) (h : pathP (cN) (evN) (mpLv) 0 0 60 [] (loopAt Tryz.f57 3) (mrT 0) (mnS0 ns) bs [] = .ok (r.1, r.2.1, r.2.2, ob)) (hp : allOb ob) => pathP_ok h hp
  unfold mrG0
  exact key [true] ((AExit.normal, ((jk 4 ++ [AVal.ptr 3 0 0] ++ jk 189 ++ [iA (Int.ofNat 1), iA (Int.ofNat 1)] ++ jk 39), ([AObj.free, AObj.row 3 0 none [AVal.v (Value.slice none 0 0), AVal.v (Value.slice none 0 0), AVal.v (Value.slice none 0 0)], AObj.mapo false [] [], AObj.box [AVal.row 1 0 3 0 1, AVal.mp 2, AVal.v (Value.slice none 0 0), AVal.fmap [] []]] ++ List.replicate 18 AObj.free)))) _ (by kernel_rfl) (allOb_cons lit_t allOb_nil)
def mrH0 (ns : List Nd) : AExit × List AVal × List AObj :=
  (AExit.exit 6, ((jk 4 ++ [AVal.ptr 3 0 0] ++ jk 189 ++ [iA (Int.ofNat 1), iA (Int.ofNat 1), bA false] ++ jk 38), ([AObj.free, AObj.row 3 0 none [AVal.v (Value.slice none 0 0), AVal.v (Value.slice none 0 0), AVal.v (Value.slice none 0 0)], AObj.mapo false [] [], AObj.box [AVal.row 1 0 3 0 1, AVal.mp 2, AVal.v (Value.slice none 0 0), AVal.fmap [] []]])))
theorem mrH0_eq (ns : List Nd) : evalC (cN) (evN) (mpLv) 0 0 60 (loopAt Tryz.f57 3) (mrT 1) (mnS0 ns) = some (mrH0 ns) := by
  have key := fun (bs : List Bool) (r : AExit × List AVal × List AObj) (ob : List Prop) (h : pathP (cN) (evN) (mpLv) 0 0 60 [] (loopAt Tryz.f57 3) (mrT 1) (mnS0 ns) bs [] = .ok (r.1, r.2.1, r.2.2, ob)) (hp : allOb ob) => pathP_ok h hp
  unfold mrH0
  exact key [false] ((AExit.exit 6, ((jk 4 ++ [AVal.ptr 3 0 0] ++ jk 189 ++ [iA (Int.ofNat 1), iA (Int.ofNat 1), bA false] ++ jk 38), ([AObj.free, AObj.row 3 0 none [AVal.v (Value.slice none 0 0), AVal.v (Value.slice none 0 0), AVal.v (Value.slice none 0 0)], AObj.mapo false [] [], AObj.box [AVal.row 1 0 3 0 1, AVal.mp 2, AVal.v (Value.slice none 0 0), AVal.fmap [] []]])))) _ (by kernel_rfl) (allOb_cons lit_f allOb_nil)
end Go.Proofs.YtkkgimhbliocoaaGreat
/- face.MapOf of a plan without edges, told whole. -/
namespace Go.Proofs.YtkkgimhbliocoaaGreat
open Go Vm M
set_option linter.unusedVariables false
set_option linter.unusedSectionVars false
set_option linter.unusedSimpArgs false
theorem EV.cast {c c' : Cfg} {base : Nat} {code : Code} {T T' : List AVal} {S S' : List AObj} {x : AExit} (h : c.P = c'.P) (k : EV c base code T S x T' S') : EV c' base code T S x T' S' := by
  intro ro C0 C a d0 hro hb hS hE hT hd hCS
  rw [← h]
  exact k ro C0 C a d0 hro hb hS hE hT hd hCS
theorem intA_plain (zs : List Int) : (intA zs).all plainV = true := by
  unfold intA
  rw [List.all_eq_true]
  intro x hx
  simp only [List.mem_map] at hx
  obtain ⟨n, _, rfl⟩ := hx
  rfl
theorem gSort_mn (ns : List Nd) {k : Nat} {zs : List Int} (hk : zs.length = k) (h : 0 < k) (hb : k ≤ 1000) : gSort 0 [.row 32 0 1 0 k] (mnS ns k (intA zs)) = some (.tup [], mnS ns k (intA (srtI zs))) := by
  have e : (mnS ns k (intA zs))[32]? = some (.row 1 0 none (intA zs)) := rfl
  unfold gSort
  simp only [e, unInts_int]
  rw [if_pos ⟨trivial, by omega, h, hk, by omega⟩]
  rfl
noncomputable abbrev mrB : Code := loopAt Tryz.f57 3
theorem mr_round (ns : List Nd) {k : Nat} {zs : List Int} (hk : zs.length = k) (h : 0 < k) (hb : k ≤ 1000) : EV cS 0 mrB (mrT 0) (mnS ns k (intA zs)) .normal (mrT 1) (mnS ns k (intA (srtI zs))) := by
  refine EV.tidy [32] (EV.of cS_ok evS_ok (mrG_eq ns k zs (gSort_mn ns hk h hb))) (fun q hq y hy => ?_) ?_
  · simp only [List.mem_singleton] at hq
    subst hq
    have : y = .row 1 0 none (intA (srtI zs)) := by
      have h2 := Option.some.inj hy
      exact h2.symm
    subst this
    exact intA_plain _
  · kernel_rfl
def mrE : List AVal := jk 4 ++ [.ptr 3 0 0] ++ jk 189 ++ [iA 1, iA 1, bA false] ++ jk 38
theorem mr_loop (ns : List Nd) {k : Nat} {zs : List Int} (hk : zs.length = k) (h : 0 < k) (hb : k ≤ 1000) : EV cS 0 (.loop mrB) (mrT 0) (mnS ns k (intA zs)) (.exit 6) mrE (mnS ns k (intA (srtI zs))) := by
  refine EV.loop (c := cS) (base := 0) (body := mrB) (n := 1) (T := fun i => mrT i) (S := fun i => bif Nat.beq i 0 then mnS ns k (intA zs) else mnS ns k (intA (srtI zs))) (x := .exit 6) (fun i hi => ?_) ?_ (by simp)
  · obtain rfl : i = 0 := by omega
    exact mr_round ns hk h hb
  · exact EV.of cS_ok evS_ok (mrH_eq ns k (srtI zs))
theorem mr_loop0 (ns : List Nd) : EV cN 0 (.loop mrB) (mrT 0) (mnS0 ns) (.exit 6) mrE (mnS0 ns) := by
  refine EV.loop (c := cN) (base := 0) (body := mrB) (n := 1) (T := fun i => mrT i) (S := fun i => mnS0 ns) (x := .exit 6) (fun i hi => ?_) ?_ (by simp)
  · obtain rfl : i = 0 := by omega
    refine EV.tidy [] (EV.of cN_ok evN_ok (mrG0_eq ns)) (fun q hq y hy => by simp at hq) ?_
    kernel_rfl
  · exact EV.of cN_ok evN_ok (mrH0_eq ns)
/-! ## the pieces -/
noncomputable def mp26 : Code := c1 (c1 (tailC 7 mpB))
noncomputable def mp34 : Code := c1 (c1 (c2 (tailC 7 mpB)))
noncomputable def mp41 : Code := c2 (c2 (tailC 7 mpB))
theorem mp_tail : tailC 7 mpB = .seq (.seq mp26 (.block 4 (.loop mnB))) (.seq (.seq mp34 (.block 6 (.loop mrB))) mp41) := by kernel_rfl
noncomputable def mpA : FnA := (cS.tab 57).getD ⟨0, #[], .skip, []⟩
theorem mpA_tab : cS.tab 57 = some mpA := by kernel_rfl
theorem mpA_body : mpA.body = mpB := by kernel_rfl
section
variable (ns : List Nd)
noncomputable def mp7 : List AVal × List AObj := (evalL cN evN mpLv 0 0 60 (headL 7 mpB) (upL [plN ns.length (flatN ns)] ++ List.replicate (mpA.ntmps - (upL [plN ns.length (flatN ns)]).length) (.v undef)) []).getD ([], [])
theorem mp7_eq : evalL cN evN mpLv 0 0 60 (headL 7 mpB) (upL [plN ns.length (flatN ns)] ++ List.replicate (mpA.ntmps - (upL [plN ns.length (flatN ns)]).length) (.v undef)) [] = some ((mp7 ns).1, (mp7 ns).2) := by kernel_rfl
noncomputable def mp8 : AExit × List AVal × List AObj := (evalC cN evN mpLv 0 0 60 mp26 (mp7 ns).1 (mp7 ns).2).getD (.normal, [], [])
theorem mp8_eq : evalC cN evN mpLv 0 0 60 mp26 (mp7 ns).1 (mp7 ns).2 = some (.normal, (mp8 ns).2.1, (mp8 ns).2.2) := by kernel_rfl
theorem mp8_ev : EV cN 0 mp26 (mp7 ns).1 (mp7 ns).2 .normal (mnT ns (0 : Nat)) (mnS0 ns) := EV.tidy [] (EV.of cN_ok evN_ok (mp8_eq ns)) (fun q hq y hy => by simp at hq) (by kernel_rfl)
theorem mp34_ev (xs : List AVal) (hx : xs.all plainV = true) : EV cN 0 mp34 (mnE ns ns.length) (mnS ns ns.length xs) .normal (mrT 0) (mnS ns ns.length xs) := by
  refine EV.tidy [32] (EV.of cN_ok evN_ok (T' := ((evalC cN evN mpLv 0 0 60 mp34 (mnE ns ns.length) (mnS ns ns.length xs)).getD (.normal, [], [])).2.1) (S' := mnS ns ns.length xs) (lv := mpLv) (lo := 0) (n := 60) (by kernel_rfl)) (fun q hq y hy => ?_) ?_
  · simp only [List.mem_singleton] at hq
    subst hq
    have : y = .row 1 0 none xs := (Option.some.inj hy).symm
    subst this
    exact hx
  · kernel_rfl
theorem mp34_ev0 : EV cN 0 mp34 (mnE ns ns.length) (mnS0 ns) .normal (mrT 0) (mnS0 ns) :=
  EV.tidy [] (EV.of cN_ok evN_ok (T' := ((evalC cN evN mpLv 0 0 60 mp34 (mnE ns ns.length) (mnS0 ns)).getD (.normal, [], [])).2.1) (S' := mnS0 ns) (lv := mpLv) (lo := 0) (n := 60) (by kernel_rfl)) (fun q hq y hy => by simp at hq) (by kernel_rfl)
noncomputable def mp9 (k : Nat) (xs : List AVal) : AExit × List AVal × List AObj := (evalC cS evS mpLv 0 0 60 mp41 mrE (mnS ns k xs)).getD (.normal, [], [])
theorem mp9_eq (k : Nat) (xs : List AVal) : evalC cS evS mpLv 0 0 60 mp41 mrE (mnS ns k xs) = some (.ret, (mp9 ns k xs).2.1, mnS ns k xs) := by kernel_rfl
noncomputable def mp90 : AExit × List AVal × List AObj := (evalC cS evS mpLv 0 0 60 mp41 mrE (mnS0 ns)).getD (.normal, [], [])
theorem mp90_eq : evalC cS evS mpLv 0 0 60 mp41 mrE (mnS0 ns) = some (.ret, (mp90 ns).2.1, mnS0 ns) := by kernel_rfl
def idsI (ns : List Nd) : List Int := ns.map fun n => n.1
theorem idsI_eq : intA (idsI ns) = idsA ns ns.length := by
  unfold intA idsI idsA
  rw [List.take_length, List.map_map]
  rfl
theorem mp_callsA (h : 0 < ns.length) (hl : ns.length ≤ 1000) : CallsA Tryz.prog 57 (upL [plN ns.length (flatN ns)]) [] (.ptr 3 0 0) (mnS ns ns.length (intA (srtI (idsI ns)))) := by
  refine callsA_of_EV cS_ok mpA_tab (x := .ret) (.inr rfl) (T' := (mp9 ns ns.length (intA (srtI (idsI ns)))).2.1) (by kernel_rfl) ?_
  rw [mpA_body]
  refine EV.cast (c := cN) rfl (EV.head cN_ok evN_ok 7 (mp7_eq ns) ?_)
  rw [mp_tail]
  refine EV.seq (EV.seq (mp8_ev ns) (EV.block (mn_loop ns hl))) (EV.cast (c := cS) rfl (EV.seq (EV.seq ?_ (EV.block (mr_loop ns (zs := idsI ns) (k := ns.length) (by simp [idsI]) h hl))) (EV.of cS_ok evS_ok (mp9_eq ns _ _))))
  have hb : Nat.beq ns.length 0 = false := by
    cases hb : Nat.beq ns.length 0 with
    | true => have := Nat.eq_of_beq_eq_true hb; omega
    | false => rfl
  rw [hb, cond_false, idsI_eq]
  exact EV.cast (c := cN) rfl (mp34_ev ns _ (idsA_plain ns _))
theorem mp_callsA0 (h : ns.length = 0) : CallsA Tryz.prog 57 (upL [plN ns.length (flatN ns)]) [] (.ptr 3 0 0) (mnS0 ns) := by
  refine callsA_of_EV cS_ok mpA_tab (x := .ret) (.inr rfl) (T' := (mp90 ns).2.1) (by kernel_rfl) ?_
  rw [mpA_body]
  refine EV.cast (c := cN) rfl (EV.head cN_ok evN_ok 7 (mp7_eq ns) ?_)
  rw [mp_tail]
  refine EV.seq (EV.seq (mp8_ev ns) (EV.block (mn_loop ns (by omega)))) (EV.seq (EV.seq ?_ (EV.block (mr_loop0 ns))) (EV.cast (c := cS) rfl (EV.of cS_ok evS_ok (mp90_eq ns))))
  have hb : Nat.beq ns.length 0 = true := by rw [h]; rfl
  rw [hb, cond_true]
  exact mp34_ev0 ns
/-! ## what comes back, as a value -/
theorem mark_ints (lo n : Nat) (S : List AObj) : ∀ zs : List Int, (intA zs).foldl (Vm.mark lo n) S = S
  | [] => rfl
  | z :: zs => by
    cases n with
    | zero => simp only [intA, List.map_cons, List.foldl_cons, Vm.mark]; exact mark_ints lo 0 S zs
    | succ n => simp only [intA, List.map_cons, List.foldl_cons, Vm.mark]; exact mark_ints lo (n + 1) S zs
theorem mark_int {S : List AObj} {o e ep off len n : Nat} {fz : Option Nat} {zs : List Int} (h : S[o]? = some (.row 1 e fz (intA zs))) : Vm.mark 0 (n + 1) S (.row o ep 1 off len) = S.set o (.row 1 e (some (intA zs).length) (intA zs)) := by
  simp only [Vm.mark, h]
  rw [if_pos (Nat.zero_le _), mark_ints]
theorem peek_ints (S : List AObj) (n : Nat) : ∀ zs : List Int, mapO (peek S (n + 1)) (intA zs) = some (intP zs)
  | [] => rfl
  | z :: zs => by
    have ih := peek_ints S n zs
    unfold intA intP at ih ⊢
    simp only [List.map_cons, mapO, peek, ih]
theorem peek_int {S : List AObj} {o n e : Nat} {zs : List Int} (h : S[o]? = some (.row 1 e (some (intA zs).length) (intA zs))) : peek S (n + 2) (.row o e 1 0 zs.length) = some (slI zs) := by
  simp only [peek, h]
  rw [if_pos ⟨trivial, trivial, by rw [intA_length]; omega⟩]
  have e : cutA (intA zs) 1 0 (0 + zs.length) = intA zs := by
    unfold cutA
    rw [Nat.zero_mul, List.drop_zero, List.take_of_length_le (by rw [intA_length]; omega)]
  rw [e, peek_ints]
  rfl
def mnM (ns : List Nd) (k : Nat) (zs : List Int) : List AObj := [.free, .row 3 0 (some 3) [nilA, nilA, .row 32 0 1 0 k], .mapo true [] [], .row 1 0 (some 4) [.row 1 0 3 0 1, .mp 2, nilA, .fmap [] []]] ++ List.replicate 28 .free ++ [.row 1 0 (some (intA zs).length) (intA zs)]
def mnQ (ns : List Nd) (k : Nat) (zs : List Int) : List AObj := [.free, .row 3 0 (some 3) [nilA, nilA, .row 32 0 1 0 k], .mapo false [] [], .row 1 0 (some 4) [.row 1 0 3 0 1, .mp 2, nilA, .fmap [] []]] ++ List.replicate 28 .free ++ [.row 1 0 none (intA zs)]
theorem mn_mark1 (k : Nat) (zs : List Int) : Vm.mark 0 deep (mnS ns k (intA zs)) (.ptr 3 0 0) = Vm.mark 0 5 (Vm.mark 0 5 (Vm.mark 0 5 (Vm.mark 0 4 (mnQ ns k zs) (.row 32 0 1 0 k)) (.mp 2)) nilA) (.fmap [] []) := by kernel_rfl
theorem mn_mark (k : Nat) (zs : List Int) : Vm.mark 0 deep (mnS ns k (intA zs)) (.ptr 3 0 0) = mnM ns k zs := by
  rw [mn_mark1, mark_int (S := mnQ ns k zs) (o := 32) (e := 0) (fz := none) (zs := zs) (n := 3) rfl]
  kernel_rfl
def mapV (x : PVal) : PVal := .ptr [.list 1 [nilP, nilP, x], .map [] [], nilP, .map [] []]
theorem mn_peek {k : Nat} {zs : List Int} (hk : zs.length = k) : peek (mnM ns k zs) deep (.ptr 3 0 0) = some (mapV (slI zs)) := by
  subst hk
  have p : peek (mnM ns zs.length zs) 4 (.row 32 0 1 0 zs.length) = some (slI zs) := peek_int (n := 2) rfl
  have q : peek (mnM ns zs.length zs) 5 (.row 1 0 3 0 1) = some (.list 1 [nilP, nilP, slI zs]) := by
    have e : mapO (peek (mnM ns zs.length zs) 4) [nilA, nilA, .row 32 0 1 0 zs.length] = some [nilP, nilP, slI zs] := by
      simp only [mapO, p, show peek (mnM ns zs.length zs) 4 nilA = some nilP from rfl]
    show (if 3 = 3 ∧ 0 = 0 ∧ (0 + 1) * 3 ≤ 3 then (mapO (peek (mnM ns zs.length zs) 4) [nilA, nilA, .row 32 0 1 0 zs.length]).map (PVal.list 1) else none) = _
    rw [if_pos (by decide), e]
    rfl
  have e : mapO (peek (mnM ns zs.length zs) 5) [.row 1 0 3 0 1, .mp 2, nilA, .fmap [] []] = some [.list 1 [nilP, nilP, slI zs], .map [] [], nilP, .map [] []] := by
    simp only [mapO, q, show peek (mnM ns zs.length zs) 5 nilA = some nilP from rfl, show peek (mnM ns zs.length zs) 5 (.mp 2) = some (.map [] []) from rfl, show peek (mnM ns zs.length zs) 5 (.fmap [] []) = some (.map [] []) from rfl]
  show (if 0 = 0 ∧ 4 ≤ 4 then (mapO (peek (mnM ns zs.length zs) 5) [.row 1 0 3 0 1, .mp 2, nilA, .fmap [] []]).map PVal.ptr else none) = _
  rw [if_pos (by decide), e]
  rfl
/-- The map of a plan without edges. -/
noncomputable def mapN (ns : List Nd) : PVal := mapV (bif Nat.beq ns.length 0 then nilP else slI (srtI (idsI ns)))
theorem mapN_calls (hl : ns.length ≤ 1000) : CallsP Tryz.prog 57 [plN ns.length (flatN ns)] (mapN ns) := by
  unfold mapN
  cases hb : Nat.beq ns.length 0 with
  | true => exact callsP_of_A (mp_callsA0 ns (Nat.eq_of_beq_eq_true hb)) (by kernel_rfl)
  | false =>
    have h : 0 < ns.length := by
      rcases Nat.eq_zero_or_pos ns.length with h0 | h0
      · rw [h0] at hb; cases hb
      · exact h0
    refine callsP_of_A (mp_callsA ns h hl) ?_
    rw [mn_mark]
    exact mn_peek ns (by simp [srtI, idsI])
end
end Go.Proofs.YtkkgimhbliocoaaGreat
/- The face of a point in a plan without edges. -/
namespace Go.Proofs.YtkkgimhbliocoaaGreat
open Go Vm M
set_option linter.unusedVariables false
set_option linter.unusedSimpArgs false
def unN : List PVal → Option (List Nd)
  | [] => some []
  | .v (.int .i64 a) :: .v (.int .i64 b) :: .v (.int .i64 c) :: .v (.int .i64 d) :: r => match unN r with
    | some ns => some ((a, (b, c), d) :: ns)
    | none => none
  | _ => none
theorem unN_flat : ∀ ns : List Nd, unN (flatN ns) = some ns
  | [] => rfl
  | n :: ns => by simp only [flatN, unN, unN_flat ns]
theorem unN_some : ∀ {xs : List PVal} {ns : List Nd}, unN xs = some ns → xs = flatN ns := by
  intro xs
  induction xs using unN.induct with
  | case1 => intro ns h; simp only [unN, Option.some.injEq] at h; subst h; rfl
  | case2 a b c d r ns hr ih =>
    intro ms h
    simp only [unN, hr, Option.some.injEq] at h
    subst h
    rw [ih hr]
    rfl
  | case3 a b c d r hr ih => intro ms h; simp only [unN, hr] at h; cases h
  | case4 xs h1 h2 => intro ms h; rw [unN] at h; cases h; exact h1; exact h2
/-- What takes a plan without edges, of its nodes. -/
def withNs (args : List PVal) (F : List Nd → List PVal → Option PVal) : Option PVal :=
  match args with
  | .agg [.list n xs, .v (.slice none 0 0)] :: r => match unN xs with
    | some ns => if n = ns.length then F ns r else none
    | none => none
  | _ => none
theorem withNs_ok (F : List Nd → List PVal → Option PVal) (ns : List Nd) (r : List PVal) : withNs (plN ns.length (flatN ns) :: r) F = F ns r := by
  unfold withNs plN nilP
  simp only [unN_flat, if_true]
theorem withNs_spec {P : Program} {f : FuncId} {F : List Nd → List PVal → Option PVal} (h : ∀ ns r v, F ns r = some v → CallsP P f (plN ns.length (flatN ns) :: r) v) : ∀ args v, withNs args F = some v → CallsP P f args v := by
  intro args v hv
  unfold withNs at hv
  split at hv
  · rename_i n xs r
    split at hv
    · rename_i ns hn
      split at hv
      · rename_i hl
        subst hl
        have := unN_some hn
        subst this
        exact h ns r v hv
      · cases hv
    · cases hv
  · cases hv
noncomputable def gMapOf (args : List PVal) : Option PVal := withNs args fun ns r => match r with
  | [] => if ns.length ≤ 1000 then some (mapN ns) else none
  | _ => none
theorem gMapOf_spec : ∀ args v, gMapOf args = some v → CallsP Tryz.prog 57 args v := withNs_spec fun ns r v h => by
  split at h
  · split at h
    · rename_i hl
      simp only [Option.some.injEq] at h
      subst h
      exact mapN_calls ns hl
    · cases h
  · cases h
noncomputable def KM : Lib Tryz.prog := KN.add 57 gMapOf (Vm.enters_of named_prog Tryz.func57 (by kernel_rfl)) gMapOf_spec
noncomputable abbrev cfM (L : Lib Tryz.prog) : Cfg := cfgS md3 L
theorem cfM_ok (L : Lib Tryz.prog) : CfgOk (cfM L) := cfgS_ok md3 L
def faAt (ns : List Nd) (x : PVal) (q : P2) : PVal :=
  iP (Int.ofNat 0)
theorem faAt_calls (ns : List Nd) (x : PVal) (q : P2) (e0 : pureCall (cfM KM) (evalF (cfM KM) 60) 57 [PVal.agg [PVal.list (List.length ns) (flatN ns), PVal.v (Value.slice none 0 0)]] = some (PVal.ptr [PVal.list 1 [PVal.v (Value.slice none 0 0), PVal.v (Value.slice none 0 0), x], PVal.map [] [], PVal.v (Value.slice none 0 0), PVal.map [] []])) : CallsP Tryz.prog 69 [plN (List.length ns) (flatN ns), ptP q] (faAt ns x q) := by
  have key := fun (bs : List Bool) (r : PVal) (ob : List Prop) (h : callP (cfM KM) (evalF (cfM KM) 60) 60 [(1, 1, Hint.pcall (mapV x))] 69 [plN (List.length ns) (flatN ns), ptP q] bs [] (none) = .ok (r, ob)) (hp : allOb ob) => callP_ok (cfM_ok KM) h hp
  unfold faAt
  exact key [] (iP (Int.ofNat 0)) _ (by kernel_rfl) (allOb_cons (by exact e0) allOb_nil)
end Go.Proofs.YtkkgimhbliocoaaGreat
/- The first of some numbers (seat B: without what leans on loops of seat A's kind); loops that look for something. -/
namespace Go.Proofs.YtkkgimhbliocoaaGreat
open Go Vm M
set_option linter.unusedVariables false
set_option linter.unusedSimpArgs false
/-- The first number from k on, of d, at which c is. -/
def firstAt (c : Nat → Bool) : Nat → Nat → Option Nat
  | 0, _ => none
  | d + 1, k => bif c k then some k else firstAt c d (k + 1)
theorem firstAt_some {c : Nat → Bool} : ∀ {d k j : Nat}, firstAt c d k = some j → k ≤ j ∧ j < k + d ∧ c j = true ∧ ∀ i, k ≤ i → i < j → c i = false
  | 0, k, j, h => by simp [firstAt] at h
  | d + 1, k, j, h => by
    unfold firstAt at h
    cases hc : c k with
    | true =>
      rw [hc] at h
      simp only [cond_true, Option.some.injEq] at h
      subst h
      exact ⟨Nat.le_refl _, by omega, hc, fun i h1 h2 => by omega⟩
    | false =>
      rw [hc] at h
      simp only [cond_false] at h
      obtain ⟨h1, h2, h3, h4⟩ := firstAt_some h
      refine ⟨by omega, by omega, h3, fun i h5 h6 => ?_⟩
      by_cases hi : i = k
      · rw [hi]; exact hc
      · exact h4 i (by omega) h6
theorem firstAt_none {c : Nat → Bool} : ∀ {d k : Nat}, firstAt c d k = none → ∀ i, k ≤ i → i < k + d → c i = false
  | 0, k, h => fun i h1 h2 => by omega
  | d + 1, k, h => by
    unfold firstAt at h
    cases hc : c k with
    | true => rw [hc] at h; cases h
    | false =>
      rw [hc] at h
      simp only [cond_false] at h
      intro i h1 h2
      by_cases hi : i = k
      · rw [hi]; exact hc
      · exact firstAt_none h i (by omega) (by omega)
theorem firstAt_congr {c c' : Nat → Bool} : ∀ {d k : Nat}, (∀ i, k ≤ i → i < k + d → c i = c' i) → firstAt c d k = firstAt c' d k
  | 0, k, h => rfl
  | d + 1, k, h => by
    unfold firstAt
    rw [h k (by omega) (by omega), firstAt_congr (d := d) (k := k + 1) fun i h1 h2 => h i (by omega) (by omega)]
theorem firstAt_eq_some {c : Nat → Bool} {d k j : Nat} (h1 : k ≤ j) (h2 : j < k + d) (h3 : c j = true) (h4 : ∀ i, k ≤ i → i < j → c i = false) : firstAt c d k = some j := by
  cases h : firstAt c d k with
  | none => rw [firstAt_none h j h1 h2] at h3; cases h3
  | some i =>
    obtain ⟨g1, g2, g3, g4⟩ := firstAt_some h
    by_cases hlt : i < j
    · rw [h4 i g1 hlt] at g3; cases g3
    · by_cases hgt : j < i
      · rw [g4 j h1 hgt] at h3; cases h3
      · rw [show i = j by omega]
theorem firstAt_eq_none {c : Nat → Bool} {d k : Nat} (h : ∀ i, k ≤ i → i < k + d → c i = false) : firstAt c d k = none := by
  cases hf : firstAt c d k with
  | none => rfl
  | some j =>
    obtain ⟨g1, g2, g3, _⟩ := firstAt_some hf
    rw [h j g1 g2] at g3; cases g3
/-- A loop that looks for something: found. -/
theorem EV.found {cf : Cfg} {base : Nat} {body : Code} {T : Nat → List AVal} {S : Nat → List AObj} {n j : Nat} {c : Nat → Bool} {x : AExit} {T' : List AVal} {S' : List AObj} (h : firstAt c n 0 = some j) (hs : ∀ k, k < n → c k = false → EV cf base body (T k) (S k) .normal (T (k + 1)) (S (k + 1)))
    (he : j < n → c j = true → EV cf base body (T j) (S j) x T' S') (hx : x ≠ .normal) : EV cf base (.loop body) (T 0) (S 0) x T' S' := by
  obtain ⟨h1, h2, h3, h4⟩ := firstAt_some h
  exact EV.loop (n := j) (fun k hk => hs k (by omega) (h4 k (by omega) hk)) (he (by omega) h3) hx
/-- Not found. -/
theorem EV.missed {cf : Cfg} {base : Nat} {body : Code} {T : Nat → List AVal} {S : Nat → List AObj} {n : Nat} {c : Nat → Bool} {x : AExit} {T' : List AVal} {S' : List AObj} (h : firstAt c n 0 = none) (hs : ∀ k, k < n → c k = false → EV cf base body (T k) (S k) .normal (T (k + 1)) (S (k + 1)))
    (he : EV cf base body (T n) (S n) x T' S') (hx : x ≠ .normal) : EV cf base (.loop body) (T 0) (S 0) x T' S' :=
  EV.loop (n := n) (fun k hk => hs k hk (firstAt_none h k (by omega) (by omega))) he hx
theorem wrS {k : Nat} (h : k < 9000000000000000000) : IntKind.i64.wrap ((k : Int) + 1) = ((k + 1 : Nat) : Int) := by
  rw [IntWalk.i64_in _ (by omega)]
  omega
end Go.Proofs.YtkkgimhbliocoaaGreat
/- Whether a node has a point: the search for it. -/
namespace Go.Proofs.YtkkgimhbliocoaaGreat
open Go Vm M
set_option linter.unusedVariables false
set_option linter.unusedSimpArgs false
theorem pure_given {c : Cfg} {ev : Ev} {F : FuncId} {ps : List PVal} {r : PVal} {g : List PVal → Option PVal} (hg : c.givenP F = some g) (h : g ps = some r) : pureCall c ev F ps = some r := by
  unfold pureCall
  simp only [hg, h]
noncomputable def ixLv : List Nat := (lives.lookup 165).getD []
def ptE (p : P2) : PVal := .ptr [.v (.int .i64 p.1), .v (.int .i64 p.2)]
def frP (p : P2) : PVal := .fn 114 [.ptr [.v (.int .i64 p.1), .v (.int .i64 p.2)]]
def frF (p : P2) : AVal := .fn 114 [.eptr [.v (.int .i64 p.1), .v (.int .i64 p.2)]]
def nxT (ns : List Nd) (p : P2) (i : Int) : List AVal := [nsA ns, frF p] ++ jk 5 ++ [iA ns.length, iA i] ++ jk 10
def fr1 (n : Nd) (p : P2) : PVal :=
  bP (eqB (Prod.fst (Prod.snd n)) p)
theorem fr1_calls (n : Nd) (p : P2) : CallsP Tryz.prog 114 [ndP n, ptE p] (fr1 n p) := by
  have key := fun (bs : List Bool) (r : PVal) (ob : List Prop) (h : callP (cfM KM) (evalF (cfM KM) 60) 60 [] 114 [ndP n, ptE p] bs [] (none) = .ok (r, ob)) (hp : allOb ob) => callP_ok (cfM_ok KM) h hp
  unfold fr1
  exact key [] (bP (eqB (Prod.fst (Prod.snd n)) p)) _ (by kernel_rfl) allOb_nil
def gFr1 : List PVal → Option PVal
  | [.agg [.v (.int .i64 a), .v (.int .i64 b), .v (.int .i64 c), .v (.int .i64 d)], .ptr [.v (.int .i64 x), .v (.int .i64 y)]] => some (bP (eqB (b, c) (x, y)))
  | _ => none
theorem gFr1_spec : ∀ args v, gFr1 args = some v → CallsP Tryz.prog 114 args v := by
  intro args v h
  unfold gFr1 at h
  split at h
  · rename_i a b c d x y
    simp only [Option.some.injEq] at h
    subst h
    exact fr1_calls (a, (b, c), d) (x, y)
  · cases h
noncomputable def KF : Lib Tryz.prog := KM.add 114 gFr1 (Vm.enters_of named_prog Tryz.func114 (by kernel_rfl)) gFr1_spec
def nxK (ns : List Nd) (p : P2) (i : Int) (q : Nd) (j : Bool) : AExit × List AVal × List AObj :=
  (bif decide (i < (↑(List.length ns) : Int)) then (bif j then (AExit.ret, ((jk 4 ++ [iA i] ++ jk 14), [])) else (AExit.normal, (([AVal.list (List.length ns) (flatN ns), AVal.fn 114 [AVal.eptr [iP (Prod.fst p), iP (Prod.snd p)]]] ++ jk 5 ++ [iA (Int.ofNat (List.length ns)), iA (IntKind.i64.wrap (i + 1))] ++ jk 10), []))) else (AExit.exit 0, (([AVal.list (List.length ns) (flatN ns), AVal.fn 114 [AVal.eptr [iP (Prod.fst p), iP (Prod.snd p)]]] ++ jk 5 ++ [iA (Int.ofNat (List.length ns)), iA i, bA false] ++ jk 9), [])))
theorem nxK_eq (ns : List Nd) (p : P2) (i : Int) (q : Nd) (j : Bool) (b0 : (decide (i < (↑(List.length ns) : Int))) = true → (0 : Int) ≤ i ∧ (i : Int) < (↑(List.length ns) : Int)) (e0 : (decide (i < (↑(List.length ns) : Int))) = true → partA (Cfg.P (cfM KF)) 30 (upL (List.drop (Int.toNat i * 4) (flatN ns))) 0 = some (ndA q)) (e1 : (decide (i < (↑(List.length ns) : Int))) = true → pureCall (cfM KF) (evalF (cfM KF) 60) 114 [PVal.agg [iP (Prod.fst q), iP (Prod.fst (Prod.fst (Prod.snd q))), iP (Prod.snd (Prod.fst (Prod.snd q))), iP (Prod.snd (Prod.snd q))], PVal.ptr [iP (Prod.fst p), iP (Prod.snd p)]] = some (bP j)) : evalC (cfM KF) (evalF (cfM KF) 60) (ixLv) 0 0 60 (loopAt Tryz.f165 0) (nxT ns p i) ([]) = some (nxK ns p i q j) := by
  have key := fun (bs : List Bool) (r : AExit × List AVal × List AObj) (ob : List Prop) (h : pathP (cfM KF) (evalF (cfM KF) 60) (ixLv) 0 0 60 [(4, 3, Hint.idx), (4, 4, Hint.load (ndA q)), (4, 5, Hint.pcall (bP j))] (loopAt Tryz.f165 0) (nxT ns p i) ([]) bs [] = .ok (r.1, r.2.1, r.2.2, ob)) (hp : allOb ob) => pathP_ok h hp
  unfold nxK
  exact bif_case (P := fun r => evalC (cfM KF) (evalF (cfM KF) 60) (ixLv) 0 0 60 (loopAt Tryz.f165 0) (nxT ns p i) ([]) = some r)
    (fun h0 => bif_case (P := fun r => evalC (cfM KF) (evalF (cfM KF) 60) (ixLv) 0 0 60 (loopAt Tryz.f165 0) (nxT ns p i) ([]) = some r)
     (fun h1 => key [true, true] ((AExit.ret, ((jk 4 ++ [iA i] ++ jk 14), []))) _ (by kernel_rfl) (allOb_cons h1 (allOb_cons (by exact (e1 h0)) (allOb_cons (by exact (e0 h0)) (allOb_cons (idx_okN (b0 h0)) (allOb_cons h0 allOb_nil))))))
     (fun h1 => key [true, false] ((AExit.normal, (([AVal.list (List.length ns) (flatN ns), AVal.fn 114 [AVal.eptr [iP (Prod.fst p), iP (Prod.snd p)]]] ++ jk 5 ++ [iA (Int.ofNat (List.length ns)), iA (IntKind.i64.wrap (i + 1))] ++ jk 10), []))) _ (by kernel_rfl) (allOb_cons h1 (allOb_cons (by exact (e1 h0)) (allOb_cons (by exact (e0 h0)) (allOb_cons (idx_okN (b0 h0)) (allOb_cons h0 allOb_nil)))))))
    (fun h0 => key [false] ((AExit.exit 0, (([AVal.list (List.length ns) (flatN ns), AVal.fn 114 [AVal.eptr [iP (Prod.fst p), iP (Prod.snd p)]]] ++ jk 5 ++ [iA (Int.ofNat (List.length ns)), iA i, bA false] ++ jk 9), []))) _ (by kernel_rfl) (allOb_cons h0 allOb_nil))
end Go.Proofs.YtkkgimhbliocoaaGreat
/- Whether a node has a point; face.Free of a plan without edges. -/
namespace Go.Proofs.YtkkgimhbliocoaaGreat
open Go Vm M
set_option linter.unusedVariables false
set_option linter.unusedSectionVars false
set_option linter.unusedSimpArgs false
def atP (ns : List Nd) (p : P2) (k : Nat) : Bool := eqB (nAt ns k).2.1 p
def ixN (ns : List Nd) (p : P2) : Int := match firstAt (atP ns p) ns.length 0 with
  | some j => (j : Int)
  | none => -1
def hasN (ns : List Nd) (p : P2) : Bool := (firstAt (atP ns p) ns.length 0).isSome
theorem hasN_ix (ns : List Nd) (p : P2) : decide (ixN ns p ≥ 0) = hasN ns p := by
  unfold ixN hasN
  split
  · rename_i j h; rw [h]; simp
  · rename_i h; rw [h]; rfl
noncomputable def ixB : Code := Tryz.f165.body.getD .skip
noncomputable abbrev ixK : Code := loopAt Tryz.f165 0
noncomputable def ix1 : Code := c1 (c1 (tailC 1 ixB))
noncomputable def ix2 : Code := c2 (tailC 1 ixB)
theorem ix_tail : tailC 1 ixB = .seq (.seq ix1 (.block 0 (.loop ixK))) ix2 := by kernel_rfl
noncomputable def ixA : FnA := ((cfM KF).tab 165).getD ⟨0, #[], .skip, []⟩
theorem ixA_tab : (cfM KF).tab 165 = some ixA := by kernel_rfl
theorem ixA_body : ixA.body = ixB := by kernel_rfl
theorem frG (n : Nd) (p : P2) {ev : Ev} : pureCall (cfM KF) ev 114 [ndP n, ptE p] = some (bP (eqB n.2.1 p)) := pure_given (g := gFr1) (by kernel_rfl) rfl
theorem evF_ok : EvOk (cfM KF) (evalF (cfM KF) 60) := evalF_ok (cfM_ok KF) 60
section
variable (ns : List Nd) (p : P2)
theorem nx_at (hl : ns.length ≤ 1000) {k : Nat} (h : k < ns.length) : evalC (cfM KF) (evalF (cfM KF) 60) ixLv 0 0 60 ixK (nxT ns p k) [] = some (nxK ns p k (nAt ns k) (atP ns p k)) :=
  nxK_eq ns p k (nAt ns k) (atP ns p k) (fun _ => by omega) (fun _ => partN h) (fun _ => frG (nAt ns k) p)
theorem nx_step (hl : ns.length ≤ 1000) {k : Nat} (h : k < ns.length) (hc : atP ns p k = false) : EV (cfM KF) 0 ixK (nxT ns p k) [] .normal (nxT ns p (k + 1 : Nat)) [] := by
  have e := nx_at ns p hl h
  unfold nxK at e
  rw [decide_eq_true (by omega : ((k : Int) < (ns.length : Int))), cond_true, hc, cond_false, wrS (by omega)] at e
  exact EV.of (cfM_ok KF) evF_ok e
theorem nx_hit (hl : ns.length ≤ 1000) {k : Nat} (h : k < ns.length) (hc : atP ns p k = true) : EV (cfM KF) 0 ixK (nxT ns p k) [] .ret (jk 4 ++ [iA k] ++ jk 14) [] := by
  have e := nx_at ns p hl h
  unfold nxK at e
  rw [decide_eq_true (by omega : ((k : Int) < (ns.length : Int))), cond_true, hc, cond_true] at e
  exact EV.of (cfM_ok KF) evF_ok e
def nxE : List AVal := [nsA ns, frF p] ++ jk 5 ++ [iA ns.length, iA ns.length, bA false] ++ jk 9
theorem nx_end (hl : ns.length ≤ 1000) : EV (cfM KF) 0 ixK (nxT ns p ns.length) [] (.exit 0) (nxE ns p) [] := by
  have e := nxK_eq ns p ns.length (nAt ns 0) false (fun h => by have := of_decide_eq_true h; omega) (fun h => by have := of_decide_eq_true h; omega) (fun h => by have := of_decide_eq_true h; omega)
  unfold nxK at e
  rw [decide_eq_false (by omega : ¬ ((ns.length : Int) < (ns.length : Int))), cond_false] at e
  exact EV.of (cfM_ok KF) evF_ok e
noncomputable def ix0 : List AVal × List AObj := (evalL (cfM KF) (evalF (cfM KF) 60) ixLv 0 0 60 (headL 1 ixB) (upL [nsP ns, frP p] ++ List.replicate (ixA.ntmps - (upL [nsP ns, frP p]).length) (.v undef)) []).getD ([], [])
theorem ix0_eq : evalL (cfM KF) (evalF (cfM KF) 60) ixLv 0 0 60 (headL 1 ixB) (upL [nsP ns, frP p] ++ List.replicate (ixA.ntmps - (upL [nsP ns, frP p]).length) (.v undef)) [] = some ((ix0 ns p).1, (ix0 ns p).2) := by kernel_rfl
noncomputable def ix3 : AExit × List AVal × List AObj := (evalC (cfM KF) (evalF (cfM KF) 60) ixLv 0 0 60 ix1 (ix0 ns p).1 (ix0 ns p).2).getD (.normal, [], [])
theorem ix3_eq : evalC (cfM KF) (evalF (cfM KF) 60) ixLv 0 0 60 ix1 (ix0 ns p).1 (ix0 ns p).2 = some (.normal, (ix3 ns p).2.1, (ix3 ns p).2.2) := by kernel_rfl
theorem ix3_ev : EV (cfM KF) 0 ix1 (ix0 ns p).1 (ix0 ns p).2 .normal (nxT ns p (0 : Nat)) [] := EV.tidy [] (EV.of (cfM_ok KF) evF_ok (ix3_eq ns p)) (fun q hq y hy => by simp at hq) (by kernel_rfl)
noncomputable def ix9 : AExit × List AVal × List AObj := (evalC (cfM KF) (evalF (cfM KF) 60) ixLv 0 0 60 ix2 (nxE ns p) []).getD (.normal, [], [])
theorem ix9_eq : evalC (cfM KF) (evalF (cfM KF) 60) ixLv 0 0 60 ix2 (nxE ns p) [] = some (.ret, (ix9 ns p).2.1, (ix9 ns p).2.2) := by kernel_rfl
theorem ixN_calls (hl : ns.length ≤ 1000) : CallsP Tryz.prog 165 [nsP ns, frP p] (iP (ixN ns p)) := by
  unfold ixN
  cases h : firstAt (atP ns p) ns.length 0 with
  | some j =>
    refine callsP_of_A (r0 := iA j) (S := []) (callsA_of_EV (cfM_ok KF) ixA_tab (x := .ret) (.inr rfl) (T' := jk 4 ++ [iA j] ++ jk 14) (by kernel_rfl) ?_) (by kernel_rfl)
    rw [ixA_body]
    refine EV.head (cfM_ok KF) evF_ok 1 (ix0_eq ns p) ?_
    rw [ix_tail]
    exact EV.seqX (EV.seq (ix3_ev ns p) (EV.blockR (EV.found (T := fun k => nxT ns p k) (S := fun _ => []) h (fun k hk hc => nx_step ns p hl hk hc) (fun hk hc => nx_hit ns p hl hk hc) (by simp)))) (by simp)
  | none =>
    refine callsP_of_A (r0 := iA (-1)) (S := (ix9 ns p).2.2) (callsA_of_EV (cfM_ok KF) ixA_tab (x := .ret) (.inr rfl) (T' := (ix9 ns p).2.1) (by kernel_rfl) ?_) (by kernel_rfl)
    rw [ixA_body]
    refine EV.head (cfM_ok KF) evF_ok 1 (ix0_eq ns p) ?_
    rw [ix_tail]
    exact EV.seq (EV.seq (ix3_ev ns p) (EV.block (EV.missed (T := fun k => nxT ns p k) (S := fun _ => []) h (fun k hk hc => nx_step ns p hl hk hc) (nx_end ns p hl) (by simp)))) (EV.of (cfM_ok KF) evF_ok (ix9_eq ns p))
end
/-- What is given a slice of nodes, and whether it is a point's. -/
def withFr (args : List PVal) (F : List Nd → P2 → PVal) : Option PVal :=
  match args with
  | [.list n xs, .fn f [.ptr [.v (.int .i64 x), .v (.int .i64 y)]]] => match unN xs with
    | some ns => if f = 114 ∧ n = ns.length ∧ ns.length ≤ 1000 then some (F ns (x, y)) else none
    | none => none
  | _ => none
theorem withFr_ok (F : List Nd → P2 → PVal) (ns : List Nd) (p : P2) (h : ns.length ≤ 1000) : withFr [nsP ns, frP p] F = some (F ns p) := by
  unfold withFr nsP frP
  simp only [unN_flat]
  rw [if_pos ⟨trivial, trivial, h⟩]
theorem withFr_spec {P : Program} {f : FuncId} {F : List Nd → P2 → PVal} (h : ∀ ns p, ns.length ≤ 1000 → CallsP P f [nsP ns, frP p] (F ns p)) : ∀ args v, withFr args F = some v → CallsP P f args v := by
  intro args v hv
  unfold withFr at hv
  split at hv
  · rename_i n xs F x y
    split at hv
    · rename_i ns hn
      split at hv
      · rename_i hl
        obtain ⟨rfl, rfl, hl⟩ := hl
        have := unN_some hn
        subst this
        simp only [Option.some.injEq] at hv
        subst hv
        exact h ns (x, y) hl
      · cases hv
    · cases hv
  · cases hv
end Go.Proofs.YtkkgimhbliocoaaGreat
/- face.Free of a plan without edges. -/
namespace Go.Proofs.YtkkgimhbliocoaaGreat
open Go Vm M
set_option linter.unusedVariables false
set_option linter.unusedSimpArgs false
noncomputable def KF2 : Lib Tryz.prog := KF.add 165 (fun a => withFr a fun ns p => iP (ixN ns p)) (Vm.enters_of named_prog Tryz.func165 (by kernel_rfl)) (withFr_spec fun ns p h => ixN_calls ns p h)
theorem ixG (ns : List Nd) (p : P2) (h : ns.length ≤ 1000) {ev : Ev} : pureCall (cfM KF2) ev 165 [nsP ns, frP p] = some (iP (ixN ns p)) := pure_given (g := fun a => withFr a fun ns p => iP (ixN ns p)) (by kernel_rfl) (withFr_ok _ ns p h)
def nhC (ns : List Nd) (p : P2) (i : Int) : PVal :=
  bP (decide (i ≥ 0))
theorem nhC_calls (ns : List Nd) (p : P2) (i : Int) (e0 : pureCall (cfM KF2) (evalF (cfM KF2) 60) 165 [PVal.list (List.length ns) (flatN ns), PVal.fn 114 [PVal.ptr [iP (Prod.fst p), iP (Prod.snd p)]]] = some (iP i)) : CallsP Tryz.prog 113 [nsP ns, frP p] (nhC ns p i) := by
  have key := fun (bs : List Bool) (r : PVal) (ob : List Prop) (h : callP (cfM KF2) (evalF (cfM KF2) 60) 60 [(1, 2, Hint.pcall (iP i))] 113 [nsP ns, frP p] bs [] (none) = .ok (r, ob)) (hp : allOb ob) => callP_ok (cfM_ok KF2) h hp
  unfold nhC
  exact key [] (bP (decide (i ≥ 0))) _ (by kernel_rfl) (allOb_cons (by exact e0) allOb_nil)
theorem hasN_calls (ns : List Nd) (p : P2) (h : ns.length ≤ 1000) : CallsP Tryz.prog 113 [nsP ns, frP p] (bP (hasN ns p)) := by
  have := nhC_calls ns p (ixN ns p) (ixG ns p h)
  unfold nhC at this
  rw [hasN_ix] at this
  exact this
noncomputable def KF3 : Lib Tryz.prog := KF2.add 113 (fun a => withFr a fun ns p => bP (hasN ns p)) (Vm.enters_of named_prog Tryz.func113 (by kernel_rfl)) (withFr_spec fun ns p h => hasN_calls ns p h)
theorem hasG (ns : List Nd) (p : P2) (h : ns.length ≤ 1000) {ev : Ev} : pureCall (cfM KF3) ev 113 [nsP ns, frP p] = some (bP (hasN ns p)) := pure_given (g := fun a => withFr a fun ns p => bP (hasN ns p)) (by kernel_rfl) (withFr_ok _ ns p h)
theorem nearG3 (p : P2) {ev : Ev} : pureCall (cfM KF3) ev 112 [ptP p] = some (ptP (nearP p)) := pure_given (g := g1 fun p => ptP (nearP p)) (by kernel_rfl) rfl
def freC (ns : List Nd) (p : P2) (q : P2) (h : Bool) : PVal :=
  (bif !h then bP true else bP false)
theorem freC_calls (ns : List Nd) (p : P2) (q : P2) (h : Bool) (e0 : pureCall (cfM KF3) (evalF (cfM KF3) 60) 112 [ptP p] = some (ptP q)) (e1 : pureCall (cfM KF3) (evalF (cfM KF3) 60) 113 [PVal.list (List.length ns) (flatN ns), PVal.fn 114 [PVal.ptr [iP (Prod.fst q), iP (Prod.snd q)]]] = some (bP h)) : CallsP Tryz.prog 59 [plN (List.length ns) (flatN ns), ptP p] (freC ns p q h) := by
  have key := fun (bs : List Bool) (r : PVal) (ob : List Prop) (h : callP (cfM KF3) (evalF (cfM KF3) 60) 60 [(1, 1, Hint.pcall (ptP q)), (2, 3, Hint.pcall (bP h))] 59 [plN (List.length ns) (flatN ns), ptP p] bs [] (none) = .ok (r, ob)) (hp : allOb ob) => callP_ok (cfM_ok KF3) h hp
  unfold freC
  exact bif_case (P := fun r => CallsP Tryz.prog 59 [plN (List.length ns) (flatN ns), ptP p] r)
    (fun h0 => key [true] (bP true) _ (by kernel_rfl) (allOb_cons h0 (allOb_cons (by exact e1) (allOb_cons (by exact e0) allOb_nil))))
    (fun h0 => key [false] (bP false) _ (by kernel_rfl) (allOb_cons h0 (allOb_cons (by exact e1) (allOb_cons (by exact e0) allOb_nil))))
theorem free_calls (ns : List Nd) (p : P2) (h : ns.length ≤ 1000) : CallsP Tryz.prog 59 [plN ns.length (flatN ns), ptP p] (bP (!hasN ns (nearP p))) := by
  have := freC_calls ns p (nearP p) (hasN ns (nearP p)) (nearG3 p) (hasG ns (nearP p) h)
  unfold freC at this
  cases hh : hasN ns (nearP p) with
  | true => rw [hh] at this; exact this
  | false => rw [hh] at this; exact this
/-- What takes a plan without edges and a point. -/
def withNP (args : List PVal) (F : List Nd → P2 → PVal) : Option PVal := withNs args fun ns r => match r with
  | [.agg [.v (.int .i64 x), .v (.int .i64 y)]] => if ns.length ≤ 1000 then some (F ns (x, y)) else none
  | _ => none
theorem withNP_ok (F : List Nd → P2 → PVal) (ns : List Nd) (p : P2) (h : ns.length ≤ 1000) : withNP [plN ns.length (flatN ns), ptP p] F = some (F ns p) := by
  unfold withNP
  rw [withNs_ok]
  exact if_pos h
theorem withNP_spec {P : Program} {f : FuncId} {F : List Nd → P2 → PVal} (h : ∀ ns p, ns.length ≤ 1000 → CallsP P f [plN ns.length (flatN ns), ptP p] (F ns p)) : ∀ args v, withNP args F = some v → CallsP P f args v := withNs_spec fun ns r v hv => by
  split at hv
  · rename_i x y
    split at hv
    · rename_i hl
      simp only [Option.some.injEq] at hv
      subst hv
      exact h ns (x, y) hl
    · cases hv
  · cases hv
noncomputable def KF4 : Lib Tryz.prog := KF3.add 59 (fun a => withNP a fun ns p => bP (!hasN ns (nearP p))) (Vm.enters_of named_prog Tryz.func59 (by kernel_rfl)) (withNP_spec free_calls)
theorem freeG (ns : List Nd) (p : P2) (h : ns.length ≤ 1000) {c : Cfg} (hc : c.givenP 59 = KF4.given 59) {ev : Ev} : pureCall c ev 59 [plN ns.length (flatN ns), ptP p] = some (bP (!hasN ns (nearP p))) := pure_given (g := fun a => withNP a fun ns p => bP (!hasN ns (nearP p))) (hc.trans (by kernel_rfl)) (withNP_ok _ ns p h)
theorem mapG (ns : List Nd) (h : ns.length ≤ 1000) {ev : Ev} : pureCall (cfM KM) ev 57 [plN ns.length (flatN ns)] = some (mapN ns) := pure_given (g := gMapOf) (by kernel_rfl) (by unfold gMapOf; rw [withNs_ok]; exact if_pos h)
theorem faceAt_calls (ns : List Nd) (p : P2) (h : ns.length ≤ 1000) : CallsP Tryz.prog 69 [plN ns.length (flatN ns), ptP p] (iP 0) := faAt_calls ns _ p (mapG ns h)
noncomputable def KF5 : Lib Tryz.prog := KF4.add 69 (fun a => withNP a fun ns p => iP 0) (Vm.enters_of named_prog Tryz.func69 (by kernel_rfl)) (withNP_spec faceAt_calls)
theorem faceG (ns : List Nd) (p : P2) (h : ns.length ≤ 1000) {c : Cfg} (hc : c.givenP 69 = KF5.given 69) {ev : Ev} : pureCall c ev 69 [plN ns.length (flatN ns), ptP p] = some (iP 0) := pure_given (g := fun a => withNP a fun ns p => iP 0) (hc.trans (by kernel_rfl)) (withNP_ok _ ns p h)
end Go.Proofs.YtkkgimhbliocoaaGreat
/- topo.NodeIDs: its rounds. -/
namespace Go.Proofs.YtkkgimhbliocoaaGreat
open Go Vm M
set_option linter.unusedVariables false
set_option linter.unusedSimpArgs false
noncomputable def niLv : List Nat := (lives.lookup 88).getD []
noncomputable abbrev niK : Code := loopAt Tryz.f88 0
def niT0 (ns : List Nd) (i : Int) : List AVal := jk 3 ++ [nilA] ++ jk 3 ++ [nsA ns, iA ns.length, iA i] ++ jk 10
def niT (ns : List Nd) (k : Nat) (i : Int) : List AVal := jk 3 ++ [.row 2 0 1 0 k] ++ jk 3 ++ [nsA ns, iA ns.length, iA i] ++ jk 10
def niS (xs : List AVal) : List AObj := [.free, .free, .row 1 0 none xs]
def niF (ns : List Nd) (i : Int) (q : Nd) : AExit × List AVal × List AObj :=
  (bif decide (i < (↑(List.length ns) : Int)) then (AExit.normal, (([AVal.junk, AVal.junk, AVal.junk, AVal.row 2 0 1 0 1, AVal.junk, AVal.junk, AVal.junk, AVal.list (List.length ns) (flatN ns), iA (Int.ofNat (List.length ns)), iA (IntKind.i64.wrap (i + 1))] ++ jk 10), ([AObj.box [iA (Prod.fst q), iA (Prod.fst (Prod.fst (Prod.snd q))), iA (Prod.snd (Prod.fst (Prod.snd q))), iA (Prod.snd (Prod.snd q))], AObj.row 1 0 none [iA (Prod.fst q)], AObj.row 1 0 none [iA (Prod.fst q)]]))) else (AExit.exit 0, (([AVal.junk, AVal.junk, AVal.junk, AVal.v (Value.slice none 0 0), AVal.junk, AVal.junk, AVal.junk, AVal.list (List.length ns) (flatN ns), iA (Int.ofNat (List.length ns)), iA i, bA false] ++ jk 9), [])))
theorem niF_eq (ns : List Nd) (i : Int) (q : Nd) (b0 : (decide (i < (↑(List.length ns) : Int))) = true → (0 : Int) ≤ i ∧ (i : Int) < (↑(List.length ns) : Int)) (e0 : (decide (i < (↑(List.length ns) : Int))) = true → partA (Cfg.P (cfM KF5)) 30 (upL (List.drop (Int.toNat i * 4) (flatN ns))) 0 = some (ndA q)) : evalC (cfM KF5) (evalF (cfM KF5) 60) (niLv) 0 0 60 (loopAt Tryz.f88 0) (niT0 ns i) ([]) = some (niF ns i q) := by
  have key := fun (bs : List Bool) (r : AExit × List AVal × List AObj) (ob : List Prop) (h : pathP (cfM KF5) (evalF (cfM KF5) 60) (niLv) 0 0 60 [(4, 0, Hint.idx), (4, 1, Hint.load (ndA q))] (loopAt Tryz.f88 0) (niT0 ns i) ([]) bs [] = .ok (r.1, r.2.1, r.2.2, ob)) (hp : allOb ob) => pathP_ok h hp
  unfold niF
  exact bif_case (P := fun r => evalC (cfM KF5) (evalF (cfM KF5) 60) (niLv) 0 0 60 (loopAt Tryz.f88 0) (niT0 ns i) ([]) = some r)
    (fun h0 => key [true] ((AExit.normal, (([AVal.junk, AVal.junk, AVal.junk, AVal.row 2 0 1 0 1, AVal.junk, AVal.junk, AVal.junk, AVal.list (List.length ns) (flatN ns), iA (Int.ofNat (List.length ns)), iA (IntKind.i64.wrap (i + 1))] ++ jk 10), ([AObj.box [iA (Prod.fst q), iA (Prod.fst (Prod.fst (Prod.snd q))), iA (Prod.snd (Prod.fst (Prod.snd q))), iA (Prod.snd (Prod.snd q))], AObj.row 1 0 none [iA (Prod.fst q)], AObj.row 1 0 none [iA (Prod.fst q)]])))) _ (by kernel_rfl) (allOb_cons (by exact (e0 h0)) (allOb_cons (idx_okN (b0 h0)) (allOb_cons h0 allOb_nil))))
    (fun h0 => key [false] ((AExit.exit 0, (([AVal.junk, AVal.junk, AVal.junk, AVal.v (Value.slice none 0 0), AVal.junk, AVal.junk, AVal.junk, AVal.list (List.length ns) (flatN ns), iA (Int.ofNat (List.length ns)), iA i, bA false] ++ jk 9), []))) _ (by kernel_rfl) (allOb_cons h0 allOb_nil))
def niG (ns : List Nd) (i : Int) (q : Nd) (k : Nat) (xs : List AVal) : AExit × List AVal × List AObj :=
  (bif decide (i < (↑(List.length ns) : Int)) then (AExit.normal, (([AVal.junk, AVal.junk, AVal.junk, AVal.row 2 1 1 0 (k + 1), AVal.junk, AVal.junk, AVal.junk, AVal.list (List.length ns) (flatN ns), iA (Int.ofNat (List.length ns)), iA (IntKind.i64.wrap (i + 1))] ++ jk 10), ([AObj.box [iA (Prod.fst q), iA (Prod.fst (Prod.fst (Prod.snd q))), iA (Prod.snd (Prod.fst (Prod.snd q))), iA (Prod.snd (Prod.snd q))], AObj.row 1 0 none [iA (Prod.fst q)], AObj.row 1 1 none (xs ++ [iA (Prod.fst q)])]))) else (AExit.exit 0, (([AVal.junk, AVal.junk, AVal.junk, AVal.row 2 0 1 0 k, AVal.junk, AVal.junk, AVal.junk, AVal.list (List.length ns) (flatN ns), iA (Int.ofNat (List.length ns)), iA i, bA false] ++ jk 9), ([AObj.free, AObj.free, AObj.row 1 0 none xs]))))
theorem niG_eq (ns : List Nd) (i : Int) (q : Nd) (k : Nat) (xs : List AVal) (b0 : (decide (i < (↑(List.length ns) : Int))) = true → (0 : Int) ≤ i ∧ (i : Int) < (↑(List.length ns) : Int)) (e0 : (decide (i < (↑(List.length ns) : Int))) = true → partA (Cfg.P (cfM KF5)) 30 (upL (List.drop (Int.toNat i * 4) (flatN ns))) 0 = some (ndA q)) (e1 : (decide (i < (↑(List.length ns) : Int))) = true → (0 + k) * 1 = List.length xs ∧ (k + 1) * 8 ≤ 140737488355328 ∧ k + 1 ≤ 9223372036854775807) : evalC (cfM KF5) (evalF (cfM KF5) 60) (niLv) 0 0 60 (loopAt Tryz.f88 0) (niT ns k i) (niS xs) = some (niG ns i q k xs) := by
  have key := fun (bs : List Bool) (r : AExit × List AVal × List AObj) (ob : List Prop) (h : pathP (cfM KF5) (evalF (cfM KF5) 60) (niLv) 0 0 60 [(4, 0, Hint.idx), (4, 1, Hint.load (ndA q)), (5, 4, Hint.app)] (loopAt Tryz.f88 0) (niT ns k i) (niS xs) bs [] = .ok (r.1, r.2.1, r.2.2, ob)) (hp : allOb ob) => pathP_ok h hp
  unfold niG
  exact bif_case (P := fun r => evalC (cfM KF5) (evalF (cfM KF5) 60) (niLv) 0 0 60 (loopAt Tryz.f88 0) (niT ns k i) (niS xs) = some r)
    (fun h0 => key [true] ((AExit.normal, (([AVal.junk, AVal.junk, AVal.junk, AVal.row 2 1 1 0 (k + 1), AVal.junk, AVal.junk, AVal.junk, AVal.list (List.length ns) (flatN ns), iA (Int.ofNat (List.length ns)), iA (IntKind.i64.wrap (i + 1))] ++ jk 10), ([AObj.box [iA (Prod.fst q), iA (Prod.fst (Prod.fst (Prod.snd q))), iA (Prod.snd (Prod.fst (Prod.snd q))), iA (Prod.snd (Prod.snd q))], AObj.row 1 0 none [iA (Prod.fst q)], AObj.row 1 1 none (xs ++ [iA (Prod.fst q)])])))) _ (by kernel_rfl) (allOb_cons (by exact (e1 h0)) (allOb_cons (by exact (e0 h0)) (allOb_cons (idx_okN (b0 h0)) (allOb_cons h0 allOb_nil)))))
    (fun h0 => key [false] ((AExit.exit 0, (([AVal.junk, AVal.junk, AVal.junk, AVal.row 2 0 1 0 k, AVal.junk, AVal.junk, AVal.junk, AVal.list (List.length ns) (flatN ns), iA (Int.ofNat (List.length ns)), iA i, bA false] ++ jk 9), ([AObj.free, AObj.free, AObj.row 1 0 none xs])))) _ (by kernel_rfl) (allOb_cons h0 allOb_nil))
end Go.Proofs.YtkkgimhbliocoaaGreat
/- topo.NodeIDs: the numbers of a plan's nodes. -/
namespace Go.Proofs.YtkkgimhbliocoaaGreat
open Go Vm M
set_option linter.unusedVariables false
set_option linter.unusedSectionVars false
set_option linter.unusedSimpArgs false
noncomputable abbrev c5 : Cfg := cfM KF5
theorem c5_ok : CfgOk c5 := cfM_ok KF5
noncomputable abbrev ev5 : Ev := evalF c5 60
theorem ev5_ok : EvOk c5 ev5 := evalF_ok c5_ok 60
noncomputable def niB : Code := Tryz.f88.body.getD .skip
noncomputable def ni1 : Code := c1 (c1 (tailC 2 niB))
noncomputable def ni2 : Code := c2 (tailC 2 niB)
theorem ni_tail : tailC 2 niB = .seq (.seq ni1 (.block 0 (.loop niK))) ni2 := by kernel_rfl
noncomputable def niA : FnA := (c5.tab 88).getD ⟨0, #[], .skip, []⟩
theorem niA_tab : c5.tab 88 = some niA := by kernel_rfl
theorem niA_body : niA.body = niB := by kernel_rfl
section
variable (ns : List Nd)
theorem ni_first (h : 0 < ns.length) : EV c5 0 niK (niT0 ns (0 : Nat)) [] .normal (niT ns 1 (1 : Nat)) (niS (idsA ns 1)) := by
  have e := niF_eq ns (0 : Nat) (nAt ns 0) (fun _ => by omega) (fun _ => partN h)
  unfold niF at e
  rw [decide_eq_true (by omega : (((0 : Nat) : Int) < (ns.length : Int))), cond_true, wrS (by omega)] at e
  refine EV.tidy [2] (EV.of c5_ok ev5_ok e) (fun q hq y hy => ?_) ?_
  · simp only [List.mem_singleton] at hq
    subst hq
    have : y = .row 1 0 none [iA (nAt ns 0).1] := (Option.some.inj hy).symm
    subst this
    rfl
  · rw [← idsA_succ h]
    kernel_rfl
theorem ni_round (hl : ns.length ≤ 1000) {k : Nat} (h : k < ns.length) : EV c5 0 niK (niT ns k k) (niS (idsA ns k)) .normal (niT ns (k + 1) (k + 1 : Nat)) (niS (idsA ns (k + 1))) := by
  have e := niG_eq ns k (nAt ns k) k (idsA ns k) (fun _ => by omega) (fun _ => partN h) (fun _ => by rw [idsA_length (by omega)]; omega)
  unfold niG at e
  rw [decide_eq_true (by omega : ((k : Int) < (ns.length : Int))), cond_true, wrS (by omega)] at e
  refine EV.tidy [2] (EV.of c5_ok ev5_ok e) (fun q hq y hy => ?_) ?_
  · simp only [List.mem_singleton] at hq
    subst hq
    have : y = .row 1 1 none (idsA ns k ++ [iA (nAt ns k).1]) := (Option.some.inj hy).symm
    subst this
    simp only [plainO, List.all_append, idsA_plain, Bool.true_and]
    rfl
  · rw [← idsA_succ h]
    kernel_rfl
def niE (ns : List Nd) : List AVal := jk 3 ++ [.row 2 0 1 0 ns.length] ++ jk 3 ++ [nsA ns, iA ns.length, iA ns.length, bA false] ++ jk 9
theorem ni_end (h : 1 ≤ ns.length) : EV c5 0 niK (niT ns ns.length ns.length) (niS (idsA ns ns.length)) (.exit 0) (niE ns) (niS (idsA ns ns.length)) := by
  have e := niG_eq ns ns.length (nAt ns 0) ns.length (idsA ns ns.length) (fun h2 => by have := of_decide_eq_true h2; omega) (fun h2 => by have := of_decide_eq_true h2; omega) (fun h2 => by have := of_decide_eq_true h2; omega)
  unfold niG at e
  rw [decide_eq_false (by omega : ¬ ((ns.length : Int) < (ns.length : Int))), cond_false] at e
  exact EV.of c5_ok ev5_ok e
theorem ni_loop (h : 1 ≤ ns.length) (hl : ns.length ≤ 1000) : EV c5 0 (.loop niK) (niT0 ns (0 : Nat)) [] (.exit 0) (niE ns) (niS (idsA ns ns.length)) := by
  have hb : Nat.beq ns.length 0 = false := by
    cases hb : Nat.beq ns.length 0 with
    | true => have := Nat.eq_of_beq_eq_true hb; omega
    | false => rfl
  have := EV.loop (c := c5) (base := 0) (body := niK) (n := ns.length) (T := fun k => bif Nat.beq k 0 then niT0 ns (0 : Nat) else niT ns k k) (S := fun k => bif Nat.beq k 0 then [] else niS (idsA ns k)) (x := .exit 0) (T' := niE ns) (S' := niS (idsA ns ns.length)) (fun k hk => ?_) ?_ (by simp)
  · exact this
  · cases k with
    | zero => exact ni_first ns (by omega)
    | succ k => exact ni_round ns hl hk
  · simp only [hb, cond_false]
    exact ni_end ns h
noncomputable def ni0 : List AVal × List AObj := (evalL c5 ev5 niLv 0 0 60 (headL 2 niB) (upL [plN ns.length (flatN ns)] ++ List.replicate (niA.ntmps - (upL [plN ns.length (flatN ns)]).length) (.v undef)) []).getD ([], [])
theorem ni0_eq : evalL c5 ev5 niLv 0 0 60 (headL 2 niB) (upL [plN ns.length (flatN ns)] ++ List.replicate (niA.ntmps - (upL [plN ns.length (flatN ns)]).length) (.v undef)) [] = some ((ni0 ns).1, (ni0 ns).2) := by kernel_rfl
noncomputable def ni3 : AExit × List AVal × List AObj := (evalC c5 ev5 niLv 0 0 60 ni1 (ni0 ns).1 (ni0 ns).2).getD (.normal, [], [])
theorem ni3_eq : evalC c5 ev5 niLv 0 0 60 ni1 (ni0 ns).1 (ni0 ns).2 = some (.normal, (ni3 ns).2.1, (ni3 ns).2.2) := by kernel_rfl
theorem ni3_ev : EV c5 0 ni1 (ni0 ns).1 (ni0 ns).2 .normal (niT0 ns (0 : Nat)) [] := EV.tidy [] (EV.of c5_ok ev5_ok (ni3_eq ns)) (fun q hq y hy => by simp at hq) (by kernel_rfl)
noncomputable def ni9 (xs : List AVal) : AExit × List AVal × List AObj := (evalC c5 ev5 niLv 0 0 60 ni2 (niE ns) (niS xs)).getD (.normal, [], [])
theorem ni9_eq (xs : List AVal) : evalC c5 ev5 niLv 0 0 60 ni2 (niE ns) (niS xs) = some (.ret, (ni9 ns xs).2.1, niS xs) := by kernel_rfl
theorem ni_peek {k : Nat} {zs : List Int} (hk : zs.length = k) : peek (Vm.mark 0 deep (niS (intA zs)) (.row 2 0 1 0 k)) deep (.row 2 0 1 0 k) = some (slI zs) := by
  subst hk
  rw [show deep = 5 + 1 from rfl, mark_int (S := niS (intA zs)) (o := 2) (e := 0) (fz := none) (zs := zs) (n := 5) rfl]
  exact peek_int (n := 4) rfl
theorem nodeIDs_calls (h : 1 ≤ ns.length) (hl : ns.length ≤ 1000) : CallsP Tryz.prog 88 [plN ns.length (flatN ns)] (slI (idsI ns)) := by
  refine callsP_of_A (r0 := .row 2 0 1 0 ns.length) (S := niS (intA (idsI ns))) (callsA_of_EV c5_ok niA_tab (x := .ret) (.inr rfl) (T' := (ni9 ns (intA (idsI ns))).2.1) (by kernel_rfl) ?_) (ni_peek (by simp [idsI]))
  rw [niA_body]
  refine EV.head c5_ok ev5_ok 2 (ni0_eq ns) ?_
  rw [ni_tail]
  have hloop := ni_loop ns h hl
  rw [← idsI_eq] at hloop
  exact EV.seq (EV.seq (ni3_ev ns) (EV.block hloop)) (EV.of c5_ok ev5_ok (ni9_eq ns _))
end
noncomputable def gIDs (args : List PVal) : Option PVal := withNs args fun ns r => match r with
  | [] => if 1 ≤ ns.length ∧ ns.length ≤ 1000 then some (slI (idsI ns)) else none
  | _ => none
theorem gIDs_spec : ∀ args v, gIDs args = some v → CallsP Tryz.prog 88 args v := withNs_spec fun ns r v h => by
  split at h
  · split at h
    · rename_i hl
      simp only [Option.some.injEq] at h
      subst h
      exact nodeIDs_calls ns hl.1 hl.2
    · cases h
  · cases h
noncomputable def KF6 : Lib Tryz.prog := KF5.add 88 gIDs (Vm.enters_of named_prog Tryz.func88 (by kernel_rfl)) gIDs_spec
end Go.Proofs.YtkkgimhbliocoaaGreat
/- The search for a number among nodes: its rounds. -/
namespace Go.Proofs.YtkkgimhbliocoaaGreat
open Go Vm M
set_option linter.unusedVariables false
set_option linter.unusedSimpArgs false
def cmC (a : Int) (b : Int) : PVal :=
  (bif a != a then (bif b != b then iP (Int.ofNat 0) else iP (Int.negSucc 0)) else (bif b != b then iP (Int.ofNat 1) else (bif decide (a < b) then iP (Int.negSucc 0) else (bif decide (a > b) then iP (Int.ofNat 1) else iP (Int.ofNat 0)))))
theorem cmC_calls (a : Int) (b : Int) : CallsP Tryz.prog 94 [iP a, iP b] (cmC a b) := by
  have key := fun (bs : List Bool) (r : PVal) (ob : List Prop) (h : callP (cfM KF6) (evalF (cfM KF6) 60) 60 [] 94 [iP a, iP b] bs [] (none) = .ok (r, ob)) (hp : allOb ob) => callP_ok (cfM_ok KF6) h hp
  unfold cmC
  exact bif_case (P := fun r => CallsP Tryz.prog 94 [iP a, iP b] r)
    (fun h0 => bif_case (P := fun r => CallsP Tryz.prog 94 [iP a, iP b] r)
     (fun h1 => key [true, true] (iP (Int.ofNat 0)) _ (by kernel_rfl) (allOb_cons h1 (allOb_cons h0 allOb_nil)))
     (fun h1 => key [true, false] (iP (Int.negSucc 0)) _ (by kernel_rfl) (allOb_cons h1 (allOb_cons h0 allOb_nil))))
    (fun h0 => bif_case (P := fun r => CallsP Tryz.prog 94 [iP a, iP b] r)
     (fun h1 => key [false, true] (iP (Int.ofNat 1)) _ (by kernel_rfl) (allOb_cons h1 (allOb_cons h0 allOb_nil)))
     (fun h1 => bif_case (P := fun r => CallsP Tryz.prog 94 [iP a, iP b] r)
      (fun h2 => key [false, false, true] (iP (Int.negSucc 0)) _ (by kernel_rfl) (allOb_cons h2 (allOb_cons h1 (allOb_cons h0 allOb_nil))))
      (fun h2 => bif_case (P := fun r => CallsP Tryz.prog 94 [iP a, iP b] r)
       (fun h3 => key [false, false, false, true] (iP (Int.ofNat 1)) _ (by kernel_rfl) (allOb_cons h3 (allOb_cons h2 (allOb_cons h1 (allOb_cons h0 allOb_nil)))))
       (fun h3 => key [false, false, false, false] (iP (Int.ofNat 0)) _ (by kernel_rfl) (allOb_cons h3 (allOb_cons h2 (allOb_cons h1 (allOb_cons h0 allOb_nil))))))))
def cmpI (a b : Int) : Int := bif decide (a < b) then -1 else bif decide (a > b) then 1 else 0
theorem cmC_eq (a b : Int) : cmC a b = iP (cmpI a b) := by
  unfold cmC cmpI
  rw [bne_self_eq_false, bne_self_eq_false]
  cases decide (a < b) <;> cases decide (a > b) <;> rfl
def gCmp : List PVal → Option PVal
  | [.v (.int .i64 a), .v (.int .i64 b)] => some (iP (cmpI a b))
  | _ => none
theorem gCmp_spec : ∀ args v, gCmp args = some v → CallsP Tryz.prog 94 args v := by
  intro args v h
  unfold gCmp at h
  split at h
  · rename_i a b
    simp only [Option.some.injEq] at h
    subst h
    rw [← cmC_eq]
    exact cmC_calls a b
  · cases h
noncomputable def KB1 : Lib Tryz.prog := KF6.add 94 gCmp (Vm.enters_of named_prog Tryz.func94 (by kernel_rfl)) gCmp_spec
theorem cmpG (a b : Int) {ev : Ev} : pureCall (cfM KB1) ev 94 [iP a, iP b] = some (iP (cmpI a b)) := pure_given (g := gCmp) (by kernel_rfl) rfl
def wn1 (m : Nd) (t : Int) (c : Int) : PVal :=
  iP c
theorem wn1_calls (m : Nd) (t : Int) (c : Int) (e0 : pureCall (cfM KB1) (evalF (cfM KB1) 60) 94 [iP (Prod.fst m), iP t] = some (iP c)) : CallsP Tryz.prog 150 [ndP m, iP t] (wn1 m t c) := by
  have key := fun (bs : List Bool) (r : PVal) (ob : List Prop) (h : callP (cfM KB1) (evalF (cfM KB1) 60) 60 [(1, 3, Hint.pcall (iP c))] 150 [ndP m, iP t] bs [] (none) = .ok (r, ob)) (hp : allOb ob) => callP_ok (cfM_ok KB1) h hp
  unfold wn1
  exact key [] (iP c) _ (by kernel_rfl) (allOb_cons (by exact e0) allOb_nil)
def gWn1 : List PVal → Option PVal
  | [.agg [.v (.int .i64 a), .v (.int .i64 b), .v (.int .i64 c), .v (.int .i64 d)], .v (.int .i64 t)] => some (iP (cmpI a t))
  | _ => none
theorem gWn1_spec : ∀ args v, gWn1 args = some v → CallsP Tryz.prog 150 args v := by
  intro args v h
  unfold gWn1 at h
  split at h
  · rename_i a b c d t
    simp only [Option.some.injEq] at h
    subst h
    exact wn1_calls (a, (b, c), d) t _ (cmpG a t)
  · cases h
noncomputable def KB2 : Lib Tryz.prog := KB1.add 150 gWn1 (Vm.enters_of named_prog Tryz.func150 (by kernel_rfl)) gWn1_spec
theorem wnG (m : Nd) (t : Int) {ev : Ev} : pureCall (cfM KB2) ev 150 [ndP m, iP t] = some (iP (cmpI m.1 t)) := pure_given (g := gWn1) (by kernel_rfl) rfl
noncomputable def biLv : List Nat := (lives.lookup 149).getD []
def biT (ns : List Nd) (t lo hi : Int) : List AVal := [nsA ns, iA t, .fn 150 []] ++ jk 5 ++ [iA ns.length, iA lo, iA hi] ++ jk 38
def biK (ns : List Nd) (t : Int) (lo : Int) (hi : Int) (c : Int) (q : Nd) : AExit × List AVal × List AObj :=
  (bif decide (lo < hi) then (bif decide (c < 0) then (AExit.normal, (([AVal.list (List.length ns) (flatN ns), iA t, AVal.fn 150 []] ++ jk 5 ++ [iA (Int.ofNat (List.length ns)), iA (IntKind.i64.wrap (IntKind.i64.wrap (Int.fdiv (IntKind.wrap IntKind.u64 (IntKind.i64.wrap (lo + hi))) (2 ^ 1)) + 1)), iA hi] ++ jk 38), [])) else (AExit.normal, (([AVal.list (List.length ns) (flatN ns), iA t, AVal.fn 150 []] ++ jk 5 ++ [iA (Int.ofNat (List.length ns)), iA lo, iA (IntKind.i64.wrap (Int.fdiv (IntKind.wrap IntKind.u64 (IntKind.i64.wrap (lo + hi))) (2 ^ 1)))] ++ jk 38), []))) else (AExit.exit 0, (([AVal.list (List.length ns) (flatN ns), iA t, AVal.fn 150 []] ++ jk 5 ++ [iA (Int.ofNat (List.length ns)), iA lo, iA hi] ++ jk 6 ++ [bA false] ++ jk 31), [])))
theorem biK_eq (ns : List Nd) (t : Int) (lo : Int) (hi : Int) (c : Int) (q : Nd) (b0 : (decide (lo < hi)) = true → (0 : Int) ≤ IntKind.i64.wrap (Int.fdiv (IntKind.wrap IntKind.u64 (IntKind.i64.wrap (lo + hi))) (2 ^ 1)) ∧ (IntKind.i64.wrap (Int.fdiv (IntKind.wrap IntKind.u64 (IntKind.i64.wrap (lo + hi))) (2 ^ 1)) : Int) < (↑(List.length ns) : Int)) (e0 : (decide (lo < hi)) = true → partA (Cfg.P (cfM KB2)) 30 (upL (List.drop (Int.toNat (IntKind.i64.wrap (Int.fdiv (IntKind.wrap IntKind.u64 (IntKind.i64.wrap (lo + hi))) (2 ^ 1))) * 4) (flatN ns))) 0 = some (ndA q)) (e1 : (decide (lo < hi)) = true → pureCall (cfM KB2) (evalF (cfM KB2) 60) 150 [PVal.agg [iP (Prod.fst q), iP (Prod.fst (Prod.fst (Prod.snd q))), iP (Prod.snd (Prod.fst (Prod.snd q))), iP (Prod.snd (Prod.snd q))], iP t] = some (iP c)) : evalC (cfM KB2) (evalF (cfM KB2) 60) (biLv) 0 0 60 (loopAt Tryz.f149 0) (biT ns t lo hi) ([]) = some (biK ns t lo hi c q) := by
  have key := fun (bs : List Bool) (r : AExit × List AVal × List AObj) (ob : List Prop) (h : pathP (cfM KB2) (evalF (cfM KB2) 60) (biLv) 0 0 60 [(5, 3, Hint.idx), (5, 4, Hint.load (ndA q)), (5, 6, Hint.pcall (iP c))] (loopAt Tryz.f149 0) (biT ns t lo hi) ([]) bs [] = .ok (r.1, r.2.1, r.2.2, ob)) (hp : allOb ob) => pathP_ok h hp
  unfold biK
  exact bif_case (P := fun r => evalC (cfM KB2) (evalF (cfM KB2) 60) (biLv) 0 0 60 (loopAt Tryz.f149 0) (biT ns t lo hi) ([]) = some r)
    (fun h0 => bif_case (P := fun r => evalC (cfM KB2) (evalF (cfM KB2) 60) (biLv) 0 0 60 (loopAt Tryz.f149 0) (biT ns t lo hi) ([]) = some r)
     (fun h1 => key [true, true] ((AExit.normal, (([AVal.list (List.length ns) (flatN ns), iA t, AVal.fn 150 []] ++ jk 5 ++ [iA (Int.ofNat (List.length ns)), iA (IntKind.i64.wrap (IntKind.i64.wrap (Int.fdiv (IntKind.wrap IntKind.u64 (IntKind.i64.wrap (lo + hi))) (2 ^ 1)) + 1)), iA hi] ++ jk 38), []))) _ (by kernel_rfl) (allOb_cons h1 (allOb_cons (by exact (e1 h0)) (allOb_cons (by exact (e0 h0)) (allOb_cons (idx_okN (b0 h0)) (allOb_cons h0 allOb_nil))))))
     (fun h1 => key [true, false] ((AExit.normal, (([AVal.list (List.length ns) (flatN ns), iA t, AVal.fn 150 []] ++ jk 5 ++ [iA (Int.ofNat (List.length ns)), iA lo, iA (IntKind.i64.wrap (Int.fdiv (IntKind.wrap IntKind.u64 (IntKind.i64.wrap (lo + hi))) (2 ^ 1)))] ++ jk 38), []))) _ (by kernel_rfl) (allOb_cons h1 (allOb_cons (by exact (e1 h0)) (allOb_cons (by exact (e0 h0)) (allOb_cons (idx_okN (b0 h0)) (allOb_cons h0 allOb_nil)))))))
    (fun h0 => key [false] ((AExit.exit 0, (([AVal.list (List.length ns) (flatN ns), iA t, AVal.fn 150 []] ++ jk 5 ++ [iA (Int.ofNat (List.length ns)), iA lo, iA hi] ++ jk 6 ++ [bA false] ++ jk 31), []))) _ (by kernel_rfl) (allOb_cons h0 allOb_nil))
noncomputable def biB : Code := Tryz.f149.body.getD .skip

noncomputable def bi2 : Code := c2 (tailC 3 biB)
def biE (ns : List Nd) (t lo hi : Int) : List AVal := [nsA ns, iA t, .fn 150 []] ++ jk 5 ++ [iA ns.length, iA lo, iA hi] ++ jk 6 ++ [bA false] ++ jk 31
def biZ (ns : List Nd) (t : Int) (lo : Int) (hi : Int) (c : Int) (q : Nd) : AExit × List AVal × List AObj :=
  (bif decide (lo < (↑(List.length ns) : Int)) then (AExit.ret, ((jk 6 ++ [iA lo, bA (c == 0)] ++ jk 41), [])) else (AExit.ret, ((jk 6 ++ [iA lo, bA false] ++ jk 41), [])))
theorem biZ_eq (ns : List Nd) (t : Int) (lo : Int) (hi : Int) (c : Int) (q : Nd) (b0 : (decide (lo < (↑(List.length ns) : Int))) = true → (0 : Int) ≤ lo ∧ (lo : Int) < (↑(List.length ns) : Int)) (e0 : (decide (lo < (↑(List.length ns) : Int))) = true → partA (Cfg.P (cfM KB2)) 30 (upL (List.drop (Int.toNat lo * 4) (flatN ns))) 0 = some (ndA q)) (e1 : (decide (lo < (↑(List.length ns) : Int))) = true → pureCall (cfM KB2) (evalF (cfM KB2) 60) 150 [PVal.agg [iP (Prod.fst q), iP (Prod.fst (Prod.fst (Prod.snd q))), iP (Prod.snd (Prod.fst (Prod.snd q))), iP (Prod.snd (Prod.snd q))], iP t] = some (iP c)) : evalC (cfM KB2) (evalF (cfM KB2) 60) (biLv) 0 0 60 (bi2) (biE ns t lo hi) ([]) = some (biZ ns t lo hi c q) := by
  have key := fun (bs : List Bool) (r : AExit × List AVal × List AObj) (ob : List Prop) (h : pathP (cfM KB2) (evalF (cfM KB2) 60) (biLv) 0 0 60 [(8, 8, Hint.idx), (8, 9, Hint.load (ndA q)), (8, 11, Hint.pcall (iP c))] (bi2) (biE ns t lo hi) ([]) bs [] = .ok (r.1, r.2.1, r.2.2, ob)) (hp : allOb ob) => pathP_ok h hp
  unfold biZ
  exact bif_case (P := fun r => evalC (cfM KB2) (evalF (cfM KB2) 60) (biLv) 0 0 60 (bi2) (biE ns t lo hi) ([]) = some r)
    (fun h0 => key [true] ((AExit.ret, ((jk 6 ++ [iA lo, bA (c == 0)] ++ jk 41), []))) _ (by kernel_rfl) (allOb_cons (by exact (e1 h0)) (allOb_cons (by exact (e0 h0)) (allOb_cons (idx_okN (b0 h0)) (allOb_cons h0 allOb_nil)))))
    (fun h0 => key [false] ((AExit.ret, ((jk 6 ++ [iA lo, bA false] ++ jk 41), []))) _ (by kernel_rfl) (allOb_cons h0 allOb_nil))
end Go.Proofs.YtkkgimhbliocoaaGreat
/- The search for a number among nodes that rise. -/
namespace Go.Proofs.YtkkgimhbliocoaaGreat
open Go Vm M
set_option linter.unusedVariables false
set_option linter.unusedSectionVars false
set_option linter.unusedSimpArgs false
/-- One halving; m is the place that is looked for. -/
def stepB (m : Nat) (s : Nat × Nat) : Nat × Nat := if (s.1 + s.2) / 2 < m then ((s.1 + s.2) / 2 + 1, s.2) else (s.1, (s.1 + s.2) / 2)
def itB (m : Nat) : Nat → Nat × Nat → Nat × Nat
  | 0, s => s
  | k + 1, s => stepB m (itB m k s)
theorem itB_front (m : Nat) : ∀ (k : Nat) (s : Nat × Nat), itB m (k + 1) s = itB m k (stepB m s)
  | 0, s => rfl
  | k + 1, s => by
    show stepB m (itB m (k + 1) s) = stepB m (itB m k (stepB m s))
    rw [itB_front m k s]
theorem itB_ends (m : Nat) : ∀ (d lo hi : Nat), hi - lo ≤ d → lo ≤ m → m ≤ hi → ∃ n, (∀ k, k < n → (itB m k (lo, hi)).1 < (itB m k (lo, hi)).2 ∧ (itB m k (lo, hi)).2 ≤ hi ∧ (itB m k (lo, hi)).1 ≤ m ∧ m ≤ (itB m k (lo, hi)).2) ∧ itB m n (lo, hi) = (m, m) := by
  intro d
  induction d with
  | zero =>
    intro lo hi h1 h2 h3
    refine ⟨0, fun k hk => by omega, ?_⟩
    show (lo, hi) = (m, m)
    rw [show lo = m by omega, show hi = m by omega]
  | succ d ih =>
    intro lo hi h1 h2 h3
    by_cases hlt : lo < hi
    · have key : ∃ lo' hi', stepB m (lo, hi) = (lo', hi') ∧ hi' - lo' ≤ d ∧ lo' ≤ m ∧ m ≤ hi' ∧ hi' ≤ hi := by
        unfold stepB
        simp only
        by_cases hm : (lo + hi) / 2 < m
        · rw [if_pos hm]
          exact ⟨_, _, rfl, by omega, by omega, by omega, by omega⟩
        · rw [if_neg hm]
          exact ⟨_, _, rfl, by omega, by omega, by omega, by omega⟩
      obtain ⟨lo', hi', e, k1, k2, k3, k4⟩ := key
      obtain ⟨n, g1, g2⟩ := ih lo' hi' k1 k2 k3
      refine ⟨n + 1, fun k hk => ?_, by rw [itB_front, e]; exact g2⟩
      cases k with
      | zero => exact ⟨hlt, Nat.le_refl _, h2, h3⟩
      | succ k =>
        rw [itB_front, e]
        have := g1 k (by omega)
        exact ⟨this.1, by omega, this.2.2.1, this.2.2.2⟩
    · refine ⟨0, fun k hk => by omega, ?_⟩
      show (lo, hi) = (m, m)
      rw [show lo = m by omega, show hi = m by omega]
noncomputable abbrev cB : Cfg := cfM KB2
theorem cB_ok : CfgOk cB := cfM_ok KB2
noncomputable abbrev evB : Ev := evalF cB 60
theorem evB_ok : EvOk cB evB := evalF_ok cB_ok 60
noncomputable abbrev biR : Code := loopAt Tryz.f149 0
theorem bi_tail : tailC 3 biB = .seq (.block 0 (.loop biR)) bi2 := by kernel_rfl
noncomputable def biA : FnA := (cB.tab 149).getD ⟨0, #[], .skip, []⟩
theorem biA_tab : cB.tab 149 = some biA := by kernel_rfl
theorem biA_body : biA.body = biB := by kernel_rfl
theorem half {lo hi : Nat} (h : lo ≤ 1000 ∧ hi ≤ 1000) : IntKind.i64.wrap (Int.fdiv (IntKind.wrap IntKind.u64 (IntKind.i64.wrap ((lo : Int) + (hi : Int)))) (2 ^ 1)) = (((lo + hi) / 2 : Nat) : Int) := by
  rw [IntWalk.i64_in ((lo : Int) + (hi : Int)) (by omega), IntWalk.u64_in ((lo : Int) + (hi : Int)) (by omega), show ((2 : Int) ^ 1) = 2 from rfl, Int.fdiv_eq_ediv_of_nonneg _ (by omega), IntWalk.i64_in _ (by omega)]
  omega
def fnW : PVal := .fn 150 []
/-- Before place m all are less than t, from it on none. -/
def riseB (ns : List Nd) (t : Int) (m : Nat) : Prop := m ≤ ns.length ∧ (∀ k, k < m → (nAt ns k).1 < t) ∧ ∀ k, m ≤ k → k < ns.length → t ≤ (nAt ns k).1
section
variable (ns : List Nd) (t : Int) (m : Nat)
theorem bi_round (hl : ns.length ≤ 1000) (hr : riseB ns t m) {lo hi : Nat} (h : lo < hi) (h2 : hi ≤ ns.length) : EV cB 0 biR (biT ns t lo hi) [] .normal (biT ns t (stepB m (lo, hi)).1 (stepB m (lo, hi)).2) [] := by
  have hh := half (lo := lo) (hi := hi) (by omega)
  have hlt : (lo + hi) / 2 < ns.length := by omega
  have e := biK_eq ns t lo hi (cmpI (nAt ns ((lo + hi) / 2)).1 t) (nAt ns ((lo + hi) / 2)) (fun _ => by rw [hh]; omega) (fun _ => by rw [hh]; exact partN hlt) (fun _ => wnG _ _)
  unfold biK at e
  rw [hh, decide_eq_true (by omega : ((lo : Int) < (hi : Int))), cond_true, wrS (by omega)] at e
  unfold stepB
  simp only
  by_cases hm : (lo + hi) / 2 < m
  · have hc : decide (cmpI (nAt ns ((lo + hi) / 2)).1 t < 0) = true := by
      unfold cmpI
      rw [decide_eq_true (hr.2.1 _ hm)]
      rfl
    rw [hc, cond_true] at e
    rw [if_pos hm]
    exact EV.of cB_ok evB_ok e
  · have hc : decide (cmpI (nAt ns ((lo + hi) / 2)).1 t < 0) = false := by
      have := hr.2.2 _ (by omega : m ≤ (lo + hi) / 2) hlt
      unfold cmpI
      rw [decide_eq_false (by omega : ¬ (nAt ns ((lo + hi) / 2)).1 < t)]
      cases decide ((nAt ns ((lo + hi) / 2)).1 > t) <;> rfl
    rw [hc, cond_false] at e
    rw [if_neg hm]
    exact EV.of cB_ok evB_ok e
theorem bi_end : EV cB 0 biR (biT ns t m m) [] (.exit 0) (biE ns t m m) [] := by
  have e := biK_eq ns t m m 0 (nAt ns 0) (fun h => by have := of_decide_eq_true h; omega) (fun h => by have := of_decide_eq_true h; omega) (fun h => by have := of_decide_eq_true h; omega)
  unfold biK at e
  rw [decide_eq_false (by omega : ¬ ((m : Int) < (m : Int))), cond_false] at e
  exact EV.of cB_ok evB_ok e
theorem bi_loop (hl : ns.length ≤ 1000) (hr : riseB ns t m) : EV cB 0 (.loop biR) (biT ns t (0 : Nat) ns.length) [] (.exit 0) (biE ns t m m) [] := by
  obtain ⟨n, h1, h2⟩ := itB_ends m ns.length 0 ns.length (by omega) (by omega) hr.1
  refine EV.loop (n := n) (T := fun k => biT ns t (itB m k (0, ns.length)).1 (itB m k (0, ns.length)).2) (S := fun _ => []) (fun k hk => ?_) ?_ (by simp)
  · obtain ⟨g1, g2, g3, g4⟩ := h1 k hk
    exact bi_round ns t m hl hr g1 g2
  · rw [h2]
    exact bi_end ns t m
noncomputable def bi0 : List AVal × List AObj := (evalL cB evB biLv 0 0 60 (headL 3 biB) (upL [nsP ns, iP t, fnW] ++ List.replicate (biA.ntmps - (upL [nsP ns, iP t, fnW]).length) (.v undef)) []).getD ([], [])
theorem bi0_eq : evalL cB evB biLv 0 0 60 (headL 3 biB) (upL [nsP ns, iP t, fnW] ++ List.replicate (biA.ntmps - (upL [nsP ns, iP t, fnW]).length) (.v undef)) [] = some (biT ns t (0 : Nat) ns.length, []) := by kernel_rfl
def binV : PVal := .tup [iP m, bP (decide (m < ns.length) && ((nAt ns m).1 == t))]
theorem bin_calls (hl : ns.length ≤ 1000) (hr : riseB ns t m) : CallsP Tryz.prog 149 [nsP ns, iP t, fnW] (binV ns t m) := by
  have e := biZ_eq ns t m m (cmpI (nAt ns m).1 t) (nAt ns m) (fun h => by have := of_decide_eq_true h; omega) (fun h => partN (by have := of_decide_eq_true h; omega)) (fun _ => wnG _ _)
  unfold biZ at e
  unfold binV
  by_cases hm : m < ns.length
  · rw [decide_eq_true (by omega : ((m : Int) < (ns.length : Int))), cond_true] at e
    rw [decide_eq_true hm, Bool.true_and]
    have hc : (cmpI (nAt ns m).1 t == 0) = ((nAt ns m).1 == t) := by
      have := hr.2.2 m (Nat.le_refl _) hm
      unfold cmpI
      rw [decide_eq_false (by omega : ¬ (nAt ns m).1 < t)]
      by_cases he : (nAt ns m).1 > t
      · rw [decide_eq_true he, cond_false, cond_true]
        have : ((nAt ns m).1 == t) = false := by simp; omega
        rw [this]; rfl
      · rw [decide_eq_false he, cond_false, cond_false]
        have : ((nAt ns m).1 == t) = true := by simp; omega
        rw [this]; rfl
    rw [hc] at e
    refine callsP_of_A (r0 := .tup [iA m, bA ((nAt ns m).1 == t)]) (S := []) (callsA_of_EV cB_ok biA_tab (x := .ret) (.inr rfl) (T' := jk 6 ++ [iA m, bA ((nAt ns m).1 == t)] ++ jk 41) (by kernel_rfl) ?_) (by kernel_rfl)
    rw [biA_body]
    refine EV.head cB_ok evB_ok 3 (bi0_eq ns t) ?_
    rw [bi_tail]
    exact EV.seq (EV.block (bi_loop ns t m hl hr)) (EV.of cB_ok evB_ok e)
  · rw [decide_eq_false (by omega : ¬ ((m : Int) < (ns.length : Int))), cond_false] at e
    rw [decide_eq_false hm, Bool.false_and]
    refine callsP_of_A (r0 := .tup [iA m, bA false]) (S := []) (callsA_of_EV cB_ok biA_tab (x := .ret) (.inr rfl) (T' := jk 6 ++ [iA m, bA false] ++ jk 41) (by kernel_rfl) ?_) (by kernel_rfl)
    rw [biA_body]
    refine EV.head cB_ok evB_ok 3 (bi0_eq ns t) ?_
    rw [bi_tail]
    exact EV.seq (EV.block (bi_loop ns t m hl hr)) (EV.of cB_ok evB_ok e)
end
end Go.Proofs.YtkkgimhbliocoaaGreat
