/- Texts put together: ClipA, Nds, MapN1, MapN2, Of20, Aw20K, Aw20. What is proved stands at the head of each part. -/
import Derived.Test.YtkkgimhbliocoaaGreatBnLawFindEmpty12
import Derived.Lib.SliceRun
/- slices.Clip of numbers, of a slice as it stands: the same slice. -/
namespace Go.Proofs.YtkkgimhbliocoaaGreat
open Go Go.RowKit
set_option linter.unusedVariables false
set_option linter.unusedSimpArgs false
set_option maxRecDepth 100000 in
set_option maxHeartbeats 2000000 in
theorem clip_at (A : Option Addr) (n c : Nat) (hc : n ≤ c) (w : World) : Calls Tryz.prog 83 #[.slice A n c] w fun e w' => e = .returned (.slice A n n) ∧ w' = w := by
  go_enter Tryz.func83, Tryz.ntmps83
  go_wp2
  all_goals (go_ret; exact ⟨rfl, rfl⟩)
set_option maxRecDepth 100000 in
set_option maxHeartbeats 2000000 in
theorem clipLL_at (A : Option Addr) (n c : Nat) (hc : n ≤ c) (w : World) : Calls Tryz.prog 85 #[.slice A n c] w fun e w' => e = .returned (.slice A n n) ∧ w' = w := by
  go_enter Tryz.func85, Tryz.ntmps85
  go_wp2
  all_goals (go_ret; exact ⟨rfl, rfl⟩)
set_option maxRecDepth 100000 in
set_option maxHeartbeats 2000000 in
theorem clipR_at (A : Option Addr) (n c : Nat) (hc : n ≤ c) (w : World) : Calls Tryz.prog 109 #[.slice A n c] w fun e w' => e = .returned (.slice A n n) ∧ w' = w := by
  go_enter Tryz.func109, Tryz.ntmps109
  go_wp2
  all_goals (go_ret; exact ⟨rfl, rfl⟩)
set_option maxRecDepth 100000 in
set_option maxHeartbeats 2000000 in
theorem clipP_at (A : Option Addr) (n c : Nat) (hc : n ≤ c) (w : World) : Calls Tryz.prog 129 #[.slice A n c] w fun e w' => e = .returned (.slice A n n) ∧ w' = w := by
  go_enter Tryz.func129, Tryz.ntmps129
  go_wp2
  all_goals (go_ret; exact ⟨rfl, rfl⟩)
set_option maxRecDepth 100000 in
set_option maxHeartbeats 2000000 in
theorem clipN_at (A : Option Addr) (n c : Nat) (hc : n ≤ c) (w : World) : Calls Tryz.prog 137 #[.slice A n c] w fun e w' => e = .returned (.slice A n n) ∧ w' = w := by
  go_enter Tryz.func137, Tryz.ntmps137
  go_wp2
  all_goals (go_ret; exact ⟨rfl, rfl⟩)
set_option maxRecDepth 100000 in
set_option maxHeartbeats 2000000 in
theorem clipE_at (A : Option Addr) (n c : Nat) (hc : n ≤ c) (w : World) : Calls Tryz.prog 134 #[.slice A n c] w fun e w' => e = .returned (.slice A n n) ∧ w' = w := by
  go_enter Tryz.func134, Tryz.ntmps134
  go_wp2
  all_goals (go_ret; exact ⟨rfl, rfl⟩)
open Vm
theorem views_one {C : Ctx} {x : AVal} {vs : Array Value} (hs : vs.size = 1) (hr : Rvs C [x] (fun i y => vs[i]? = some y) 0) : ∃ v, vs = #[v] ∧ Rv C x v := by
  simp only [Rvs] at hr
  obtain ⟨⟨v, hv, h1⟩, _⟩ := hr
  refine ⟨v, ?_, h1⟩
  apply Array.ext
  · simpa using hs
  · intro i h2 h3
    have : i = 0 := by simp at h3; omega
    subst this
    rw [Array.getElem?_eq_getElem h2] at hv
    simpa using hv
def isSl : AVal → Bool
  | .row _ _ _ _ _ | .list _ _ | .clip | .v (.slice none 0 0) => true
  | _ => false
/-- A slice without what lies behind it. -/
theorem clipped {C : Ctx} {x : AVal} {v : Value} (hx : isSl x = true) (h : Rv C x v) : ∃ A n c, v = .slice A n c ∧ n ≤ c ∧ Rv C x (.slice A n n) := by
  unfold isSl at hx
  split at hx
  · simp only [Rv] at h ⊢
    obtain ⟨a, c, rfl, hc, ob, e, g1, g2, g3, g4⟩ := h
    refine ⟨_, _, c, rfl, hc, a, _, rfl, Nat.le_refl _, ob, e, g1, g2, g3, fun he => ?_⟩
    rcases g4 he with ⟨h1, h2⟩ | ⟨h1, h2⟩
    · exact .inl ⟨h1, by omega⟩
    · exact .inr ⟨h1, h1⟩
  · simp only [Rv] at h ⊢
    obtain ⟨A, c, rfl, hc, hr⟩ := h
    exact ⟨A, _, c, rfl, hc, A, _, rfl, Nat.le_refl _, hr⟩
  · simp only [Rv] at h ⊢
    obtain ⟨A, rfl⟩ := h
    exact ⟨A, 0, 0, rfl, Nat.le_refl _, A, rfl⟩
  · simp only [Rv] at h ⊢
    exact ⟨none, 0, 0, h, Nat.le_refl _, rfl⟩
  · cases hx
def gClip : List AVal → Option AVal
  | [x] => bif isSl x then some x else none
  | _ => none
theorem gClip_spec {P : Program} {f : FuncId} (hK : ∀ (A : Option Addr) (n c : Nat), n ≤ c → ∀ w, Calls P f #[.slice A n c] w fun e w' => e = .returned (.slice A n n) ∧ w' = w) : ∀ args r, gClip args = some r → ∀ S, CallsA P f args S r S := by
  intro args r h S
  unfold gClip at h
  split at h
  · rename_i x
    cases hx : isSl x with
    | true =>
      rw [hx] at h
      simp only [cond_true, Option.some.injEq] at h
      subst h
      intro C vs hCS hS hs hr
      obtain ⟨v, rfl, hv⟩ := views_one hs hr
      obtain ⟨A, n, c, rfl, hc, hr'⟩ := clipped hx hv
      refine (hK A n c hc C.w).mono ?_
      rintro e w' ⟨rfl, rfl⟩
      exact ⟨_, C, rfl, rfl, hCS, hS, Ext.refl C, hr'⟩
    | false => rw [hx] at h; cases h
  · cases h
def clipF (f : FuncId) : Bool := Nat.beq f 83 || Nat.beq f 85 || Nat.beq f 109 || Nat.beq f 129 || Nat.beq f 137 || Nat.beq f 134
theorem clipF_spec {f : FuncId} (h : clipF f = true) : Vm.Enters Tryz.prog f ∧ ∀ args r, gClip args = some r → ∀ S, CallsA Tryz.prog f args S r S := by
  simp only [clipF, Bool.or_eq_true] at h
  rcases h with ((((h | h) | h) | h) | h) | h
  · rw [Nat.eq_of_beq_eq_true h]
    exact ⟨Vm.enters_of named_prog Tryz.func83 (by kernel_rfl), gClip_spec clip_at⟩
  · rw [Nat.eq_of_beq_eq_true h]
    exact ⟨Vm.enters_of named_prog Tryz.func85 (by kernel_rfl), gClip_spec clipLL_at⟩
  · rw [Nat.eq_of_beq_eq_true h]
    exact ⟨Vm.enters_of named_prog Tryz.func109 (by kernel_rfl), gClip_spec clipR_at⟩
  · rw [Nat.eq_of_beq_eq_true h]
    exact ⟨Vm.enters_of named_prog Tryz.func129 (by kernel_rfl), gClip_spec clipP_at⟩
  · rw [Nat.eq_of_beq_eq_true h]
    exact ⟨Vm.enters_of named_prog Tryz.func137 (by kernel_rfl), gClip_spec clipN_at⟩
  · rw [Nat.eq_of_beq_eq_true h]
    exact ⟨Vm.enters_of named_prog Tryz.func134 (by kernel_rfl), gClip_spec clipE_at⟩
end Go.Proofs.YtkkgimhbliocoaaGreat
/- Slices of nodes, as values. -/
namespace Go.Proofs.YtkkgimhbliocoaaGreat
open Go Vm M
set_option linter.unusedVariables false
set_option linter.unusedSimpArgs false
/-- A node: its number, its point, its face. -/
abbrev Nd := Int × P2 × Int
def ndC (n : Nd) : List PVal := [.v (.int .i64 n.1), .v (.int .i64 n.2.1.1), .v (.int .i64 n.2.1.2), .v (.int .i64 n.2.2)]
def ndP (n : Nd) : PVal := .agg (ndC n)
def ndA (n : Nd) : AVal := .agg [.v (.int .i64 n.1), .v (.int .i64 n.2.1.1), .v (.int .i64 n.2.1.2), .v (.int .i64 n.2.2)]
def flatN : List Nd → List PVal
  | [] => []
  | n :: ns => .v (.int .i64 n.1) :: .v (.int .i64 n.2.1.1) :: .v (.int .i64 n.2.1.2) :: .v (.int .i64 n.2.2) :: flatN ns
def nsP (ns : List Nd) : PVal := .list ns.length (flatN ns)
def nsA (ns : List Nd) : AVal := .list ns.length (flatN ns)
def nAt (ns : List Nd) (k : Nat) : Nd := ns.getD k (0, (0, 0), 0)
theorem flatN_length : ∀ ns : List Nd, (flatN ns).length = ns.length * 4
  | [] => rfl
  | n :: ns => by simp [flatN, flatN_length ns]; omega
theorem flatN_append : ∀ (ns ms : List Nd), flatN (ns ++ ms) = flatN ns ++ flatN ms
  | [], ms => rfl
  | n :: ns, ms => by simp [flatN, flatN_append ns ms]
theorem flatN_drop : ∀ (ns : List Nd) (k : Nat), (flatN ns).drop (k * 4) = flatN (ns.drop k)
  | ns, 0 => by simp
  | [], k + 1 => by simp [flatN]
  | n :: ns, k + 1 => by
    rw [show (k + 1) * 4 = k * 4 + 1 + 1 + 1 + 1 by omega]
    simp only [flatN, List.drop_succ_cons]
    exact flatN_drop ns k
theorem flatN_take : ∀ (ns : List Nd) (k : Nat), (flatN ns).take (k * 4) = flatN (ns.take k)
  | ns, 0 => by simp [flatN]
  | [], k + 1 => by simp [flatN]
  | n :: ns, k + 1 => by
    rw [show (k + 1) * 4 = k * 4 + 1 + 1 + 1 + 1 by omega]
    simp only [flatN, List.take_succ_cons]
    rw [flatN_take ns k]
theorem flatN_one : ∀ ns : List Nd, (upL (flatN ns)).all AVal.one = true
  | [] => rfl
  | n :: ns => by simp [flatN, upL, up, AVal.one, Value.oneCell', flatN_one ns]
theorem flatN_plain : ∀ ns : List Nd, (upL (flatN ns)).all plainV = true
  | [] => rfl
  | n :: ns => by simp [flatN, upL, up, plainV, flatN_plain ns]
theorem nAt_get {ns : List Nd} {k : Nat} {n : Nd} (h : ns[k]? = some n) : nAt ns k = n := by simp [nAt, List.getD, h]
theorem drop_nAt {ns : List Nd} {k : Nat} (h : k < ns.length) : (flatN ns).drop (k * 4) = .v (.int .i64 (nAt ns k).1) :: .v (.int .i64 (nAt ns k).2.1.1) :: .v (.int .i64 (nAt ns k).2.1.2) :: .v (.int .i64 (nAt ns k).2.2) :: flatN (ns.drop (k + 1)) := by
  rw [flatN_drop, List.drop_eq_getElem_cons h, nAt_get (List.getElem?_eq_getElem h)]
  rfl
theorem idx_okN {ns : List Nd} {i : Int} (h : 0 ≤ i ∧ i < (ns.length : Int)) : 0 ≤ i ∧ i < (ns.length : Int) ∧ 0 < 4 ∧ (flatN ns).length = ns.length * 4 := ⟨h.1, h.2, by omega, flatN_length ns⟩
theorem aggN : aggT Tryz.prog 30 = some true := by kernel_rfl
theorem szN : szOf Tryz.prog 30 = some 4 := by kernel_rfl
theorem partN {ns : List Nd} {k : Nat} (h : k < ns.length) : partA Tryz.prog 30 (upL ((flatN ns).drop (k * 4))) 0 = some (ndA (nAt ns k)) := by
  rw [drop_nAt h]
  unfold partA
  rw [aggN, szN]
  simp [upL, up, ndA]
theorem partI1 {ns : List Nd} {k : Nat} (h : k < ns.length) : (upL ((flatN ns).drop (k * 4)))[0]? = some (iA (nAt ns k).1) := by
  rw [drop_nAt h]; rfl
end Go.Proofs.YtkkgimhbliocoaaGreat
/- face.MapOf of a plan without edges: its rounds over the nodes. -/
namespace Go.Proofs.YtkkgimhbliocoaaGreat
open Go Vm M
set_option linter.unusedVariables false
set_option linter.unusedSimpArgs false
def md2 (f : FuncId) : Nat := bif Nat.beq f 107 then 5 else md1 f
noncomputable def KN : Lib Tryz.prog := R2.add 47 gOfN (Vm.enters_of named_prog Tryz.func47 (by kernel_rfl)) gOfN_spec
noncomputable def cN : Cfg := cfgOf lives md2 KN
theorem cN_ok : CfgOk cN := cfgOf_ok lives md2 KN
noncomputable def evN : Ev := evalF cN 60
theorem evN_ok : EvOk cN evN := evalF_ok cN_ok 60
noncomputable def mpLv : List Nat := (lives.lookup 57).getD []

def mnT (ns : List Nd) (i : Int) : List AVal := jk 4 ++ [.ptr 3 0 0] ++ jk 143 ++ [nsA ns, iA ns.length, iA i] ++ jk 84
def mnS0 (ns : List Nd) : List AObj := [.free, .row 3 0 none [nilA, nilA, nilA], .mapo false [] [], .box [.row 1 0 3 0 1, .mp 2, nilA, .fmap [] []]]
def mnS (ns : List Nd) (k : Nat) (xs : List AVal) : List AObj := [.free, .row 3 0 none [nilA, nilA, .row 32 0 1 0 k], .mapo false [] [], .box [.row 1 0 3 0 1, .mp 2, nilA, .fmap [] []]] ++ List.replicate 28 .free ++ [.row 1 0 none xs]
def mnF (ns : List Nd) (i : Int) (q : Nd) : AExit × List AVal × List AObj :=
  (bif decide (i < (↑(List.length ns) : Int)) then (AExit.normal, ((jk 4 ++ [AVal.ptr 3 0 0] ++ jk 143 ++ [AVal.list (List.length ns) (flatN ns), iA (Int.ofNat (List.length ns)), iA (IntKind.i64.wrap (i + 1))] ++ jk 84), ([AObj.box [iA (Prod.fst q), iA (Prod.fst (Prod.fst (Prod.snd q))), iA (Prod.snd (Prod.fst (Prod.snd q))), iA (Prod.snd (Prod.snd q))], AObj.row 3 0 none [AVal.v (Value.slice none 0 0), AVal.v (Value.slice none 0 0), AVal.row 32 0 1 0 1], AObj.mapo false [] [], AObj.box [AVal.row 1 0 3 0 1, AVal.mp 2, AVal.v (Value.slice none 0 0), AVal.fmap [] []]] ++ List.replicate 27 AObj.free ++ [AObj.row 1 0 none [iA (Prod.fst q)], AObj.row 1 0 none [iA (Prod.fst q)], AObj.free, AObj.free, AObj.free]))) else (AExit.exit 4, ((jk 4 ++ [AVal.ptr 3 0 0] ++ jk 143 ++ [AVal.list (List.length ns) (flatN ns), iA (Int.ofNat (List.length ns)), iA i, bA false] ++ jk 83), ([AObj.free, AObj.row 3 0 none [AVal.v (Value.slice none 0 0), AVal.v (Value.slice none 0 0), AVal.v (Value.slice none 0 0)], AObj.mapo false [] [], AObj.box [AVal.row 1 0 3 0 1, AVal.mp 2, AVal.v (Value.slice none 0 0), AVal.fmap [] []]]))))
theorem mnF_eq (ns : List Nd) (i : Int) (q : Nd) (b0 : (decide (i < (↑(List.length ns) : Int))) = true → (0 : Int) ≤ i ∧ (i : Int) < (↑(List.length ns) : Int)) (e0 : (decide (i < (↑(List.length ns) : Int))) = true → partA (Cfg.P cN) 30 (upL (List.drop (Int.toNat i * 4) (flatN ns))) 0 = some (ndA q)) : evalC (cN) (evN) (mpLv) 0 0 60 (loopAt Tryz.f57 2) (mnT ns i) (mnS0 ns) = some (mnF ns i q) := by
  have key := fun (bs : List Bool) (r : AExit × List AVal × List AObj) (ob : List Prop) (h : pathP (cN) (evN) (mpLv) 0 0 60 [(28, 0, Hint.idx), (28, 1, Hint.load (ndA q))] (loopAt Tryz.f57 2) (mnT ns i) (mnS0 ns) bs [] = .ok (r.1, r.2.1, r.2.2, ob)) (hp : allOb ob) => pathP_ok h hp
  unfold mnF
  exact bif_case (P := fun r => evalC (cN) (evN) (mpLv) 0 0 60 (loopAt Tryz.f57 2) (mnT ns i) (mnS0 ns) = some r)
    (fun h0 => key [true, true] ((AExit.normal, ((jk 4 ++ [AVal.ptr 3 0 0] ++ jk 143 ++ [AVal.list (List.length ns) (flatN ns), iA (Int.ofNat (List.length ns)), iA (IntKind.i64.wrap (i + 1))] ++ jk 84), ([AObj.box [iA (Prod.fst q), iA (Prod.fst (Prod.fst (Prod.snd q))), iA (Prod.snd (Prod.fst (Prod.snd q))), iA (Prod.snd (Prod.snd q))], AObj.row 3 0 none [AVal.v (Value.slice none 0 0), AVal.v (Value.slice none 0 0), AVal.row 32 0 1 0 1], AObj.mapo false [] [], AObj.box [AVal.row 1 0 3 0 1, AVal.mp 2, AVal.v (Value.slice none 0 0), AVal.fmap [] []]] ++ List.replicate 27 AObj.free ++ [AObj.row 1 0 none [iA (Prod.fst q)], AObj.row 1 0 none [iA (Prod.fst q)], AObj.free, AObj.free, AObj.free])))) _ (by kernel_rfl) (allOb_cons lit_t (allOb_cons (by exact (e0 h0)) (allOb_cons (idx_okN (b0 h0)) (allOb_cons h0 allOb_nil)))))
    (fun h0 => key [false] ((AExit.exit 4, ((jk 4 ++ [AVal.ptr 3 0 0] ++ jk 143 ++ [AVal.list (List.length ns) (flatN ns), iA (Int.ofNat (List.length ns)), iA i, bA false] ++ jk 83), ([AObj.free, AObj.row 3 0 none [AVal.v (Value.slice none 0 0), AVal.v (Value.slice none 0 0), AVal.v (Value.slice none 0 0)], AObj.mapo false [] [], AObj.box [AVal.row 1 0 3 0 1, AVal.mp 2, AVal.v (Value.slice none 0 0), AVal.fmap [] []]])))) _ (by kernel_rfl) (allOb_cons h0 allOb_nil))
def mnG (ns : List Nd) (i : Int) (q : Nd) (k : Nat) (xs : List AVal) : AExit × List AVal × List AObj :=
  (bif decide (i < (↑(List.length ns) : Int)) then (AExit.normal, ((jk 4 ++ [AVal.ptr 3 0 0] ++ jk 143 ++ [AVal.list (List.length ns) (flatN ns), iA (Int.ofNat (List.length ns)), iA (IntKind.i64.wrap (i + 1))] ++ jk 84), ([AObj.box [iA (Prod.fst q), iA (Prod.fst (Prod.fst (Prod.snd q))), iA (Prod.snd (Prod.fst (Prod.snd q))), iA (Prod.snd (Prod.snd q))], AObj.row 3 0 none [AVal.v (Value.slice none 0 0), AVal.v (Value.slice none 0 0), AVal.row 32 1 1 0 (k + 1)], AObj.mapo false [] [], AObj.box [AVal.row 1 0 3 0 1, AVal.mp 2, AVal.v (Value.slice none 0 0), AVal.fmap [] []]] ++ List.replicate 28 AObj.free ++ [AObj.row 1 1 none (xs ++ [iA (Prod.fst q)])] ++ List.replicate 27 AObj.free ++ [AObj.row 1 0 none [iA (Prod.fst q)]] ++ List.replicate 4 AObj.free))) else (AExit.exit 4, ((jk 4 ++ [AVal.ptr 3 0 0] ++ jk 143 ++ [AVal.list (List.length ns) (flatN ns), iA (Int.ofNat (List.length ns)), iA i, bA false] ++ jk 83), ([AObj.free, AObj.row 3 0 none [AVal.v (Value.slice none 0 0), AVal.v (Value.slice none 0 0), AVal.row 32 0 1 0 k], AObj.mapo false [] [], AObj.box [AVal.row 1 0 3 0 1, AVal.mp 2, AVal.v (Value.slice none 0 0), AVal.fmap [] []]] ++ List.replicate 28 AObj.free ++ [AObj.row 1 0 none xs]))))
theorem mnG_eq (ns : List Nd) (i : Int) (q : Nd) (k : Nat) (xs : List AVal) (b0 : (decide (i < (↑(List.length ns) : Int))) = true → (0 : Int) ≤ i ∧ (i : Int) < (↑(List.length ns) : Int)) (e0 : (decide (i < (↑(List.length ns) : Int))) = true → partA (Cfg.P cN) 30 (upL (List.drop (Int.toNat i * 4) (flatN ns))) 0 = some (ndA q)) (e1 : (decide (i < (↑(List.length ns) : Int))) = true → (0 + k) * 1 = List.length xs ∧ (k + 1) * 8 ≤ 140737488355328 ∧ k + 1 ≤ 9223372036854775807) : evalC (cN) (evN) (mpLv) 0 0 60 (loopAt Tryz.f57 2) (mnT ns i) (mnS ns k xs) = some (mnG ns i q k xs) := by
  have key := fun (bs : List Bool) (r : AExit × List AVal × List AObj) (ob : List Prop) (h : pathP (cN) (evN) (mpLv) 0 0 60 [(28, 0, Hint.idx), (28, 1, Hint.load (ndA q)), (32, 16, Hint.app)] (loopAt Tryz.f57 2) (mnT ns i) (mnS ns k xs) bs [] = .ok (r.1, r.2.1, r.2.2, ob)) (hp : allOb ob) => pathP_ok h hp
  unfold mnG
  exact bif_case (P := fun r => evalC (cN) (evN) (mpLv) 0 0 60 (loopAt Tryz.f57 2) (mnT ns i) (mnS ns k xs) = some r)
    (fun h0 => key [true, true] ((AExit.normal, ((jk 4 ++ [AVal.ptr 3 0 0] ++ jk 143 ++ [AVal.list (List.length ns) (flatN ns), iA (Int.ofNat (List.length ns)), iA (IntKind.i64.wrap (i + 1))] ++ jk 84), ([AObj.box [iA (Prod.fst q), iA (Prod.fst (Prod.fst (Prod.snd q))), iA (Prod.snd (Prod.fst (Prod.snd q))), iA (Prod.snd (Prod.snd q))], AObj.row 3 0 none [AVal.v (Value.slice none 0 0), AVal.v (Value.slice none 0 0), AVal.row 32 1 1 0 (k + 1)], AObj.mapo false [] [], AObj.box [AVal.row 1 0 3 0 1, AVal.mp 2, AVal.v (Value.slice none 0 0), AVal.fmap [] []]] ++ List.replicate 28 AObj.free ++ [AObj.row 1 1 none (xs ++ [iA (Prod.fst q)])] ++ List.replicate 27 AObj.free ++ [AObj.row 1 0 none [iA (Prod.fst q)]] ++ List.replicate 4 AObj.free)))) _ (by kernel_rfl) (allOb_cons (by exact (e1 h0)) (allOb_cons lit_t (allOb_cons (by exact (e0 h0)) (allOb_cons (idx_okN (b0 h0)) (allOb_cons h0 allOb_nil))))))
    (fun h0 => key [false] ((AExit.exit 4, ((jk 4 ++ [AVal.ptr 3 0 0] ++ jk 143 ++ [AVal.list (List.length ns) (flatN ns), iA (Int.ofNat (List.length ns)), iA i, bA false] ++ jk 83), ([AObj.free, AObj.row 3 0 none [AVal.v (Value.slice none 0 0), AVal.v (Value.slice none 0 0), AVal.row 32 0 1 0 k], AObj.mapo false [] [], AObj.box [AVal.row 1 0 3 0 1, AVal.mp 2, AVal.v (Value.slice none 0 0), AVal.fmap [] []]] ++ List.replicate 28 AObj.free ++ [AObj.row 1 0 none xs])))) _ (by kernel_rfl) (allOb_cons h0 allOb_nil))
end Go.Proofs.YtkkgimhbliocoaaGreat
/- face.MapOf of a plan without edges: its rounds over the nodes, one behind the other. -/
namespace Go.Proofs.YtkkgimhbliocoaaGreat
open Go Vm M
set_option linter.unusedVariables false
set_option linter.unusedSectionVars false
set_option linter.unusedSimpArgs false
def idsA (ns : List Nd) (k : Nat) : List AVal := (ns.take k).map fun n => iA n.1
theorem idsA_length {ns : List Nd} {k : Nat} (h : k ≤ ns.length) : (idsA ns k).length = k := by simp [idsA]; omega
theorem idsA_succ {ns : List Nd} {k : Nat} (h : k < ns.length) : idsA ns k ++ [iA (nAt ns k).1] = idsA ns (k + 1) := by
  unfold idsA
  rw [List.take_add_one, List.getElem?_eq_getElem h, nAt_get (List.getElem?_eq_getElem h), List.map_append]
  rfl
theorem idsA_plain (ns : List Nd) (k : Nat) : (idsA ns k).all plainV = true := by
  unfold idsA
  rw [List.all_eq_true]
  intro x hx
  simp only [List.mem_map] at hx
  obtain ⟨n, _, rfl⟩ := hx
  rfl
noncomputable abbrev mnB : Code := loopAt Tryz.f57 2
section
variable (ns : List Nd) (hl : ns.length ≤ 1000)
include hl
theorem mn_first (h : 0 < ns.length) : EV cN 0 mnB (mnT ns (0 : Nat)) (mnS0 ns) .normal (mnT ns (1 : Nat)) (mnS ns 1 (idsA ns 1)) := by
  have e := mnF_eq ns (0 : Nat) (nAt ns 0) (fun _ => by omega) (fun _ => partN h)
  unfold mnF at e
  rw [decide_eq_true (by omega : (((0 : Nat) : Int) < (ns.length : Int))), cond_true, IntWalk.i64_in (((0 : Nat) : Int) + 1) (by omega)] at e
  refine EV.tidy [32] (EV.of cN_ok evN_ok e) (fun q hq y hy => ?_) ?_
  · simp only [List.mem_singleton] at hq
    subst hq
    have : y = .row 1 0 none [iA (nAt ns 0).1] := by
      have h2 := Option.some.inj hy
      exact h2.symm
    subst this
    rfl
  · rw [← idsA_succ h]
    kernel_rfl
theorem mn_round {k : Nat} (h1 : 1 ≤ k) (h : k < ns.length) : EV cN 0 mnB (mnT ns k) (mnS ns k (idsA ns k)) .normal (mnT ns (k + 1 : Nat)) (mnS ns (k + 1) (idsA ns (k + 1))) := by
  have e := mnG_eq ns k (nAt ns k) k (idsA ns k) (fun _ => by omega) (fun _ => partN h) (fun _ => by rw [idsA_length (by omega)]; omega)
  unfold mnG at e
  rw [decide_eq_true (by omega : ((k : Int) < (ns.length : Int))), cond_true, IntWalk.i64_in ((k : Int) + 1) (by omega)] at e
  refine EV.tidy [32] (EV.of cN_ok evN_ok e) (fun q hq y hy => ?_) ?_
  · simp only [List.mem_singleton] at hq
    subst hq
    have : y = .row 1 1 none (idsA ns k ++ [iA (nAt ns k).1]) := by
      have h2 := Option.some.inj hy
      exact h2.symm
    subst this
    simp only [plainO, List.all_append, idsA_plain, Bool.true_and]
    rfl
  · rw [← idsA_succ h]
    kernel_rfl
def mnE (ns : List Nd) (i : Int) : List AVal := jk 4 ++ [.ptr 3 0 0] ++ jk 143 ++ [nsA ns, iA ns.length, iA i, bA false] ++ jk 83
theorem mn_end0 (h : ns.length = 0) : EV cN 0 mnB (mnT ns (0 : Nat)) (mnS0 ns) (.exit 4) (mnE ns (0 : Nat)) (mnS0 ns) := by
  have e := mnF_eq ns (0 : Nat) (nAt ns 0) (fun h2 => by have := of_decide_eq_true h2; omega) (fun h2 => by have := of_decide_eq_true h2; omega)
  unfold mnF at e
  rw [decide_eq_false (by omega : ¬ (((0 : Nat) : Int) < (ns.length : Int))), cond_false] at e
  exact EV.of cN_ok evN_ok e
theorem mn_end (h : 1 ≤ ns.length) : EV cN 0 mnB (mnT ns ns.length) (mnS ns ns.length (idsA ns ns.length)) (.exit 4) (mnE ns ns.length) (mnS ns ns.length (idsA ns ns.length)) := by
  have e := mnG_eq ns ns.length (nAt ns 0) ns.length (idsA ns ns.length) (fun h2 => by have := of_decide_eq_true h2; omega) (fun h2 => by have := of_decide_eq_true h2; omega) (fun h2 => by have := of_decide_eq_true h2; omega)
  unfold mnG at e
  rw [decide_eq_false (by omega : ¬ ((ns.length : Int) < (ns.length : Int))), cond_false] at e
  exact EV.of cN_ok evN_ok e
/-- All the rounds. -/
theorem mn_loop : EV cN 0 (.loop mnB) (mnT ns (0 : Nat)) (mnS0 ns) (.exit 4) (mnE ns ns.length) (bif Nat.beq ns.length 0 then mnS0 ns else mnS ns ns.length (idsA ns ns.length)) := by
  by_cases h : ns.length = 0
  · rw [h]
    exact EV.loop (n := 0) (T := fun _ => mnT ns (0 : Nat)) (S := fun _ => mnS0 ns) (fun k hk => by omega) (mn_end0 ns hl h) (by simp)
  · have hb : Nat.beq ns.length 0 = false := by
      cases hb : Nat.beq ns.length 0 with
      | true => exact absurd (Nat.eq_of_beq_eq_true hb) h
      | false => rfl
    rw [hb, cond_false]
    have := EV.loop (c := cN) (base := 0) (body := mnB) (n := ns.length) (T := fun k => mnT ns (k : Nat)) (S := fun k => bif Nat.beq k 0 then mnS0 ns else mnS ns k (idsA ns k)) (x := .exit 4) (T' := mnE ns ns.length) (S' := mnS ns ns.length (idsA ns ns.length)) (fun k hk => ?_) ?_ (by simp)
    · exact this
    · cases k with
      | zero => exact mn_first ns hl (by omega)
      | succ k => exact mn_round ns hl (by omega) hk
    · simp only [hb, cond_false]
      exact mn_end ns hl (by omega)
end
end Go.Proofs.YtkkgimhbliocoaaGreat
/- plan.Of of the plan of layer 20's awake. -/
namespace Go.Proofs.YtkkgimhbliocoaaGreat
open Go Vm M
set_option linter.unusedVariables false
set_option maxRecDepth 100000
set_option maxHeartbeats 0
def plE20 : List PVal := edP 1 1 1 [(0,0),(4,0),(0,4),(0,0)] 7 0
def plA20 : PVal := .agg [.list 1 [iV 1, iV 0, iV 0, iV (-1)], .list 1 plE20]
def obT0 : List AVal := [.junk, .junk, .junk, .ptr 3 0 0] ++ jkk 65 ++ [.row 36 0 1 0 2, aI 2, aI 2, .v (.bool false)] ++ jkk 40
def obT1 : List AVal := [.junk, .junk, .junk, .ptr 3 0 0] ++ jkk 65 ++ [.row 36 0 1 0 2, aI 2, aI 2, .v (.bool false)] ++ jkk 21 ++ [.ptr 3 0 0, .ptr 3 0 0, .ptr 3 0 2, .mp 2] ++ jkk 15
def obS0 : List AObj := [.free, .mapo false [1] [.agg (upL plE20)], .mapo false [1] [.row 54 0 1 0 2], .box [.mp 1, .row 36 0 1 0 2, .mp 2]] ++ List.replicate 32 .free ++ [.row 1 0 none [aI 1, aI (-1)]] ++ List.replicate 17 .free ++ [.row 1 0 none [aI 1, aI (-1)]]
noncomputable def obD : OfD where
  T1 := obT1
  S1 := obS0
  o := 2
  ks := [1]
  vs := [.row 54 0 1 0 2]
  qs := [54]
  ys := [.list 2 [iV 1, iV (-1)]]
  Xs := [.row 1 0 none [aI (-1), aI 1]]
  T4 := fun r i => ((ofRun obT1 obS0 2 [1] [.row 54 0 1 0 2] [54] i (fun _ => undef) r).getD (.normal, [], [])).2.1
def obT : List AVal := [.junk, .junk, .junk, .ptr 3 0 0] ++ jkk 109
def obS : List AObj := [.free, .mapo false [1] [.agg (upL plE20)], .mapo false [1] [.list 2 [iV 1, iV (-1)]], .box [.mp 1, .row 36 0 1 0 2, .mp 2]] ++ List.replicate 32 .free ++ [.row 1 0 none [aI 1, aI (-1)]] ++ List.replicate 17 .free ++ [.row 1 0 none [aI (-1), aI 1]]
noncomputable def obZ : AExit × List AVal × List AObj := (evalC c01 ev1 ofLv 0 0 60 ofZ obT obS).getD (.normal, [], [])
def obR : AVal := .ptr 3 0 0
def obW : PVal := .ptr [.map [1] [.agg plE20], .list 2 [iV 1, iV (-1)], .map [1] [.list 2 [iV 1, iV (-1)]]]
theorem ob_head : evalL c01 ev1 ofLv 0 0 60 (headL 5 ofB) (upL [plA20] ++ List.replicate (ofA.ntmps - (upL [plA20]).length) (.v undef)) [] = some (obT0, obS0) := by kernel_rfl
theorem ob_pre : runOps c01 ev1 0 of16 (of16.toList.take 4) obT0 obS0 = some (obT1, obS0) := by kernel_rfl
theorem ob_fam : famA obS0 2 [1] [.row 54 0 1 0 2] [.list 2 [iV 1, iV (-1)]] [54] [.row 1 0 none [aI (-1), aI 1]] (fun _ => false) = obS0 := by kernel_rfl
theorem ob_runs : (fun (us : Nat → Value) (r : Nat) => (List.range 1).map fun i => ofRun obT1 obS0 2 [1] [.row 54 0 1 0 2] [54] i us r) = fun us r => (List.range 1).map fun i =>
    some (AExit.normal, obD.T4 r i, hideAll (others [54] i) ((obS0.set ([54].getD i 0) (obD.Xs.getD i .free)).set 2 (.mapo false [1] (blur us i 0 ([.row 54 0 1 0 2].set i (obD.ys.getD i .junk))))) ++ List.replicate 9 .free) := by kernel_rfl
theorem ob_tail : evalC c01 ev1 ofLv 0 0 60 ofZ obT obS = some (.ret, obZ.2.1, obZ.2.2) := by kernel_rfl
theorem ob_res : resultsA c01.P ofA.results obZ.2.1 obZ.2.2 = some obR := by kernel_rfl
theorem ob_peek : Vm.peek (Vm.mark 0 deep obZ.2.2 obR) deep obR = some obW := by kernel_rfl
theorem ob_ok : OfOk plA20 obT0 obS0 obD obT obZ.2.1 obS obZ.2.2 obR obW where
  head := ob_head
  pre := ob_pre
  fam := ob_fam
  mp := by kernel_rfl
  len := by kernel_rfl
  nodup := of_decide_eq_true (by kernel_rfl)
  closed := by kernel_rfl
  closedT := fun r => by kernel_rfl
  ent := by kernel_rfl
  runs := ob_runs
  back := by kernel_rfl
  fin := by kernel_rfl
  all := by kernel_rfl
  tail := ob_tail
  res := ob_res
  peek := ob_peek
theorem of20_calls : CallsP Tryz.prog 47 [plA20] obW := of_ok ob_ok
end Go.Proofs.YtkkgimhbliocoaaGreat
/- What is known for the run of layer 20's awake. -/
namespace Go.Proofs.YtkkgimhbliocoaaGreat
open Go Vm M
set_option linter.unusedVariables false
set_option maxRecDepth 100000
set_option maxHeartbeats 0
noncomputable def KA20 : Lib Tryz.prog := R2.add 47 (known [([plA20], obW)]) (Vm.enters_of named_prog Tryz.func47 (by kernel_rfl)) (known_ok _ fun x hx => by
  simp only [List.mem_cons, List.not_mem_nil, or_false] at hx
  subst hx
  exact of20_calls)
noncomputable def cA20 : Cfg := cfgOf lives md2 KA20
theorem cA20_ok : CfgOk cA20 := cfgOf_ok lives md2 KA20
end Go.Proofs.YtkkgimhbliocoaaGreat
/- What the document fixes of what is where: a run without choices. -/
namespace Go.Proofs.YtkkgimhbliocoaaGreat
open Go Vm M
set_option linter.unusedVariables false
set_option maxRecDepth 100000
set_option maxHeartbeats 0
theorem aw20_calls : CallsP Tryz.prog 34 [] (.v (.bool true)) := (pureCall_ok cA20_ok (evalF_ok cA20_ok 60) (f := 34) (ps := []) (r := .v (.bool true)) (by kernel_rfl)).2
end Go.Proofs.YtkkgimhbliocoaaGreat
