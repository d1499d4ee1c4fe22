/- Texts put together: Insert, InsertA, Line3, Line4, Line5, Split0, Split1, Split2, Split3, Split4, Awake0, RelSym, Turned4, Turned5, Stair1, StairM, StairO, Stair2, EndsM, Rev1, Rev2, Ends1, Ends2. What is proved stands at the head of each part. -/
import Derived.Test.YtmopbegmdegooaaBnLine7
import Derived.Lib.Overlaps
import Derived.Laws.CopyRow
import Derived.Laws.Externs
import Derived.Shelf.RegionOpenPlain
/- slices.Insert of one point among points: by objects. -/
namespace Go.Proofs.Ytmopbegmdegooaa
open Go Go.RowKit Go.Shelf M
set_option linter.unusedVariables false
set_option linter.unusedSimpArgs false
theorem run_copy_rowN {P : Program} (w : World) (dT sT ty elem : TypeId) (sz g o dLen dCap : Nat) (a : Addr) (sLen sCap : Nat) (cur : Array Value) (t : TypeId) (cs : List Value)
    (hu : P.underlying dT = some (.slice elem)) (hs : (P.info? elem).map (·.size) = some sz)
    (hg : w.heap[g]? = some (.cells cur t (0, 0))) (hn : cs.length = Nat.min sLen dLen * sz)
    (hsrc : ∀ j v, cs[j]? = some v → w.cell? (a.add j) = some v) (hfit : o + cs.length ≤ cur.size) (h1 : ∀ v ∈ cs, v.oneCell' = true) :
    (Builtin.copy_ #[dT, sT] ty #[.slice (some ⟨g, o, none⟩) dLen dCap, .slice (some a) sLen sCap]).run P w =
      .ok (goInt (Nat.min sLen dLen)) (w.setRow g (cur.toList.take o ++ cs ++ cur.toList.drop (o + cs.length)).toArray) := by
  have hst := run_storeCells_at P g o t cs 0 cur w hg (by simpa using hfit) h1
  cases hq : P.info? elem with
  | none => simp [hq] at hs
  | some i =>
    have hi : i.size = sz := by simpa [hq] using hs
    have hl := run_firstCells_some (P := P) w sz (Nat.min sLen dLen) a sLen sCap cs hn hsrc
    simp only [Nat.add_zero] at hst
    simp [Builtin.copy_, run_underlying hu, Builtin.lenOf, sizeOf, typeInfo, hq, hi, hl, hst]
theorem wpList_copy_runI {P : Program} (w : World) {ops : Array Oper} {rest : List Oper} {o : Oper} {a : Act} {Q : Exit → Act → World → Prop} (hgd : o.guard = none) (d s : Operand) (t t' : TypeId)
    (ho : o.op = .call { callee := .builtin .copy, args := #[d, s], argTypes := #[t, t'] }) (v u : Value) (hd : a.eval d = v) (hs : a.eval s = u) {v' : Value} {w' : World}
    (hr : (Builtin.copy_ #[t, t'] o.type #[v, u]).run P w = .ok v' w') (h : wpList P ops Q rest (a.put o.dst v') w') : wpList P ops Q (o :: rest) a w :=
  wpList_plain hgd fun K hK => by
    unfold Oper.wp execOp
    simp only [ho, resolve, invoke, builtin, Sem.run_bind, Sem.run_pure, Result.andThen_ok, List.map_toArray, List.map_cons, List.map_nil, hd, hs, hr]
    exact hK _ _ h
theorem step_copy_runI {P : Program} {ops : Array Oper} {o : Oper} {a : Act} {w : World} {K : Act → World → Prop} {Q : Exit → Act → World → Prop} {E : Prop}
    (hg : o.guard = none) (d x : Operand) (dT sT : TypeId) (hop : o.op = Op.call { callee := Callee.builtin Builtin.copy, args := #[d, x], argTypes := #[dT, sT] })
    (v u : Value) (hd : a.eval d = v) (hx : a.eval x = u) {v' : Value} {w' : World} (hr : (Builtin.copy_ #[dT, sT] o.type #[v, u]).run P w = .ok v' w') (hK : K (a.put o.dst v') w') :
    if Region.wanted o (yielded ops a.tmps) = true then Oper.wp P o a w K Q else E := by
  have hw : Region.wanted o (yielded ops a.tmps) = true := by simp [Region.wanted, hg]
  rw [if_pos hw]
  unfold Oper.wp
  simp [execOp, hop, resolve, invoke, builtin, hd, hx, hr, Result.andThen]
  exact hK
theorem sz23i : (Try.prog.info? 23).map (·.size) = some 2 := by kernel_rfl
def spl (L : List Value) (o : Nat) (cs : List Value) : Array Value := (L.take o ++ cs ++ L.drop (o + cs.length)).toArray
set_option maxRecDepth 100000 in
set_option maxHeartbeats 4000000 in
theorem insert_room (b off n c i vb voff vc : Nat) (cs ds : Array Value) (t t2 : TypeId) (w : World) (mid vals : List Value) (hi : i < n) (hroom : n + 1 ≤ c) (hbig : (n + 1) * 16 ≤ 140737488355328) (hne : vb ≠ b)
    (hb : w.heap[b]? = some (.cells cs t (0, 0))) (hv : w.heap[vb]? = some (.cells ds t2 (0, 0))) (hfit : off + c * 2 ≤ cs.size) (hvfit : voff + 2 ≤ ds.size)
    (hml : mid.length = (n - i) * 2) (hmid : ∀ j v, mid[j]? = some v → cs[off + i * 2 + j]? = some v) (hvl : vals.length = 2) (hvals : ∀ j v, vals[j]? = some v → ds[voff + j]? = some v)
    (h1m : ∀ v ∈ mid, v.oneCell' = true) (h1v : ∀ v ∈ vals, v.oneCell' = true) :
    Calls Try.prog 65 #[.slice (some ⟨b, off, none⟩) n c, .int .i64 i, .slice (some ⟨vb, voff, none⟩) 1 vc] w fun e w' =>
      e = .returned (.slice (some ⟨b, off, none⟩) (n + 1) c) ∧ w' = w.drew.setRow b (spl (spl cs.toList (off + (i + 1) * 2) mid).toList (off + i * 2) vals) := by
  have mixed := mixed_prog
  have hz1 : ¬ ((1 : Int) = 0) := by omega
  have hz2 : ¬ ((i : Int) = (n : Int)) := by omega
  have hsb : w.shape? b = some (t, cs.size) := by simp [World.shape?, hb]
  have hsa : w.shape? vb = some (t2, ds.size) := by simp [World.shape?, hv]
  have hf : ∀ k, w.frozen? ⟨vb, k, none⟩ = false := fun k => by simp [World.frozen?, hv]
  have hov : ∀ lb cb, (callFunc 81 #[.slice (some ⟨vb, voff, none⟩) 1 vc, .slice (some ⟨b, off + (i + 1) * 2, none⟩) lb cb]).run Try.prog w = .ok (.value (.bool false)) w := fun lb cb => by
    rw [run_callFunc_extern Try.func81 (by kernel_rfl) (by kernel_rfl) (by kernel_rfl) (e := Extern.SlicesOverlaps.overlaps #[24, 24] #[4]) (by kernel_rfl),
      Lib.run_overlaps_apart w 24 4 23 Try.underlying24 2 (fun w => by kernel_rfl) ⟨vb, voff, none⟩ ⟨b, off + (i + 1) * 2, none⟩ 1 vc lb cb hne t2 t ds.size cs.size hsa hsb (by omega) (hf _) (hf _)]
    rfl
  have hw1 : IntKind.i64.wrap ((i : Int) + 1) = (i : Int) + 1 := by rw [IntKind.wrap_i64]; omega
  have hb1 : (0 : Int) ≤ (i : Int) + 1 := by omega
  have hin : i ≤ n := by omega
  have htn : ((i : Int) + 1).toNat = i + 1 := by omega
  have hb2 : ¬ (c = i + 1) := by omega
  have hb3 : (i : Int) ≤ (n : Int) + 1 := by omega
  have hb4 : ¬ (c = i) := by omega
  have hcp1 : ∀ ty dc sc, (Builtin.copy_ #[24, 24] ty #[.slice (some ⟨b, off + (i + 1) * 2, none⟩) (n - i) dc, .slice (some ⟨b, off + i * 2, none⟩) (n + 1 - i) sc]).run Try.prog w.drew = .ok (goInt (Nat.min (n + 1 - i) (n - i))) (w.drew.setRow b (spl cs.toList (off + (i + 1) * 2) mid)) := fun ty dc sc =>
    run_copy_rowN w.drew _ _ ty 23 2 b (off + (i + 1) * 2) (n - i) dc ⟨b, off + i * 2, none⟩ (n + 1 - i) sc cs t mid Try.underlying24 sz23i hb
      (by rw [hml]; simp only [Nat.min_def]; split <;> omega) (fun j v hj => by
        have := hmid j v hj
        have hb0 : w.drew.heap[b]? = some (.cells cs t (0, 0)) := hb
        simpa [Addr.add_lit, World.cell?, hb0] using this) (by omega) h1m
  have hs1 : (spl cs.toList (off + (i + 1) * 2) mid).size = cs.size := by
    unfold spl
    simp
    omega
  have hb' : (w.drew.setRow b (spl cs.toList (off + (i + 1) * 2) mid)).heap[b]? = some (.cells (spl cs.toList (off + (i + 1) * 2) mid) t (0, 0)) := setRow_heap _ _ _ _ _ _ hb
  have hv' : (w.drew.setRow b (spl cs.toList (off + (i + 1) * 2) mid)).heap[vb]? = some (.cells ds t2 (0, 0)) := by
    have : (w.drew.setRow b (spl cs.toList (off + (i + 1) * 2) mid)).heap[vb]? = w.drew.heap[vb]? := by
      unfold World.setRow
      simp [Array.getElem?_modify, Ne.symm hne]
    rw [this]
    exact hv
  have hcp2 : ∀ ty dc sc, (Builtin.copy_ #[24, 24] ty #[.slice (some ⟨b, off + i * 2, none⟩) (n + 1 - i) dc, .slice (some ⟨vb, voff, none⟩) 1 sc]).run Try.prog (w.drew.setRow b (spl cs.toList (off + (i + 1) * 2) mid)) = .ok (goInt (Nat.min 1 (n + 1 - i))) (w.drew.setRow b (spl (spl cs.toList (off + (i + 1) * 2) mid).toList (off + i * 2) vals)) := fun ty dc sc => by
    have h := run_copy_rowN (P := Try.prog) (w.drew.setRow b (spl cs.toList (off + (i + 1) * 2) mid)) 24 24 ty 23 2 b (off + i * 2) (n + 1 - i) dc ⟨vb, voff, none⟩ 1 sc (spl cs.toList (off + (i + 1) * 2) mid) t vals Try.underlying24 sz23i hb'
      (by rw [hvl]; simp only [Nat.min_def]; split <;> omega) (fun j v hj => by
        have := hvals j v hj
        simpa [Addr.add_lit, World.cell?, hv'] using this) (by rw [hs1]; omega) h1v
    rw [setRow_setRow] at h
    exact h
  generalize hA : spl cs.toList (off + (i + 1) * 2) mid = A1 at hcp1 hcp2 ⊢
  generalize hA2 : spl A1.toList (off + i * 2) vals = A2 at hcp2 ⊢
  go_enter Try.func65, Try.ntmps65
  go_wp2_with (simp only [hov])
  go_region_law_o (refine step_copy_runI rfl _ _ 24 24 rfl _ _ (by simp [Act.eval, Act.put]) (by simp [Act.eval, Act.put]) (hcp1 _ _ _) ?_)
  go_wp2_with (at_builtin; refine wpList_copy_runI _ rfl _ _ 24 24 rfl _ _ rfl rfl (hcp2 _ _ _) ?_)
  go_ret
  exact ⟨rfl, rfl⟩
theorem alloc_setRow (W : World) (cs cs2 : Array Value) (t : TypeId) : (W.alloc (.cells cs t)).setRow W.heap.size cs2 = W.alloc (.cells cs2 t) := by
  unfold World.alloc World.setRow
  congr 1
  apply Array.ext_getElem?
  intro k
  rw [Array.getElem?_modify]
  by_cases hk : W.heap.size = k
  · subst hk
    simp
  · rw [if_neg hk]
    rw [Array.getElem?_push, Array.getElem?_push]
    simp [Ne.symm hk]
set_option maxRecDepth 100000 in
set_option maxHeartbeats 4000000 in
theorem insert_grow (b off n c i vb voff vc : Nat) (cs ds : Array Value) (t t2 : TypeId) (w : World) (olds mid vals : List Value) (hi : i < n) (hnc : n ≤ c) (hroom : c < n + 1) (hbig : (n + 1) * 16 ≤ 140737488355328)
    (hb : w.heap[b]? = some (.cells cs t (0, 0))) (hv : w.heap[vb]? = some (.cells ds t2 (0, 0))) (hfit : off + c * 2 ≤ cs.size) (hvfit : voff + 2 ≤ ds.size)
    (hol : olds.length = i * 2) (hold : ∀ j v, olds[j]? = some v → cs[off + j]? = some v) (hml : mid.length = (n - i) * 2) (hmid : ∀ j v, mid[j]? = some v → cs[off + i * 2 + j]? = some v)
    (hvl : vals.length = 2) (hvals : ∀ j v, vals[j]? = some v → ds[voff + j]? = some v) (h1m : ∀ v ∈ mid, v.oneCell' = true) (h1v : ∀ v ∈ vals, v.oneCell' = true) :
    Calls Try.prog 65 #[.slice (some ⟨b, off, none⟩) n c, .int .i64 i, .slice (some ⟨vb, voff, none⟩) 1 vc] w fun e w' =>
      ∃ (G : Nat) (R : Array Value) (W' : World), e = .returned (.slice (some ⟨w.heap.size, 0, none⟩) (n + 1) G) ∧ n + 1 ≤ G ∧ W'.heap = w.heap ∧ W'.os = w.os ∧ W'.tape = w.tape ∧ W'.output = w.output ∧ w' = W'.alloc (.cells R 23) ∧
        R.size = G * 2 ∧ ∃ rest, R.toList = olds ++ vals ++ mid ++ rest := by
  have mixed := mixed_prog
  have hz1 : ¬ ((1 : Int) = 0) := by omega
  have hz2 : ¬ ((i : Int) = (n : Int)) := by omega
  have hz3 : (c : Int) < (n : Int) + 1 := by omega
  have hbw : b < w.heap.size := (Array.getElem?_eq_some_iff.1 hb).1
  have hvw : vb < w.heap.size := (Array.getElem?_eq_some_iff.1 hv).1
  have hkk : (n : Int) + 1 - (i : Int) = ((n + 1 - i : Nat) : Int) := by omega
  have hik : i + (n + 1 - i) = n + 1 := by omega
  obtain ⟨i0, hi0, hzs, hzb, z0, hz0, hz0s⟩ : ∃ i0, Try.prog.info? 23 = some i0 ∧ i0.size = 2 ∧ i0.bytes = 16 ∧ ∃ z0, i0.zero = some z0 ∧ z0.cells.size = 2 := ⟨_, rfl, rfl, rfl, _, rfl, rfl⟩
  have hfold : (Builtin.firstCells i0.size i (.slice (some ⟨b, off, none⟩) i c)).run Try.prog w.drew = .ok olds.toArray w.drew := by
    rw [hzs]
    exact run_firstCells_some w.drew 2 i ⟨b, off, none⟩ i c olds hol (fun j v hj => by
      have hb0 : w.drew.heap[b]? = some (.cells cs t (0, 0)) := hb
      have := hold j v hj
      simpa [Addr.add_lit, World.cell?, hb0] using this)
  have hrz : ∀ ty, (Builtin.append_ #[24, 3] ty #[.slice (some ⟨b, off, none⟩) i c, .int .i64 ((n : Int) + 1 - (i : Int))]).run Try.prog w =
      .ok (.slice (some ⟨w.heap.size, 0, none⟩) (n + 1) (grownCap w (n + 1) c 23)) (w.drew.alloc (.cells (olds.toArray ++ Builtin.zeroCells z0.cells (n + 1 - i) ++ Builtin.zeroCells z0.cells (grownCap w (n + 1) c 23 - (n + 1))) 23)) := fun ty => by
    have h := Lib.run_append_grow_zeros w 24 3 ty 23 i0 z0 .i64 .i64 Try.underlying24 Try.underlying3 hi0 hz0 (some ⟨b, off, none⟩) i c olds hfold (n + 1 - i) (by omega) (by omega) (by omega) (by omega) (by rw [hzb]; omega) (by rw [hzb, hik]; exact growslice_fits hroom hbig)
    rw [hik] at h
    rw [hkk]
    exact h
  have hGn := grownCap_ge w (n + 1) c 23
  have hG63 : grownCap w (n + 1) c 23 ≤ 9223372036854775807 := by
    have := grownCap_le_maxLen w (n + 1) c 23 (by unfold maxLen; omega)
    unfold maxLen at this
    omega
  generalize grownCap w (n + 1) c 23 = G at *
  obtain ⟨ROW, hROW⟩ : ∃ ROW : Array Value, ROW = olds.toArray ++ Builtin.zeroCells z0.cells (n + 1 - i) ++ Builtin.zeroCells z0.cells (G - (n + 1)) := ⟨_, rfl⟩
  rw [← hROW] at hrz
  have hRs : ROW.size = G * 2 := by
    rw [hROW]
    simp only [Array.size_append, List.size_toArray, size_zeroCells, hz0s, hol]
    omega
  have hRt : ROW.toList.take (i * 2) = olds := by
    rw [hROW]
    simp only [Array.toList_append, List.append_assoc]
    rw [List.take_append_of_le_length (by rw [hol]; exact Nat.le_refl _), ← hol, List.take_length]
  -- the first copy
  have hN0 : (w.drew.alloc (.cells ROW 23)).heap[w.heap.size]? = some (.cells ROW 23 (0, 0)) := World.alloc_heap_new w.drew _
  have hvN : ∀ R : Array Value, (w.drew.alloc (.cells R 23)).heap[vb]? = some (.cells ds t2 (0, 0)) := fun R => by
    rw [Below.heap_alloc _ _ _ (show vb < w.drew.heap.size from hvw)]
    exact hv
  have hbN : ∀ R : Array Value, (w.drew.alloc (.cells R 23)).heap[b]? = some (.cells cs t (0, 0)) := fun R => by
    rw [Below.heap_alloc _ _ _ (show b < w.drew.heap.size from hbw)]
    exact hb
  have hcpA : ∀ ty dc, (Builtin.copy_ #[24, 24] ty #[.slice (some ⟨w.heap.size, i * 2, none⟩) (n + 1 - i) dc, .slice (some ⟨vb, voff, none⟩) 1 vc]).run Try.prog (w.drew.alloc (.cells ROW 23)) = .ok (goInt (Nat.min 1 (n + 1 - i))) (w.drew.alloc (.cells (spl ROW.toList (i * 2) vals) 23)) := fun ty dc => by
    have h := run_copy_rowN (P := Try.prog) (w.drew.alloc (.cells ROW 23)) 24 24 ty 23 2 w.heap.size (i * 2) (n + 1 - i) dc ⟨vb, voff, none⟩ 1 vc ROW 23 vals Try.underlying24 sz23i hN0
      (by rw [hvl]; simp only [Nat.min_def]; split <;> omega) (fun j v hj => by
        have := hvals j v hj
        simpa [Addr.add_lit, World.cell?, hvN ROW] using this) (by rw [hRs]; omega) h1v
    have e := alloc_setRow w.drew ROW (spl ROW.toList (i * 2) vals) 23
    exact h.trans (by rw [show w.drew.heap.size = w.heap.size from rfl] at e; rw [← e]; rfl)
  generalize hA : spl ROW.toList (i * 2) vals = A1 at hcpA
  have hA1s : A1.size = G * 2 := by
    rw [← hA]
    unfold spl
    simp
    omega
  have hN1 : (w.drew.alloc (.cells A1 23)).drew.heap[w.heap.size]? = some (.cells A1 23 (0, 0)) := World.alloc_heap_new w.drew _
  have hcpB : ∀ ty dc sc, (Builtin.copy_ #[24, 24] ty #[.slice (some ⟨w.heap.size, (i + 1) * 2, none⟩) (n - i) dc, .slice (some ⟨b, off + i * 2, none⟩) (n - i) sc]).run Try.prog (w.drew.alloc (.cells A1 23)).drew = .ok (goInt (Nat.min (n - i) (n - i))) ((w.drew.alloc (.cells (spl A1.toList ((i + 1) * 2) mid) 23)).drew) := fun ty dc sc => by
    have hb0 : (w.drew.alloc (.cells A1 23)).drew.heap[b]? = some (.cells cs t (0, 0)) := hbN A1
    have h := run_copy_rowN (P := Try.prog) (w.drew.alloc (.cells A1 23)).drew 24 24 ty 23 2 w.heap.size ((i + 1) * 2) (n - i) dc ⟨b, off + i * 2, none⟩ (n - i) sc A1 23 mid Try.underlying24 sz23i hN1
      (by rw [hml]; simp only [Nat.min_def]; split <;> omega) (fun j v hj => by
        have := hmid j v hj
        simpa [Addr.add_lit, World.cell?, hb0] using this) (by rw [hA1s]; omega) h1m
    have e := alloc_setRow w.drew A1 (spl A1.toList ((i + 1) * 2) mid) 23
    refine h.trans ?_
    rw [show w.drew.heap.size = w.heap.size from rfl] at e
    have e2 : (w.drew.alloc (.cells A1 23)).drew.setRow w.heap.size (spl A1.toList ((i + 1) * 2) mid) = ((w.drew.alloc (.cells A1 23)).setRow w.heap.size (spl A1.toList ((i + 1) * 2) mid)).drew := rfl
    unfold spl at e e2 ⊢
    rw [e2, e]
  generalize hA2 : spl A1.toList ((i + 1) * 2) mid = A2 at hcpB
  have hA2s : A2.size = G * 2 := by
    rw [← hA2]
    unfold spl
    simp
    omega
  have hA2l : ∃ rest, A2.toList = olds ++ vals ++ mid ++ rest := by
    refine ⟨A1.toList.drop ((i + 1) * 2 + mid.length), ?_⟩
    rw [← hA2]
    unfold spl
    have : A1.toList.take ((i + 1) * 2) = olds ++ vals := by
      rw [← hA]
      unfold spl
      simp only [List.append_assoc]
      rw [hRt, ← List.append_assoc, List.take_append_of_le_length (by simp; omega), List.take_of_length_le (by simp; omega)]
    rw [this]
  have hw1 : IntKind.i64.wrap ((i : Int) + 1) = (i : Int) + 1 := by rw [IntKind.wrap_i64]; omega
  have hb1 : (0 : Int) ≤ (i : Int) + 1 := by omega
  have hin : i ≤ n := by omega
  have htn : ((i : Int) + 1).toNat = i + 1 := by omega
  have hb3 : (i : Int) ≤ (n : Int) := by omega
  have hb4 : ¬ (c = i) := by omega
  have hGi : ¬ (G = i) := by omega
  have hGim : ¬ (G = i + 1) := by omega
  have hrz' : ∀ ty, (Builtin.append_ #[24, 3] ty #[.slice (some ⟨b, off, none⟩) i c, .int .i64 ((n : Int) + 1 - (i : Int))]).run Try.prog w = .ok (.slice (some ⟨w.heap.size, 0, none⟩) (n + 1) G) (w.alloc (.cells ROW 23)).drew := hrz
  have hcpA' : ∀ ty dc, (Builtin.copy_ #[24, 24] ty #[.slice (some ⟨w.heap.size, i * 2, none⟩) (n + 1 - i) dc, .slice (some ⟨vb, voff, none⟩) 1 vc]).run Try.prog (w.alloc (.cells ROW 23)).drew = .ok (goInt (Nat.min 1 (n + 1 - i))) (w.alloc (.cells A1 23)).drew := hcpA
  have hcpB' : ∀ ty dc sc, (Builtin.copy_ #[24, 24] ty #[.slice (some ⟨w.heap.size, (i + 1) * 2, none⟩) (n - i) dc, .slice (some ⟨b, off + i * 2, none⟩) (n - i) sc]).run Try.prog (w.alloc (.cells A1 23)).drew.drew = .ok (goInt (Nat.min (n - i) (n - i))) (w.alloc (.cells A2 23)).drew.drew := hcpB
  have fin : ∃ W' : World, W'.heap = w.heap ∧ W'.os = w.os ∧ W'.tape = w.tape ∧ W'.output = w.output ∧ (w.alloc (.cells A2 23)).drew.drew = W'.alloc (.cells A2 23) := ⟨w.drew.drew, rfl, rfl, rfl, rfl, rfl⟩
  clear hkk hik hfold hROW hRt hA hA2
  go_enter Try.func65, Try.ntmps65
  go_wp2_with (first
    | (at_builtin; refine Lib.wpList_append_run _ rfl _ _ _ _ rfl _ _ rfl rfl _ _ (hrz' _) ?_)
    | (at_builtin; refine wpList_copy_runI _ rfl _ _ 24 24 rfl _ _ rfl rfl (hcpA' _ _) ?_))
  go_region_law_o (refine step_copy_runI rfl _ _ 24 24 rfl _ _ (by simp [Act.eval, Act.put]) (by simp [Act.eval, Act.put]) (hcpB' _ _ _) ?_)
  go_wp2
  go_ret
  obtain ⟨W', f1, f2, f3, f4, f5⟩ := fin
  exact ⟨G, A2, W', rfl, hGn, f1, f2, f3, f4, f5, hA2s, hA2l⟩
end Go.Proofs.Ytmopbegmdegooaa
/- slices.Insert of one point among points, as a call that goes by objects. -/
namespace Go.Proofs.Ytmopbegmdegooaa
open Go Vm M
set_option linter.unusedVariables false
set_option linter.unusedSimpArgs false
theorem same_heap {C : Ctx} (hS : St C) (w' : World) (hh : w'.heap = C.w.heap) (hos : w'.os = C.w.os) (ht : w'.tape = C.w.tape) (ho : w'.output = C.w.output) :
    St ⟨C.ρ, C.S, C.ok, w'⟩ ∧ Ext C ⟨C.ρ, C.S, C.ok, w'⟩ := by
  have hc : ∀ a, w'.cell? a = C.w.cell? a := fun a => by unfold World.cell?; rw [hh]
  have g : Grows C ⟨C.ρ, C.S, C.ok, w'⟩ := ⟨fun a x ⟨h1, h2⟩ => ⟨h1, by rw [hc]; exact h2⟩, fun o x e hx he => ⟨x, e, hx, he, .inl ⟨rfl, rfl⟩⟩⟩
  refine ⟨⟨fun o x hx => (hS.obj o x hx).keep g (fun _ _ h => h) rfl fun e _ => by rw [hh], hS.inj, fun b j hb => by rw [hh]; exact hS.okIn b j hb, hS.okRow⟩,
    ⟨g, hos, ht, ho, by rw [hh]; exact Nat.le_refl _, fun _ _ h => h, fun b _ _ => by rw [hh], fun b j h => .inl h, fun o x e hx he => .inr ⟨o, x, e, hx, he, rfl⟩⟩⟩
theorem vs_threeV {C : Ctx} {vs : Array Value} {a b c : AVal} (h : vs.size = 3) (hr : Rvs C [a, b, c] (fun i y => vs[i]? = some y) 0) : ∃ u v x, vs = #[u, v, x] ∧ Rv C a u ∧ Rv C b v ∧ Rv C c x := by
  simp only [Rvs] at hr
  obtain ⟨⟨u, hu, h1⟩, ⟨v, hv, h2⟩, ⟨x, hx, h3⟩, _⟩ := hr
  refine ⟨u, v, x, ?_, h1, h2, h3⟩
  apply Array.ext
  · simpa using h
  · intro i h4 h5
    have : i = 0 ∨ i = 1 ∨ i = 2 := by simp at h5; omega
    rcases this with rfl | rfl | rfl
    · rw [Array.getElem?_eq_getElem h4] at hu; simpa using hu
    · rw [Nat.zero_add, Array.getElem?_eq_getElem h4] at hv; simpa using hv
    · rw [Nat.zero_add, Array.getElem?_eq_getElem h4] at hx; simpa using hx
/-- The cells of a piece of a row, as a list of values. -/
theorem piece {C : Ctx} {q sz ep : Nat} {fr : Option Nat} {xs : List AVal} (hS : St C) (h : C.S[q]? = some (.row sz ep fr xs)) {cs : Array Value} {t : TypeId} (hh : C.w.heap[(C.ρ q).b]? = some (.cells cs t (0, 0))) (k m : Nat) :
    ∃ us : List Value, us.length = ((xs.drop k).take m).length ∧ Rvs C ((xs.drop k).take m) (fun j y => us[j]? = some y) 0 ∧ (∀ j y, us[j]? = some y → cs[(C.ρ q).off + k + j]? = some y) ∧ ∀ u ∈ us, u.oneCell' = true := by
  obtain ⟨cs', t', h1, _, _, _, h5, h6, _⟩ := hS.obj q _ h
  rw [hh] at h1
  cases h1
  have hr := Rvs_take (Rvs_drop h5 k) m
  have h6' : ((xs.drop k).take m).all AVal.one = true := by
    rw [List.all_eq_true] at *
    exact fun b hb => h6 b (List.mem_of_mem_drop (List.mem_of_mem_take hb))
  obtain ⟨us, k1, k2, k3, k4⟩ := one_list hr h6'
  exact ⟨us, k1, k2, fun j y hj => by have := k3 j y hj; rw [Nat.add_assoc]; exact this, k4⟩
theorem take_cells {cs olds : List Value} {k : Nat} (hk : k + olds.length ≤ cs.length) (h : ∀ j v, olds[j]? = some v → cs[k + j]? = some v) : cs.take (k + olds.length) = cs.take k ++ olds := by
  apply List.ext_getElem?
  intro j
  rw [List.getElem?_take]
  by_cases hj : j < k
  · rw [if_pos (by omega), List.getElem?_append_left (by simp; omega), List.getElem?_take, if_pos hj]
  · rw [List.getElem?_append_right (by simp; omega), List.length_take, Nat.min_eq_left (by omega)]
    by_cases hj2 : j < k + olds.length
    · rw [if_pos hj2]
      have := h (j - k) olds[j - k] (List.getElem?_eq_getElem (by omega))
      rw [show k + (j - k) = j by omega] at this
      rw [this, List.getElem?_eq_getElem (by omega)]
    · rw [if_neg hj2, List.getElem?_eq_none (by omega)]
theorem spl_insert {cs : List Value} {k : Nat} {olds vals mid : List Value} (hk : k + olds.length + vals.length + mid.length ≤ cs.length) (h : ∀ j v, olds[j]? = some v → cs[k + j]? = some v) :
    (spl (spl cs (k + olds.length + vals.length) mid).toList (k + olds.length) vals).toList = cs.take k ++ (olds ++ vals ++ mid) ++ cs.drop (k + olds.length + vals.length + mid.length) := by
  unfold spl
  simp only [List.append_assoc]
  rw [List.take_append_of_le_length (by simp; omega), List.take_take, Nat.min_eq_left (by omega), take_cells (by omega) h]
  rw [List.drop_append, List.drop_take]
  simp only [List.length_take]
  rw [Nat.min_eq_left (by omega), Nat.sub_self]
  simp
theorem insert_callsA {S : List AObj} {o ep off len o2 ep2 off2 : Nat} {xs ys : List AVal} {fz2 : Option Nat} (i : Nat) (ho : S[o]? = some (.row 2 ep none xs)) (ho2 : S[o2]? = some (.row 2 ep2 fz2 ys)) (hne : o ≠ o2)
    (hx : (off + len) * 2 = xs.length) (hy : (off2 + 1) * 2 ≤ ys.length) (hi : i < len) (hbig : (len + 1) * 16 ≤ 140737488355328) :
    CallsA Try.prog 65 [.row o ep 2 off len, .v (.int .i64 (i : Int)), .row o2 ep2 2 off2 1] S (.row o (ep + 1) 2 0 (len + 1))
      (S.set o (.row 2 (ep + 1) none ((xs.drop (off * 2)).take (i * 2) ++ (ys.drop (off2 * 2)).take 2 ++ (xs.drop ((off + i) * 2)).take ((len - i) * 2)))) := by
  intro C vs hCS hS hs hr
  subst hCS
  obtain ⟨u, v, x, rfl, h1, h2, h3⟩ := vs_threeV (by simpa using hs) hr
  simp only [Rv] at h1 h2 h3
  subst h2
  obtain ⟨a, c, rfl, hlc, q1, e1, k1, k2, _, k4⟩ := h1
  obtain ⟨a2, c2, rfl, hlc2, q2, e2, l1, l2, _, l4⟩ := h3
  rw [ho] at k1; cases k1
  rw [ho2] at l1; cases l1
  simp only [AObj.ep?, Option.some.injEq] at k2 l2
  subst k2 l2
  obtain ⟨cs, t, hh, hs1, hs2, _, hrs, hone, _⟩ := hS.obj o _ ho
  obtain ⟨ds, t2, hh2, hd1, hd2, _, hrd, hone2, _⟩ := hS.obj o2 _ ho2
  obtain ⟨rfl, hcap⟩ : a = ⟨(C.ρ o).b, (C.ρ o).off + off * 2, none⟩ ∧ off + c ≤ (C.ρ o).cap := by
    rcases k4 rfl with h | ⟨h, _⟩
    · exact h
    · omega
  obtain ⟨rfl, hcap2⟩ : a2 = ⟨(C.ρ o2).b, (C.ρ o2).off + off2 * 2, none⟩ ∧ off2 + c2 ≤ (C.ρ o2).cap := by
    rcases l4 rfl with h | ⟨h, _⟩
    · exact h
    · omega
  have hbne : (C.ρ o2).b ≠ (C.ρ o).b := fun h => hne (hS.inj o o2 _ _ _ _ ho ho2 rfl rfl h.symm)
  obtain ⟨olds, ol, or_, oc, o1⟩ := piece hS ho hh (off * 2) (i * 2)
  obtain ⟨mid, ml, mr, mc, m1⟩ := piece hS ho hh ((off + i) * 2) ((len - i) * 2)
  obtain ⟨vals, vl, vr, vc, v1⟩ := piece hS ho2 hh2 (off2 * 2) 2
  have ol' : olds.length = i * 2 := by rw [ol]; simp; omega
  have ml' : mid.length = (len - i) * 2 := by rw [ml]; simp; omega
  have vl' : vals.length = 2 := by rw [vl]; simp; omega
  have hnone : ∀ j, ¬ C.ok (C.ρ o).b j := fun j hj => by
    obtain ⟨_, _, _, _, hx, _⟩ := hS.okRow _ _ hj o _ _ ho rfl rfl
    cases hx
  have honeN : ((xs.drop (off * 2)).take (i * 2) ++ (ys.drop (off2 * 2)).take 2 ++ (xs.drop ((off + i) * 2)).take ((len - i) * 2)).all AVal.one = true := by
    rw [List.all_eq_true] at *
    intro b hb
    rcases List.mem_append.1 hb with hb | hb
    · rcases List.mem_append.1 hb with hb | hb
      · exact hone b (List.mem_of_mem_drop (List.mem_of_mem_take hb))
      · exact hone2 b (List.mem_of_mem_drop (List.mem_of_mem_take hb))
    · exact hone b (List.mem_of_mem_drop (List.mem_of_mem_take hb))
  have hlenN : ((xs.drop (off * 2)).take (i * 2) ++ (ys.drop (off2 * 2)).take 2 ++ (xs.drop ((off + i) * 2)).take ((len - i) * 2)).length = (len + 1) * 2 := by
    simp only [List.length_append, ← ol, ← ml, ← vl, ol', ml', vl']
    omega
  have hrelN : Rvs C ((xs.drop (off * 2)).take (i * 2) ++ (ys.drop (off2 * 2)).take 2 ++ (xs.drop ((off + i) * 2)).take ((len - i) * 2)) (fun j y => (olds ++ vals ++ mid)[j]? = some y) 0 := by
    refine Rvs_append (Rvs_append (Rvs_mono (Grows.refl C) _ _ _ _ (fun j y hj => ?_) or_) (Rvs_mono (Grows.refl C) _ _ _ _ (fun j y hj => ?_) vr)) (Rvs_mono (Grows.refl C) _ _ _ _ (fun j y hj => ?_) mr)
    · have := (List.getElem?_eq_some_iff.1 hj).1
      rw [List.append_assoc, List.getElem?_append_left this]
      exact hj
    · have := (List.getElem?_eq_some_iff.1 hj).1
      simp only [Nat.zero_add, ← ol]
      rw [List.append_assoc, List.getElem?_append_right (by omega), Nat.add_sub_cancel_left, List.getElem?_append_left this]
      exact hj
    · simp only [Nat.zero_add, List.length_append, ← ol, ← vl]
      rw [List.getElem?_append_right (by simp), List.length_append, Nat.add_sub_cancel_left]
      exact hj
  generalize hxN : (xs.drop (off * 2)).take (i * 2) ++ (ys.drop (off2 * 2)).take 2 ++ (xs.drop ((off + i) * 2)).take ((len - i) * 2) = xN at *
  by_cases hroom : len + 1 ≤ c
  · refine (insert_room (C.ρ o).b ((C.ρ o).off + off * 2) len c i (C.ρ o2).b ((C.ρ o2).off + off2 * 2) c2 cs ds t t2 C.w mid vals hi hroom hbig hbne hh hh2 (by omega) (by omega) ml'
      (fun j v hj => by have := mc j v hj; rw [Nat.add_mul] at this; rw [← this]; congr 1; omega) vl' (fun j v hj => vc j v hj) m1 v1).mono ?_
    rintro e w' ⟨rfl, rfl⟩
    have hA := spl_insert (cs := cs.toList) (k := (C.ρ o).off + off * 2) (olds := olds) (vals := vals) (mid := mid) (by rw [ol', vl', ml']; simp; omega) (fun j v hj => by simpa using oc j v hj)
    rw [ol', vl', ml'] at hA
    rw [show (C.ρ o).off + off * 2 + i * 2 + 2 = (C.ρ o).off + off * 2 + (i + 1) * 2 by omega] at hA
    generalize spl (spl cs.toList ((C.ρ o).off + off * 2 + (i + 1) * 2) mid).toList ((C.ρ o).off + off * 2 + i * 2) vals = A2 at hA ⊢
    have hAs : A2.size = cs.size := by
      rw [← Array.length_toList, hA]
      simp only [List.length_append, List.length_take, List.length_drop, Array.length_toList, ol', vl', ml']
      omega
    obtain ⟨hS1, hE1⟩ := same_heap hS C.w.drew rfl rfl rfl rfl
    obtain ⟨ρ', g2, g3, g4⟩ := turned hS1 o (.row 2 ep none xs) (.row 2 (ep + 1) none xN) ep (ep + 1) ho rfl rfl A2 ⟨(C.ρ o).b, (C.ρ o).off + off * 2, (C.ρ o).cap - off⟩ rfl (.inr (Nat.lt_succ_self _))
      (fun j hj => absurd hj (hnone j)) (fun C' g hw hρ hok' => by
      refine ⟨A2, t, by rw [hρ, hw]; exact setRow_heap _ _ _ _ _ _ hh, by rw [hρ, hAs]; simp only; rw [Nat.sub_mul]; omega, by rw [hρ, hlenN]; exact Nat.mul_le_mul_right _ (by simp only; omega), by omega, ?_, honeN, fun k hk => by cases hk⟩
      rw [hρ]
      refine Rvs_mono (hE1.grows.trans g) _ _ _ _ (fun j y hj => ?_) hrelN
      simp only [Nat.zero_add] at hj ⊢
      have hlt := (List.getElem?_eq_some_iff.1 hj).1
      rw [← Array.getElem?_toList, hA, List.append_assoc, List.getElem?_append_right (by simp only [List.length_take, Array.length_toList]; omega), List.length_take, Array.length_toList, Nat.min_eq_left (by omega), Nat.add_sub_cancel_left, List.getElem?_append_left hlt]
      exact hj)
    refine ⟨_, _, rfl, rfl, rfl, g2, hE1.trans g3, ?_⟩
    simp only [Rv]
    refine ⟨_, _, rfl, hroom, .row 2 (ep + 1) none xN, ep + 1, ?_, rfl, Nat.le_refl _, fun _ => .inl ?_⟩
    · rw [List.getElem?_set, if_pos rfl, if_pos (List.getElem?_eq_some_iff.1 ho).1]
    · rw [g4]
      exact ⟨by simp, by simp only; omega⟩
  · refine (insert_grow (C.ρ o).b ((C.ρ o).off + off * 2) len c i (C.ρ o2).b ((C.ρ o2).off + off2 * 2) c2 cs ds t t2 C.w olds mid vals hi hlc (by omega) hbig hh hh2 (by omega) (by omega) ol' (fun j v hj => oc j v hj) ml'
      (fun j v hj => by have := mc j v hj; rw [Nat.add_mul] at this; rw [← this]; congr 1; omega) vl' (fun j v hj => vc j v hj) m1 v1).mono ?_
    rintro e w' ⟨G, R, W', rfl, hG, f1, f2, f3, f4, rfl, hRs, rest, hRl⟩
    obtain ⟨ρ', g2, g3, g4⟩ := moved hS o (.row 2 ep none xs) (.row 2 (ep + 1) none xN) ep (ep + 1) ho rfl rfl (Nat.lt_succ_self _) R 23 G W' f1 f2 f3 f4 (fun C' g hw hρ hok' => by
      refine ⟨R, 23, by rw [hρ, hw, ← f1]; exact World.alloc_heap_new W' _, by rw [hρ, hRs]; simp, by rw [hρ, hlenN]; exact Nat.mul_le_mul_right _ hG, by omega, ?_, honeN, fun k hk => by cases hk⟩
      rw [hρ]
      refine Rvs_mono g _ _ _ _ (fun j y hj => ?_) hrelN
      simp only [Nat.zero_add]
      have := (List.getElem?_eq_some_iff.1 hj).1
      rw [← Array.getElem?_toList, hRl, List.getElem?_append_left this]
      exact hj)
    refine ⟨_, _, rfl, rfl, rfl, g2, g3, ?_⟩
    simp only [Rv]
    refine ⟨_, _, rfl, hG, .row 2 (ep + 1) none xN, ep + 1, ?_, rfl, Nat.le_refl _, fun _ => .inl ?_⟩
    · rw [List.getElem?_set, if_pos rfl, if_pos (List.getElem?_eq_some_iff.1 ho).1]
    · rw [g4]
      exact ⟨by simp, by simp⟩
end Go.Proofs.Ytmopbegmdegooaa
/- line.Simple: its rounds, and its call. -/
namespace Go.Proofs.Ytmopbegmdegooaa
open Go Vm M
set_option linter.unusedVariables false
set_option linter.unusedSimpArgs false
def siT (ps : List P2) (i : Int) : List AVal := [slA ps] ++ jk 2 ++ [iA (IntKind.i64.wrap ((ps.length : Int) - 2)), bA true, iA i] ++ jk 66
def siU (ps : List P2) (i k : Int) : List AVal := [slA ps] ++ jk 2 ++ [iA (IntKind.i64.wrap ((ps.length : Int) - 2)), bA true, iA i, iA k] ++ jk 65
def siX : List AVal := jk 4 ++ [bA false] ++ jk 67
def siV (ps : List P2) (i k : Int) : List AVal := [slA ps] ++ jk 2 ++ [iA (IntKind.i64.wrap ((ps.length : Int) - 2)), bA true, iA i, iA k] ++ jk 23 ++ [bA false] ++ jk 41
def siK (L : Lib Try.prog) (ps : List P2) (i : Int) (k : Int) (v : Int) (cl : Bool) : AExit × List AVal × List AObj :=
  (bif decide (k ≤ IntKind.i64.wrap ((↑(List.length ps) : Int) - 2)) then (bif k == IntKind.i64.wrap (i + 1) then (bif v != 1 then (AExit.exit 0, ((jk 4 ++ [bA false] ++ jk 67), [])) else (AExit.normal, (([slA ps, AVal.junk, AVal.junk, iA (IntKind.i64.wrap ((↑(List.length ps) : Int) - 2)), bA true, iA i, iA (IntKind.i64.wrap (k + 1))] ++ jk 65), []))) else (bif i == 0 then (bif k == IntKind.i64.wrap ((↑(List.length ps) : Int) - 2) then (bif cl then (bif v != 1 then (AExit.exit 0, ((jk 4 ++ [bA false] ++ jk 67), [])) else (AExit.normal, (([slA ps, AVal.junk, AVal.junk, iA (IntKind.i64.wrap ((↑(List.length ps) : Int) - 2)), bA true, iA i, iA (IntKind.i64.wrap (k + 1))] ++ jk 65), []))) else (bif v != 0 then (AExit.exit 0, ((jk 4 ++ [bA false] ++ jk 67), [])) else (AExit.normal, (([slA ps, AVal.junk, AVal.junk, iA (IntKind.i64.wrap ((↑(List.length ps) : Int) - 2)), bA true, iA i, iA (IntKind.i64.wrap (k + 1))] ++ jk 65), [])))) else (bif v != 0 then (AExit.exit 0, ((jk 4 ++ [bA false] ++ jk 67), [])) else (AExit.normal, (([slA ps, AVal.junk, AVal.junk, iA (IntKind.i64.wrap ((↑(List.length ps) : Int) - 2)), bA true, iA i, iA (IntKind.i64.wrap (k + 1))] ++ jk 65), [])))) else (bif v != 0 then (AExit.exit 0, ((jk 4 ++ [bA false] ++ jk 67), [])) else (AExit.normal, (([slA ps, AVal.junk, AVal.junk, iA (IntKind.i64.wrap ((↑(List.length ps) : Int) - 2)), bA true, iA i, iA (IntKind.i64.wrap (k + 1))] ++ jk 65), []))))) else (AExit.exit 2, (([slA ps, AVal.junk, AVal.junk, iA (IntKind.i64.wrap ((↑(List.length ps) : Int) - 2)), bA true, iA i, iA k] ++ jk 23 ++ [bA false] ++ jk 41), [])))
theorem siK_eq (L : Lib Try.prog) (ps : List P2) (i : Int) (k : Int) (v : Int) (cl : Bool) (b0 : (decide (k ≤ IntKind.i64.wrap ((↑(List.length ps) : Int) - 2))) = true → (0 : Int) ≤ i ∧ (i : Int) < (↑(List.length ps) : Int)) (b1 : (decide (k ≤ IntKind.i64.wrap ((↑(List.length ps) : Int) - 2))) = true → (0 : Int) ≤ IntKind.i64.wrap (i + 1) ∧ (IntKind.i64.wrap (i + 1) : Int) < (↑(List.length ps) : Int)) (b2 : (decide (k ≤ IntKind.i64.wrap ((↑(List.length ps) : Int) - 2))) = true → (0 : Int) ≤ k ∧ (k : Int) < (↑(List.length ps) : Int)) (b3 : (decide (k ≤ IntKind.i64.wrap ((↑(List.length ps) : Int) - 2))) = true → (0 : Int) ≤ IntKind.i64.wrap (k + 1) ∧ (IntKind.i64.wrap (k + 1) : Int) < (↑(List.length ps) : Int)) (e0 : (decide (k ≤ IntKind.i64.wrap ((↑(List.length ps) : Int) - 2))) = true → pureCall (cf L) (evalF (cf L) 201) 18 [ptP (pAt ps (Int.toNat i)), ptP (pAt ps (Int.toNat (IntKind.i64.wrap (i + 1)))), ptP (pAt ps (Int.toNat k)), ptP (pAt ps (Int.toNat (IntKind.i64.wrap (k + 1))))] = some (iP v)) (e1 : (decide (k ≤ IntKind.i64.wrap ((↑(List.length ps) : Int) - 2))) = true → (k == IntKind.i64.wrap (i + 1)) = false → (i == 0) = true → (k == IntKind.i64.wrap ((↑(List.length ps) : Int) - 2)) = true → pureCall (cf L) (evalF (cf L) 201) 34 [slP ps] = some (bP cl)) : roundC 0 (evalC (cf L) (evalF (cf L) 201) (Option.getD (List.lookup 36 lives) []) 0 0 201 (loopAt Try.f36 1)) (siU ps i k) ([]) = some (siK L ps i k v cl) := by
  have key := fun (bs : List Bool) (r : AExit × List AVal × List AObj) (ob : List Prop) (h : roundP (cf L) (evalF (cf L) 201) (Option.getD (List.lookup 36 lives) []) 0 0 201 [(9999, 0, Hint.idx), (12, 14, Hint.pcall (bP cl)), (14, 18, Hint.pcall (iP v))] (loopAt Try.f36 1) (siU ps i k) ([]) bs [] = .ok (r.1, r.2.1, r.2.2, ob)) (hp : allOb ob) => roundP_ok h hp
  unfold siK
  exact bif_case (P := fun r => roundC 0 (evalC (cf L) (evalF (cf L) 201) (Option.getD (List.lookup 36 lives) []) 0 0 201 (loopAt Try.f36 1)) (siU ps i k) ([]) = some r)
    (fun h0 => bif_case (P := fun r => roundC 0 (evalC (cf L) (evalF (cf L) 201) (Option.getD (List.lookup 36 lives) []) 0 0 201 (loopAt Try.f36 1)) (siU ps i k) ([]) = some r)
     (fun h1 => bif_case (P := fun r => roundC 0 (evalC (cf L) (evalF (cf L) 201) (Option.getD (List.lookup 36 lives) []) 0 0 201 (loopAt Try.f36 1)) (siU ps i k) ([]) = some r)
      (fun h2 => key [true, true, true, true] ((AExit.exit 0, ((jk 4 ++ [bA false] ++ jk 67), []))) _ (by kernel_rfl) (allOb_cons (show Plain (List.replicate 21 AObj.free) from by simp only [Plain, List.all_append, List.all_cons, List.all_nil, plainO, upL_flatPP, flatP_plain, Nat.zero_mul, List.drop_zero] <;> rfl) (allOb_cons h2 (allOb_cons (by exact (e0 h0)) (allOb_cons (part_pt (b3 h0)) (allOb_cons (idx_ok (b3 h0)) (allOb_cons (part_pt (b2 h0)) (allOb_cons (idx_ok (b2 h0)) (allOb_cons (part_pt (b1 h0)) (allOb_cons (idx_ok (b1 h0)) (allOb_cons (part_pt (b0 h0)) (allOb_cons (idx_ok (b0 h0)) (allOb_cons lit_t (allOb_cons h1 (allOb_cons h0 allOb_nil)))))))))))))))
      (fun h2 => key [true, true, true, false] ((AExit.normal, (([slA ps, AVal.junk, AVal.junk, iA (IntKind.i64.wrap ((↑(List.length ps) : Int) - 2)), bA true, iA i, iA (IntKind.i64.wrap (k + 1))] ++ jk 65), []))) _ (by kernel_rfl) (allOb_cons (show Plain (List.replicate 21 AObj.free) from by simp only [Plain, List.all_append, List.all_cons, List.all_nil, plainO, upL_flatPP, flatP_plain, Nat.zero_mul, List.drop_zero] <;> rfl) (allOb_cons h2 (allOb_cons (by exact (e0 h0)) (allOb_cons (part_pt (b3 h0)) (allOb_cons (idx_ok (b3 h0)) (allOb_cons (part_pt (b2 h0)) (allOb_cons (idx_ok (b2 h0)) (allOb_cons (part_pt (b1 h0)) (allOb_cons (idx_ok (b1 h0)) (allOb_cons (part_pt (b0 h0)) (allOb_cons (idx_ok (b0 h0)) (allOb_cons lit_t (allOb_cons h1 (allOb_cons h0 allOb_nil))))))))))))))))
     (fun h1 => bif_case (P := fun r => roundC 0 (evalC (cf L) (evalF (cf L) 201) (Option.getD (List.lookup 36 lives) []) 0 0 201 (loopAt Try.f36 1)) (siU ps i k) ([]) = some r)
      (fun h2 => bif_case (P := fun r => roundC 0 (evalC (cf L) (evalF (cf L) 201) (Option.getD (List.lookup 36 lives) []) 0 0 201 (loopAt Try.f36 1)) (siU ps i k) ([]) = some r)
       (fun h3 => bif_case (P := fun r => roundC 0 (evalC (cf L) (evalF (cf L) 201) (Option.getD (List.lookup 36 lives) []) 0 0 201 (loopAt Try.f36 1)) (siU ps i k) ([]) = some r)
        (fun h4 => bif_case (P := fun r => roundC 0 (evalC (cf L) (evalF (cf L) 201) (Option.getD (List.lookup 36 lives) []) 0 0 201 (loopAt Try.f36 1)) (siU ps i k) ([]) = some r)
         (fun h5 => key [true, false, true, true, true, true] ((AExit.exit 0, ((jk 4 ++ [bA false] ++ jk 67), []))) _ (by kernel_rfl) (allOb_cons (show Plain (List.replicate 21 AObj.free) from by simp only [Plain, List.all_append, List.all_cons, List.all_nil, plainO, upL_flatPP, flatP_plain, Nat.zero_mul, List.drop_zero] <;> rfl) (allOb_cons h5 (allOb_cons (by exact (e0 h0)) (allOb_cons (part_pt (b3 h0)) (allOb_cons (idx_ok (b3 h0)) (allOb_cons (part_pt (b2 h0)) (allOb_cons (idx_ok (b2 h0)) (allOb_cons (part_pt (b1 h0)) (allOb_cons (idx_ok (b1 h0)) (allOb_cons (part_pt (b0 h0)) (allOb_cons (idx_ok (b0 h0)) (allOb_cons h4 (allOb_cons (by exact (e1 h0 h1 h2 h3)) (allOb_cons h3 (allOb_cons h2 (allOb_cons h1 (allOb_cons h0 allOb_nil))))))))))))))))))
         (fun h5 => key [true, false, true, true, true, false] ((AExit.normal, (([slA ps, AVal.junk, AVal.junk, iA (IntKind.i64.wrap ((↑(List.length ps) : Int) - 2)), bA true, iA i, iA (IntKind.i64.wrap (k + 1))] ++ jk 65), []))) _ (by kernel_rfl) (allOb_cons (show Plain (List.replicate 21 AObj.free) from by simp only [Plain, List.all_append, List.all_cons, List.all_nil, plainO, upL_flatPP, flatP_plain, Nat.zero_mul, List.drop_zero] <;> rfl) (allOb_cons h5 (allOb_cons (by exact (e0 h0)) (allOb_cons (part_pt (b3 h0)) (allOb_cons (idx_ok (b3 h0)) (allOb_cons (part_pt (b2 h0)) (allOb_cons (idx_ok (b2 h0)) (allOb_cons (part_pt (b1 h0)) (allOb_cons (idx_ok (b1 h0)) (allOb_cons (part_pt (b0 h0)) (allOb_cons (idx_ok (b0 h0)) (allOb_cons h4 (allOb_cons (by exact (e1 h0 h1 h2 h3)) (allOb_cons h3 (allOb_cons h2 (allOb_cons h1 (allOb_cons h0 allOb_nil)))))))))))))))))))
        (fun h4 => bif_case (P := fun r => roundC 0 (evalC (cf L) (evalF (cf L) 201) (Option.getD (List.lookup 36 lives) []) 0 0 201 (loopAt Try.f36 1)) (siU ps i k) ([]) = some r)
         (fun h5 => key [true, false, true, true, false, true] ((AExit.exit 0, ((jk 4 ++ [bA false] ++ jk 67), []))) _ (by kernel_rfl) (allOb_cons (show Plain (List.replicate 21 AObj.free) from by simp only [Plain, List.all_append, List.all_cons, List.all_nil, plainO, upL_flatPP, flatP_plain, Nat.zero_mul, List.drop_zero] <;> rfl) (allOb_cons h5 (allOb_cons (by exact (e0 h0)) (allOb_cons (part_pt (b3 h0)) (allOb_cons (idx_ok (b3 h0)) (allOb_cons (part_pt (b2 h0)) (allOb_cons (idx_ok (b2 h0)) (allOb_cons (part_pt (b1 h0)) (allOb_cons (idx_ok (b1 h0)) (allOb_cons (part_pt (b0 h0)) (allOb_cons (idx_ok (b0 h0)) (allOb_cons h4 (allOb_cons (by exact (e1 h0 h1 h2 h3)) (allOb_cons h3 (allOb_cons h2 (allOb_cons h1 (allOb_cons h0 allOb_nil))))))))))))))))))
         (fun h5 => key [true, false, true, true, false, false] ((AExit.normal, (([slA ps, AVal.junk, AVal.junk, iA (IntKind.i64.wrap ((↑(List.length ps) : Int) - 2)), bA true, iA i, iA (IntKind.i64.wrap (k + 1))] ++ jk 65), []))) _ (by kernel_rfl) (allOb_cons (show Plain (List.replicate 21 AObj.free) from by simp only [Plain, List.all_append, List.all_cons, List.all_nil, plainO, upL_flatPP, flatP_plain, Nat.zero_mul, List.drop_zero] <;> rfl) (allOb_cons h5 (allOb_cons (by exact (e0 h0)) (allOb_cons (part_pt (b3 h0)) (allOb_cons (idx_ok (b3 h0)) (allOb_cons (part_pt (b2 h0)) (allOb_cons (idx_ok (b2 h0)) (allOb_cons (part_pt (b1 h0)) (allOb_cons (idx_ok (b1 h0)) (allOb_cons (part_pt (b0 h0)) (allOb_cons (idx_ok (b0 h0)) (allOb_cons h4 (allOb_cons (by exact (e1 h0 h1 h2 h3)) (allOb_cons h3 (allOb_cons h2 (allOb_cons h1 (allOb_cons h0 allOb_nil))))))))))))))))))))
       (fun h3 => bif_case (P := fun r => roundC 0 (evalC (cf L) (evalF (cf L) 201) (Option.getD (List.lookup 36 lives) []) 0 0 201 (loopAt Try.f36 1)) (siU ps i k) ([]) = some r)
        (fun h4 => key [true, false, true, false, false, true] ((AExit.exit 0, ((jk 4 ++ [bA false] ++ jk 67), []))) _ (by kernel_rfl) (allOb_cons (show Plain (List.replicate 21 AObj.free) from by simp only [Plain, List.all_append, List.all_cons, List.all_nil, plainO, upL_flatPP, flatP_plain, Nat.zero_mul, List.drop_zero] <;> rfl) (allOb_cons h4 (allOb_cons (by exact (e0 h0)) (allOb_cons (part_pt (b3 h0)) (allOb_cons (idx_ok (b3 h0)) (allOb_cons (part_pt (b2 h0)) (allOb_cons (idx_ok (b2 h0)) (allOb_cons (part_pt (b1 h0)) (allOb_cons (idx_ok (b1 h0)) (allOb_cons (part_pt (b0 h0)) (allOb_cons (idx_ok (b0 h0)) (allOb_cons lit_f (allOb_cons h3 (allOb_cons h2 (allOb_cons h1 (allOb_cons h0 allOb_nil)))))))))))))))))
        (fun h4 => key [true, false, true, false, false, false] ((AExit.normal, (([slA ps, AVal.junk, AVal.junk, iA (IntKind.i64.wrap ((↑(List.length ps) : Int) - 2)), bA true, iA i, iA (IntKind.i64.wrap (k + 1))] ++ jk 65), []))) _ (by kernel_rfl) (allOb_cons (show Plain (List.replicate 21 AObj.free) from by simp only [Plain, List.all_append, List.all_cons, List.all_nil, plainO, upL_flatPP, flatP_plain, Nat.zero_mul, List.drop_zero] <;> rfl) (allOb_cons h4 (allOb_cons (by exact (e0 h0)) (allOb_cons (part_pt (b3 h0)) (allOb_cons (idx_ok (b3 h0)) (allOb_cons (part_pt (b2 h0)) (allOb_cons (idx_ok (b2 h0)) (allOb_cons (part_pt (b1 h0)) (allOb_cons (idx_ok (b1 h0)) (allOb_cons (part_pt (b0 h0)) (allOb_cons (idx_ok (b0 h0)) (allOb_cons lit_f (allOb_cons h3 (allOb_cons h2 (allOb_cons h1 (allOb_cons h0 allOb_nil)))))))))))))))))))
      (fun h2 => bif_case (P := fun r => roundC 0 (evalC (cf L) (evalF (cf L) 201) (Option.getD (List.lookup 36 lives) []) 0 0 201 (loopAt Try.f36 1)) (siU ps i k) ([]) = some r)
       (fun h3 => key [true, false, false, false, false, true] ((AExit.exit 0, ((jk 4 ++ [bA false] ++ jk 67), []))) _ (by kernel_rfl) (allOb_cons (show Plain (List.replicate 21 AObj.free) from by simp only [Plain, List.all_append, List.all_cons, List.all_nil, plainO, upL_flatPP, flatP_plain, Nat.zero_mul, List.drop_zero] <;> rfl) (allOb_cons h3 (allOb_cons (by exact (e0 h0)) (allOb_cons (part_pt (b3 h0)) (allOb_cons (idx_ok (b3 h0)) (allOb_cons (part_pt (b2 h0)) (allOb_cons (idx_ok (b2 h0)) (allOb_cons (part_pt (b1 h0)) (allOb_cons (idx_ok (b1 h0)) (allOb_cons (part_pt (b0 h0)) (allOb_cons (idx_ok (b0 h0)) (allOb_cons lit_f (allOb_cons lit_f (allOb_cons h2 (allOb_cons h1 (allOb_cons h0 allOb_nil)))))))))))))))))
       (fun h3 => key [true, false, false, false, false, false] ((AExit.normal, (([slA ps, AVal.junk, AVal.junk, iA (IntKind.i64.wrap ((↑(List.length ps) : Int) - 2)), bA true, iA i, iA (IntKind.i64.wrap (k + 1))] ++ jk 65), []))) _ (by kernel_rfl) (allOb_cons (show Plain (List.replicate 21 AObj.free) from by simp only [Plain, List.all_append, List.all_cons, List.all_nil, plainO, upL_flatPP, flatP_plain, Nat.zero_mul, List.drop_zero] <;> rfl) (allOb_cons h3 (allOb_cons (by exact (e0 h0)) (allOb_cons (part_pt (b3 h0)) (allOb_cons (idx_ok (b3 h0)) (allOb_cons (part_pt (b2 h0)) (allOb_cons (idx_ok (b2 h0)) (allOb_cons (part_pt (b1 h0)) (allOb_cons (idx_ok (b1 h0)) (allOb_cons (part_pt (b0 h0)) (allOb_cons (idx_ok (b0 h0)) (allOb_cons lit_f (allOb_cons lit_f (allOb_cons h2 (allOb_cons h1 (allOb_cons h0 allOb_nil))))))))))))))))))))
    (fun h0 => key [false] ((AExit.exit 2, (([slA ps, AVal.junk, AVal.junk, iA (IntKind.i64.wrap ((↑(List.length ps) : Int) - 2)), bA true, iA i, iA k] ++ jk 23 ++ [bA false] ++ jk 41), []))) _ (by kernel_rfl) (allOb_cons (show Plain [] from by simp only [Plain, List.all_append, List.all_cons, List.all_nil, plainO, upL_flatPP, flatP_plain, Nat.zero_mul, List.drop_zero] <;> rfl) (allOb_cons h0 allOb_nil)))
def siO (L : Lib Try.prog) (ps : List P2) (i : Int) (k : Int) : AExit × List AVal × List AObj :=
  (bif decide (i ≤ IntKind.i64.wrap ((↑(List.length ps) : Int) - 2)) then (bif eqB (pAt ps (Int.toNat i)) (pAt ps (Int.toNat (IntKind.i64.wrap (i + 1)))) then (AExit.exit 0, ((jk 4 ++ [bA false] ++ jk 67), [])) else (AExit.normal, (([slA ps, AVal.junk, AVal.junk, iA (IntKind.i64.wrap ((↑(List.length ps) : Int) - 2)), bA true, iA (IntKind.i64.wrap (i + 1))] ++ jk 66), []))) else (AExit.exit 0, (([slA ps, AVal.junk, AVal.junk, iA (IntKind.i64.wrap ((↑(List.length ps) : Int) - 2)), bA true, iA i] ++ jk 7 ++ [bA false] ++ jk 58), [])))
theorem siO_eq (L : Lib Try.prog) (ps : List P2) (i : Int) (k : Int) (b0 : (decide (i ≤ IntKind.i64.wrap ((↑(List.length ps) : Int) - 2))) = true → (0 : Int) ≤ i ∧ (i : Int) < (↑(List.length ps) : Int)) (b1 : (decide (i ≤ IntKind.i64.wrap ((↑(List.length ps) : Int) - 2))) = true → (0 : Int) ≤ IntKind.i64.wrap (i + 1) ∧ (IntKind.i64.wrap (i + 1) : Int) < (↑(List.length ps) : Int)) (e0 : (decide (i ≤ IntKind.i64.wrap ((↑(List.length ps) : Int) - 2))) = true → (eqB (pAt ps (Int.toNat i)) (pAt ps (Int.toNat (IntKind.i64.wrap (i + 1))))) = false → iterC 0 (evalC (cf L) (evalF (cf L) 201) ((lives.lookup 36).getD []) 0 0 201 (loopAt Try.f36 1)) 201 ([AVal.list (List.length ps) (flatPP ps), AVal.junk, AVal.junk, iA (IntKind.i64.wrap ((↑(List.length ps) : Int) - 2)), bA true, iA i, iA (IntKind.i64.wrap (i + 1))] ++ jk 65) (List.replicate 10 AObj.free) = some (AExit.exit 2, (([AVal.list (List.length ps) (flatPP ps), AVal.junk, AVal.junk, iA (IntKind.i64.wrap ((↑(List.length ps) : Int) - 2)), bA true, iA i, iA k] ++ jk 23 ++ [bA false] ++ jk 41), []))) : roundC 0 (evalC (cf L) (evalF (cf L) 201) (Option.getD (List.lookup 36 lives) []) 0 0 201 (loopAt Try.f36 0)) (siT ps i) ([]) = some (siO L ps i k) := by
  have key := fun (bs : List Bool) (r : AExit × List AVal × List AObj) (ob : List Prop) (h : roundP (cf L) (evalF (cf L) 201) (Option.getD (List.lookup 36 lives) []) 0 0 201 [(9999, 0, Hint.idx)] (loopAt Try.f36 0) (siT ps i) ([]) bs [(AExit.exit 2, siV ps i k, [])] = .ok (r.1, r.2.1, r.2.2, ob)) (hp : allOb ob) => roundP_ok h hp
  unfold siO
  exact bif_case (P := fun r => roundC 0 (evalC (cf L) (evalF (cf L) 201) (Option.getD (List.lookup 36 lives) []) 0 0 201 (loopAt Try.f36 0)) (siT ps i) ([]) = some r)
    (fun h0 => bif_case (P := fun r => roundC 0 (evalC (cf L) (evalF (cf L) 201) (Option.getD (List.lookup 36 lives) []) 0 0 201 (loopAt Try.f36 0)) (siT ps i) ([]) = some r)
     (fun h1 => key [true, true] ((AExit.exit 0, ((jk 4 ++ [bA false] ++ jk 67), []))) _ (by kernel_rfl) (allOb_cons (show Plain (List.replicate 10 AObj.free) from by simp only [Plain, List.all_append, List.all_cons, List.all_nil, plainO, upL_flatPP, flatP_plain, Nat.zero_mul, List.drop_zero] <;> rfl) (allOb_cons h1 (allOb_cons (part_pt (b1 h0)) (allOb_cons (idx_ok (b1 h0)) (allOb_cons (part_pt (b0 h0)) (allOb_cons (idx_ok (b0 h0)) (allOb_cons h0 allOb_nil))))))))
     (fun h1 => key [true, false] ((AExit.normal, (([slA ps, AVal.junk, AVal.junk, iA (IntKind.i64.wrap ((↑(List.length ps) : Int) - 2)), bA true, iA (IntKind.i64.wrap (i + 1))] ++ jk 66), []))) _ (by kernel_rfl) (allOb_cons (show Plain [] from by simp only [Plain, List.all_append, List.all_cons, List.all_nil, plainO, upL_flatPP, flatP_plain, Nat.zero_mul, List.drop_zero] <;> rfl) (allOb_cons (by exact (e0 h0 h1)) (allOb_cons h1 (allOb_cons (part_pt (b1 h0)) (allOb_cons (idx_ok (b1 h0)) (allOb_cons (part_pt (b0 h0)) (allOb_cons (idx_ok (b0 h0)) (allOb_cons h0 allOb_nil))))))))))
    (fun h0 => key [false] ((AExit.exit 0, (([slA ps, AVal.junk, AVal.junk, iA (IntKind.i64.wrap ((↑(List.length ps) : Int) - 2)), bA true, iA i] ++ jk 7 ++ [bA false] ++ jk 58), []))) _ (by kernel_rfl) (allOb_cons (show Plain [] from by simp only [Plain, List.all_append, List.all_cons, List.all_nil, plainO, upL_flatPP, flatP_plain, Nat.zero_mul, List.drop_zero] <;> rfl) (allOb_cons h0 allOb_nil)))
def siB (L : Lib Try.prog) (ps : List P2) (i : Int) : AExit × List AVal × List AObj :=
  (bif decide (i ≤ IntKind.i64.wrap ((↑(List.length ps) : Int) - 2)) then (bif eqB (pAt ps (Int.toNat i)) (pAt ps (Int.toNat (IntKind.i64.wrap (i + 1)))) then (AExit.exit 0, ((jk 4 ++ [bA false] ++ jk 67), [])) else (AExit.exit 0, ((jk 4 ++ [bA false] ++ jk 67), []))) else (AExit.exit 0, (([slA ps, AVal.junk, AVal.junk, iA (IntKind.i64.wrap ((↑(List.length ps) : Int) - 2)), bA true, iA i] ++ jk 7 ++ [bA false] ++ jk 58), [])))
theorem siB_eq (L : Lib Try.prog) (ps : List P2) (i : Int) (b0 : (decide (i ≤ IntKind.i64.wrap ((↑(List.length ps) : Int) - 2))) = true → (0 : Int) ≤ i ∧ (i : Int) < (↑(List.length ps) : Int)) (b1 : (decide (i ≤ IntKind.i64.wrap ((↑(List.length ps) : Int) - 2))) = true → (0 : Int) ≤ IntKind.i64.wrap (i + 1) ∧ (IntKind.i64.wrap (i + 1) : Int) < (↑(List.length ps) : Int)) (e0 : (decide (i ≤ IntKind.i64.wrap ((↑(List.length ps) : Int) - 2))) = true → (eqB (pAt ps (Int.toNat i)) (pAt ps (Int.toNat (IntKind.i64.wrap (i + 1))))) = false → iterC 0 (evalC (cf L) (evalF (cf L) 201) ((lives.lookup 36).getD []) 0 0 201 (loopAt Try.f36 1)) 201 ([AVal.list (List.length ps) (flatPP ps), AVal.junk, AVal.junk, iA (IntKind.i64.wrap ((↑(List.length ps) : Int) - 2)), bA true, iA i, iA (IntKind.i64.wrap (i + 1))] ++ jk 65) (List.replicate 10 AObj.free) = some (AExit.exit 0, ((jk 4 ++ [bA false] ++ jk 67), []))) : roundC 0 (evalC (cf L) (evalF (cf L) 201) (Option.getD (List.lookup 36 lives) []) 0 0 201 (loopAt Try.f36 0)) (siT ps i) ([]) = some (siB L ps i) := by
  have key := fun (bs : List Bool) (r : AExit × List AVal × List AObj) (ob : List Prop) (h : roundP (cf L) (evalF (cf L) 201) (Option.getD (List.lookup 36 lives) []) 0 0 201 [(9999, 0, Hint.idx)] (loopAt Try.f36 0) (siT ps i) ([]) bs [(AExit.exit 0, siX, [])] = .ok (r.1, r.2.1, r.2.2, ob)) (hp : allOb ob) => roundP_ok h hp
  unfold siB
  exact bif_case (P := fun r => roundC 0 (evalC (cf L) (evalF (cf L) 201) (Option.getD (List.lookup 36 lives) []) 0 0 201 (loopAt Try.f36 0)) (siT ps i) ([]) = some r)
    (fun h0 => bif_case (P := fun r => roundC 0 (evalC (cf L) (evalF (cf L) 201) (Option.getD (List.lookup 36 lives) []) 0 0 201 (loopAt Try.f36 0)) (siT ps i) ([]) = some r)
     (fun h1 => key [true, true] ((AExit.exit 0, ((jk 4 ++ [bA false] ++ jk 67), []))) _ (by kernel_rfl) (allOb_cons (show Plain (List.replicate 10 AObj.free) from by simp only [Plain, List.all_append, List.all_cons, List.all_nil, plainO, upL_flatPP, flatP_plain, Nat.zero_mul, List.drop_zero] <;> rfl) (allOb_cons h1 (allOb_cons (part_pt (b1 h0)) (allOb_cons (idx_ok (b1 h0)) (allOb_cons (part_pt (b0 h0)) (allOb_cons (idx_ok (b0 h0)) (allOb_cons h0 allOb_nil))))))))
     (fun h1 => key [true, false] ((AExit.exit 0, ((jk 4 ++ [bA false] ++ jk 67), []))) _ (by kernel_rfl) (allOb_cons (show Plain [] from by simp only [Plain, List.all_append, List.all_cons, List.all_nil, plainO, upL_flatPP, flatP_plain, Nat.zero_mul, List.drop_zero] <;> rfl) (allOb_cons (by exact (e0 h0 h1)) (allOb_cons h1 (allOb_cons (part_pt (b1 h0)) (allOb_cons (idx_ok (b1 h0)) (allOb_cons (part_pt (b0 h0)) (allOb_cons (idx_ok (b0 h0)) (allOb_cons h0 allOb_nil))))))))))
    (fun h0 => key [false] ((AExit.exit 0, (([slA ps, AVal.junk, AVal.junk, iA (IntKind.i64.wrap ((↑(List.length ps) : Int) - 2)), bA true, iA i] ++ jk 7 ++ [bA false] ++ jk 58), []))) _ (by kernel_rfl) (allOb_cons (show Plain [] from by simp only [Plain, List.all_append, List.all_cons, List.all_nil, plainO, upL_flatPP, flatP_plain, Nat.zero_mul, List.drop_zero] <;> rfl) (allOb_cons h0 allOb_nil)))
def siE (ps : List P2) (i : Int) : List AVal := [slA ps] ++ jk 2 ++ [iA (IntKind.i64.wrap ((ps.length : Int) - 2)), bA true, iA i] ++ jk 7 ++ [bA false] ++ jk 58
def siAx (L : Lib Try.prog) (ps : List P2) : PVal :=
  bP false
theorem siAx_calls (L : Lib Try.prog) (ps : List P2) (e0 : iterC 0 (evalC (cf L) (evalF (cf L) 201) ((lives.lookup 36).getD []) 0 0 201 (loopAt Try.f36 0)) 201 ([AVal.list (List.length ps) (flatPP ps), AVal.junk, AVal.junk, iA (IntKind.i64.wrap ((↑(List.length ps) : Int) - 2)), bA true, iA 0] ++ jk 66) [] = some (AExit.exit 0, ((jk 4 ++ [bA false] ++ jk 67), []))) : CallsP Try.prog 36 [slP ps] (siAx L ps) := by
  have key := fun (bs : List Bool) (r : PVal) (ob : List Prop) (h : callP (cf L) (evalF (cf L) 201) 201 [(9999, 0, Hint.idx)] 36 [slP ps] bs [(AExit.exit 0, siX, [])] (none) = .ok (r, ob)) (hp : allOb ob) => callP_ok (cf_ok L) h hp
  unfold siAx
  exact key [] (bP false) _ (by kernel_rfl) (allOb_cons (by exact e0) allOb_nil)
def siAe (L : Lib Try.prog) (ps : List P2) (i : Int) : PVal :=
  bP true
theorem siAe_calls (L : Lib Try.prog) (ps : List P2) (i : Int) (e0 : iterC 0 (evalC (cf L) (evalF (cf L) 201) ((lives.lookup 36).getD []) 0 0 201 (loopAt Try.f36 0)) 201 ([AVal.list (List.length ps) (flatPP ps), AVal.junk, AVal.junk, iA (IntKind.i64.wrap ((↑(List.length ps) : Int) - 2)), bA true, iA 0] ++ jk 66) [] = some (AExit.exit 0, (([AVal.list (List.length ps) (flatPP ps), AVal.junk, AVal.junk, iA (IntKind.i64.wrap ((↑(List.length ps) : Int) - 2)), bA true, iA i] ++ jk 7 ++ [bA false] ++ jk 58), []))) : CallsP Try.prog 36 [slP ps] (siAe L ps i) := by
  have key := fun (bs : List Bool) (r : PVal) (ob : List Prop) (h : callP (cf L) (evalF (cf L) 201) 201 [(9999, 0, Hint.idx)] 36 [slP ps] bs [(AExit.exit 0, siE ps i, [])] (none) = .ok (r, ob)) (hp : allOb ob) => callP_ok (cf_ok L) h hp
  unfold siAe
  exact key [] (bP true) _ (by kernel_rfl) (allOb_cons (by exact e0) allOb_nil)
def ok62 (L : Lib Try.prog) (p : P2) (j : Bool) : PVal :=
  bP !j
theorem ok62_calls (L : Lib Try.prog) (p : P2) (j : Bool) (e0 : pureCall (cf L) (evalF (cf L) 1) 63 [ptP p] = some (bP j)) : CallsP Try.prog 62 [ptP p] (ok62 L p j) := by
  have key := fun (bs : List Bool) (r : PVal) (ob : List Prop) (h : callP (cf L) (evalF (cf L) 1) 1 [(1, 1, Hint.pcall (bP j))] 62 [ptP p] bs [] (none) = .ok (r, ob)) (hp : allOb ob) => callP_ok (cf_ok L) h hp
  unfold ok62
  exact key [] (bP !j) _ (by kernel_rfl) (allOb_cons (by exact e0) allOb_nil)
def ixT (F : FuncId) (ps : List P2) (i : Int) : List AVal := [slA ps, .fn F []] ++ jk 5 ++ [iA ps.length, iA i] ++ jk 10
def ixR (i : Int) : List AVal := jk 4 ++ [iA i] ++ jk 14
def ixE (F : FuncId) (ps : List P2) (i : Int) : List AVal := [slA ps, .fn F []] ++ jk 5 ++ [iA ps.length, iA i, bA false] ++ jk 9
def ixK (L : Lib Try.prog) (ps : List P2) (i : Int) (j : Bool) : AExit × List AVal × List AObj :=
  (bif decide (i < (↑(List.length ps) : Int)) then (bif j then (AExit.ret, ((jk 4 ++ [iA i] ++ jk 14), [])) else (AExit.normal, (([slA ps, AVal.fn 62 []] ++ jk 5 ++ [iA (↑(List.length ps) : Int), iA (IntKind.i64.wrap (i + 1))] ++ jk 10), []))) else (AExit.exit 0, (([slA ps, AVal.fn 62 []] ++ jk 5 ++ [iA (↑(List.length ps) : Int), iA i, bA false] ++ jk 9), [])))
theorem ixK_eq (L : Lib Try.prog) (ps : List P2) (i : Int) (j : Bool) (b0 : (decide (i < (↑(List.length ps) : Int))) = true → (0 : Int) ≤ i ∧ (i : Int) < (↑(List.length ps) : Int)) (e0 : (decide (i < (↑(List.length ps) : Int))) = true → pureCall (cf L) (evalF (cf L) 201) 62 [ptP (pAt ps (Int.toNat i))] = some (bP j)) : roundC 0 (evalC (cf L) (evalF (cf L) 201) (Option.getD (List.lookup 80 lives) []) 0 0 201 (loopAt Try.f80 0)) (ixT 62 ps i) ([]) = some (ixK L ps i j) := by
  have key := fun (bs : List Bool) (r : AExit × List AVal × List AObj) (ob : List Prop) (h : roundP (cf L) (evalF (cf L) 201) (Option.getD (List.lookup 80 lives) []) 0 0 201 [(9999, 0, Hint.idx), (4, 5, Hint.pcall (bP j))] (loopAt Try.f80 0) (ixT 62 ps i) ([]) bs [] = .ok (r.1, r.2.1, r.2.2, ob)) (hp : allOb ob) => roundP_ok h hp
  unfold ixK
  exact bif_case (P := fun r => roundC 0 (evalC (cf L) (evalF (cf L) 201) (Option.getD (List.lookup 80 lives) []) 0 0 201 (loopAt Try.f80 0)) (ixT 62 ps i) ([]) = some r)
    (fun h0 => bif_case (P := fun r => roundC 0 (evalC (cf L) (evalF (cf L) 201) (Option.getD (List.lookup 80 lives) []) 0 0 201 (loopAt Try.f80 0)) (ixT 62 ps i) ([]) = some r)
     (fun h1 => key [true, true] ((AExit.ret, ((jk 4 ++ [iA i] ++ jk 14), []))) _ (by kernel_rfl) (allOb_cons (show Plain [] from by simp only [Plain, List.all_append, List.all_cons, List.all_nil, plainO, upL_flatPP, flatP_plain, Nat.zero_mul, List.drop_zero] <;> rfl) (allOb_cons h1 (allOb_cons (by exact (e0 h0)) (allOb_cons (part_pt (b0 h0)) (allOb_cons (idx_ok (b0 h0)) (allOb_cons h0 allOb_nil)))))))
     (fun h1 => key [true, false] ((AExit.normal, (([slA ps, AVal.fn 62 []] ++ jk 5 ++ [iA (↑(List.length ps) : Int), iA (IntKind.i64.wrap (i + 1))] ++ jk 10), []))) _ (by kernel_rfl) (allOb_cons (show Plain [] from by simp only [Plain, List.all_append, List.all_cons, List.all_nil, plainO, upL_flatPP, flatP_plain, Nat.zero_mul, List.drop_zero] <;> rfl) (allOb_cons h1 (allOb_cons (by exact (e0 h0)) (allOb_cons (part_pt (b0 h0)) (allOb_cons (idx_ok (b0 h0)) (allOb_cons h0 allOb_nil))))))))
    (fun h0 => key [false] ((AExit.exit 0, (([slA ps, AVal.fn 62 []] ++ jk 5 ++ [iA (↑(List.length ps) : Int), iA i, bA false] ++ jk 9), []))) _ (by kernel_rfl) (allOb_cons (show Plain [] from by simp only [Plain, List.all_append, List.all_cons, List.all_nil, plainO, upL_flatPP, flatP_plain, Nat.zero_mul, List.drop_zero] <;> rfl) (allOb_cons h0 allOb_nil)))
def ixAf (L : Lib Try.prog) (ps : List P2) (i : Int) : PVal :=
  iP i
theorem ixAf_calls (L : Lib Try.prog) (ps : List P2) (i : Int) (e0 : iterC 0 (evalC (cf L) (evalF (cf L) 201) ((lives.lookup 80).getD []) 0 0 201 (loopAt Try.f80 0)) 201 ([AVal.list (List.length ps) (flatPP ps), AVal.fn 62 []] ++ jk 5 ++ [iA (↑(List.length ps) : Int), iA 0] ++ jk 10) [] = some (AExit.ret, ((jk 4 ++ [iA i] ++ jk 14), []))) : CallsP Try.prog 80 [slP ps, PVal.fn 62 []] (ixAf L ps i) := by
  have key := fun (bs : List Bool) (r : PVal) (ob : List Prop) (h : callP (cf L) (evalF (cf L) 201) 201 [(9999, 0, Hint.idx)] 80 [slP ps, PVal.fn 62 []] bs [(AExit.ret, ixR i, [])] (none) = .ok (r, ob)) (hp : allOb ob) => callP_ok (cf_ok L) h hp
  unfold ixAf
  exact key [] (iP i) _ (by kernel_rfl) (allOb_cons (by exact e0) allOb_nil)
def ixAe (L : Lib Try.prog) (ps : List P2) (i : Int) : PVal :=
  iP (-1)
theorem ixAe_calls (L : Lib Try.prog) (ps : List P2) (i : Int) (e0 : iterC 0 (evalC (cf L) (evalF (cf L) 201) ((lives.lookup 80).getD []) 0 0 201 (loopAt Try.f80 0)) 201 ([AVal.list (List.length ps) (flatPP ps), AVal.fn 62 []] ++ jk 5 ++ [iA (↑(List.length ps) : Int), iA 0] ++ jk 10) [] = some (AExit.exit 0, (([AVal.list (List.length ps) (flatPP ps), AVal.fn 62 []] ++ jk 5 ++ [iA (↑(List.length ps) : Int), iA i, bA false] ++ jk 9), []))) : CallsP Try.prog 80 [slP ps, PVal.fn 62 []] (ixAe L ps i) := by
  have key := fun (bs : List Bool) (r : PVal) (ob : List Prop) (h : callP (cf L) (evalF (cf L) 201) 201 [(9999, 0, Hint.idx)] 80 [slP ps, PVal.fn 62 []] bs [(AExit.exit 0, ixE 62 ps i, [])] (none) = .ok (r, ob)) (hp : allOb ob) => callP_ok (cf_ok L) h hp
  unfold ixAe
  exact key [] (iP (-1)) _ (by kernel_rfl) (allOb_cons (by exact e0) allOb_nil)
def cnA (L : Lib Try.prog) (ps : List P2) (i : Int) : PVal :=
  bP (decide (i ≥ 0))
theorem cnA_calls (L : Lib Try.prog) (ps : List P2) (i : Int) (e0 : pureCall (cf L) (evalF (cf L) 202) 80 [slP ps, PVal.fn 62 []] = some (iP i)) : CallsP Try.prog 57 [slP ps, PVal.fn 62 []] (cnA L ps i) := by
  have key := fun (bs : List Bool) (r : PVal) (ob : List Prop) (h : callP (cf L) (evalF (cf L) 202) 202 [(1, 2, Hint.pcall (iP i))] 57 [slP ps, PVal.fn 62 []] bs [] (none) = .ok (r, ob)) (hp : allOb ob) => callP_ok (cf_ok L) h hp
  unfold cnA
  exact key [] (bP (decide (i ≥ 0))) _ (by kernel_rfl) (allOb_cons (by exact e0) allOb_nil)
def lokA (L : Lib Try.prog) (ps : List P2) (c : Bool) (s : Bool) : PVal :=
  (bif decide ((↑(List.length ps) : Int) < 2) then bP false else (bif decide ((↑(List.length ps) : Int) > 64) then bP false else (bif !c then bP s else bP false)))
theorem lokA_calls (L : Lib Try.prog) (ps : List P2) (c : Bool) (s : Bool) (e0 : (decide ((↑(List.length ps) : Int) < 2)) = false → (decide ((↑(List.length ps) : Int) > 64)) = false → pureCall (cf L) (evalF (cf L) 203) 57 [slP ps, PVal.fn 62 []] = some (bP c)) (e1 : (decide ((↑(List.length ps) : Int) < 2)) = false → (decide ((↑(List.length ps) : Int) > 64)) = false → (!c) = true → pureCall (cf L) (evalF (cf L) 203) 36 [slP ps] = some (bP s)) : CallsP Try.prog 33 [slP ps] (lokA L ps c s) := by
  have key := fun (bs : List Bool) (r : PVal) (ob : List Prop) (h : callP (cf L) (evalF (cf L) 203) 203 [(3, 1, Hint.pcall (bP c)), (3, 5, Hint.pcall (bP s))] 33 [slP ps] bs [] (none) = .ok (r, ob)) (hp : allOb ob) => callP_ok (cf_ok L) h hp
  unfold lokA
  exact bif_case (P := fun r => CallsP Try.prog 33 [slP ps] r)
    (fun h0 => key [true, true] (bP false) _ (by kernel_rfl) (allOb_cons lit_t (allOb_cons h0 allOb_nil)))
    (fun h0 => bif_case (P := fun r => CallsP Try.prog 33 [slP ps] r)
     (fun h1 => key [false, true] (bP false) _ (by kernel_rfl) (allOb_cons h1 (allOb_cons h0 allOb_nil)))
     (fun h1 => bif_case (P := fun r => CallsP Try.prog 33 [slP ps] r)
      (fun h2 => key [false, false, true] (bP s) _ (by kernel_rfl) (allOb_cons (by exact (e1 h0 h1 h2)) (allOb_cons h2 (allOb_cons (by exact (e0 h0 h1)) (allOb_cons h1 (allOb_cons h0 allOb_nil))))))
      (fun h2 => key [false, false, false] (bP false) _ (by kernel_rfl) (allOb_cons h2 (allOb_cons (by exact (e0 h0 h1)) (allOb_cons h1 (allOb_cons h0 allOb_nil)))))))
end Go.Proofs.Ytmopbegmdegooaa
/- Lines: simple ones, those that may be an edge's. -/
namespace Go.Proofs.Ytmopbegmdegooaa
open Go Vm M
set_option linter.unusedVariables false
set_option linter.unusedSimpArgs false
noncomputable def LA1 : Lib Try.prog := N8.add 63 (g1 fun p => bP (okP p)) (Vm.enters_of named_prog Try.func63 (by kernel_rfl)) (g1_spec ptok_calls)
noncomputable def LA2 : Lib Try.prog := LA1.add 34 (gSo fun ps => lim ps (bP (closedB ps))) (Vm.enters_of named_prog Try.func34 (by kernel_rfl)) (gSo_spec fun ps r h => by obtain ⟨h1, rfl⟩ := lim_some h; exact closed_calls ps h1)
noncomputable def LA3 : Lib Try.prog := LA2.add 39 (gSPo fun ps p => lim ps (iP (atI ps p))) (Vm.enters_of named_prog Try.func39 (by kernel_rfl)) (gSPo_spec fun ps p r h => by obtain ⟨h1, rfl⟩ := lim_some h; exact at_calls ps p h1)
/-- A call by value of a function of which something is told. -/
theorem pure_given {c : Cfg} {ev : Ev} {F : FuncId} {ps : List PVal} {r : PVal} {g : List PVal → Option PVal} (hg : c.givenP F = some g) (h : g ps = some r) : pureCall c ev F ps = some r := by
  unfold pureCall
  simp only [hg, h]
theorem closed_given {ev : Ev} (ps : List P2) (h : ps.length ≤ 200) : pureCall (cf LA3) ev 34 [slP ps] = some (bP (closedB ps)) :=
  pure_given (g := gSo fun ps => lim ps (bP (closedB ps))) (by kernel_rfl) (by rw [gSo_slP, lim_of h])
theorem relate_given {ev : Ev} (a b c d : P2) : pureCall (cf LA3) ev 18 [ptP a, ptP b, ptP c, ptP d] = some (iP (relate a b c d)) :=
  pure_given (g := g4 fun a b c d => iP (relate a b c d)) (by kernel_rfl) rfl
/-- What two segments of a line should be to each other; whether a pair of them is not so; whether a segment is amiss. -/
def wantI (ps : List P2) (i k : Nat) : Int := bif (k == i + 1) || ((i == 0) && ((k == ps.length - 2) && closedB ps)) then 1 else 0
def badK (ps : List P2) (i k : Nat) : Bool := relate (pAt ps i) (pAt ps (i + 1)) (pAt ps k) (pAt ps (k + 1)) != wantI ps i k
def badI (ps : List P2) (i : Nat) : Bool := eqB (pAt ps i) (pAt ps (i + 1)) || (firstAt (badK ps i) (ps.length - 1 - (i + 1)) (i + 1)).isSome
def simpleB (ps : List P2) : Bool := (firstAt (badI ps) (ps.length - 1) 0).isNone
noncomputable abbrev bodyK : List AVal → List AObj → Res := evalC (cf LA3) (evalF (cf LA3) 201) ((lives.lookup 36).getD []) 0 0 201 (loopAt Try.f36 1)
noncomputable abbrev bodyI : List AVal → List AObj → Res := evalC (cf LA3) (evalF (cf LA3) 201) ((lives.lookup 36).getD []) 0 0 201 (loopAt Try.f36 0)
section
variable (ps : List P2) (h2 : 2 ≤ ps.length) (h200 : ps.length ≤ 200)
include h2 h200
theorem wrLast : IntKind.i64.wrap ((ps.length : Int) - 2) = ((ps.length - 2 : Nat) : Int) := by rw [IntWalk.i64_in _ (by omega)]; omega
theorem siK_at (i k : Nat) (hi : i < ps.length - 1) (hk : k ≤ ps.length - 1) : roundC 0 bodyK (siU ps i k) [] = some (siK LA3 ps i k (relate (pAt ps i) (pAt ps (i + 1)) (pAt ps k) (pAt ps (k + 1))) (closedB ps)) := by
  have hl := wrLast ps h2 h200
  have hd : decide ((k : Int) ≤ IntKind.i64.wrap ((ps.length : Int) - 2)) = true → k < ps.length - 1 := fun h => by
    have := of_decide_eq_true h
    rw [hl] at this
    omega
  refine siK_eq LA3 ps i k _ _ (fun h => by omega) (fun h => by rw [wrS (by omega)]; omega) (fun h => by have := hd h; omega) (fun h => by have := hd h; rw [wrS (by omega)]; omega) (fun h => ?_) (fun h _ _ _ => closed_given ps h200)
  have := hd h
  rw [wrS (by omega), wrS (by omega)]
  simp only [Int.toNat_natCast]
  exact relate_given _ _ _ _
theorem siK_step (i k : Nat) (hi : i < ps.length - 1) (hk : k < ps.length - 1) : roundC 0 bodyK (siU ps i k) [] = some (bif badK ps i k then (.exit 0, siX, []) else (.normal, siU ps i (k + 1 : Nat), [])) := by
  rw [siK_at ps h2 h200 i k hi (by omega)]
  have hl := wrLast ps h2 h200
  unfold siK badK wantI
  rw [hl, wrS (by omega : i < 9000000000000000000), wrS (by omega : k < 9000000000000000000), decide_eq_true (by omega : (k : Int) ≤ ((ps.length - 2 : Nat) : Int))]
  have e1 : ((k : Int) == ((i + 1 : Nat) : Int)) = (k == i + 1) := by
    by_cases h : k = i + 1
    · subst h; simp
    · have : (k : Int) ≠ ((i + 1 : Nat) : Int) := by omega
      rw [beq_eq_false_iff_ne.2 this, beq_eq_false_iff_ne.2 h]
  have e2 : ((i : Int) == 0) = (i == 0) := by
    by_cases h : i = 0
    · subst h; rfl
    · have : (i : Int) ≠ 0 := by omega
      rw [beq_eq_false_iff_ne.2 this, beq_eq_false_iff_ne.2 h]
  have e3 : ((k : Int) == ((ps.length - 2 : Nat) : Int)) = (k == ps.length - 2) := by
    by_cases h : k = ps.length - 2
    · rw [h]; simp
    · have : (k : Int) ≠ ((ps.length - 2 : Nat) : Int) := by omega
      rw [beq_eq_false_iff_ne.2 this, beq_eq_false_iff_ne.2 h]
  rw [e1, e2, e3]
  have hT : siU ps i (k + 1 : Nat) = [slA ps, AVal.junk, AVal.junk, AVal.v (Value.int IntKind.i64 ((ps.length - 2 : Nat) : Int)), AVal.v (Value.bool true), AVal.v (Value.int IntKind.i64 i), AVal.v (Value.int IntKind.i64 ((k + 1 : Nat) : Int))] ++ jk 65 := by
    unfold siU
    rw [hl]
    rfl
  rw [hT]
  cases (k == i + 1) with
  | true => rfl
  | false =>
    cases (i == 0) with
    | false => rfl
    | true =>
      cases (k == ps.length - 2) with
      | false => rfl
      | true => cases closedB ps <;> rfl
theorem siK_end (i : Nat) (hi : i < ps.length - 1) : roundC 0 bodyK (siU ps i (ps.length - 1 : Nat)) [] = some (.exit 2, siV ps i (ps.length - 1 : Nat), []) := by
  rw [siK_at ps h2 h200 i (ps.length - 1) hi (Nat.le_refl _)]
  have hl := wrLast ps h2 h200
  unfold siK siV
  rw [hl, decide_eq_false (by omega : ¬ ((ps.length - 1 : Nat) : Int) ≤ ((ps.length - 2 : Nat) : Int))]
  rfl
theorem siK_loop (i : Nat) (hi : i < ps.length - 1) : At 0 bodyK (ps.length - 1 - (i + 1) + 1) (siU ps i (i + 1 : Nat)) []
    (some (match firstAt (badK ps i) (ps.length - 1 - (i + 1)) (i + 1) with | some _ => (.exit 0, siX, []) | none => (.exit 2, siV ps i (ps.length - 1 : Nat), []))) := by
  refine At.search (T := fun k => siU ps i k) (S := fun _ => []) (n := ps.length - 1) (c := badK ps i) (X := fun _ => (.exit 0, siX, [])) (E := (.exit 2, siV ps i (ps.length - 1 : Nat), [])) ?_ ?_ ?_ (ps.length - 1 - (i + 1)) (i + 1) (by omega)
  · intro k hk hc
    rw [siK_step ps h2 h200 i k hi hk, hc]
    rfl
  · intro k hk hc
    exact ⟨by rw [siK_step ps h2 h200 i k hi hk, hc]; rfl, by simp⟩
  · exact ⟨siK_end ps h2 h200 i hi, by simp⟩
theorem siI_step (i : Nat) (hi : i < ps.length - 1) : roundC 0 bodyI (siT ps i) [] = some (bif badI ps i then (.exit 0, siX, []) else (.normal, siT ps (i + 1 : Nat), [])) := by
  have hl := wrLast ps h2 h200
  have hle : decide ((i : Int) ≤ IntKind.i64.wrap ((ps.length : Int) - 2)) = true := decide_eq_true (by rw [hl]; omega)
  have hloop := siK_loop ps h2 h200 i hi
  have hTe : siT ps (i + 1 : Nat) = [slA ps, AVal.junk, AVal.junk, AVal.v (Value.int IntKind.i64 (IntKind.wrap IntKind.i64 ((ps.length : Int) - 2))), AVal.v (Value.bool true), AVal.v (Value.int IntKind.i64 ((i + 1 : Nat) : Int))] ++ jk 66 := rfl
  have hcan : canonTS 0 ([slA ps, AVal.junk, AVal.junk, AVal.v (Value.int IntKind.i64 (IntKind.wrap IntKind.i64 ((ps.length : Int) - 2))), AVal.v (Value.bool true), AVal.v (Value.int IntKind.i64 i), AVal.v (Value.int IntKind.i64 ((i + 1 : Nat) : Int))] ++ jk 65) (List.replicate 10 AObj.free) = some (siU ps i (i + 1 : Nat), []) := by kernel_rfl
  unfold badI
  cases hf : firstAt (badK ps i) (ps.length - 1 - (i + 1)) (i + 1) with
  | some j =>
    rw [hf] at hloop
    have h := siB_eq LA3 ps i (fun _ => by omega) (fun _ => by rw [wrS (by omega)]; omega) (fun _ _ => by
      rw [wrS (by omega)]
      exact At.use (at_more hloop (m := 201) (by omega)) (by rfl) hcan)
    rw [h]
    unfold siB
    rw [hle, wrS (by omega), Int.toNat_natCast, Int.toNat_natCast]
    cases eqB (pAt ps i) (pAt ps (i + 1)) <;> rfl
  | none =>
    rw [hf] at hloop
    have h := siO_eq LA3 ps i (ps.length - 1 : Nat) (fun _ => by omega) (fun _ => by rw [wrS (by omega)]; omega) (fun _ _ => by
      rw [wrS (by omega)]
      exact At.use (at_more hloop (m := 201) (by omega)) (by rfl) hcan)
    rw [h, hTe]
    unfold siO
    rw [hle, wrS (by omega), Int.toNat_natCast, Int.toNat_natCast]
    cases eqB (pAt ps i) (pAt ps (i + 1)) <;> rfl
end
theorem siI_end (ps : List P2) (n : Nat) (h : ¬ (n : Int) ≤ IntKind.i64.wrap ((ps.length : Int) - 2)) : roundC 0 bodyI (siT ps n) [] = some (.exit 0, siE ps n, []) := by
  have h' := siB_eq LA3 ps n (fun h1 => absurd (of_decide_eq_true h1) h) (fun h1 => absurd (of_decide_eq_true h1) h) (fun h1 => absurd (of_decide_eq_true h1) h)
  rw [h']
  unfold siB
  rw [decide_eq_false h]
  rfl
theorem simple_calls (ps : List P2) (h200 : ps.length ≤ 200) : CallsP Try.prog 36 [slP ps] (bP (simpleB ps)) := by
  by_cases h2 : 2 ≤ ps.length
  · have hl : At 0 bodyI (ps.length - 1 + 1) (siT ps (0 : Nat)) [] (some (match firstAt (badI ps) (ps.length - 1) 0 with | some _ => (.exit 0, siX, []) | none => (.exit 0, siE ps (ps.length - 1 : Nat), []))) := by
      refine At.search (T := fun k => siT ps k) (S := fun _ => []) (n := ps.length - 1) (c := badI ps) (X := fun _ => (.exit 0, siX, [])) (E := (.exit 0, siE ps (ps.length - 1 : Nat), [])) ?_ ?_ ?_ (ps.length - 1) 0 (by omega)
      · intro k hk hc
        rw [siI_step ps h2 h200 k hk, hc]
        rfl
      · intro k hk hc
        exact ⟨by rw [siI_step ps h2 h200 k hk, hc]; rfl, by simp⟩
      · exact ⟨siI_end ps _ (by rw [wrLast ps h2 h200]; omega), by simp⟩
    unfold simpleB
    cases hf : firstAt (badI ps) (ps.length - 1) 0 with
    | some j =>
      rw [hf] at hl
      exact siAx_calls LA3 ps (At.use (at_more hl (m := 201) (by omega)) (by rfl) (by kernel_rfl))
    | none =>
      rw [hf] at hl
      exact siAe_calls LA3 ps _ (At.use (at_more hl (m := 201) (by omega)) (by rfl) (by kernel_rfl))
  · have hl : At 0 bodyI 1 (siT ps (0 : Nat)) [] (some (.exit 0, siE ps (0 : Nat), [])) := At.leave (siI_end ps 0 (by rw [IntWalk.i64_in _ (by omega)]; omega)) (by simp)
    have e : simpleB ps = true := by
      unfold simpleB
      rw [show ps.length - 1 = 0 by omega]
      rfl
    rw [e]
    exact siAe_calls LA3 ps _ (At.use (at_more hl (m := 201) (by omega)) (by rfl) (by kernel_rfl))
end Go.Proofs.Ytmopbegmdegooaa
/- Lines that may be an edge's. -/
namespace Go.Proofs.Ytmopbegmdegooaa
open Go Vm M
set_option linter.unusedVariables false
set_option linter.unusedSimpArgs false
theorem okPt_given {ev : Ev} (p : P2) : pureCall (cf LA3) ev 63 [ptP p] = some (bP (okP p)) := pure_given (g := g1 fun p => bP (okP p)) (by kernel_rfl) rfl
theorem nok_calls (p : P2) : CallsP Try.prog 62 [ptP p] (bP (!okP p)) := ok62_calls LA3 p (okP p) (okPt_given p)
noncomputable def LA4 : Lib Try.prog := LA3.add 62 (g1 fun p => bP (!okP p)) (Vm.enters_of named_prog Try.func62 (by kernel_rfl)) (g1_spec nok_calls)
def nokB (ps : List P2) (k : Nat) : Bool := !okP (pAt ps k)
def nokO (ps : List P2) : Option Nat := firstAt (nokB ps) ps.length 0
noncomputable abbrev bodyIx : List AVal → List AObj → Res := evalC (cf LA4) (evalF (cf LA4) 201) ((lives.lookup 80).getD []) 0 0 201 (loopAt Try.f80 0)
theorem ix_calls (ps : List P2) (h200 : ps.length ≤ 200) : CallsP Try.prog 80 [slP ps, .fn 62 []] (iP (match nokO ps with | some j => (j : Int) | none => -1)) := by
  have key : ∀ k : Nat, k ≤ ps.length → roundC 0 bodyIx (ixT 62 ps k) [] = some (ixK LA4 ps k (nokB ps k)) := fun k hk =>
    ixK_eq LA4 ps k _ (fun h => by have := of_decide_eq_true h; omega) (fun h => by
      rw [Int.toNat_natCast]
      exact pure_given (g := g1 fun p => bP (!okP p)) (by kernel_rfl) rfl)
  have hl : At 0 bodyIx (ps.length + 1) (ixT 62 ps (0 : Nat)) [] (some (match nokO ps with | some j => (.ret, ixR j, []) | none => (.exit 0, ixE 62 ps ps.length, []))) := by
    refine At.search (T := fun k => ixT 62 ps k) (S := fun _ => []) (n := ps.length) (c := nokB ps) (X := fun j => (.ret, ixR j, [])) (E := (.exit 0, ixE 62 ps ps.length, [])) ?_ ?_ ?_ ps.length 0 (by omega)
    · intro k hk hc
      rw [key k (by omega), hc]
      unfold ixK
      rw [decide_eq_true (by omega : (k : Int) < (ps.length : Int)), wrS (by omega)]
      rfl
    · intro k hk hc
      refine ⟨?_, by simp⟩
      rw [key k (by omega), hc]
      unfold ixK
      rw [decide_eq_true (by omega : (k : Int) < (ps.length : Int))]
      rfl
    · refine ⟨?_, by simp⟩
      rw [key _ (Nat.le_refl _)]
      unfold ixK
      rw [decide_eq_false (by omega : ¬ (ps.length : Int) < (ps.length : Int))]
      rfl
  cases hf : nokO ps with
  | some j =>
    rw [hf] at hl
    exact ixAf_calls LA4 ps j (At.use (at_more hl (m := 201) (by omega)) (by rfl) (by kernel_rfl))
  | none =>
    rw [hf] at hl
    exact ixAe_calls LA4 ps _ (At.use (at_more hl (m := 201) (by omega)) (by rfl) (by kernel_rfl))
/-- A slice and a function. -/
def gSF (F : FuncId) (f : List P2 → Option PVal) : List PVal → Option PVal
  | [x, .fn G []] => bif Nat.beq G F then (match unSl x with
    | some ps => f ps
    | none => none) else none
  | _ => none
theorem gSF_spec {P : Program} {F0 F : FuncId} {f : List P2 → Option PVal} (h : ∀ ps r, f ps = some r → CallsP P F0 [slP ps, .fn F []] r) : ∀ ps r, gSF F f ps = some r → CallsP P F0 ps r := by
  intro ps r hg
  unfold gSF at hg
  split at hg
  · rename_i x G
    cases hb : Nat.beq G F with
    | false => rw [hb] at hg; cases hg
    | true =>
      rw [hb] at hg
      simp only [cond_true] at hg
      split at hg
      · rename_i qs hq
        have : G = F := Nat.eq_of_beq_eq_true hb
        subst this
        exact callsP_weak (h qs r hg) ⟨unSl_wk hq, Wk.refl _, trivial⟩
      · cases hg
  · cases hg
theorem gSF_slP (F : FuncId) (f : List P2 → Option PVal) (ps : List P2) : gSF F f [slP ps, .fn F []] = f ps := by
  unfold gSF
  simp only [unSl_slP]
  rw [show Nat.beq F F = true from Nat.beq_refl F]
  rfl
noncomputable def LA5 : Lib Try.prog := LA4.add 80 (gSF 62 fun ps => lim ps (iP (match nokO ps with | some j => (j : Int) | none => -1))) (Vm.enters_of named_prog Try.func80 (by kernel_rfl))
  (gSF_spec fun ps r h => by obtain ⟨h1, rfl⟩ := lim_some h; exact ix_calls ps h1)
theorem cn_calls (ps : List P2) (h200 : ps.length ≤ 200) : CallsP Try.prog 57 [slP ps, .fn 62 []] (bP (nokO ps).isSome) := by
  have h := cnA_calls LA5 ps (match nokO ps with | some j => (j : Int) | none => -1) (pure_given (g := gSF 62 fun ps => lim ps (iP (match nokO ps with | some j => (j : Int) | none => -1))) (by kernel_rfl) (by rw [gSF_slP, lim_of h200] <;> rfl))
  have e : cnA LA5 ps (match nokO ps with | some j => (j : Int) | none => -1) = bP (nokO ps).isSome := by
    unfold cnA
    cases nokO ps with
    | none => rfl
    | some j =>
      simp only [Option.isSome_some]
      rw [decide_eq_true (by omega : (j : Int) ≥ 0)] <;> rfl
  rw [e] at h
  exact h
noncomputable def LA6 : Lib Try.prog := LA5.add 57 (gSF 62 fun ps => lim ps (bP (nokO ps).isSome)) (Vm.enters_of named_prog Try.func57 (by kernel_rfl))
  (gSF_spec fun ps r h => by obtain ⟨h1, rfl⟩ := lim_some h; exact cn_calls ps h1)
noncomputable def LA7 : Lib Try.prog := LA6.add 36 (gSo fun ps => lim ps (bP (simpleB ps))) (Vm.enters_of named_prog Try.func36 (by kernel_rfl)) (gSo_spec fun ps r h => by obtain ⟨h1, rfl⟩ := lim_some h; exact simple_calls ps h1)
/-- Whether points may be an edge's line. -/
def okB (ps : List P2) : Bool := decide (2 ≤ ps.length) && decide (ps.length ≤ 64) && !(nokO ps).isSome && simpleB ps
theorem lok_calls (ps : List P2) : CallsP Try.prog 33 [slP ps] (bP (okB ps)) := by
  have h := lokA_calls LA7 ps (nokO ps).isSome (simpleB ps) (fun h1 h2 => by
    have := of_decide_eq_false h2
    exact pure_given (g := gSF 62 fun ps => lim ps (bP (nokO ps).isSome)) (by kernel_rfl) (by rw [gSF_slP, lim_of (by omega)] <;> rfl)) (fun h1 h2 _ => by
    have := of_decide_eq_false h2
    exact pure_given (g := gSo fun ps => lim ps (bP (simpleB ps))) (by kernel_rfl) (by rw [gSo_slP, lim_of (by omega)] <;> rfl))
  have e : lokA LA7 ps (nokO ps).isSome (simpleB ps) = bP (okB ps) := by
    unfold lokA okB
    by_cases h2 : 2 ≤ ps.length
    · rw [decide_eq_false (by omega : ¬ (ps.length : Int) < 2), decide_eq_true h2]
      by_cases h64 : ps.length ≤ 64
      · rw [decide_eq_false (by omega : ¬ (ps.length : Int) > 64), decide_eq_true h64]
        cases (nokO ps).isSome <;> rfl
      · rw [decide_eq_true (by omega : (ps.length : Int) > 64), decide_eq_false h64]
        rfl
    · rw [decide_eq_true (by omega : (ps.length : Int) < 2), decide_eq_false h2]
      rfl
  rw [e] at h
  exact h
noncomputable def LA8 : Lib Try.prog := LA7.add 33 (gSo fun ps => some (bP (okB ps))) (Vm.enters_of named_prog Try.func33 (by kernel_rfl)) (gSo_spec fun ps r h => by simp only [Option.some.injEq] at h; subst h; exact lok_calls ps)
end Go.Proofs.Ytmopbegmdegooaa
/- line.Split: how its calls go. -/
namespace Go.Proofs.Ytmopbegmdegooaa
open Go Vm M
set_option linter.unusedVariables false
set_option linter.unusedSimpArgs false
/-- Point k of a row of points, as it is read there. -/
def pAtR (ps : List P2) (k : Nat) : P2 := (intAt ((upL (flatPP ps)).drop ((0 + k) * 2)), intAt (((upL (flatPP ps)).drop ((0 + k) * 2)).drop 1))
def pAtRy (ps : List P2) (k : Nat) : Int := intAt ((upL (flatPP ps)).drop ((0 + k) * 2 + 1))
theorem pAtR_eq (ps : List P2) (k : Nat) : pAtR ps k = pAt ps k := by
  unfold pAtR pAt
  rw [Nat.zero_add, upL_drop]
theorem pAtRy_eq (ps : List P2) (k : Nat) : pAtRy ps k = (pAt ps k).2 := by
  unfold pAtRy pAt
  rw [Nat.zero_add, upL_drop, List.drop_drop]
theorem partQ_pt {ps : List P2} {i : Int} (h : 0 ≤ i ∧ i < (ps.length : Int)) : partA Try.prog 23 (upL (flatPP ps)) ((0 + i.toNat) * 2) = some (ptA (pAtR ps i.toNat)) := by
  rw [pAtR_eq]
  exact partR_pt h
theorem partQ_x {ps : List P2} {i : Int} (h : 0 ≤ i ∧ i < (ps.length : Int)) : partA Try.prog 2 (upL (flatPP ps)) ((0 + i.toNat) * 2 + 0) = some (iA (pAtR ps i.toNat).1) := by
  rw [pAtR_eq]
  exact partR_x h
theorem partQ_y {ps : List P2} {i : Int} (h : 0 ≤ i ∧ i < (ps.length : Int)) : partA Try.prog 2 (upL (flatPP ps)) ((0 + i.toNat) * 2 + 1) = some (iA (pAtRy ps i.toNat)) := by
  rw [pAtRy_eq]
  exact partR_y h
/-- slices.Insert of one point, by objects. -/
def insA (o ep off len : Nat) (xs ys : List AVal) (off2 i : Nat) (S : List AObj) : AVal × List AObj :=
  (.row o (ep + 1) 2 0 (len + 1), S.set o (.row 2 (ep + 1) none ((xs.drop (off * 2)).take (i * 2) ++ (ys.drop (off2 * 2)).take 2 ++ (xs.drop ((off + i) * 2)).take ((len - i) * 2))))
def gIns (lo : Nat) (args : List AVal) (S : List AObj) : Option (AVal × List AObj) :=
  match args with
  | [.row o ep sz off len, .v (.int .i64 i), .row o2 ep2 sz2 off2 n2] => match S[o]?, S[o2]? with
    | some (.row s1 e1 none xs), some (.row s2 e2 _ ys) =>
      if sz = 2 ∧ sz2 = 2 ∧ s1 = 2 ∧ s2 = 2 ∧ e1 = ep ∧ e2 = ep2 ∧ n2 = 1 ∧ o ≠ o2 ∧ lo ≤ o ∧ (off + len) * 2 = xs.length ∧ (off2 + 1) * 2 ≤ ys.length ∧ 0 ≤ i ∧ i < (len : Int) ∧ (len + 1) * 16 ≤ 140737488355328 then
        some (insA o ep off len xs ys off2 i.toNat S)
      else none
    | _, _ => none
  | _ => none
theorem gIns_ok {lo : Nat} {args : List AVal} {S : List AObj} {r : AVal} {S' : List AObj} (h : gIns lo args S = some (r, S')) : CallsA Try.prog 65 args S r S' ∧ Stays lo S S' := by
  unfold gIns at h
  split at h
  · rename_i o ep sz off len i o2 ep2 sz2 off2 n2
    split at h
    · rename_i s1 e1 xs s2 e2 fz2 ys hx hy
      split at h
      · rename_i hc
        obtain ⟨rfl, rfl, rfl, rfl, rfl, rfl, rfl, h1, h2, h3, h4, h5, h6, h7⟩ := hc
        unfold insA at h
        simp only [Option.some.injEq, Prod.mk.injEq] at h
        obtain ⟨rfl, rfl⟩ := h
        have hi : i = ((i.toNat : Nat) : Int) := by omega
        refine ⟨?_, by simp, fun q hq _ => by rw [List.getElem?_set, if_neg (by omega)]⟩
        have := insert_callsA i.toNat hx hy h1 h3 h4 (by omega) h7
        rw [← hi] at this
        exact this
      · cases h
    · cases h
  · cases h
theorem clip_ev (lo : Nat) (S : List AObj) (o ep off n : Nat) (hn : 0 < n) : evalF (cf N8) 2 lo 59 [.row o ep 2 off n] S = some (.row o ep 2 (off + 0) (((n : Nat) : Int).toNat - 0), S) :=
  funP_ok (k := 1) (hs := [(1, 5, .cut)]) (f := 59) (lo := lo) (args := [.row o ep 2 off n]) (S := S) (bs := []) (ls := []) (ob := [∃ m, boundsA n none (some (iA (n : Int))) (some (iA (n : Int))) = some (0, ((n : Int)).toNat, some m) ∧ m ≠ 0]) (by kernel_rfl) (allOb_cons ⟨n, boundsA_clip n, by omega⟩ allOb_nil)
theorem clip_callsA (S : List AObj) (o ep off n : Nat) (hn : 0 < n) : CallsA Try.prog 59 [.row o ep 2 off n] S (.row o ep 2 off n) S := by
  have h := clip_ev 0 S o ep off n hn
  rw [Int.toNat_natCast, Nat.sub_zero, Nat.add_zero] at h
  exact (evalF_ok (cf_ok N8) 2).calls _ _ _ _ _ _ h
def gClip (lo : Nat) (args : List AVal) (S : List AObj) : Option (AVal × List AObj) :=
  match args with
  | [.row o ep sz off len] => if sz = 2 ∧ 0 < len then some (.row o ep 2 off len, S) else none
  | _ => none
theorem gClip_ok {lo : Nat} {args : List AVal} {S : List AObj} {r : AVal} {S' : List AObj} (h : gClip lo args S = some (r, S')) : CallsA Try.prog 59 args S r S' ∧ Stays lo S S' := by
  unfold gClip at h
  split at h
  · rename_i o ep sz off len
    split at h
    · rename_i hc
      obtain ⟨rfl, hl⟩ := hc
      simp only [Option.some.injEq, Prod.mk.injEq] at h
      obtain ⟨rfl, rfl⟩ := h
      exact ⟨clip_callsA S o ep off len hl, Stays.refl _ _⟩
    · cases h
  · cases h
/-- What is told of functions by objects. -/
def objS (f : FuncId) : Option (Nat → List AVal → List AObj → Option (AVal × List AObj)) :=
  bif Nat.beq f 65 then some gIns else bif Nat.beq f 59 then some gClip else none
theorem objS_ok {f : FuncId} {g : Nat → List AVal → List AObj → Option (AVal × List AObj)} (h : objS f = some g) : Vm.Enters Try.prog f ∧ ∀ lo args S r S', g lo args S = some (r, S') → CallsA Try.prog f args S r S' ∧ Stays lo S S' := by
  unfold objS at h
  cases hb : Nat.beq f 65 with
  | true =>
    rw [hb] at h
    simp only [cond_true, Option.some.injEq] at h
    have hf : f = 65 := Nat.eq_of_beq_eq_true hb
    subst h hf
    exact ⟨Vm.enters_of named_prog Try.func65 (by kernel_rfl), fun lo args S r S' h => gIns_ok h⟩
  | false =>
    rw [hb] at h
    simp only [cond_false] at h
    cases hb2 : Nat.beq f 59 with
    | true =>
      rw [hb2] at h
      simp only [cond_true, Option.some.injEq] at h
      have hf : f = 59 := Nat.eq_of_beq_eq_true hb2
      subst h hf
      exact ⟨Vm.enters_of named_prog Try.func59 (by kernel_rfl), fun lo args S r S' h => gClip_ok h⟩
    | false => rw [hb2] at h; cases h
def modeS : FuncId → Nat := fun f => bif Nat.beq f 60 then 3 else 0
noncomputable def cfS (L : Lib Try.prog) : Cfg := { cfgOf lives modeS L with givenS := objS }
theorem cfS_ok (L : Lib Try.prog) : CfgOk (cfS L) where
  mixed := mixed_prog
  tab := fun f a h => tabOf_ok named_prog h rfl
  givenP := L.ok
  givenS := fun f g h => objS_ok h
end Go.Proofs.Ytmopbegmdegooaa
/- line.Split: its calls of slices.Clone, slices.Clip. -/
namespace Go.Proofs.Ytmopbegmdegooaa
open Go Vm M
set_option linter.unusedVariables false
set_option linter.unusedSimpArgs false
def clnF (L : Lib Try.prog) (q : P2) (qs : List P2) : AVal × List AObj :=
  (AVal.row 0 1 2 0 (0 + List.length (q :: qs)), ([AObj.row 2 1 none (AVal.v (Value.int IntKind.i64 (Prod.fst q)) :: AVal.v (Value.int IntKind.i64 (Prod.snd q)) :: upL (flatPP qs))]))
theorem clnF_eq (L : Lib Try.prog) (q : P2) (qs : List P2) (e0 : 0 = 0 ∧ (0 + List.length (q :: qs)) * 16 ≤ 140737488355328 ∧ 0 + List.length (q :: qs) ≤ 9223372036854775807) (e1 : Ones (AVal.v (Value.int IntKind.i64 (Prod.fst q)) :: AVal.v (Value.int IntKind.i64 (Prod.snd q)) :: upL (flatPP qs))) (e2 : 0 < List.length (q :: qs)) (e3 : List.length (PVal.v (Value.int IntKind.i64 (Prod.fst q)) :: PVal.v (Value.int IntKind.i64 (Prod.snd q)) :: flatPP qs) = List.length (q :: qs) * 2) : evalF (cfS L) (201 + 1) (0) 60 ([slA (q :: qs)]) ([]) = some (clnF L q qs) := by
  have key := fun (bs : List Bool) (r : AVal × List AObj) (ob : List Prop) (h : funP (cfS L) (evalF (cfS L) 201) 201 [(3, 2, Hint.appX)] 60 (0) ([slA (q :: qs)]) ([]) bs [] = .ok (r.1, r.2, ob)) (hp : allOb ob) => funP_ok h hp
  unfold clnF
  exact key [false] ((AVal.row 0 1 2 0 (0 + List.length (q :: qs)), ([AObj.row 2 1 none (AVal.v (Value.int IntKind.i64 (Prod.fst q)) :: AVal.v (Value.int IntKind.i64 (Prod.snd q)) :: upL (flatPP qs))]))) _ (by kernel_rfl) (allOb_cons (by exact e3) (allOb_cons (by exact e2) (allOb_cons (by exact e1) (allOb_cons (by exact e0) (allOb_cons lit_f allOb_nil)))))
def insF (B0 : List P2) : List AVal → List AObj → AVal × List AObj := fun args S => match args with
  | .row o ep _ _ _ :: _ => (.row o (ep + 1) 2 0 B0.length, S.set o (.row 2 (ep + 1) none (upL (flatPP B0))))
  | _ => (.junk, S)
def clipF : List AVal → List AObj → AVal × List AObj := fun args S => (args.getD 0 .junk, S)
def noneP : PVal := .tup [.v (.slice none 0 0), .v (.slice none 0 0), bP false]
def spA (L : Lib Try.prog) (ps : List P2) (p : P2) (k : Int) (okp : Bool) : PVal :=
  PVal.tup [PVal.v (Value.slice none 0 0), PVal.v (Value.slice none 0 0), PVal.v (Value.bool false)]
theorem spA_calls (L : Lib Try.prog) (ps : List P2) (p : P2) (k : Int) (okp : Bool) (p0 : (!okp) = true) (e0 : pureCall (cfS L) (evalF (cfS L) 202) 39 [slP ps, ptP p] = some (PVal.v (Value.int IntKind.i64 k))) (e1 : pureCall (cfS L) (evalF (cfS L) 202) 63 [ptP p] = some (PVal.v (Value.bool okp))) (e2 : peek (Vm.mark 0 deep [AObj.box [AVal.v (Value.int IntKind.i64 (Prod.fst p)), AVal.v (Value.int IntKind.i64 (Prod.snd p))], AObj.free, AObj.free, AObj.free, AObj.free, AObj.free, AObj.free, AObj.free, AObj.free, AObj.free, AObj.free, AObj.free, AObj.free, AObj.free, AObj.free, AObj.free, AObj.free, AObj.free, AObj.free, AObj.free, AObj.free, AObj.free, AObj.free, AObj.free, AObj.free] (AVal.tup [AVal.v (Value.slice none 0 0), AVal.v (Value.slice none 0 0), AVal.v (Value.bool false)])) deep (AVal.tup [AVal.v (Value.slice none 0 0), AVal.v (Value.slice none 0 0), AVal.v (Value.bool false)]) = some (PVal.tup [PVal.v (Value.slice none 0 0), PVal.v (Value.slice none 0 0), PVal.v (Value.bool false)])) : CallsP Try.prog 40 [slP ps, ptP p] (spA L ps p k okp) := by
  have key := fun (bs : List Bool) (r : PVal) (ob : List Prop) (h : callP (cfS L) (evalF (cfS L) 202) 202 [(9999, 0, Hint.idx), (1, 2, Hint.pcall (iP k)), (2, 1, Hint.pcall (bP okp))] 40 [slP ps, ptP p] bs [] (some noneP) = .ok (r, ob)) (hp : allOb ob) => callP_ok (cfS_ok L) h hp
  unfold spA
  exact key [true, true, true, true] (PVal.tup [PVal.v (Value.slice none 0 0), PVal.v (Value.slice none 0 0), PVal.v (Value.bool false)]) _ (by kernel_rfl) (allOb_cons (by exact e2) (allOb_cons lit_t (allOb_cons lit_t (allOb_cons lit_t (allOb_cons p0 (allOb_cons (by exact e1) (allOb_cons (by exact e0) allOb_nil)))))))
def spB (L : Lib Try.prog) (ps : List P2) (p : P2) (k : Int) (okp : Bool) : PVal :=
  PVal.tup [PVal.v (Value.slice none 0 0), PVal.v (Value.slice none 0 0), PVal.v (Value.bool false)]
theorem spB_calls (L : Lib Try.prog) (ps : List P2) (p : P2) (k : Int) (okp : Bool) (p1 : (decide (k < 0)) = true) (p0 : (!okp) = false) (e0 : pureCall (cfS L) (evalF (cfS L) 202) 39 [slP ps, ptP p] = some (PVal.v (Value.int IntKind.i64 k))) (e1 : pureCall (cfS L) (evalF (cfS L) 202) 63 [ptP p] = some (PVal.v (Value.bool okp))) (e2 : peek (Vm.mark 0 deep [AObj.box [AVal.v (Value.int IntKind.i64 (Prod.fst p)), AVal.v (Value.int IntKind.i64 (Prod.snd p))], AObj.free, AObj.free, AObj.free, AObj.free, AObj.free, AObj.free, AObj.free, AObj.free, AObj.free, AObj.free, AObj.free, AObj.free, AObj.free, AObj.free, AObj.free, AObj.free, AObj.free, AObj.free, AObj.free, AObj.free, AObj.free, AObj.free, AObj.free, AObj.free] (AVal.tup [AVal.v (Value.slice none 0 0), AVal.v (Value.slice none 0 0), AVal.v (Value.bool false)])) deep (AVal.tup [AVal.v (Value.slice none 0 0), AVal.v (Value.slice none 0 0), AVal.v (Value.bool false)]) = some (PVal.tup [PVal.v (Value.slice none 0 0), PVal.v (Value.slice none 0 0), PVal.v (Value.bool false)])) : CallsP Try.prog 40 [slP ps, ptP p] (spB L ps p k okp) := by
  have key := fun (bs : List Bool) (r : PVal) (ob : List Prop) (h : callP (cfS L) (evalF (cfS L) 202) 202 [(9999, 0, Hint.idx), (1, 2, Hint.pcall (iP k)), (2, 1, Hint.pcall (bP okp))] 40 [slP ps, ptP p] bs [] (some noneP) = .ok (r, ob)) (hp : allOb ob) => callP_ok (cfS_ok L) h hp
  unfold spB
  exact key [false, true, true, true] (PVal.tup [PVal.v (Value.slice none 0 0), PVal.v (Value.slice none 0 0), PVal.v (Value.bool false)]) _ (by kernel_rfl) (allOb_cons (by exact e2) (allOb_cons lit_t (allOb_cons lit_t (allOb_cons p1 (allOb_cons p0 (allOb_cons (by exact e1) (allOb_cons (by exact e0) allOb_nil)))))))
def spC (L : Lib Try.prog) (ps : List P2) (p : P2) (k : Int) (okp : Bool) : PVal :=
  PVal.tup [PVal.v (Value.slice none 0 0), PVal.v (Value.slice none 0 0), PVal.v (Value.bool false)]
theorem spC_calls (L : Lib Try.prog) (ps : List P2) (p : P2) (k : Int) (okp : Bool) (p2 : (eqB (pAt ps 0) p) = true) (p1 : (decide (k < 0)) = false) (p0 : (!okp) = false) (e0 : pureCall (cfS L) (evalF (cfS L) 202) 39 [slP ps, ptP p] = some (PVal.v (Value.int IntKind.i64 k))) (e1 : pureCall (cfS L) (evalF (cfS L) 202) 63 [ptP p] = some (PVal.v (Value.bool okp))) (b0 : (0 : Int) ≤ 0 ∧ (0 : Int) < (↑(List.length ps) : Int)) (e2 : peek (Vm.mark 0 deep [AObj.box [AVal.v (Value.int IntKind.i64 (Prod.fst p)), AVal.v (Value.int IntKind.i64 (Prod.snd p))], AObj.free, AObj.free, AObj.free, AObj.free, AObj.free, AObj.free, AObj.free, AObj.free, AObj.free, AObj.free, AObj.free, AObj.free, AObj.free, AObj.free, AObj.free, AObj.free, AObj.free, AObj.free, AObj.free, AObj.free, AObj.free, AObj.free, AObj.free, AObj.free] (AVal.tup [AVal.v (Value.slice none 0 0), AVal.v (Value.slice none 0 0), AVal.v (Value.bool false)])) deep (AVal.tup [AVal.v (Value.slice none 0 0), AVal.v (Value.slice none 0 0), AVal.v (Value.bool false)]) = some (PVal.tup [PVal.v (Value.slice none 0 0), PVal.v (Value.slice none 0 0), PVal.v (Value.bool false)])) : CallsP Try.prog 40 [slP ps, ptP p] (spC L ps p k okp) := by
  have key := fun (bs : List Bool) (r : PVal) (ob : List Prop) (h : callP (cfS L) (evalF (cfS L) 202) 202 [(9999, 0, Hint.idx), (1, 2, Hint.pcall (iP k)), (2, 1, Hint.pcall (bP okp))] 40 [slP ps, ptP p] bs [] (some noneP) = .ok (r, ob)) (hp : allOb ob) => callP_ok (cfS_ok L) h hp
  unfold spC
  exact key [false, false, true, true] (PVal.tup [PVal.v (Value.slice none 0 0), PVal.v (Value.slice none 0 0), PVal.v (Value.bool false)]) _ (by kernel_rfl) (allOb_cons (by exact e2) (allOb_cons lit_t (allOb_cons p2 (allOb_cons (by first | exact part_pt b0 | exact part_x b0 | exact part_y b0 | exact partR_pt b0 | exact partR_x b0 | exact partR_y b0) (allOb_cons (idx_ok b0) (allOb_cons p1 (allOb_cons p0 (allOb_cons (by exact e1) (allOb_cons (by exact e0) allOb_nil)))))))))
def spD (L : Lib Try.prog) (ps : List P2) (p : P2) (k : Int) (okp : Bool) : PVal :=
  PVal.tup [PVal.v (Value.slice none 0 0), PVal.v (Value.slice none 0 0), PVal.v (Value.bool false)]
theorem spD_calls (L : Lib Try.prog) (ps : List P2) (p : P2) (k : Int) (okp : Bool) (p3 : (eqB (pAt ps (Int.toNat (IntKind.wrap IntKind.i64 ((↑(List.length ps) : Int) - 1)))) p) = true) (p2 : (eqB (pAt ps 0) p) = false) (p1 : (decide (k < 0)) = false) (p0 : (!okp) = false) (e0 : pureCall (cfS L) (evalF (cfS L) 202) 39 [slP ps, ptP p] = some (PVal.v (Value.int IntKind.i64 k))) (e1 : pureCall (cfS L) (evalF (cfS L) 202) 63 [ptP p] = some (PVal.v (Value.bool okp))) (b0 : (0 : Int) ≤ 0 ∧ (0 : Int) < (↑(List.length ps) : Int)) (b1 : (0 : Int) ≤ IntKind.wrap IntKind.i64 ((↑(List.length ps) : Int) - 1) ∧ (IntKind.wrap IntKind.i64 ((↑(List.length ps) : Int) - 1) : Int) < (↑(List.length ps) : Int)) (e2 : peek (Vm.mark 0 deep [AObj.box [AVal.v (Value.int IntKind.i64 (Prod.fst p)), AVal.v (Value.int IntKind.i64 (Prod.snd p))], AObj.free, AObj.free, AObj.free, AObj.free, AObj.free, AObj.free, AObj.free, AObj.free, AObj.free, AObj.free, AObj.free, AObj.free, AObj.free, AObj.free, AObj.free, AObj.free, AObj.free, AObj.free, AObj.free, AObj.free, AObj.free, AObj.free, AObj.free, AObj.free] (AVal.tup [AVal.v (Value.slice none 0 0), AVal.v (Value.slice none 0 0), AVal.v (Value.bool false)])) deep (AVal.tup [AVal.v (Value.slice none 0 0), AVal.v (Value.slice none 0 0), AVal.v (Value.bool false)]) = some (PVal.tup [PVal.v (Value.slice none 0 0), PVal.v (Value.slice none 0 0), PVal.v (Value.bool false)])) : CallsP Try.prog 40 [slP ps, ptP p] (spD L ps p k okp) := by
  have key := fun (bs : List Bool) (r : PVal) (ob : List Prop) (h : callP (cfS L) (evalF (cfS L) 202) 202 [(9999, 0, Hint.idx), (1, 2, Hint.pcall (iP k)), (2, 1, Hint.pcall (bP okp))] 40 [slP ps, ptP p] bs [] (some noneP) = .ok (r, ob)) (hp : allOb ob) => callP_ok (cfS_ok L) h hp
  unfold spD
  exact key [false, false, false, true] (PVal.tup [PVal.v (Value.slice none 0 0), PVal.v (Value.slice none 0 0), PVal.v (Value.bool false)]) _ (by kernel_rfl) (allOb_cons (by exact e2) (allOb_cons p3 (allOb_cons (by first | exact part_pt b1 | exact part_x b1 | exact part_y b1 | exact partR_pt b1 | exact partR_x b1 | exact partR_y b1 | exact part_pt b0 | exact part_x b0 | exact part_y b0 | exact partR_pt b0 | exact partR_x b0 | exact partR_y b0) (allOb_cons (idx_ok b1) (allOb_cons p2 (allOb_cons (by first | exact part_pt b0 | exact part_x b0 | exact part_y b0 | exact partR_pt b0 | exact partR_x b0 | exact partR_y b0) (allOb_cons (idx_ok b0) (allOb_cons p1 (allOb_cons p0 (allOb_cons (by exact e1) (allOb_cons (by exact e0) allOb_nil)))))))))))
end Go.Proofs.Ytmopbegmdegooaa
/- line.Split: what its calls of slices.Clone, Clip and Insert come to. -/
namespace Go.Proofs.Ytmopbegmdegooaa
open Go Vm M
set_option linter.unusedVariables false
set_option linter.unusedSimpArgs false
theorem fresh_clone (L : Lib Try.prog) (hL : L.given 60 = none) (ps : List P2) (h1 : 1 ≤ ps.length) (h200 : ps.length ≤ 200) :
    freshOf (cfS L) (evalF (cfS L) 202) 60 [slP ps] = some (.row 2 0 ps.length (flatPP ps)) := by
  cases ps with
  | nil => simp at h1
  | cons q qs =>
    have hc := clnF_eq L q qs ⟨rfl, by omega, by omega⟩ (by rw [upL_flatPP]; exact onesP _) (by simp) (by exact flatPP_length (q :: qs))
    have e : clnF L q qs = (.row 0 1 2 0 (0 + (q :: qs).length), [.row 2 1 none (upL (flatPP (q :: qs)))]) := rfl
    rw [e, Nat.zero_add] at hc
    unfold freshOf
    have hg : (cfS L).givenP 60 = none := hL
    rw [hg]
    simp only
    rw [show upL [slP (q :: qs)] = [slA (q :: qs)] from rfl, hc]
    simp only [List.getElem?_cons_zero]
    rw [upL_flatPP, mark_flat]
    simp only [List.getElem?_cons_zero, and_self, if_true]
    rw [show deep = 5 + 1 from rfl, peek_flat]
    rfl
end Go.Proofs.Ytmopbegmdegooaa
/- line.Split: its path with an answer. -/
namespace Go.Proofs.Ytmopbegmdegooaa
open Go Vm M
set_option linter.unusedVariables false
set_option linter.unusedSimpArgs false
def spE (L : Lib Try.prog) (ps : List P2) (a : List P2) (b : List P2) (A0 : List P2) (B0 : List P2) (A : List P2) (B : List P2) (p : P2) (k : Int) (okp : Bool) : PVal :=
  (bif !eqB (pAtR a (Int.toNat k)) p then (bif !eqB (pAtR b 0) p then PVal.tup [slP A, slP B, bP true] else PVal.tup [slP A, slP B, bP true]) else (bif !eqB (pAtR b 0) p then PVal.tup [slP A, slP B, bP true] else PVal.tup [slP A, slP B, bP true]))
theorem spE_calls (L : Lib Try.prog) (ps : List P2) (a : List P2) (b : List P2) (A0 : List P2) (B0 : List P2) (A : List P2) (B : List P2) (p : P2) (k : Int) (okp : Bool) (p3 : (eqB (pAt ps (Int.toNat (IntKind.i64.wrap ((↑(List.length ps) : Int) - 1)))) p) = false) (p2 : (eqB (pAt ps 0) p) = false) (p1 : (decide (k < 0)) = false) (p0 : (!okp) = false) (e0 : pureCall (cfS L) (evalF (cfS L) 202) 39 [slP ps, ptP p] = some (iP k)) (e1 : pureCall (cfS L) (evalF (cfS L) 202) 63 [ptP p] = some (bP okp)) (b0 : (0 : Int) ≤ 0 ∧ (0 : Int) < (↑(List.length ps) : Int)) (b1 : (0 : Int) ≤ IntKind.i64.wrap ((↑(List.length ps) : Int) - 1) ∧ (IntKind.i64.wrap ((↑(List.length ps) : Int) - 1) : Int) < (↑(List.length ps) : Int)) (e2 : boundsA (List.length ps) none (some (iA (IntKind.i64.wrap (k + 1)))) none = some (0, Int.toNat (IntKind.i64.wrap (k + 1)), none)) (e3 : freshOf (cfS L) (evalF (cfS L) 202) 60 [PVal.list (Int.toNat (IntKind.i64.wrap (k + 1))) (cutA (flatPP ps) 2 0 (Int.toNat (IntKind.i64.wrap (k + 1))))] = some (Fr.row 2 0 (List.length a) (flatPP a))) (e4 : boundsA (List.length ps) (some (iA (IntKind.i64.wrap (k + 1)))) none none = some (Int.toNat (IntKind.i64.wrap (k + 1)), List.length ps, none)) (e5 : freshOf (cfS L) (evalF (cfS L) 202) 60 [PVal.list (List.length ps - Int.toNat (IntKind.i64.wrap (k + 1))) (cutA (flatPP ps) 2 (Int.toNat (IntKind.i64.wrap (k + 1))) (List.length ps))] = some (Fr.row 2 0 (List.length b) (flatPP b))) (b2 : (0 : Int) ≤ k ∧ (k : Int) < (↑(List.length a) : Int)) (e6 : (!eqB (pAtR a (Int.toNat k)) p) = true → (0 + List.length a) * 2 = List.length (upL (flatPP a)) ∧ (List.length a + 1) * 16 ≤ 140737488355328 ∧ List.length a + 1 ≤ 9223372036854775807) (e7 : (!eqB (pAtR a (Int.toNat k)) p) = true → Ones [iA (Prod.fst p), iA (Prod.snd p)]) (e8 : (!eqB (pAtR a (Int.toNat k)) p) = true → List.drop 0 (upL (flatPP a)) ++ [iA (Prod.fst p), iA (Prod.snd p)] = upL (flatPP A0)) (b3 : (0 : Int) ≤ 0 ∧ (0 : Int) < (↑(List.length b) : Int)) (e9 : (!eqB (pAtR a (Int.toNat k)) p) = true → (!eqB (pAtR b 0) p) = true → callA (cfS L) (evalF (cfS L) 202) 0 65 [AVal.row 34 0 2 0 (List.length b), iA 0, AVal.row 2 0 2 0 1] [AObj.box [iA (Prod.fst p), iA (Prod.snd p)], AObj.row 2 0 none [iA (Prod.fst p), iA (Prod.snd p)], AObj.row 2 0 none [iA (Prod.fst p), iA (Prod.snd p)], AObj.free, AObj.free, AObj.free, AObj.free, AObj.free, AObj.free, AObj.free, AObj.free, AObj.free, AObj.free, AObj.free, AObj.free, AObj.free, AObj.free, AObj.free, AObj.free, AObj.free, AObj.free, AObj.free, AObj.free, AObj.free, AObj.free, AObj.free, AObj.free, AObj.free, AObj.free, AObj.row 2 1 none (upL (flatPP A0)), AObj.free, AObj.free, AObj.free, AObj.free, AObj.row 2 0 none (upL (flatPP b)), AObj.free, AObj.free, AObj.free, AObj.free, AObj.free, AObj.free, AObj.free, AObj.free, AObj.free, AObj.free, AObj.free, AObj.free, AObj.free] = some (AVal.row 34 1 2 0 (List.length B0), [AObj.box [iA (Prod.fst p), iA (Prod.snd p)], AObj.row 2 0 none [iA (Prod.fst p), iA (Prod.snd p)], AObj.row 2 0 none [iA (Prod.fst p), iA (Prod.snd p)], AObj.free, AObj.free, AObj.free, AObj.free, AObj.free, AObj.free, AObj.free, AObj.free, AObj.free, AObj.free, AObj.free, AObj.free, AObj.free, AObj.free, AObj.free, AObj.free, AObj.free, AObj.free, AObj.free, AObj.free, AObj.free, AObj.free, AObj.free, AObj.free, AObj.free, AObj.free, AObj.row 2 1 none (upL (flatPP A0)), AObj.free, AObj.free, AObj.free, AObj.free, AObj.row 2 1 none (upL (flatPP B0)), AObj.free, AObj.free, AObj.free, AObj.free, AObj.free, AObj.free, AObj.free, AObj.free, AObj.free, AObj.free, AObj.free, AObj.free, AObj.free])) (e10 : (!eqB (pAtR a (Int.toNat k)) p) = true → (!eqB (pAtR b 0) p) = true → callA (cfS L) (evalF (cfS L) 202) 0 59 [AVal.row 29 1 2 0 (List.length a + 1)] [AObj.box [iA (Prod.fst p), iA (Prod.snd p)], AObj.row 2 0 none [iA (Prod.fst p), iA (Prod.snd p)], AObj.row 2 0 none [iA (Prod.fst p), iA (Prod.snd p)], AObj.free, AObj.free, AObj.free, AObj.free, AObj.free, AObj.free, AObj.free, AObj.free, AObj.free, AObj.free, AObj.free, AObj.free, AObj.free, AObj.free, AObj.free, AObj.free, AObj.free, AObj.free, AObj.free, AObj.free, AObj.free, AObj.free, AObj.free, AObj.free, AObj.free, AObj.free, AObj.row 2 1 none (upL (flatPP A0)), AObj.free, AObj.free, AObj.free, AObj.free, AObj.row 2 1 none (upL (flatPP B0)), AObj.free, AObj.free, AObj.free, AObj.free, AObj.free, AObj.free, AObj.free, AObj.free, AObj.free, AObj.free, AObj.free, AObj.free, AObj.free] = some (AVal.row 29 1 2 0 (List.length a + 1), [AObj.box [iA (Prod.fst p), iA (Prod.snd p)], AObj.row 2 0 none [iA (Prod.fst p), iA (Prod.snd p)], AObj.row 2 0 none [iA (Prod.fst p), iA (Prod.snd p)], AObj.free, AObj.free, AObj.free, AObj.free, AObj.free, AObj.free, AObj.free, AObj.free, AObj.free, AObj.free, AObj.free, AObj.free, AObj.free, AObj.free, AObj.free, AObj.free, AObj.free, AObj.free, AObj.free, AObj.free, AObj.free, AObj.free, AObj.free, AObj.free, AObj.free, AObj.free, AObj.row 2 1 none (upL (flatPP A0)), AObj.free, AObj.free, AObj.free, AObj.free, AObj.row 2 1 none (upL (flatPP B0)), AObj.free, AObj.free, AObj.free, AObj.free, AObj.free, AObj.free, AObj.free, AObj.free, AObj.free, AObj.free, AObj.free, AObj.free, AObj.free])) (e11 : (!eqB (pAtR a (Int.toNat k)) p) = true → (!eqB (pAtR b 0) p) = true → callA (cfS L) (evalF (cfS L) 202) 0 59 [AVal.row 34 1 2 0 (List.length B0)] [AObj.box [iA (Prod.fst p), iA (Prod.snd p)], AObj.row 2 0 none [iA (Prod.fst p), iA (Prod.snd p)], AObj.row 2 0 none [iA (Prod.fst p), iA (Prod.snd p)], AObj.free, AObj.free, AObj.free, AObj.free, AObj.free, AObj.free, AObj.free, AObj.free, AObj.free, AObj.free, AObj.free, AObj.free, AObj.free, AObj.free, AObj.free, AObj.free, AObj.free, AObj.free, AObj.free, AObj.free, AObj.free, AObj.free, AObj.free, AObj.free, AObj.free, AObj.free, AObj.row 2 1 none (upL (flatPP A0)), AObj.free, AObj.free, AObj.free, AObj.free, AObj.row 2 1 none (upL (flatPP B0)), AObj.free, AObj.free, AObj.free, AObj.free, AObj.free, AObj.free, AObj.free, AObj.free, AObj.free, AObj.free, AObj.free, AObj.free, AObj.free] = some (AVal.row 34 1 2 0 (List.length B0), [AObj.box [iA (Prod.fst p), iA (Prod.snd p)], AObj.row 2 0 none [iA (Prod.fst p), iA (Prod.snd p)], AObj.row 2 0 none [iA (Prod.fst p), iA (Prod.snd p)], AObj.free, AObj.free, AObj.free, AObj.free, AObj.free, AObj.free, AObj.free, AObj.free, AObj.free, AObj.free, AObj.free, AObj.free, AObj.free, AObj.free, AObj.free, AObj.free, AObj.free, AObj.free, AObj.free, AObj.free, AObj.free, AObj.free, AObj.free, AObj.free, AObj.free, AObj.free, AObj.row 2 1 none (upL (flatPP A0)), AObj.free, AObj.free, AObj.free, AObj.free, AObj.row 2 1 none (upL (flatPP B0)), AObj.free, AObj.free, AObj.free, AObj.free, AObj.free, AObj.free, AObj.free, AObj.free, AObj.free, AObj.free, AObj.free, AObj.free, AObj.free])) (e12 : (!eqB (pAtR a (Int.toNat k)) p) = true → (!eqB (pAtR b 0) p) = true → peek (Vm.mark 0 deep [AObj.box [iA (Prod.fst p), iA (Prod.snd p)], AObj.row 2 0 none [iA (Prod.fst p), iA (Prod.snd p)], AObj.row 2 0 none [iA (Prod.fst p), iA (Prod.snd p)], AObj.free, AObj.free, AObj.free, AObj.free, AObj.free, AObj.free, AObj.free, AObj.free, AObj.free, AObj.free, AObj.free, AObj.free, AObj.free, AObj.free, AObj.free, AObj.free, AObj.free, AObj.free, AObj.free, AObj.free, AObj.free, AObj.free, AObj.free, AObj.free, AObj.free, AObj.free, AObj.row 2 1 none (upL (flatPP A0)), AObj.free, AObj.free, AObj.free, AObj.free, AObj.row 2 1 none (upL (flatPP B0)), AObj.free, AObj.free, AObj.free, AObj.free, AObj.free, AObj.free, AObj.free, AObj.free, AObj.free, AObj.free, AObj.free, AObj.free, AObj.free] (AVal.tup [AVal.row 29 1 2 0 (List.length a + 1), AVal.row 34 1 2 0 (List.length B0), bA true])) deep (AVal.tup [AVal.row 29 1 2 0 (List.length a + 1), AVal.row 34 1 2 0 (List.length B0), bA true]) = some (PVal.tup [slP A, slP B, bP true])) (e13 : (!eqB (pAtR a (Int.toNat k)) p) = true → (!eqB (pAtR b 0) p) = false → callA (cfS L) (evalF (cfS L) 202) 0 59 [AVal.row 29 1 2 0 (List.length a + 1)] [AObj.box [iA (Prod.fst p), iA (Prod.snd p)], AObj.row 2 0 none [iA (Prod.fst p), iA (Prod.snd p)], AObj.free, AObj.free, AObj.free, AObj.free, AObj.free, AObj.free, AObj.free, AObj.free, AObj.free, AObj.free, AObj.free, AObj.free, AObj.free, AObj.free, AObj.free, AObj.free, AObj.free, AObj.free, AObj.free, AObj.free, AObj.free, AObj.free, AObj.free, AObj.free, AObj.free, AObj.free, AObj.free, AObj.row 2 1 none (upL (flatPP A0)), AObj.free, AObj.free, AObj.free, AObj.free, AObj.row 2 0 none (upL (flatPP b)), AObj.free, AObj.free, AObj.free, AObj.free, AObj.free, AObj.free, AObj.free, AObj.free, AObj.free, AObj.free, AObj.free, AObj.free, AObj.free] = some (AVal.row 29 1 2 0 (List.length a + 1), [AObj.box [iA (Prod.fst p), iA (Prod.snd p)], AObj.row 2 0 none [iA (Prod.fst p), iA (Prod.snd p)], AObj.free, AObj.free, AObj.free, AObj.free, AObj.free, AObj.free, AObj.free, AObj.free, AObj.free, AObj.free, AObj.free, AObj.free, AObj.free, AObj.free, AObj.free, AObj.free, AObj.free, AObj.free, AObj.free, AObj.free, AObj.free, AObj.free, AObj.free, AObj.free, AObj.free, AObj.free, AObj.free, AObj.row 2 1 none (upL (flatPP A0)), AObj.free, AObj.free, AObj.free, AObj.free, AObj.row 2 0 none (upL (flatPP b)), AObj.free, AObj.free, AObj.free, AObj.free, AObj.free, AObj.free, AObj.free, AObj.free, AObj.free, AObj.free, AObj.free, AObj.free, AObj.free])) (e14 : (!eqB (pAtR a (Int.toNat k)) p) = true → (!eqB (pAtR b 0) p) = false → callA (cfS L) (evalF (cfS L) 202) 0 59 [AVal.row 34 0 2 0 (List.length b)] [AObj.box [iA (Prod.fst p), iA (Prod.snd p)], AObj.row 2 0 none [iA (Prod.fst p), iA (Prod.snd p)], AObj.free, AObj.free, AObj.free, AObj.free, AObj.free, AObj.free, AObj.free, AObj.free, AObj.free, AObj.free, AObj.free, AObj.free, AObj.free, AObj.free, AObj.free, AObj.free, AObj.free, AObj.free, AObj.free, AObj.free, AObj.free, AObj.free, AObj.free, AObj.free, AObj.free, AObj.free, AObj.free, AObj.row 2 1 none (upL (flatPP A0)), AObj.free, AObj.free, AObj.free, AObj.free, AObj.row 2 0 none (upL (flatPP b)), AObj.free, AObj.free, AObj.free, AObj.free, AObj.free, AObj.free, AObj.free, AObj.free, AObj.free, AObj.free, AObj.free, AObj.free, AObj.free] = some (AVal.row 34 0 2 0 (List.length b), [AObj.box [iA (Prod.fst p), iA (Prod.snd p)], AObj.row 2 0 none [iA (Prod.fst p), iA (Prod.snd p)], AObj.free, AObj.free, AObj.free, AObj.free, AObj.free, AObj.free, AObj.free, AObj.free, AObj.free, AObj.free, AObj.free, AObj.free, AObj.free, AObj.free, AObj.free, AObj.free, AObj.free, AObj.free, AObj.free, AObj.free, AObj.free, AObj.free, AObj.free, AObj.free, AObj.free, AObj.free, AObj.free, AObj.row 2 1 none (upL (flatPP A0)), AObj.free, AObj.free, AObj.free, AObj.free, AObj.row 2 0 none (upL (flatPP b)), AObj.free, AObj.free, AObj.free, AObj.free, AObj.free, AObj.free, AObj.free, AObj.free, AObj.free, AObj.free, AObj.free, AObj.free, AObj.free])) (e15 : (!eqB (pAtR a (Int.toNat k)) p) = true → (!eqB (pAtR b 0) p) = false → peek (Vm.mark 0 deep [AObj.box [iA (Prod.fst p), iA (Prod.snd p)], AObj.row 2 0 none [iA (Prod.fst p), iA (Prod.snd p)], AObj.free, AObj.free, AObj.free, AObj.free, AObj.free, AObj.free, AObj.free, AObj.free, AObj.free, AObj.free, AObj.free, AObj.free, AObj.free, AObj.free, AObj.free, AObj.free, AObj.free, AObj.free, AObj.free, AObj.free, AObj.free, AObj.free, AObj.free, AObj.free, AObj.free, AObj.free, AObj.free, AObj.row 2 1 none (upL (flatPP A0)), AObj.free, AObj.free, AObj.free, AObj.free, AObj.row 2 0 none (upL (flatPP b)), AObj.free, AObj.free, AObj.free, AObj.free, AObj.free, AObj.free, AObj.free, AObj.free, AObj.free, AObj.free, AObj.free, AObj.free, AObj.free] (AVal.tup [AVal.row 29 1 2 0 (List.length a + 1), AVal.row 34 0 2 0 (List.length b), bA true])) deep (AVal.tup [AVal.row 29 1 2 0 (List.length a + 1), AVal.row 34 0 2 0 (List.length b), bA true]) = some (PVal.tup [slP A, slP B, bP true])) (e16 : (!eqB (pAtR a (Int.toNat k)) p) = false → (!eqB (pAtR b 0) p) = true → callA (cfS L) (evalF (cfS L) 202) 0 65 [AVal.row 34 0 2 0 (List.length b), iA 0, AVal.row 1 0 2 0 1] [AObj.box [iA (Prod.fst p), iA (Prod.snd p)], AObj.row 2 0 none [iA (Prod.fst p), iA (Prod.snd p)], AObj.free, AObj.free, AObj.free, AObj.free, AObj.free, AObj.free, AObj.free, AObj.free, AObj.free, AObj.free, AObj.free, AObj.free, AObj.free, AObj.free, AObj.free, AObj.free, AObj.free, AObj.free, AObj.free, AObj.free, AObj.free, AObj.free, AObj.free, AObj.free, AObj.free, AObj.free, AObj.free, AObj.row 2 0 none (upL (flatPP a)), AObj.free, AObj.free, AObj.free, AObj.free, AObj.row 2 0 none (upL (flatPP b)), AObj.free, AObj.free, AObj.free, AObj.free, AObj.free, AObj.free, AObj.free, AObj.free, AObj.free, AObj.free, AObj.free, AObj.free, AObj.free] = some (AVal.row 34 1 2 0 (List.length B0), [AObj.box [iA (Prod.fst p), iA (Prod.snd p)], AObj.row 2 0 none [iA (Prod.fst p), iA (Prod.snd p)], AObj.free, AObj.free, AObj.free, AObj.free, AObj.free, AObj.free, AObj.free, AObj.free, AObj.free, AObj.free, AObj.free, AObj.free, AObj.free, AObj.free, AObj.free, AObj.free, AObj.free, AObj.free, AObj.free, AObj.free, AObj.free, AObj.free, AObj.free, AObj.free, AObj.free, AObj.free, AObj.free, AObj.row 2 0 none (upL (flatPP a)), AObj.free, AObj.free, AObj.free, AObj.free, AObj.row 2 1 none (upL (flatPP B0)), AObj.free, AObj.free, AObj.free, AObj.free, AObj.free, AObj.free, AObj.free, AObj.free, AObj.free, AObj.free, AObj.free, AObj.free, AObj.free])) (e17 : (!eqB (pAtR a (Int.toNat k)) p) = false → (!eqB (pAtR b 0) p) = true → callA (cfS L) (evalF (cfS L) 202) 0 59 [AVal.row 29 0 2 0 (List.length a)] [AObj.box [iA (Prod.fst p), iA (Prod.snd p)], AObj.row 2 0 none [iA (Prod.fst p), iA (Prod.snd p)], AObj.free, AObj.free, AObj.free, AObj.free, AObj.free, AObj.free, AObj.free, AObj.free, AObj.free, AObj.free, AObj.free, AObj.free, AObj.free, AObj.free, AObj.free, AObj.free, AObj.free, AObj.free, AObj.free, AObj.free, AObj.free, AObj.free, AObj.free, AObj.free, AObj.free, AObj.free, AObj.free, AObj.row 2 0 none (upL (flatPP a)), AObj.free, AObj.free, AObj.free, AObj.free, AObj.row 2 1 none (upL (flatPP B0)), AObj.free, AObj.free, AObj.free, AObj.free, AObj.free, AObj.free, AObj.free, AObj.free, AObj.free, AObj.free, AObj.free, AObj.free, AObj.free] = some (AVal.row 29 0 2 0 (List.length a), [AObj.box [iA (Prod.fst p), iA (Prod.snd p)], AObj.row 2 0 none [iA (Prod.fst p), iA (Prod.snd p)], AObj.free, AObj.free, AObj.free, AObj.free, AObj.free, AObj.free, AObj.free, AObj.free, AObj.free, AObj.free, AObj.free, AObj.free, AObj.free, AObj.free, AObj.free, AObj.free, AObj.free, AObj.free, AObj.free, AObj.free, AObj.free, AObj.free, AObj.free, AObj.free, AObj.free, AObj.free, AObj.free, AObj.row 2 0 none (upL (flatPP a)), AObj.free, AObj.free, AObj.free, AObj.free, AObj.row 2 1 none (upL (flatPP B0)), AObj.free, AObj.free, AObj.free, AObj.free, AObj.free, AObj.free, AObj.free, AObj.free, AObj.free, AObj.free, AObj.free, AObj.free, AObj.free])) (e18 : (!eqB (pAtR a (Int.toNat k)) p) = false → (!eqB (pAtR b 0) p) = true → callA (cfS L) (evalF (cfS L) 202) 0 59 [AVal.row 34 1 2 0 (List.length B0)] [AObj.box [iA (Prod.fst p), iA (Prod.snd p)], AObj.row 2 0 none [iA (Prod.fst p), iA (Prod.snd p)], AObj.free, AObj.free, AObj.free, AObj.free, AObj.free, AObj.free, AObj.free, AObj.free, AObj.free, AObj.free, AObj.free, AObj.free, AObj.free, AObj.free, AObj.free, AObj.free, AObj.free, AObj.free, AObj.free, AObj.free, AObj.free, AObj.free, AObj.free, AObj.free, AObj.free, AObj.free, AObj.free, AObj.row 2 0 none (upL (flatPP a)), AObj.free, AObj.free, AObj.free, AObj.free, AObj.row 2 1 none (upL (flatPP B0)), AObj.free, AObj.free, AObj.free, AObj.free, AObj.free, AObj.free, AObj.free, AObj.free, AObj.free, AObj.free, AObj.free, AObj.free, AObj.free] = some (AVal.row 34 1 2 0 (List.length B0), [AObj.box [iA (Prod.fst p), iA (Prod.snd p)], AObj.row 2 0 none [iA (Prod.fst p), iA (Prod.snd p)], AObj.free, AObj.free, AObj.free, AObj.free, AObj.free, AObj.free, AObj.free, AObj.free, AObj.free, AObj.free, AObj.free, AObj.free, AObj.free, AObj.free, AObj.free, AObj.free, AObj.free, AObj.free, AObj.free, AObj.free, AObj.free, AObj.free, AObj.free, AObj.free, AObj.free, AObj.free, AObj.free, AObj.row 2 0 none (upL (flatPP a)), AObj.free, AObj.free, AObj.free, AObj.free, AObj.row 2 1 none (upL (flatPP B0)), AObj.free, AObj.free, AObj.free, AObj.free, AObj.free, AObj.free, AObj.free, AObj.free, AObj.free, AObj.free, AObj.free, AObj.free, AObj.free])) (e19 : (!eqB (pAtR a (Int.toNat k)) p) = false → (!eqB (pAtR b 0) p) = true → peek (Vm.mark 0 deep [AObj.box [iA (Prod.fst p), iA (Prod.snd p)], AObj.row 2 0 none [iA (Prod.fst p), iA (Prod.snd p)], AObj.free, AObj.free, AObj.free, AObj.free, AObj.free, AObj.free, AObj.free, AObj.free, AObj.free, AObj.free, AObj.free, AObj.free, AObj.free, AObj.free, AObj.free, AObj.free, AObj.free, AObj.free, AObj.free, AObj.free, AObj.free, AObj.free, AObj.free, AObj.free, AObj.free, AObj.free, AObj.free, AObj.row 2 0 none (upL (flatPP a)), AObj.free, AObj.free, AObj.free, AObj.free, AObj.row 2 1 none (upL (flatPP B0)), AObj.free, AObj.free, AObj.free, AObj.free, AObj.free, AObj.free, AObj.free, AObj.free, AObj.free, AObj.free, AObj.free, AObj.free, AObj.free] (AVal.tup [AVal.row 29 0 2 0 (List.length a), AVal.row 34 1 2 0 (List.length B0), bA true])) deep (AVal.tup [AVal.row 29 0 2 0 (List.length a), AVal.row 34 1 2 0 (List.length B0), bA true]) = some (PVal.tup [slP A, slP B, bP true])) (e20 : (!eqB (pAtR a (Int.toNat k)) p) = false → (!eqB (pAtR b 0) p) = false → callA (cfS L) (evalF (cfS L) 202) 0 59 [AVal.row 29 0 2 0 (List.length a)] [AObj.box [iA (Prod.fst p), iA (Prod.snd p)], AObj.free, AObj.free, AObj.free, AObj.free, AObj.free, AObj.free, AObj.free, AObj.free, AObj.free, AObj.free, AObj.free, AObj.free, AObj.free, AObj.free, AObj.free, AObj.free, AObj.free, AObj.free, AObj.free, AObj.free, AObj.free, AObj.free, AObj.free, AObj.free, AObj.free, AObj.free, AObj.free, AObj.free, AObj.row 2 0 none (upL (flatPP a)), AObj.free, AObj.free, AObj.free, AObj.free, AObj.row 2 0 none (upL (flatPP b)), AObj.free, AObj.free, AObj.free, AObj.free, AObj.free, AObj.free, AObj.free, AObj.free, AObj.free, AObj.free, AObj.free, AObj.free, AObj.free] = some (AVal.row 29 0 2 0 (List.length a), [AObj.box [iA (Prod.fst p), iA (Prod.snd p)], AObj.free, AObj.free, AObj.free, AObj.free, AObj.free, AObj.free, AObj.free, AObj.free, AObj.free, AObj.free, AObj.free, AObj.free, AObj.free, AObj.free, AObj.free, AObj.free, AObj.free, AObj.free, AObj.free, AObj.free, AObj.free, AObj.free, AObj.free, AObj.free, AObj.free, AObj.free, AObj.free, AObj.free, AObj.row 2 0 none (upL (flatPP a)), AObj.free, AObj.free, AObj.free, AObj.free, AObj.row 2 0 none (upL (flatPP b)), AObj.free, AObj.free, AObj.free, AObj.free, AObj.free, AObj.free, AObj.free, AObj.free, AObj.free, AObj.free, AObj.free, AObj.free, AObj.free])) (e21 : (!eqB (pAtR a (Int.toNat k)) p) = false → (!eqB (pAtR b 0) p) = false → callA (cfS L) (evalF (cfS L) 202) 0 59 [AVal.row 34 0 2 0 (List.length b)] [AObj.box [iA (Prod.fst p), iA (Prod.snd p)], AObj.free, AObj.free, AObj.free, AObj.free, AObj.free, AObj.free, AObj.free, AObj.free, AObj.free, AObj.free, AObj.free, AObj.free, AObj.free, AObj.free, AObj.free, AObj.free, AObj.free, AObj.free, AObj.free, AObj.free, AObj.free, AObj.free, AObj.free, AObj.free, AObj.free, AObj.free, AObj.free, AObj.free, AObj.row 2 0 none (upL (flatPP a)), AObj.free, AObj.free, AObj.free, AObj.free, AObj.row 2 0 none (upL (flatPP b)), AObj.free, AObj.free, AObj.free, AObj.free, AObj.free, AObj.free, AObj.free, AObj.free, AObj.free, AObj.free, AObj.free, AObj.free, AObj.free] = some (AVal.row 34 0 2 0 (List.length b), [AObj.box [iA (Prod.fst p), iA (Prod.snd p)], AObj.free, AObj.free, AObj.free, AObj.free, AObj.free, AObj.free, AObj.free, AObj.free, AObj.free, AObj.free, AObj.free, AObj.free, AObj.free, AObj.free, AObj.free, AObj.free, AObj.free, AObj.free, AObj.free, AObj.free, AObj.free, AObj.free, AObj.free, AObj.free, AObj.free, AObj.free, AObj.free, AObj.free, AObj.row 2 0 none (upL (flatPP a)), AObj.free, AObj.free, AObj.free, AObj.free, AObj.row 2 0 none (upL (flatPP b)), AObj.free, AObj.free, AObj.free, AObj.free, AObj.free, AObj.free, AObj.free, AObj.free, AObj.free, AObj.free, AObj.free, AObj.free, AObj.free])) (e22 : (!eqB (pAtR a (Int.toNat k)) p) = false → (!eqB (pAtR b 0) p) = false → peek (Vm.mark 0 deep [AObj.box [iA (Prod.fst p), iA (Prod.snd p)], AObj.free, AObj.free, AObj.free, AObj.free, AObj.free, AObj.free, AObj.free, AObj.free, AObj.free, AObj.free, AObj.free, AObj.free, AObj.free, AObj.free, AObj.free, AObj.free, AObj.free, AObj.free, AObj.free, AObj.free, AObj.free, AObj.free, AObj.free, AObj.free, AObj.free, AObj.free, AObj.free, AObj.free, AObj.row 2 0 none (upL (flatPP a)), AObj.free, AObj.free, AObj.free, AObj.free, AObj.row 2 0 none (upL (flatPP b)), AObj.free, AObj.free, AObj.free, AObj.free, AObj.free, AObj.free, AObj.free, AObj.free, AObj.free, AObj.free, AObj.free, AObj.free, AObj.free] (AVal.tup [AVal.row 29 0 2 0 (List.length a), AVal.row 34 0 2 0 (List.length b), bA true])) deep (AVal.tup [AVal.row 29 0 2 0 (List.length a), AVal.row 34 0 2 0 (List.length b), bA true]) = some (PVal.tup [slP A, slP B, bP true])) : CallsP Try.prog 40 [slP ps, ptP p] (spE L ps a b A0 B0 A B p k okp) := by
  have key := fun (bs : List Bool) (r : PVal) (ob : List Prop) (h : callP (cfS L) (evalF (cfS L) 202) 202 [(9999, 0, Hint.idx), (1, 2, Hint.pcall (iP k)), (2, 1, Hint.pcall (bP okp)), (4, 3, Hint.cut), (4, 8, Hint.cut), (4, 4, Hint.fcall (Fr.row 2 0 (List.length a) (flatPP a))), (4, 9, Hint.fcall (Fr.row 2 0 (List.length b) (flatPP b))), (6, 3, Hint.appY (upL (flatPP A0))), (8, 3, Hint.callS (insF B0)), (9, 1, Hint.callS clipF), (9, 3, Hint.callS clipF)] 40 [slP ps, ptP p] bs [] (some (PVal.tup [slP A, slP B, bP true])) = .ok (r, ob)) (hp : allOb ob) => callP_ok (cfS_ok L) h hp
  unfold spE
  exact bif_case (P := fun r => CallsP Try.prog 40 [slP ps, ptP p] r)
    (fun h0 => bif_case (P := fun r => CallsP Try.prog 40 [slP ps, ptP p] r)
     (fun h1 => key [false, false, false, false, true, true] (PVal.tup [slP A, slP B, bP true]) _ (by kernel_rfl) (allOb_cons (by exact (e12 h0 h1)) (allOb_cons (by exact (e11 h0 h1)) (allOb_cons (by exact (e10 h0 h1)) (allOb_cons (by exact (e9 h0 h1)) (allOb_cons h1 (allOb_cons (part_pt b3) (allOb_cons b3 (allOb_cons (by exact (e8 h0)) (allOb_cons (show 2 ≤ 2 from by decide) (allOb_cons (show 0 < 1 from by decide) (allOb_cons (by exact (e7 h0)) (allOb_cons (by exact (e6 h0)) (allOb_cons h0 (allOb_cons (partQ_pt b2) (allOb_cons b2 (allOb_cons (by exact e5) (allOb_cons (by exact e4) (allOb_cons (by exact e3) (allOb_cons (by exact e2) (allOb_cons p3 (allOb_cons (part_pt b1) (allOb_cons (idx_ok b1) (allOb_cons p2 (allOb_cons (part_pt b0) (allOb_cons (idx_ok b0) (allOb_cons p1 (allOb_cons p0 (allOb_cons (by exact e1) (allOb_cons (by exact e0) allOb_nil))))))))))))))))))))))))))))))
     (fun h1 => key [false, false, false, false, true, false] (PVal.tup [slP A, slP B, bP true]) _ (by kernel_rfl) (allOb_cons (by exact (e15 h0 h1)) (allOb_cons (by exact (e14 h0 h1)) (allOb_cons (by exact (e13 h0 h1)) (allOb_cons h1 (allOb_cons (part_pt b3) (allOb_cons b3 (allOb_cons (by exact (e8 h0)) (allOb_cons (show 2 ≤ 2 from by decide) (allOb_cons (show 0 < 1 from by decide) (allOb_cons (by exact (e7 h0)) (allOb_cons (by exact (e6 h0)) (allOb_cons h0 (allOb_cons (partQ_pt b2) (allOb_cons b2 (allOb_cons (by exact e5) (allOb_cons (by exact e4) (allOb_cons (by exact e3) (allOb_cons (by exact e2) (allOb_cons p3 (allOb_cons (part_pt b1) (allOb_cons (idx_ok b1) (allOb_cons p2 (allOb_cons (part_pt b0) (allOb_cons (idx_ok b0) (allOb_cons p1 (allOb_cons p0 (allOb_cons (by exact e1) (allOb_cons (by exact e0) allOb_nil))))))))))))))))))))))))))))))
    (fun h0 => bif_case (P := fun r => CallsP Try.prog 40 [slP ps, ptP p] r)
     (fun h1 => key [false, false, false, false, false, true] (PVal.tup [slP A, slP B, bP true]) _ (by kernel_rfl) (allOb_cons (by exact (e19 h0 h1)) (allOb_cons (by exact (e18 h0 h1)) (allOb_cons (by exact (e17 h0 h1)) (allOb_cons (by exact (e16 h0 h1)) (allOb_cons h1 (allOb_cons (part_pt b3) (allOb_cons b3 (allOb_cons h0 (allOb_cons (partQ_pt b2) (allOb_cons b2 (allOb_cons (by exact e5) (allOb_cons (by exact e4) (allOb_cons (by exact e3) (allOb_cons (by exact e2) (allOb_cons p3 (allOb_cons (part_pt b1) (allOb_cons (idx_ok b1) (allOb_cons p2 (allOb_cons (part_pt b0) (allOb_cons (idx_ok b0) (allOb_cons p1 (allOb_cons p0 (allOb_cons (by exact e1) (allOb_cons (by exact e0) allOb_nil)))))))))))))))))))))))))
     (fun h1 => key [false, false, false, false, false, false] (PVal.tup [slP A, slP B, bP true]) _ (by kernel_rfl) (allOb_cons (by exact (e22 h0 h1)) (allOb_cons (by exact (e21 h0 h1)) (allOb_cons (by exact (e20 h0 h1)) (allOb_cons h1 (allOb_cons (part_pt b3) (allOb_cons b3 (allOb_cons h0 (allOb_cons (partQ_pt b2) (allOb_cons b2 (allOb_cons (by exact e5) (allOb_cons (by exact e4) (allOb_cons (by exact e3) (allOb_cons (by exact e2) (allOb_cons p3 (allOb_cons (part_pt b1) (allOb_cons (idx_ok b1) (allOb_cons p2 (allOb_cons (part_pt b0) (allOb_cons (idx_ok b0) (allOb_cons p1 (allOb_cons p0 (allOb_cons (by exact e1) (allOb_cons (by exact e0) allOb_nil)))))))))))))))))))))))))
end Go.Proofs.Ytmopbegmdegooaa
/- line.Split: what it answers. -/
namespace Go.Proofs.Ytmopbegmdegooaa
open Go Vm M
set_option linter.unusedVariables false
set_option linter.unusedSimpArgs false
theorem cutP_flat (ps : List P2) (l h : Nat) : cutA (flatPP ps) 2 l h = flatPP ((ps.drop l).take (h - l)) := by
  unfold cutA
  rw [flatPP_drop]
  generalize ps.drop l = qs
  generalize h - l = k
  induction qs generalizing k with
  | nil => simp [flatPP]
  | cons p qs ih =>
    cases k with
    | zero => simp [flatPP]
    | succ k => rw [show (k + 1) * 2 = k * 2 + 1 + 1 by omega]; simp [flatPP, ih]
theorem ins_call {L : Lib Try.prog} {ev : Ev} {S : List AObj} {o o2 ep ep2 n : Nat} {xs ys : List AVal} {fz : Option Nat} (hx : S[o]? = some (.row 2 ep none xs)) (hy : S[o2]? = some (.row 2 ep2 fz ys)) (ho : o ≠ o2) (hn : n * 2 = xs.length) (h0 : 0 < n) (h1 : n ≤ 1000) (h2 : 2 ≤ ys.length) :
    callA (cfS L) ev 0 65 [.row o ep 2 0 n, .v (.int .i64 0), .row o2 ep2 2 0 1] S = some (.row o (ep + 1) 2 0 (n + 1), S.set o (.row 2 (ep + 1) none (ys.take 2 ++ xs))) := by
  have e : callA (cfS L) ev 0 65 [.row o ep 2 0 n, .v (.int .i64 0), .row o2 ep2 2 0 1] S = gIns 0 [.row o ep 2 0 n, .v (.int .i64 0), .row o2 ep2 2 0 1] S := by kernel_rfl
  rw [e]
  unfold gIns
  simp only [hx, hy]
  rw [if_pos ⟨trivial, trivial, trivial, trivial, trivial, trivial, trivial, ho, Nat.zero_le _, by omega, by omega, by omega, by omega, by omega⟩]
  unfold insA
  rw [show (0 : Int).toNat = 0 from rfl, Nat.zero_mul, List.drop_zero, List.take_zero, List.nil_append, List.drop_zero, Nat.sub_zero, hn, List.take_length]
theorem clip_call {L : Lib Try.prog} {ev : Ev} {S : List AObj} {o ep n : Nat} (h0 : 0 < n) : callA (cfS L) ev 0 59 [.row o ep 2 0 n] S = some (.row o ep 2 0 n, S) := by
  have e : callA (cfS L) ev 0 59 [.row o ep 2 0 n] S = gClip 0 [.row o ep 2 0 n] S := by kernel_rfl
  rw [e]
  unfold gClip
  exact if_pos ⟨rfl, h0⟩
theorem back_two {S : List AObj} {o1 o2 e1 e2 n1 n2 : Nat} {f1 f2 : Option Nat} {A B : List P2} {t : Bool} (h1 : S[o1]? = some (.row 2 e1 f1 (flatP A))) (h2 : S[o2]? = some (.row 2 e2 f2 (flatP B))) (ho : o1 ≠ o2) (hA : n1 = A.length) (hB : n2 = B.length) :
    peek (Vm.mark 0 deep S (.tup [.row o1 e1 2 0 n1, .row o2 e2 2 0 n2, .v (.bool t)])) deep (.tup [.row o1 e1 2 0 n1, .row o2 e2 2 0 n2, .v (.bool t)]) = some (.tup [slP A, slP B, bP t]) := by
  subst hA hB
  have l1 := (List.getElem?_eq_some_iff.1 h1).1
  have l2 := (List.getElem?_eq_some_iff.1 h2).1
  have e : Vm.mark 0 deep S (.tup [.row o1 e1 2 0 A.length, .row o2 e2 2 0 B.length, .v (.bool t)]) = (S.set o1 (.row 2 e1 (some (flatP A).length) (flatP A))).set o2 (.row 2 e2 (some (flatP B).length) (flatP B)) := by
    show Vm.mark 0 5 (Vm.mark 0 5 (Vm.mark 0 5 S (.row o1 e1 2 0 A.length)) (.row o2 e2 2 0 B.length)) (.v (.bool t)) = _
    rw [mark_row (n := 4) h1, mark_row (n := 4) (fz := f2) (by rw [List.getElem?_set_ne ho]; exact h2)]
    rfl
  rw [e]
  have p1 := peek_rowE (S := (S.set o1 (.row 2 e1 (some (flatP A).length) (flatP A))).set o2 (.row 2 e2 (some (flatP B).length) (flatP B))) (o := o1) (n := 3) (e := e1) (ps := A) (by rw [List.getElem?_set_ne (Ne.symm ho), List.getElem?_set_self l1])
  have p2 := peek_rowE (S := (S.set o1 (.row 2 e1 (some (flatP A).length) (flatP A))).set o2 (.row 2 e2 (some (flatP B).length) (flatP B))) (o := o2) (n := 3) (e := e2) (ps := B) (by rw [List.getElem?_set_self (by rw [List.length_set]; exact l2)])
  show (mapO (peek _ 5) [.row o1 e1 2 0 A.length, .row o2 e2 2 0 B.length, .v (.bool t)]).map PVal.tup = _
  simp only [mapO, p1, p2]
  rfl
theorem flat_snoc (a : List P2) (p : P2) : List.drop 0 (upL (flatPP a)) ++ [AVal.v (Value.int IntKind.i64 p.1), AVal.v (Value.int IntKind.i64 p.2)] = upL (flatPP (a ++ [p])) := by
  rw [List.drop_zero, upL_flatPP, upL_flatPP]
  induction a with
  | nil => rfl
  | cons q a ih => simp only [flatP, List.cons_append, ih]
/-- The two parts of a line. -/
def splitO (ps : List P2) (p : P2) : Option (List P2 × List P2) :=
  match atO ps p with
  | none => none
  | some k => bif !okP p || eqB (pAt ps 0) p || eqB (pAt ps (ps.length - 1)) p then none
    else some (bif eqB (pAt ps k) p then ps.take (k + 1) else ps.take (k + 1) ++ [p], bif eqB (pAt ps (k + 1)) p then ps.drop (k + 1) else p :: ps.drop (k + 1))
def splitP (ps : List P2) (p : P2) : PVal :=
  match splitO ps p with
  | some (A, B) => .tup [slP A, slP B, bP true]
  | none => noneP
theorem atG {ps : List P2} (h200 : ps.length ≤ 200) (p : P2) {ev : Ev} : pureCall (cfS LA8) ev 39 [slP ps, ptP p] = some (iP (atI ps p)) :=
  pure_given (g := gSPo fun ps p => lim ps (iP (atI ps p))) (by kernel_rfl) (by rw [gSPo_slP, lim_of h200])
theorem okG (p : P2) {ev : Ev} : pureCall (cfS LA8) ev 63 [ptP p] = some (bP (okP p)) := pure_given (g := g1 fun p => bP (okP p)) (by kernel_rfl) rfl
theorem atO_lt {ps : List P2} {p : P2} {k : Nat} (h : atO ps p = some k) : k + 1 < ps.length := by
  have := (firstAt_some h).2.1
  omega
theorem pAt_take {ps : List P2} {k m : Nat} (h : k < m) : pAt (ps.take m) k = pAt ps k := by
  rw [pAt_eq, pAt_eq, List.getD, List.getD, List.getElem?_take_of_lt h]
theorem pAt_drop {ps : List P2} {k m : Nat} : pAt (ps.drop m) k = pAt ps (m + k) := by
  rw [pAt_eq, pAt_eq, List.getD, List.getD, List.getElem?_drop]
theorem split_calls (ps : List P2) (p : P2) (h200 : ps.length ≤ 200) : CallsP Try.prog 40 [slP ps, ptP p] (splitP ps p) := by
  have g1 := @atG ps h200 p (evalF (cfS LA8) 202)
  have g2 := @okG p (evalF (cfS LA8) 202)
  unfold splitP splitO
  cases ho : okP p with
  | false =>
    have e : (match (match atO ps p with
      | none => none
      | some k => bif !false || eqB (pAt ps 0) p || eqB (pAt ps (ps.length - 1)) p then none
        else some (bif eqB (pAt ps k) p then ps.take (k + 1) else ps.take (k + 1) ++ [p], bif eqB (pAt ps (k + 1)) p then ps.drop (k + 1) else p :: ps.drop (k + 1)) : Option (List P2 × List P2)) with
      | some (A, B) => PVal.tup [slP A, slP B, bP true]
      | none => noneP) = noneP := by cases atO ps p <;> rfl
    rw [e]
    exact spA_calls LA8 ps p (atI ps p) (okP p) (by rw [ho]; rfl) g1 g2 (by kernel_rfl)
  | true =>
    cases ha : atO ps p with
    | none =>
      have hi : atI ps p = -1 := by unfold atI; rw [ha]
      exact spB_calls LA8 ps p (atI ps p) (okP p) (by rw [hi]; rfl) (by rw [ho]; rfl) g1 g2 (by kernel_rfl)
    | some k =>
      have hk := atO_lt ha
      have hi : atI ps p = (k : Int) := by unfold atI; rw [ha]
      have hw : IntKind.i64.wrap ((ps.length : Int) - 1) = ((ps.length - 1 : Nat) : Int) := by rw [IntWalk.i64_in _ (by omega)]; omega
      have d1 : decide (atI ps p < 0) = false := by rw [hi]; exact decide_eq_false (by omega)
      have d0 : (!okP p) = false := by rw [ho]; rfl
      simp only [Bool.not_true, Bool.false_or]
      cases h2 : eqB (pAt ps 0) p with
      | true => exact spC_calls LA8 ps p (atI ps p) (okP p) h2 d1 d0 g1 g2 ⟨by omega, by omega⟩ (by kernel_rfl)
      | false =>
        cases h3 : eqB (pAt ps (ps.length - 1)) p with
        | true => exact spD_calls LA8 ps p (atI ps p) (okP p) (by rw [hw, Int.toNat_natCast]; exact h3) h2 d1 d0 g1 g2 ⟨by omega, by omega⟩ ⟨by rw [hw]; omega, by rw [hw]; omega⟩ (by kernel_rfl)
        | false =>
          simp only [Bool.or_false, cond_false]
          have hl : (ps.take (k + 1)).length = k + 1 := by rw [List.length_take]; omega
          have hd : (ps.drop (k + 1)).length = ps.length - (k + 1) := by rw [List.length_drop]
          have ek : IntKind.i64.wrap (atI ps p + 1) = ((k + 1 : Nat) : Int) := by rw [hi, wrS (by omega)]
          have p0 : pAtR (ps.take (k + 1)) (Int.toNat (atI ps p)) = pAt ps k := by rw [pAtR_eq, hi, Int.toNat_natCast, pAt_take (by omega)]
          have q0 : pAtR (ps.drop (k + 1)) 0 = pAt ps (k + 1) := by rw [pAtR_eq, pAt_drop, Nat.add_zero]
          have p0' : pAt (ps.take (k + 1)) k = pAt ps k := pAt_take (by omega)
          have hsp := spE_calls LA8 ps (ps.take (k + 1)) (ps.drop (k + 1)) (ps.take (k + 1) ++ [p]) (p :: ps.drop (k + 1))
            (bif eqB (pAt ps k) p then ps.take (k + 1) else ps.take (k + 1) ++ [p]) (bif eqB (pAt ps (k + 1)) p then ps.drop (k + 1) else p :: ps.drop (k + 1)) p (atI ps p) (okP p)
            (by rw [hw, Int.toNat_natCast]; exact h3) h2 d1 d0 g1 g2 ⟨by omega, by omega⟩ ⟨by rw [hw]; omega, by rw [hw]; omega⟩
            (by rw [ek]; exact boundsA_hi (by omega))
            (by
              rw [ek, Int.toNat_natCast, cutP_flat, List.drop_zero, Nat.sub_zero]
              have := fresh_clone LA8 (by kernel_rfl) (ps.take (k + 1)) (by omega) (by omega)
              unfold slP at this
              rw [hl] at this ⊢
              exact this)
            (by rw [ek]; exact boundsA_lo (by omega))
            (by
              rw [ek, Int.toNat_natCast, cutP_flat]
              have := fresh_clone LA8 (by kernel_rfl) (ps.drop (k + 1)) (by omega) (by omega)
              unfold slP at this
              rw [hd] at this ⊢
              rw [List.take_of_length_le (by omega)]
              exact this)
            ⟨by rw [hi]; omega, by rw [hi, hl]; omega⟩
            (fun _ => ⟨by rw [upL_flatPP, flatP_length]; omega, by omega, by omega⟩)
            (fun _ => by rfl)
            (fun _ => flat_snoc _ _)
            ⟨by omega, by omega⟩
            (fun _ _ => ins_call (xs := upL (flatPP (ps.drop (k + 1)))) (ys := [AVal.v (Value.int IntKind.i64 p.1), AVal.v (Value.int IntKind.i64 p.2)]) rfl rfl (by omega) (by rw [upL_flatPP, flatP_length]) (by omega) (by omega) (Nat.le_refl 2))
            (fun _ _ => clip_call (by omega))
            (fun _ _ => clip_call (by simp))
            (fun h h' => by
              rw [p0] at h
              rw [q0] at h'
              rw [Bool.not_eq_true'] at h h'
              rw [h, h']
              exact back_two (A := ps.take (k + 1) ++ [p]) (B := p :: ps.drop (k + 1)) (t := true) (by rw [← upL_flatPP]; rfl) (by rw [← upL_flatPP]; rfl) (by omega) (by simp) rfl)
            (fun _ _ => clip_call (by omega))
            (fun _ _ => clip_call (by omega))
            (fun h h' => by
              rw [p0] at h
              rw [q0] at h'
              rw [Bool.not_eq_true'] at h
              rw [Bool.not_eq_false'] at h'
              rw [h, h']
              exact back_two (A := ps.take (k + 1) ++ [p]) (B := ps.drop (k + 1)) (t := true) (by rw [← upL_flatPP]; rfl) (by rw [← upL_flatPP]; rfl) (by omega) (by simp) rfl)
            (fun _ _ => ins_call (xs := upL (flatPP (ps.drop (k + 1)))) (ys := [AVal.v (Value.int IntKind.i64 p.1), AVal.v (Value.int IntKind.i64 p.2)]) rfl rfl (by omega) (by rw [upL_flatPP, flatP_length]) (by omega) (by omega) (Nat.le_refl 2))
            (fun _ _ => clip_call (by omega))
            (fun _ _ => clip_call (by simp))
            (fun h h' => by
              rw [p0] at h
              rw [q0] at h'
              rw [Bool.not_eq_false'] at h
              rw [Bool.not_eq_true'] at h'
              rw [h, h']
              exact back_two (A := ps.take (k + 1)) (B := p :: ps.drop (k + 1)) (t := true) (by rw [← upL_flatPP]; rfl) (by rw [← upL_flatPP]; rfl) (by omega) rfl rfl)
            (fun _ _ => clip_call (by omega))
            (fun _ _ => clip_call (by omega))
            (fun h h' => by
              rw [p0] at h
              rw [q0] at h'
              rw [Bool.not_eq_false'] at h h'
              rw [h, h']
              exact back_two (A := ps.take (k + 1)) (B := ps.drop (k + 1)) (t := true) (by rw [← upL_flatPP]; rfl) (by rw [← upL_flatPP]; rfl) (by omega) rfl rfl)
          have e : spE LA8 ps (ps.take (k + 1)) (ps.drop (k + 1)) (ps.take (k + 1) ++ [p]) (p :: ps.drop (k + 1))
            (bif eqB (pAt ps k) p then ps.take (k + 1) else ps.take (k + 1) ++ [p]) (bif eqB (pAt ps (k + 1)) p then ps.drop (k + 1) else p :: ps.drop (k + 1)) p (atI ps p) (okP p) = .tup [slP (bif eqB (pAt ps k) p then ps.take (k + 1) else ps.take (k + 1) ++ [p]), slP (bif eqB (pAt ps (k + 1)) p then ps.drop (k + 1) else p :: ps.drop (k + 1)), bP true] := by
            unfold spE
            cases !eqB (pAtR (ps.take (k + 1)) (atI ps p).toNat) p <;> cases !eqB (pAtR (ps.drop (k + 1)) 0) p <;> rfl
          rw [e] at hsp
          exact hsp
end Go.Proofs.Ytmopbegmdegooaa
/- Lines: what is told of line.Split, as a function of a library. -/
namespace Go.Proofs.Ytmopbegmdegooaa
open Go Vm M
set_option linter.unusedVariables false
set_option linter.unusedSimpArgs false
noncomputable def LS0 : Lib Try.prog := LA8.add 40 (gSPo fun ps p => lim ps (splitP ps p)) (Vm.enters_of named_prog Try.func40 (by kernel_rfl)) (gSPo_spec fun ps p r h => by obtain ⟨h1, rfl⟩ := lim_some h; exact split_calls ps p h1)
end Go.Proofs.Ytmopbegmdegooaa
/- How two segments stand does not hang on which way they are told, nor on which is the first. -/
namespace Go.Proofs.Ytmopbegmdegooaa
open M
set_option linter.unusedVariables false
set_option linter.unusedSimpArgs false
/-- A point that is on both, and one that is an end of both. -/
def comB (a b c d p : P2) : Bool := M.on a b p && M.on c d p
def endB (a b c d p : P2) : Bool := (eqB p a || eqB p b) && (eqB p c || eqB p d)
def EndsOk (a b c d : P2) (L : List P2) (s : Int × Int × List P2) : Prop :=
  s.2.2.Nodup ∧ (∀ p, p ∈ s.2.2 ↔ p ∈ L ∧ comB a b c d p = true) ∧ s.1 = (s.2.2.length : Int) ∧ s.2.1 = ((s.2.2.filter (endB a b c d)).length : Int)
theorem any_eqB {qs : List P2} {p : P2} : qs.any (eqB · p) = true ↔ p ∈ qs := by
  rw [List.any_eq_true]
  constructor
  · rintro ⟨x, hx, h⟩
    rw [eqB_iff] at h
    exact h ▸ hx
  · intro h
    exact ⟨p, h, eqB_iff.2 rfl⟩
theorem endsStep_ok {a b c d p : P2} {L : List P2} {s : Int × Int × List P2} (h : EndsOk a b c d L s) : EndsOk a b c d (L ++ [p]) (endsStep a b c d p s) := by
  obtain ⟨on, both, qs⟩ := s
  obtain ⟨h1, h2, h3, h4⟩ := h
  simp only at h1 h2 h3 h4
  unfold endsStep
  by_cases hq : qs.any (eqB · p) = true
  · have hp := any_eqB.1 hq
    rw [hq]
    simp only [Bool.true_or, if_true]
    refine ⟨h1, fun x => ?_, h3, h4⟩
    simp only [List.mem_append, List.mem_singleton]
    rw [h2]
    constructor
    · rintro ⟨k1, k2⟩; exact ⟨.inl k1, k2⟩
    · rintro ⟨k1 | rfl, k2⟩
      · exact ⟨k1, k2⟩
      · exact (h2 x).1 hp
  · have hq' : qs.any (eqB · p) = false := by simpa using hq
    have hnp : p ∉ qs := fun h => by rw [any_eqB.2 h] at hq'; cases hq'
    rw [hq']
    cases hc : comB a b c d p with
    | false =>
      have : (!M.on a b p || !M.on c d p) = true := by
        unfold comB at hc
        cases h5 : M.on a b p <;> cases h6 : M.on c d p <;> simp_all
      simp only [Bool.false_or, this, if_true]
      refine ⟨h1, fun x => ?_, h3, h4⟩
      simp only [List.mem_append, List.mem_singleton]
      rw [h2]
      constructor
      · rintro ⟨k1, k2⟩; exact ⟨.inl k1, k2⟩
      · rintro ⟨k1 | rfl, k2⟩
        · exact ⟨k1, k2⟩
        · rw [hc] at k2; cases k2
    | true =>
      have : (!M.on a b p || !M.on c d p) = false := by
        unfold comB at hc
        cases h5 : M.on a b p <;> cases h6 : M.on c d p <;> simp_all
      simp only [Bool.false_or, this]
      refine ⟨?_, fun x => ?_, ?_, ?_⟩
      · simp only [Bool.false_eq_true, if_false]
        rw [List.nodup_append]
        exact ⟨h1, by simp, fun x hx y hy => by simp only [List.mem_singleton] at hy; subst hy; intro he; subst he; exact hnp hx⟩
      · simp only [Bool.false_eq_true, if_false, List.mem_append, List.mem_singleton]
        rw [h2]
        constructor
        · rintro (⟨k1, k2⟩ | rfl)
          · exact ⟨.inl k1, k2⟩
          · exact ⟨.inr rfl, hc⟩
        · rintro ⟨k1 | rfl, k2⟩
          · exact .inl ⟨k1, k2⟩
          · exact .inr rfl
      · simp only [Bool.false_eq_true, if_false, List.length_append, List.length_singleton, h3]
        omega
      · simp only [Bool.false_eq_true, if_false, List.filter_append, List.length_append, h4]
        unfold endB
        cases h5 : ((eqB p a || eqB p b) && (eqB p c || eqB p d)) <;> simp [List.filter, h5]
theorem endsF_ok {a b c d : P2} : ∀ (L M0 : List P2) (s : Int × Int × List P2), EndsOk a b c d M0 s → EndsOk a b c d (M0 ++ L) (endsF a b c d L s)
  | [], M0, s, h => by simpa [endsF] using h
  | p :: L, M0, s, h => by
    have := endsF_ok L (M0 ++ [p]) _ (endsStep_ok (p := p) h)
    simpa [endsF] using this
theorem ends_spec (a b c d : P2) (L : List P2) : EndsOk a b c d L (endsF a b c d L (0, 0, [])) := by
  have := endsF_ok (a := a) (b := b) (c := c) (d := d) L [] (0, 0, []) ⟨by simp, by simp, by simp, by simp⟩
  simpa using this
theorem ends_same {a b c d a' b' c' d' : P2} {L L' : List P2} (hL : ∀ p, p ∈ L ↔ p ∈ L') (hc : ∀ p, comB a b c d p = comB a' b' c' d' p) (he : ∀ p, endB a b c d p = endB a' b' c' d' p) :
    (endsF a b c d L (0, 0, [])).1 = (endsF a' b' c' d' L' (0, 0, [])).1 ∧ (endsF a b c d L (0, 0, [])).2.1 = (endsF a' b' c' d' L' (0, 0, [])).2.1 := by
  obtain ⟨h1, h2, h3, h4⟩ := ends_spec a b c d L
  obtain ⟨k1, k2, k3, k4⟩ := ends_spec a' b' c' d' L'
  have hp : (endsF a b c d L (0, 0, [])).2.2.Perm (endsF a' b' c' d' L' (0, 0, [])).2.2 := (List.perm_ext_iff_of_nodup h1 k1).2 fun p => by rw [h2, k2, hL, hc]
  have hf : (endB a b c d) = (endB a' b' c' d') := funext he
  rw [h3, h4, k3, k4, hp.length_eq, hf, (hp.filter _).length_eq]
  exact ⟨rfl, rfl⟩
theorem areaS_flip (a b p : P2) : area b a p = - area a b p := by
  unfold area
  have e1 : (a.1 - b.1) * (p.2 - b.2) = (a.1 - b.1) * (p.2 - a.2) + (a.1 - b.1) * (a.2 - b.2) := by rw [← Int.mul_add]; congr 1; omega
  have e2 : (a.2 - b.2) * (p.1 - b.1) = (a.2 - b.2) * (p.1 - a.1) + (a.2 - b.2) * (a.1 - b.1) := by rw [← Int.mul_add]; congr 1; omega
  have e3 : (b.1 - a.1) * (p.2 - a.2) = - ((a.1 - b.1) * (p.2 - a.2)) := by rw [← Int.neg_mul]; congr 1; omega
  have e4 : (b.2 - a.2) * (p.1 - a.1) = - ((a.2 - b.2) * (p.1 - a.1)) := by rw [← Int.neg_mul]; congr 1; omega
  rw [e1, e2, e3, e4, Int.mul_comm (a.2 - b.2) (a.1 - b.1)]
  omega
theorem sgnS_neg (x : Int) : sgn (-x) = - sgn x := by
  unfold sgn
  split <;> split <;> (try split) <;> omega
theorem onRS_flip (a b p : P2) : onR b a p = onR a b p := by
  unfold onR turnR
  rw [areaS_flip, sgnS_neg]
  have e : ((-sgn (area a b p)) == 0) = (sgn (area a b p) == 0) := by
    by_cases h : sgn (area a b p) = 0
    · rw [h]; rfl
    · rw [beq_eq_false_iff_ne.2 h, beq_eq_false_iff_ne.2 (by omega)]
  rw [e, Int.min_comm b.1, Int.max_comm b.1, Int.min_comm b.2, Int.max_comm b.2]
theorem onS_flip (a b p : P2) : M.on b a p = M.on a b p := onRS_flip _ _ _
theorem turnS_flip (a b p : P2) : turn b a p = - turn a b p := by
  unfold turn turnR
  rw [areaS_flip, sgnS_neg]
theorem relate_flip1 (a b c d : P2) : relate b a c d = relate a b c d := by
  unfold relate endsR
  have h := ends_same (a := nearP b) (b := nearP a) (c := nearP c) (d := nearP d) (a' := nearP a) (b' := nearP b) (c' := nearP c) (d' := nearP d) (L := [nearP b, nearP a, nearP c, nearP d]) (L' := [nearP a, nearP b, nearP c, nearP d])
    (fun p => by simp only [List.mem_cons, List.not_mem_nil, or_false]; constructor <;> (rintro (h | h | h | h) <;> simp [h])) (fun p => by unfold comB; rw [onS_flip]) (fun p => by unfold endB; rw [Bool.or_comm (eqB p (nearP b))])
  rw [h.1, h.2, turnS_flip a b c, turnS_flip a b d, Int.neg_mul_neg, Int.mul_comm (turn c d b)]
theorem relate_flip2 (a b c d : P2) : relate a b d c = relate a b c d := by
  unfold relate endsR
  have h := ends_same (a := nearP a) (b := nearP b) (c := nearP d) (d := nearP c) (a' := nearP a) (b' := nearP b) (c' := nearP c) (d' := nearP d) (L := [nearP a, nearP b, nearP d, nearP c]) (L' := [nearP a, nearP b, nearP c, nearP d])
    (fun p => by simp only [List.mem_cons, List.not_mem_nil, or_false]; constructor <;> (rintro (h | h | h | h) <;> simp [h])) (fun p => by unfold comB; rw [onS_flip (nearP c)]) (fun p => by unfold endB; rw [Bool.or_comm (eqB p (nearP d))])
  rw [h.1, h.2, turnS_flip c d a, turnS_flip c d b, Int.neg_mul_neg, Int.mul_comm (turn a b d)]
theorem relate_comm (a b c d : P2) : relate c d a b = relate a b c d := by
  unfold relate endsR
  have h := ends_same (a := nearP c) (b := nearP d) (c := nearP a) (d := nearP b) (a' := nearP a) (b' := nearP b) (c' := nearP c) (d' := nearP d) (L := [nearP c, nearP d, nearP a, nearP b]) (L' := [nearP a, nearP b, nearP c, nearP d])
    (fun p => by simp only [List.mem_cons, List.not_mem_nil, or_false]; constructor <;> (rintro (h | h | h | h) <;> simp [h])) (fun p => by unfold comB; rw [Bool.and_comm]) (fun p => by unfold endB; rw [Bool.and_comm])
  rw [h.1, h.2]
  simp only [and_comm]
/-- Where they have an end in common, or one has an end on the other, they are not apart. -/
theorem relate_zero_com {a b c d : P2} (h : relate a b c d = 0) : ∀ p ∈ [nearP a, nearP b, nearP c, nearP d], comB (nearP a) (nearP b) (nearP c) (nearP d) p = false := by
  intro p hp
  cases hc : comB (nearP a) (nearP b) (nearP c) (nearP d) p with
  | false => rfl
  | true =>
    exfalso
    obtain ⟨h1, h2, h3, h4⟩ := ends_spec (nearP a) (nearP b) (nearP c) (nearP d) [nearP a, nearP b, nearP c, nearP d]
    have hm := (h2 p).2 ⟨hp, hc⟩
    have hl : 0 < (endsF (nearP a) (nearP b) (nearP c) (nearP d) [nearP a, nearP b, nearP c, nearP d] (0, 0, [])).2.2.length := List.length_pos_of_mem hm
    unfold relate endsR at h
    rw [h3] at h
    split at h
    · omega
    · split at h
      · omega
      · split at h
        · omega
        · omega
/-- Of two that have just an end in common no other end of the one is on the other. -/
theorem relate_one_com {a b c d : P2} (h : relate a b c d = 1) : ∀ p ∈ [nearP a, nearP b, nearP c, nearP d], ∀ q ∈ [nearP a, nearP b, nearP c, nearP d], comB (nearP a) (nearP b) (nearP c) (nearP d) p = true → comB (nearP a) (nearP b) (nearP c) (nearP d) q = true → p = q := by
  intro p hp q hq hcp hcq
  obtain ⟨h1, h2, h3, h4⟩ := ends_spec (nearP a) (nearP b) (nearP c) (nearP d) [nearP a, nearP b, nearP c, nearP d]
  have hmp := (h2 p).2 ⟨hp, hcp⟩
  have hmq := (h2 q).2 ⟨hq, hcq⟩
  unfold relate endsR at h
  rw [h3] at h
  split at h
  · omega
  · rename_i hle
    have hlen : (endsF (nearP a) (nearP b) (nearP c) (nearP d) [nearP a, nearP b, nearP c, nearP d] (0, 0, [])).2.2.length ≤ 1 := by omega
    generalize (endsF (nearP a) (nearP b) (nearP c) (nearP d) [nearP a, nearP b, nearP c, nearP d] (0, 0, [])).2.2 = C at hlen hmp hmq
    match C, hlen, hmp, hmq with
    | [x], _, hmp, hmq =>
      simp only [List.mem_singleton] at hmp hmq
      rw [hmp, hmq]
    | [], _, hmp, _ => cases hmp
    | x :: y :: l, hlen, _, _ => simp at hlen
end Go.Proofs.Ytmopbegmdegooaa
/- The law RingTurned: its path. -/
namespace Go.Proofs.Ytmopbegmdegooaa
open Go Vm M
set_option linter.unusedVariables false
set_option linter.unusedSimpArgs false
noncomputable def RT1 : Lib Try.prog := R3.add 29 (gSo fGrid) (Vm.enters_of named_prog Try.func29 (by kernel_rfl)) (gSo_spec fGrid_ok)
noncomputable def RT2 : Lib Try.prog := RT1.add 30 (gSo fTurned) (Vm.enters_of named_prog Try.func30 (by kernel_rfl)) (gSo_spec fTurned_ok)
noncomputable def RT3 : Lib Try.prog := RT2.add 31 (gSSo fSame) (Vm.enters_of named_prog Try.func31 (by kernel_rfl)) (gSSo_spec fSame_ok)
def tlQ (p : P2) : List AObj := [.box (cellsP p)] ++ List.replicate 32 .free
def tlAll (ps : List P2) (ls : List P2) (ts : List P2) (us : List P2) (p : P2) (a1 : Int) (a2 : Int) (k1 : Int) (k2 : Int) (s : Bool) : PVal :=
  (bif decide ((↑(List.length ps) : Int) > 100) then PVal.v (Value.bool true) else (bif (↑(List.length ts) : Int) == (↑(List.length ls) : Int) then (bif a1 == IntKind.wrap IntKind.i64 (0 - a2) then (bif k1 == k2 then (bif s then PVal.v (Value.bool true) else PVal.v (Value.bool false)) else PVal.v (Value.bool false)) else PVal.v (Value.bool false)) else PVal.v (Value.bool false)))
theorem tlAll_calls (ps : List P2) (ls : List P2) (ts : List P2) (us : List P2) (p : P2) (a1 : Int) (a2 : Int) (k1 : Int) (k2 : Int) (s : Bool) (e0 : callA (cf RT3) (evalF (cf RT3) 5) 0 29 [slA ps] [.box (cellsP p)] = some (slA ls, [.box (cellsP p)])) (e1 : callA (cf RT3) (evalF (cf RT3) 5) 0 30 [slA ls] [.box (cellsP p)] = some (slA ts, [.box (cellsP p)])) (e2 : peekCall (cf RT3) (evalF (cf RT3) 5) 23 [slA ts] (tlQ p) = some (iA a1)) (e3 : peekCall (cf RT3) (evalF (cf RT3) 5) 23 [slA ls] (tlQ p) = some (iA a2)) (e4 : peekCall (cf RT3) (evalF (cf RT3) 5) 22 [slA ts, ptA p] (tlQ p) = some (iA k1)) (e5 : peekCall (cf RT3) (evalF (cf RT3) 5) 22 [slA ls, ptA p] (tlQ p) = some (iA k2)) (e6 : peekCall (cf RT3) (evalF (cf RT3) 5) 30 [slA ts] (tlQ p) = some (slA us)) (e7 : peekCall (cf RT3) (evalF (cf RT3) 5) 31 [slA us, slA ls] (tlQ p) = some (bA s)) : CallsP Try.prog 10 [slP ps, ptP p] (tlAll ps ls ts us p a1 a2 k1 k2 s) := by
  have key := fun (bs : List Bool) (r : PVal) (ob : List Prop) (h : callP (cf RT3) (evalF (cf RT3) 5) 5 [(3, 1, Hint.call (slA ls) [AObj.box (cellsP p)]), (4, 1, Hint.call (slA ts) [AObj.box (cellsP p)]), (5, 7, Hint.call (iA a1) []), (5, 9, Hint.call (iA a2) []), (5, 16, Hint.call (iA k1) []), (5, 19, Hint.call (iA k2) []), (5, 24, Hint.call (slA us) []), (5, 26, Hint.call (bA s) [])] 10 [slP ps, ptP p] bs [] (none) = .ok (r, ob)) (hp : allOb ob) => callP_ok (cf_ok RT3) h hp
  unfold tlAll
  exact bif_case (P := fun r => CallsP Try.prog 10 [slP ps, ptP p] r)
    (fun h0 => key [true] (PVal.v (Value.bool true)) _ (by kernel_rfl) (allOb_cons h0 allOb_nil))
    (fun h0 => bif_case (P := fun r => CallsP Try.prog 10 [slP ps, ptP p] r)
     (fun h1 => bif_case (P := fun r => CallsP Try.prog 10 [slP ps, ptP p] r)
      (fun h2 => bif_case (P := fun r => CallsP Try.prog 10 [slP ps, ptP p] r)
       (fun h3 => bif_case (P := fun r => CallsP Try.prog 10 [slP ps, ptP p] r)
        (fun h4 => key [false, true, true, true, true] (PVal.v (Value.bool true)) _ (by kernel_rfl) (allOb_cons h4 (allOb_cons (by exact e7) (allOb_cons (by exact e6) (allOb_cons h3 (allOb_cons (by exact e5) (allOb_cons (by exact e4) (allOb_cons h2 (allOb_cons (by exact e3) (allOb_cons (by exact e2) (allOb_cons h1 (allOb_cons (by exact e1) (allOb_cons (by exact e0) (allOb_cons h0 allOb_nil))))))))))))))
        (fun h4 => key [false, true, true, true, false] (PVal.v (Value.bool false)) _ (by kernel_rfl) (allOb_cons h4 (allOb_cons (by exact e7) (allOb_cons (by exact e6) (allOb_cons h3 (allOb_cons (by exact e5) (allOb_cons (by exact e4) (allOb_cons h2 (allOb_cons (by exact e3) (allOb_cons (by exact e2) (allOb_cons h1 (allOb_cons (by exact e1) (allOb_cons (by exact e0) (allOb_cons h0 allOb_nil)))))))))))))))
       (fun h3 => key [false, true, true, false, false] (PVal.v (Value.bool false)) _ (by kernel_rfl) (allOb_cons lit_f (allOb_cons h3 (allOb_cons (by exact e5) (allOb_cons (by exact e4) (allOb_cons h2 (allOb_cons (by exact e3) (allOb_cons (by exact e2) (allOb_cons h1 (allOb_cons (by exact e1) (allOb_cons (by exact e0) (allOb_cons h0 allOb_nil)))))))))))))
      (fun h2 => key [false, true, false, false, false] (PVal.v (Value.bool false)) _ (by kernel_rfl) (allOb_cons lit_f (allOb_cons lit_f (allOb_cons h2 (allOb_cons (by exact e3) (allOb_cons (by exact e2) (allOb_cons h1 (allOb_cons (by exact e1) (allOb_cons (by exact e0) (allOb_cons h0 allOb_nil)))))))))))
     (fun h1 => key [false, false, false, false, false] (PVal.v (Value.bool false)) _ (by kernel_rfl) (allOb_cons lit_f (allOb_cons lit_f (allOb_cons lit_f (allOb_cons h1 (allOb_cons (by exact e1) (allOb_cons (by exact e0) (allOb_cons h0 allOb_nil)))))))))
end Go.Proofs.Ytmopbegmdegooaa
/- The law RingTurned: what its code answers is true. -/
namespace Go.Proofs.Ytmopbegmdegooaa
open Go Vm M
set_option linter.unusedVariables false
set_option linter.unusedSimpArgs false
theorem nearP_in (p : P2) : inG (nearP p) := by
  unfold inG nearP near1
  simp only
  omega
theorem cross_boundG {x : SegP} (h1 : inG x.1) (h2 : inG x.2) : -2200000000000 ≤ cross x ∧ cross x ≤ 2200000000000 := by
  obtain ⟨⟨a1, a2⟩, a3, a4⟩ := h1
  obtain ⟨⟨b1, b2⟩, b3, b4⟩ := h2
  have m1 := mul_bound (A := 1048576) (B := 1048576) a1 a2 b3 b4
  have m2 := mul_bound (A := 1048576) (B := 1048576) a3 a4 b1 b2
  unfold cross
  omega
theorem segStep_eqG {s : Int} {x : SegP} (h1 : inG x.1) (h2 : inG x.2) (hs : -3000000000000000 ≤ s ∧ s ≤ 3000000000000000) : segStep s x = s + cross x := by
  have hc := cross_boundG h1 h2
  have g1 := nearP_id h1
  have g2 := nearP_id h2
  obtain ⟨⟨a1, a2⟩, a3, a4⟩ := h1
  obtain ⟨⟨b1, b2⟩, b3, b4⟩ := h2
  have m1 := mul_bound (A := 1048576) (B := 1048576) a1 a2 b3 b4
  have m2 := mul_bound (A := 1048576) (B := 1048576) a3 a4 b1 b2
  unfold segStep
  unfold cross at hc ⊢
  rw [g1, g2]
  rw [IntWalk.i64_in (x.1.1 * x.2.2) (by omega), IntWalk.i64_in (x.1.2 * x.2.1) (by omega), IntWalk.i64_in (x.1.1 * x.2.2 - x.1.2 * x.2.1) (by omega), IntWalk.i64_in _ (by omega)]
theorem segFold_eqG : ∀ (xs : List SegP) (s B : Int), (∀ x ∈ xs, inG x.1 ∧ inG x.2) → -B ≤ s → s ≤ B → B + 2200000000000 * (xs.length : Int) ≤ 2900000000000000 → xs.foldl segStep s = s + sumC xs := by
  intro xs
  induction xs with
  | nil => intro s B _ _ _ _; simp [sumC]
  | cons x xs ih =>
    intro s B h h1 h2 hk
    have hx := h x (by simp)
    have hc := cross_boundG hx.1 hx.2
    have hl : ((x :: xs).length : Int) = (xs.length : Int) + 1 := by simp
    rw [hl] at hk
    have e := segStep_eqG hx.1 hx.2 (s := s) ⟨by omega, by omega⟩
    have := ih (s + cross x) (B + 2200000000000) (fun y hy => h y (by simp [hy])) (by omega) (by omega) (by omega)
    rw [List.foldl_cons, e, this, sumC_cons]
    omega
theorem areaP_eqG {ps : List P2} (h : ∀ q ∈ ps, inG q) (hl : ps.length ≤ 1000) : areaP ps = sumC (ringS ps) := by
  unfold areaP
  split
  · rename_i h3
    rw [ringS_short h3]
  · rw [segs_eq]
    unfold segSum
    rw [segFold_eqG (ringS ps) 0 0 (fun x hx => ⟨h _ (ringS_mem hx).1, h _ (ringS_mem hx).2⟩) (by omega) (by omega) (by rw [ringS_length]; omega)]
    omega
theorem sumC_boundG : ∀ xs : List SegP, (∀ x ∈ xs, inG x.1 ∧ inG x.2) → -(2200000000000 * (xs.length : Int)) ≤ sumC xs ∧ sumC xs ≤ 2200000000000 * (xs.length : Int) := by
  intro xs
  induction xs with
  | nil => intro _; simp [sumC]
  | cons x xs ih =>
    intro h
    have hx := h x (by simp)
    have hc := cross_boundG hx.1 hx.2
    have := ih fun y hy => h y (by simp [hy])
    have hl : ((x :: xs).length : Int) = (xs.length : Int) + 1 := by simp
    rw [sumC_cons, hl]
    omega
theorem turnP_length (ps : List P2) : (turnP ps).length = ps.length := by cases ps <;> simp [turnP]
theorem turnP_turnP (ps : List P2) : turnP (turnP ps) = ps := by cases ps <;> simp [turnP]
theorem turnP_mem {ps : List P2} {q : P2} (h : q ∈ turnP ps) : q ∈ ps := by
  cases ps with
  | nil => exact h
  | cons a l => simpa [turnP] using h
theorem sumC_turnP (ps : List P2) : sumC (ringS (turnP ps)) = - sumC (ringS ps) := by
  cases ps with
  | nil => simp [turnP, ringS, sumC]
  | cons q l => simp only [turnP]; rw [ringS_turned, sumC_flip]
theorem inside_turnP (ps : List P2) (p : P2) : insideS (ringS (turnP ps)) p = insideS (ringS ps) p := by
  cases ps with
  | nil => rfl
  | cons q l => exact inside_turned q l p
theorem peek_slP {S : List AObj} (ps : List P2) : mapO (peek S deep) [slA ps] = some [slP ps] := rfl
theorem peek_slP2 {S : List AObj} (ps qs : List P2) : mapO (peek S deep) [slA ps, slA qs] = some [slP ps, slP qs] := rfl
theorem peek_slPt {S : List AObj} (ps : List P2) (p : P2) : mapO (peek S deep) [slA ps, ptA p] = some [slP ps, ptP p] := rfl
theorem up_slP (ps : List P2) : up (slP ps) = slA ps := rfl
theorem ringTurned_calls (ps : List P2) (p : P2) : CallsP Try.prog 10 [slP ps, ptP p] (bP true) := by
  by_cases h100 : (ps.length : Int) > 100
  · have h := callP_ok (cf_ok RT3) (k := 5) (hs := []) (f := 10) (ps := [slP ps, ptP p]) (bs := [true]) (ls := []) (out := none) (r := bP true) (ob := [decide ((ps.length : Int) > 100) = true]) (by kernel_rfl) (allOb_cons (decide_eq_true h100) allOb_nil)
    exact h
  · have hl : ps.length ≤ 100 := by omega
    generalize hls : ps.map nearP = ls
    have hll : ls.length = ps.length := by rw [← hls]; simp
    have hg : ∀ q ∈ ls, inG q := fun q hq => by
      rw [← hls] at hq
      obtain ⟨x, _, rfl⟩ := List.mem_map.1 hq
      exact nearP_in x
    have e0 : callA (cf RT3) (evalF (cf RT3) 5) 0 29 [slA ps] [.box (cellsP p)] = some (slA ls, [.box (cellsP p)]) :=
      callA_given (g := gSo fGrid) (ps := [slP ps]) (r := slP ls) rfl rfl rfl rfl (by kernel_rfl) (by rw [gSo_slP]; unfold fGrid; rw [if_pos (by omega), hls])
    have et : ∀ qs : List P2, qs.length ≤ 200 → gSo fTurned [slP qs] = some (slP (turnP qs)) := fun qs h => by rw [gSo_slP]; unfold fTurned; rw [if_pos h]
    have e1 : callA (cf RT3) (evalF (cf RT3) 5) 0 30 [slA ls] [.box (cellsP p)] = some (slA (turnP ls), [.box (cellsP p)]) :=
      callA_given (g := gSo fTurned) (ps := [slP ls]) (r := slP (turnP ls)) rfl rfl rfl rfl (by kernel_rfl) (et ls (by omega))
    have ea : ∀ qs : List P2, qs.length ≤ 200 → peekCall (cf RT3) (evalF (cf RT3) 5) 23 [slA qs] (tlQ p) = some (iA (areaP qs)) := fun qs h =>
      peekCall_given (g := gSb fun ps => iP (areaP ps)) (ps := [slP qs]) (r := iP (areaP qs)) rfl rfl rfl (by kernel_rfl) (gSb_slP _ (by omega))
    have ei : ∀ qs : List P2, qs.length ≤ 200 → peekCall (cf RT3) (evalF (cf RT3) 5) 22 [slA qs, ptA p] (tlQ p) = some (iA (insideP qs p)) := fun qs h =>
      peekCall_given (g := gSPb fun ps p => iP (insideP ps p)) (ps := [slP qs, ptP p]) (r := iP (insideP qs p)) rfl rfl rfl (by kernel_rfl) (gSPb_slP _ p (by omega))
    have e6 : peekCall (cf RT3) (evalF (cf RT3) 5) 30 [slA (turnP ls)] (tlQ p) = some (slA ls) :=
      peekCall_given (g := gSo fTurned) (ps := [slP (turnP ls)]) (r := slP ls) rfl rfl rfl (by kernel_rfl) (by rw [et _ (by rw [turnP_length]; omega), turnP_turnP])
    have e7 : peekCall (cf RT3) (evalF (cf RT3) 5) 31 [slA ls, slA ls] (tlQ p) = some (bA true) :=
      peekCall_given (g := gSSo fSame) (ps := [slP ls, slP ls]) (r := bP true) rfl rfl rfl (by kernel_rfl) (by rw [gSSo_slP]; unfold fSame; rw [if_pos (by omega)]; simp)
    have hc := tlAll_calls ps ls (turnP ls) ls p (areaP (turnP ls)) (areaP ls) (insideP (turnP ls) p) (insideP ls p) true e0 e1 (ea _ (by rw [turnP_length]; omega)) (ea _ (by omega)) (ei _ (by rw [turnP_length]; omega)) (ei _ (by omega)) e6 e7
    have e : tlAll ps ls (turnP ls) ls p (areaP (turnP ls)) (areaP ls) (insideP (turnP ls) p) (insideP ls p) true = bP true := by
      unfold tlAll
      have hb := sumC_boundG (ringS ls) (fun x hx => ⟨hg _ (ringS_mem hx).1, hg _ (ringS_mem hx).2⟩)
      rw [ringS_length] at hb
      have ha : areaP (turnP ls) = IntKind.i64.wrap (0 - areaP ls) := by
        rw [areaP_eqG (fun q hq => hg q (turnP_mem hq)) (by rw [turnP_length]; omega), areaP_eqG hg (by omega), sumC_turnP, IntWalk.i64_in _ (by omega), Int.zero_sub]
      have hi : insideP (turnP ls) p = insideP ls p := by rw [insideP_eq, insideP_eq, inside_turnP]
      rw [turnP_length, ← ha, hi]
      simp [bP]
    rw [e] at hc
    exact hc
end Go.Proofs.Ytmopbegmdegooaa
/- LineStairs: its rounds, its path; what the document fixes of lines. -/
namespace Go.Proofs.Ytmopbegmdegooaa
open Go Vm M
set_option linter.unusedVariables false
set_option linter.unusedSimpArgs false
def stT (N back : Int) (x : AVal) (i : Int) : List AVal := [iA N, iA back] ++ jk 3 ++ [x, iA i] ++ jk 86
def stE (N back : Int) (x : AVal) (i : Int) : List AVal := [iA N, iA back] ++ jk 3 ++ [x, iA i] ++ jk 10 ++ [bA false] ++ jk 75
def stS (gs : List P2) : List AObj := [.free, .row 2 0 none (upL (flatPP gs))]
def frz (gs : List P2) : List AObj → List AObj := fun S => S.set 1 (.row 2 0 (some (upL (flatPP gs)).length) (upL (flatPP gs)))
def frzM (ms : List P2) : List AObj → List AObj := fun S => S.set 29 (.row 2 2 (some (upL (flatPP ms)).length) (upL (flatPP ms)))
def aw12 : PVal :=
  bP true
theorem aw12_calls : CallsP Try.prog 32 [] aw12 := by
  have key := fun (bs : List Bool) (r : PVal) (ob : List Prop) (h : callP (cf LS0) (evalF (cf LS0) 20) 20 [(9999, 0, Hint.idx)] 32 [] bs [] (none) = .ok (r, ob)) (hp : allOb ob) => callP_ok (cf_ok LS0) h hp
  unfold aw12
  exact key [true, true, true, true, true, true, true] (bP true) _ (by kernel_rfl) (allOb_cons lit_t (allOb_cons lit_t (allOb_cons (show partA (Cfg.P (cf LS0)) 2 (upL (List.drop 0 (List.drop 2 (flatPP (bif eqB (pAt [(0, 0), (4, 0)] 1) (1, 0) then List.drop 1 [(0, 0), (4, 0)] else (1, 0) :: List.drop 1 [(0, 0), (4, 0)]))))) 0 = some (iA (Prod.fst (pAt (bif eqB (pAt [(0, 0), (4, 0)] 1) (1, 0) then List.drop 1 [(0, 0), (4, 0)] else (1, 0) :: List.drop 1 [(0, 0), (4, 0)]) 1))) from by kernel_rfl) (allOb_cons (show (0 : Int) ≤ 1 ∧ (1 : Int) < (↑2 : Int) ∧ 0 < 2 ∧ 4 = 4 from by decide) (allOb_cons lit_t (allOb_cons (show partA (Cfg.P (cf LS0)) 2 (upL (List.drop 0 (List.drop 0 (flatPP (bif eqB (pAt [(0, 0), (4, 0)] 1) (1, 0) then List.drop 1 [(0, 0), (4, 0)] else (1, 0) :: List.drop 1 [(0, 0), (4, 0)]))))) 0 = some (iA (Prod.fst (pAt (bif eqB (pAt [(0, 0), (4, 0)] 1) (1, 0) then List.drop 1 [(0, 0), (4, 0)] else (1, 0) :: List.drop 1 [(0, 0), (4, 0)]) 0))) from by kernel_rfl) (allOb_cons (show (0 : Int) ≤ 0 ∧ (0 : Int) < (↑2 : Int) ∧ 0 < 2 ∧ 4 = 4 from by decide) (allOb_cons lit_t (allOb_cons (show partA (Cfg.P (cf LS0)) 2 (upL (List.drop 0 (List.drop 2 (flatPP (bif eqB (pAt [(0, 0), (4, 0)] 0) (1, 0) then List.take 1 [(0, 0), (4, 0)] else List.take 1 [(0, 0), (4, 0)] ++ [(1, 0)]))))) 0 = some (iA (Prod.fst (pAt (bif eqB (pAt [(0, 0), (4, 0)] 0) (1, 0) then List.take 1 [(0, 0), (4, 0)] else List.take 1 [(0, 0), (4, 0)] ++ [(1, 0)]) 1))) from by kernel_rfl) (allOb_cons (show (0 : Int) ≤ 1 ∧ (1 : Int) < (↑2 : Int) ∧ 0 < 2 ∧ 4 = 4 from by decide) (allOb_cons lit_t (allOb_cons lit_t (allOb_cons lit_t allOb_nil)))))))))))))
def st1 (L : Lib Try.prog) (N : Int) (back : Int) (i : Int) : AExit × List AVal × List AObj :=
  (bif decide (i < N) then (AExit.normal, (([iA N, iA back, AVal.junk, AVal.junk, AVal.junk, AVal.row 1 0 2 0 1, iA (IntKind.i64.wrap (i + 1))] ++ jk 86), ([AObj.free, AObj.row 2 0 none [iA (IntKind.i64.wrap (Int.tdiv (IntKind.i64.wrap (i + 1)) 2)), iA (IntKind.i64.wrap (Int.tdiv i 2))]]))) else (AExit.exit 0, (([iA N, iA back, AVal.junk, AVal.junk, AVal.junk, AVal.v (Value.slice none 0 0), iA i] ++ jk 10 ++ [bA false] ++ jk 75), [])))
theorem st1_eq (L : Lib Try.prog) (N : Int) (back : Int) (i : Int) : roundC 0 (evalC (cf L) (evalF (cf L) 201) (Option.getD (List.lookup 12 lives) []) 0 0 201 (loopAt Try.f12 0)) (stT N back (AVal.v (Value.slice none 0 0)) i) ([]) = some (st1 L N back i) := by
  have key := fun (bs : List Bool) (r : AExit × List AVal × List AObj) (ob : List Prop) (h : roundP (cf L) (evalF (cf L) 201) (Option.getD (List.lookup 12 lives) []) 0 0 201 [(9999, 0, Hint.idx)] (loopAt Try.f12 0) (stT N back (AVal.v (Value.slice none 0 0)) i) ([]) bs [] = .ok (r.1, r.2.1, r.2.2, ob)) (hp : allOb ob) => roundP_ok h hp
  unfold st1
  exact bif_case (P := fun r => roundC 0 (evalC (cf L) (evalF (cf L) 201) (Option.getD (List.lookup 12 lives) []) 0 0 201 (loopAt Try.f12 0)) (stT N back (AVal.v (Value.slice none 0 0)) i) ([]) = some r)
    (fun h0 => key [true] ((AExit.normal, (([iA N, iA back, AVal.junk, AVal.junk, AVal.junk, AVal.row 1 0 2 0 1, iA (IntKind.i64.wrap (i + 1))] ++ jk 86), ([AObj.free, AObj.row 2 0 none [iA (IntKind.i64.wrap (Int.tdiv (IntKind.i64.wrap (i + 1)) 2)), iA (IntKind.i64.wrap (Int.tdiv i 2))]])))) _ (by kernel_rfl) (allOb_cons (show Plain ([AObj.row 2 0 none [iA (IntKind.i64.wrap (Int.tdiv (IntKind.i64.wrap (i + 1)) 2)), iA (IntKind.i64.wrap (Int.tdiv i 2))], AObj.row 2 0 none [iA (IntKind.i64.wrap (Int.tdiv (IntKind.i64.wrap (i + 1)) 2)), iA (IntKind.i64.wrap (Int.tdiv i 2))]]) from by simp only [Plain, List.all_append, List.all_cons, List.all_nil, plainO, upL_flatPP, flatP_plain, Nat.zero_mul, List.drop_zero] <;> rfl) (allOb_cons h0 allOb_nil)))
    (fun h0 => key [false] ((AExit.exit 0, (([iA N, iA back, AVal.junk, AVal.junk, AVal.junk, AVal.v (Value.slice none 0 0), iA i] ++ jk 10 ++ [bA false] ++ jk 75), []))) _ (by kernel_rfl) (allOb_cons (show Plain [] from by simp only [Plain, List.all_append, List.all_cons, List.all_nil, plainO, upL_flatPP, flatP_plain, Nat.zero_mul, List.drop_zero] <;> rfl) (allOb_cons h0 allOb_nil)))
def st2 (L : Lib Try.prog) (N : Int) (back : Int) (i : Int) (m : Nat) (gs : List P2) (hs : List P2) : AExit × List AVal × List AObj :=
  (bif decide (i < N) then (AExit.normal, (([iA N, iA back, AVal.junk, AVal.junk, AVal.junk, AVal.row 1 0 2 0 (m + 1), iA (IntKind.i64.wrap (i + 1))] ++ jk 86), ([AObj.free, AObj.row 2 0 none (upL (flatPP hs))]))) else (AExit.exit 0, (([iA N, iA back, AVal.junk, AVal.junk, AVal.junk, AVal.row 1 0 2 0 m, iA i] ++ jk 10 ++ [bA false] ++ jk 75), ([AObj.free, AObj.row 2 0 none (upL (flatPP gs))]))))
theorem st2_eq (L : Lib Try.prog) (N : Int) (back : Int) (i : Int) (m : Nat) (gs : List P2) (hs : List P2) (e0 : (decide (i < N)) = true → (0 + m) * 2 = List.length (upL (flatPP gs)) ∧ (m + 1) * 16 ≤ 140737488355328 ∧ m + 1 ≤ 9223372036854775807) (e1 : (decide (i < N)) = true → Ones [iA (IntKind.i64.wrap (Int.tdiv (IntKind.i64.wrap (i + 1)) 2)), iA (IntKind.i64.wrap (Int.tdiv i 2))]) (e2 : (decide (i < N)) = true → upL (flatPP gs) ++ [iA (IntKind.i64.wrap (Int.tdiv (IntKind.i64.wrap (i + 1)) 2)), iA (IntKind.i64.wrap (Int.tdiv i 2))] = upL (flatPP hs)) : roundC 0 (evalC (cf L) (evalF (cf L) 201) (Option.getD (List.lookup 12 lives) []) 0 0 201 (loopAt Try.f12 0)) (stT N back (AVal.row 1 0 2 0 m) i) (stS gs) = some (st2 L N back i m gs hs) := by
  have key := fun (bs : List Bool) (r : AExit × List AVal × List AObj) (ob : List Prop) (h : roundP (cf L) (evalF (cf L) 201) (Option.getD (List.lookup 12 lives) []) 0 0 201 [(9999, 0, Hint.idx), (6, 8, Hint.appY (upL (flatPP hs)))] (loopAt Try.f12 0) (stT N back (AVal.row 1 0 2 0 m) i) (stS gs) bs [] = .ok (r.1, r.2.1, r.2.2, ob)) (hp : allOb ob) => roundP_ok h hp
  unfold st2
  exact bif_case (P := fun r => roundC 0 (evalC (cf L) (evalF (cf L) 201) (Option.getD (List.lookup 12 lives) []) 0 0 201 (loopAt Try.f12 0)) (stT N back (AVal.row 1 0 2 0 m) i) (stS gs) = some r)
    (fun h0 => key [true] ((AExit.normal, (([iA N, iA back, AVal.junk, AVal.junk, AVal.junk, AVal.row 1 0 2 0 (m + 1), iA (IntKind.i64.wrap (i + 1))] ++ jk 86), ([AObj.free, AObj.row 2 0 none (upL (flatPP hs))])))) _ (by kernel_rfl) (allOb_cons (show Plain ([AObj.row 2 0 none [iA (IntKind.i64.wrap (Int.tdiv (IntKind.i64.wrap (i + 1)) 2)), iA (IntKind.i64.wrap (Int.tdiv i 2))], AObj.row 2 1 none (upL (flatPP hs))]) from by simp only [Plain, List.all_append, List.all_cons, List.all_nil, plainO, upL_flatPP, flatP_plain, Nat.zero_mul, List.drop_zero] <;> rfl) (allOb_cons (by exact (e2 h0)) (allOb_cons (show 2 ≤ 2 from by decide) (allOb_cons (show 0 < 1 from by decide) (allOb_cons (by exact (e1 h0)) (allOb_cons (by exact (e0 h0)) (allOb_cons h0 allOb_nil))))))))
    (fun h0 => key [false] ((AExit.exit 0, (([iA N, iA back, AVal.junk, AVal.junk, AVal.junk, AVal.row 1 0 2 0 m, iA i] ++ jk 10 ++ [bA false] ++ jk 75), ([AObj.free, AObj.row 2 0 none (upL (flatPP gs))])))) _ (by kernel_rfl) (allOb_cons (show Plain ([AObj.free, AObj.row 2 0 none (upL (flatPP gs))]) from by simp only [Plain, List.all_append, List.all_cons, List.all_nil, plainO, upL_flatPP, flatP_plain, Nat.zero_mul, List.drop_zero] <;> rfl) (allOb_cons h0 allOb_nil)))
def stA (L : Lib Try.prog) (n : Int) (back : Int) (k : Nat) (okm : Bool) (clm : Bool) (gs : List P2) (ms : List P2) : PVal :=
  bP true
theorem stA_calls (L : Lib Try.prog) (n : Int) (back : Int) (k : Nat) (okm : Bool) (clm : Bool) (gs : List P2) (ms : List P2) (p4 : (clm == ((↑k : Int) == 0)) = true) (p3 : (okm == ((↑k : Int) == 0)) = true) (p2 : (decide ((↑(0 + List.length gs + 3) : Int) > 64)) = false) (p1 : (false) = false) (p0 : (false) = false) (e0 : binA Try.prog BinOp.add 3 (Operand.tmp 13) (Operand.const (Value.int IntKind.i64 3)) (iA (Int.tmod (IntKind.i64.wrap (↑(BitVec.toNat (BitVec.ofInt 64 n &&& BitVec.ofInt 64 255)) : Int)) 58)) (iA 3) = some (iA (↑(List.length gs) : Int))) (e1 : iterC 0 (evalC (cf L) (evalF (cf L) 201) ((lives.lookup 12).getD []) 0 0 201 (loopAt Try.f12 0)) 201 ([iA (↑(List.length gs) : Int), iA back, AVal.junk, AVal.junk, AVal.junk, AVal.v (Value.slice none 0 0), iA 0] ++ jk 86) [] = some (AExit.exit 0, (([iA (↑(List.length gs) : Int), iA back, AVal.junk, AVal.junk, AVal.junk, AVal.row 1 0 2 0 (List.length gs), iA (↑(List.length gs) : Int)] ++ jk 10 ++ [bA false] ++ jk 75), ([AObj.free, AObj.row 2 0 none (upL (flatPP gs))])))) (e2 : pureCall (cf L) (evalF (cf L) 201) 33 [slP gs] = some (bP true)) (e3 : mapO (peek [AObj.free, AObj.row 2 0 (some (List.length (upL (flatPP gs)))) (upL (flatPP gs))] deep) [AVal.row 1 0 2 0 (List.length gs)] = some [slP gs]) (e4 : List.foldl (Vm.mark 0 deep) [AObj.free, AObj.row 2 0 none (upL (flatPP gs))] [AVal.row 1 0 2 0 (List.length gs)] = [AObj.free, AObj.row 2 0 (some (List.length (upL (flatPP gs)))) (upL (flatPP gs))]) (e5 : pureCall (cf L) (evalF (cf L) 201) 34 [slP gs] = some (bP false)) (e6 : List.foldl (Vm.mark 0 deep) [AObj.free, AObj.row 2 0 (some (List.length (upL (flatPP gs)))) (upL (flatPP gs))] [AVal.row 1 0 2 0 (List.length gs)] = [AObj.free, AObj.row 2 0 (some (List.length (upL (flatPP gs)))) (upL (flatPP gs))]) (e7 : binA Try.prog BinOp.rem 3 (Operand.tmp 37) (Operand.tmp 38) (iA (IntKind.i64.wrap (↑(BitVec.toNat (BitVec.ofInt 64 back &&& BitVec.ofInt 64 255)) : Int))) (iA (↑(List.length gs) : Int)) = some (iA (↑k : Int))) (b0 : (0 : Int) ≤ IntKind.i64.wrap ((↑(List.length gs) : Int) - 1) ∧ (IntKind.i64.wrap ((↑(List.length gs) : Int) - 1) : Int) < (↑(List.length gs) : Int)) (b1 : (0 : Int) ≤ 0 ∧ (0 : Int) < (↑(List.length gs) : Int)) (e8 : 0 = 0 ∧ (0 + List.length gs) * 16 ≤ 140737488355328 ∧ 0 + List.length gs ≤ 9223372036854775807) (e9 : Ones (cutA (upL (flatPP gs)) 2 0 (0 + List.length gs))) (e10 : 0 < List.length gs) (e11 : (0 + List.length gs) * 2 ≤ List.length (upL (flatPP gs))) (b2 : (0 : Int) ≤ (↑k : Int) ∧ ((↑k : Int) : Int) < (↑(List.length gs) : Int)) (e12 : (0 + (0 + List.length gs)) * 2 = List.length ([] ++ cutA (upL (flatPP gs)) 2 0 (0 + List.length gs)) ∧ (0 + List.length gs + 3) * 16 ≤ 140737488355328 ∧ 0 + List.length gs + 3 ≤ 9223372036854775807) (e13 : Ones [iA (IntKind.i64.wrap (Prod.fst (pAtR gs (Int.toNat (IntKind.i64.wrap ((↑(List.length gs) : Int) - 1)))) + 5)), iA (IntKind.i64.wrap (pAtRy gs (Int.toNat (IntKind.i64.wrap ((↑(List.length gs) : Int) - 1))) + 9)), iA (IntKind.i64.wrap (Prod.fst (pAtR gs 0) - 7)), iA (IntKind.i64.wrap (pAtRy gs (Int.toNat (IntKind.i64.wrap ((↑(List.length gs) : Int) - 1))) + 9)), iA (Prod.fst (pAtR gs (Int.toNat (↑k : Int)))), iA (Prod.snd (pAtR gs (Int.toNat (↑k : Int))))]) (e14 : List.drop 0 ([] ++ cutA (upL (flatPP gs)) 2 0 (0 + List.length gs)) ++ [iA (IntKind.i64.wrap (Prod.fst (pAtR gs (Int.toNat (IntKind.i64.wrap ((↑(List.length gs) : Int) - 1)))) + 5)), iA (IntKind.i64.wrap (pAtRy gs (Int.toNat (IntKind.i64.wrap ((↑(List.length gs) : Int) - 1))) + 9)), iA (IntKind.i64.wrap (Prod.fst (pAtR gs 0) - 7)), iA (IntKind.i64.wrap (pAtRy gs (Int.toNat (IntKind.i64.wrap ((↑(List.length gs) : Int) - 1))) + 9)), iA (Prod.fst (pAtR gs (Int.toNat (↑k : Int)))), iA (Prod.snd (pAtR gs (Int.toNat (↑k : Int))))] = upL (flatPP ms)) (e15 : pureCall (cf L) (evalF (cf L) 201) 33 [slP ms] = some (bP okm)) (e16 : mapO (peek [AObj.free, AObj.row 2 0 (some (List.length (upL (flatPP gs)))) (upL (flatPP gs)), AObj.free, AObj.free, AObj.free, AObj.free, AObj.free, AObj.free, AObj.free, AObj.free, AObj.free, AObj.free, AObj.free, AObj.free, AObj.free, AObj.free, AObj.free, AObj.box [iA (IntKind.i64.wrap (Prod.fst (pAtR gs (Int.toNat (IntKind.i64.wrap ((↑(List.length gs) : Int) - 1)))) + 5)), iA (IntKind.i64.wrap (pAtRy gs (Int.toNat (IntKind.i64.wrap ((↑(List.length gs) : Int) - 1))) + 9))], AObj.free, AObj.free, AObj.free, AObj.free, AObj.free, AObj.free, AObj.free, AObj.free, AObj.free, AObj.box [iA (IntKind.i64.wrap (Prod.fst (pAtR gs 0) - 7)), iA (IntKind.i64.wrap (pAtRy gs (Int.toNat (IntKind.i64.wrap ((↑(List.length gs) : Int) - 1))) + 9))], AObj.free, AObj.row 2 2 (some (List.length (upL (flatPP ms)))) (upL (flatPP ms)), AObj.free, AObj.free, AObj.free, AObj.free, AObj.free, AObj.free, AObj.free, AObj.free, AObj.row 2 0 none [iA (IntKind.i64.wrap (Prod.fst (pAtR gs (Int.toNat (IntKind.i64.wrap ((↑(List.length gs) : Int) - 1)))) + 5)), iA (IntKind.i64.wrap (pAtRy gs (Int.toNat (IntKind.i64.wrap ((↑(List.length gs) : Int) - 1))) + 9)), iA (IntKind.i64.wrap (Prod.fst (pAtR gs 0) - 7)), iA (IntKind.i64.wrap (pAtRy gs (Int.toNat (IntKind.i64.wrap ((↑(List.length gs) : Int) - 1))) + 9)), iA (Prod.fst (pAtR gs (Int.toNat (↑k : Int)))), iA (Prod.snd (pAtR gs (Int.toNat (↑k : Int))))], AObj.free, AObj.free] deep) [AVal.row 29 2 2 0 (0 + List.length gs + 3)] = some [slP ms]) (e17 : List.foldl (Vm.mark 0 deep) [AObj.free, AObj.row 2 0 (some (List.length (upL (flatPP gs)))) (upL (flatPP gs)), AObj.free, AObj.free, AObj.free, AObj.free, AObj.free, AObj.free, AObj.free, AObj.free, AObj.free, AObj.free, AObj.free, AObj.free, AObj.free, AObj.free, AObj.free, AObj.box [iA (IntKind.i64.wrap (Prod.fst (pAtR gs (Int.toNat (IntKind.i64.wrap ((↑(List.length gs) : Int) - 1)))) + 5)), iA (IntKind.i64.wrap (pAtRy gs (Int.toNat (IntKind.i64.wrap ((↑(List.length gs) : Int) - 1))) + 9))], AObj.free, AObj.free, AObj.free, AObj.free, AObj.free, AObj.free, AObj.free, AObj.free, AObj.free, AObj.box [iA (IntKind.i64.wrap (Prod.fst (pAtR gs 0) - 7)), iA (IntKind.i64.wrap (pAtRy gs (Int.toNat (IntKind.i64.wrap ((↑(List.length gs) : Int) - 1))) + 9))], AObj.free, AObj.row 2 2 none (upL (flatPP ms)), AObj.free, AObj.free, AObj.free, AObj.free, AObj.free, AObj.free, AObj.free, AObj.free, AObj.row 2 0 none [iA (IntKind.i64.wrap (Prod.fst (pAtR gs (Int.toNat (IntKind.i64.wrap ((↑(List.length gs) : Int) - 1)))) + 5)), iA (IntKind.i64.wrap (pAtRy gs (Int.toNat (IntKind.i64.wrap ((↑(List.length gs) : Int) - 1))) + 9)), iA (IntKind.i64.wrap (Prod.fst (pAtR gs 0) - 7)), iA (IntKind.i64.wrap (pAtRy gs (Int.toNat (IntKind.i64.wrap ((↑(List.length gs) : Int) - 1))) + 9)), iA (Prod.fst (pAtR gs (Int.toNat (↑k : Int)))), iA (Prod.snd (pAtR gs (Int.toNat (↑k : Int))))], AObj.free, AObj.free] [AVal.row 29 2 2 0 (0 + List.length gs + 3)] = [AObj.free, AObj.row 2 0 (some (List.length (upL (flatPP gs)))) (upL (flatPP gs)), AObj.free, AObj.free, AObj.free, AObj.free, AObj.free, AObj.free, AObj.free, AObj.free, AObj.free, AObj.free, AObj.free, AObj.free, AObj.free, AObj.free, AObj.free, AObj.box [iA (IntKind.i64.wrap (Prod.fst (pAtR gs (Int.toNat (IntKind.i64.wrap ((↑(List.length gs) : Int) - 1)))) + 5)), iA (IntKind.i64.wrap (pAtRy gs (Int.toNat (IntKind.i64.wrap ((↑(List.length gs) : Int) - 1))) + 9))], AObj.free, AObj.free, AObj.free, AObj.free, AObj.free, AObj.free, AObj.free, AObj.free, AObj.free, AObj.box [iA (IntKind.i64.wrap (Prod.fst (pAtR gs 0) - 7)), iA (IntKind.i64.wrap (pAtRy gs (Int.toNat (IntKind.i64.wrap ((↑(List.length gs) : Int) - 1))) + 9))], AObj.free, AObj.row 2 2 (some (List.length (upL (flatPP ms)))) (upL (flatPP ms)), AObj.free, AObj.free, AObj.free, AObj.free, AObj.free, AObj.free, AObj.free, AObj.free, AObj.row 2 0 none [iA (IntKind.i64.wrap (Prod.fst (pAtR gs (Int.toNat (IntKind.i64.wrap ((↑(List.length gs) : Int) - 1)))) + 5)), iA (IntKind.i64.wrap (pAtRy gs (Int.toNat (IntKind.i64.wrap ((↑(List.length gs) : Int) - 1))) + 9)), iA (IntKind.i64.wrap (Prod.fst (pAtR gs 0) - 7)), iA (IntKind.i64.wrap (pAtRy gs (Int.toNat (IntKind.i64.wrap ((↑(List.length gs) : Int) - 1))) + 9)), iA (Prod.fst (pAtR gs (Int.toNat (↑k : Int)))), iA (Prod.snd (pAtR gs (Int.toNat (↑k : Int))))], AObj.free, AObj.free]) (e18 : pureCall (cf L) (evalF (cf L) 201) 34 [slP ms] = some (bP clm)) (e19 : List.foldl (Vm.mark 0 deep) [AObj.free, AObj.row 2 0 (some (List.length (upL (flatPP gs)))) (upL (flatPP gs)), AObj.free, AObj.free, AObj.free, AObj.free, AObj.free, AObj.free, AObj.free, AObj.free, AObj.free, AObj.free, AObj.free, AObj.free, AObj.free, AObj.free, AObj.free, AObj.box [iA (IntKind.i64.wrap (Prod.fst (pAtR gs (Int.toNat (IntKind.i64.wrap ((↑(List.length gs) : Int) - 1)))) + 5)), iA (IntKind.i64.wrap (pAtRy gs (Int.toNat (IntKind.i64.wrap ((↑(List.length gs) : Int) - 1))) + 9))], AObj.free, AObj.free, AObj.free, AObj.free, AObj.free, AObj.free, AObj.free, AObj.free, AObj.free, AObj.box [iA (IntKind.i64.wrap (Prod.fst (pAtR gs 0) - 7)), iA (IntKind.i64.wrap (pAtRy gs (Int.toNat (IntKind.i64.wrap ((↑(List.length gs) : Int) - 1))) + 9))], AObj.free, AObj.row 2 2 (some (List.length (upL (flatPP ms)))) (upL (flatPP ms)), AObj.free, AObj.free, AObj.free, AObj.free, AObj.free, AObj.free, AObj.free, AObj.free, AObj.row 2 0 none [iA (IntKind.i64.wrap (Prod.fst (pAtR gs (Int.toNat (IntKind.i64.wrap ((↑(List.length gs) : Int) - 1)))) + 5)), iA (IntKind.i64.wrap (pAtRy gs (Int.toNat (IntKind.i64.wrap ((↑(List.length gs) : Int) - 1))) + 9)), iA (IntKind.i64.wrap (Prod.fst (pAtR gs 0) - 7)), iA (IntKind.i64.wrap (pAtRy gs (Int.toNat (IntKind.i64.wrap ((↑(List.length gs) : Int) - 1))) + 9)), iA (Prod.fst (pAtR gs (Int.toNat (↑k : Int)))), iA (Prod.snd (pAtR gs (Int.toNat (↑k : Int))))], AObj.free, AObj.free] [AVal.row 29 2 2 0 (0 + List.length gs + 3)] = [AObj.free, AObj.row 2 0 (some (List.length (upL (flatPP gs)))) (upL (flatPP gs)), AObj.free, AObj.free, AObj.free, AObj.free, AObj.free, AObj.free, AObj.free, AObj.free, AObj.free, AObj.free, AObj.free, AObj.free, AObj.free, AObj.free, AObj.free, AObj.box [iA (IntKind.i64.wrap (Prod.fst (pAtR gs (Int.toNat (IntKind.i64.wrap ((↑(List.length gs) : Int) - 1)))) + 5)), iA (IntKind.i64.wrap (pAtRy gs (Int.toNat (IntKind.i64.wrap ((↑(List.length gs) : Int) - 1))) + 9))], AObj.free, AObj.free, AObj.free, AObj.free, AObj.free, AObj.free, AObj.free, AObj.free, AObj.free, AObj.box [iA (IntKind.i64.wrap (Prod.fst (pAtR gs 0) - 7)), iA (IntKind.i64.wrap (pAtRy gs (Int.toNat (IntKind.i64.wrap ((↑(List.length gs) : Int) - 1))) + 9))], AObj.free, AObj.row 2 2 (some (List.length (upL (flatPP ms)))) (upL (flatPP ms)), AObj.free, AObj.free, AObj.free, AObj.free, AObj.free, AObj.free, AObj.free, AObj.free, AObj.row 2 0 none [iA (IntKind.i64.wrap (Prod.fst (pAtR gs (Int.toNat (IntKind.i64.wrap ((↑(List.length gs) : Int) - 1)))) + 5)), iA (IntKind.i64.wrap (pAtRy gs (Int.toNat (IntKind.i64.wrap ((↑(List.length gs) : Int) - 1))) + 9)), iA (IntKind.i64.wrap (Prod.fst (pAtR gs 0) - 7)), iA (IntKind.i64.wrap (pAtRy gs (Int.toNat (IntKind.i64.wrap ((↑(List.length gs) : Int) - 1))) + 9)), iA (Prod.fst (pAtR gs (Int.toNat (↑k : Int)))), iA (Prod.snd (pAtR gs (Int.toNat (↑k : Int))))], AObj.free, AObj.free]) (e20 : pureCall (cf L) (evalF (cf L) 201) 32 [] = some (bP true)) : CallsP Try.prog 12 [iP n, iP back] (stA L n back k okm clm gs ms) := by
  have key := fun (bs : List Bool) (r : PVal) (ob : List Prop) (h : callP (cf L) (evalF (cf L) 201) 201 [(9999, 0, Hint.idx), (1, 3, Hint.val (Value.int IntKind.i64 (↑(List.length gs) : Int))), (7, 1, Hint.pcallV [slP gs] (bP true) (frz gs)), (7, 5, Hint.pcallV [slP gs] (bP false) (frz gs)), (9, 3, Hint.val (Value.int IntKind.i64 (↑k : Int))), (12, 2, Hint.appX), (12, 10, Hint.appY (upL (flatPP ms))), (15, 1, Hint.pcallV [slP ms] (bP okm) (frzM ms)), (15, 7, Hint.pcallV [slP ms] (bP clm) (frzM ms)), (15, 13, Hint.pcall (bP true))] 12 [iP n, iP back] bs [(AExit.exit 0, stE (↑(List.length gs) : Int) back (AVal.row 1 0 2 0 (List.length gs)) (↑(List.length gs) : Int), stS gs)] (none) = .ok (r, ob)) (hp : allOb ob) => callP_ok (cf_ok L) h hp
  unfold stA
  exact key [false, false, false, true, true] (bP true) _ (by kernel_rfl) (allOb_cons (by exact e20) (allOb_cons p4 (allOb_cons (by exact e19) (allOb_cons (by exact e16) (allOb_cons (by exact e18) (allOb_cons p3 (allOb_cons (by exact e17) (allOb_cons (by exact e16) (allOb_cons (by exact e15) (allOb_cons p2 (allOb_cons (by exact e14) (allOb_cons (show 6 ≤ 6 from by decide) (allOb_cons (show 0 < 3 from by decide) (allOb_cons (by exact e13) (allOb_cons (by exact e12) (allOb_cons (partQ_pt b2) (allOb_cons b2 (allOb_cons (by exact e11) (allOb_cons (by exact e10) (allOb_cons (by exact e9) (allOb_cons (by exact e8) (allOb_cons (part_x b1) (allOb_cons b1 (allOb_cons (partQ_y b0) (allOb_cons b0 (allOb_cons (partQ_x b0) (allOb_cons b0 (allOb_cons (by exact e7) (allOb_cons lit_f (allOb_cons (by exact e6) (allOb_cons (by exact e3) (allOb_cons (by exact e5) (allOb_cons lit_f (allOb_cons (by exact e4) (allOb_cons (by exact e3) (allOb_cons (by exact e2) (allOb_cons (by exact e1) (allOb_cons (by exact e0) allOb_nil))))))))))))))))))))))))))))))))))))))
end Go.Proofs.Ytmopbegmdegooaa
/- A line of steps: how its segments stand to each other. -/
namespace Go.Proofs.Ytmopbegmdegooaa
open Go Vm M
set_option linter.unusedVariables false
set_option linter.unusedSimpArgs false
def stP (i : Nat) : P2 := (((i + 1) / 2 : Nat), (i / 2 : Nat))
def farP (n : Nat) : P2 := ((stP (n - 1)).1 + 5, (stP (n - 1)).2 + 9)
def highP (n : Nat) : P2 := (-7, (stP (n - 1)).2 + 9)
def upTo (n : Nat) (c : Nat → Bool) : Bool := Nat.rec true (fun i r => c i && r) n
theorem upTo_ok {c : Nat → Bool} : ∀ {n : Nat}, upTo n c = true → ∀ i, i < n → c i = true
  | 0, _, i, h => absurd h (by omega)
  | n + 1, h, i, hi => by
    have h' : (c n && upTo n c) = true := h
    rw [Bool.and_eq_true] at h'
    by_cases e : i = n
    · rw [e]; exact h'.1
    · exact upTo_ok h'.2 i (by omega)
def c1 (j i : Nat) : Bool := relate (stP i) (stP (i + 1)) (stP j) (stP (j + 1)) == (bif j == i + 1 then 1 else 0)
def c2 (n i : Nat) : Bool := relate (stP i) (stP (i + 1)) (stP (n - 1)) (farP n) == (bif n - 1 == i + 1 then 1 else 0)
def c3 (n i : Nat) : Bool := relate (stP i) (stP (i + 1)) (farP n) (highP n) == 0
def c4 (n i : Nat) : Bool := relate (stP i) (stP (i + 1)) (highP n) (stP 0) == (bif i == 0 then 1 else 0)
def c5 (n : Nat) : Bool := (relate (stP (n - 1)) (farP n) (farP n) (highP n) == 1) && (relate (stP (n - 1)) (farP n) (highP n) (stP 0) == 0) && (relate (farP n) (highP n) (highP n) (stP 0) == 1)
def c6 (n i : Nat) : Bool := relate (stP i) (stP (i + 1)) (highP n) (stP (i + 1)) != 0
theorem c1_all : upTo 60 (fun j => upTo j fun i => c1 j i) = true := by kernel_rfl
theorem c2_all : upTo 58 (fun t => upTo (t + 3 - 1) fun i => c2 (t + 3) i) = true := by kernel_rfl
theorem c3_all : upTo 58 (fun t => upTo (t + 3 - 1) fun i => c3 (t + 3) i) = true := by kernel_rfl
theorem c4_all : upTo 58 (fun t => upTo (t + 3 - 1) fun i => c4 (t + 3) i) = true := by kernel_rfl
theorem c5_all : upTo 58 (fun t => c5 (t + 3)) = true := by kernel_rfl
theorem c6_all : upTo 58 (fun t => upTo (t + 3 - 1) fun i => c6 (t + 3) i) = true := by kernel_rfl
theorem c1_ok {i j : Nat} (h : i < j) (hj : j < 60) : relate (stP i) (stP (i + 1)) (stP j) (stP (j + 1)) = bif j == i + 1 then 1 else 0 :=
  eq_of_beq (upTo_ok (upTo_ok c1_all j hj) i h)
section
variable {n : Nat} (h3 : 3 ≤ n) (h60 : n ≤ 60)
include h3 h60
theorem c2_ok {i : Nat} (hi : i < n - 1) : relate (stP i) (stP (i + 1)) (stP (n - 1)) (farP n) = bif n - 1 == i + 1 then 1 else 0 := by
  have := upTo_ok (upTo_ok c2_all (n - 3) (by omega)) i (by omega)
  rw [show n - 3 + 3 = n by omega] at this
  exact eq_of_beq this
theorem c3_ok {i : Nat} (hi : i < n - 1) : relate (stP i) (stP (i + 1)) (farP n) (highP n) = 0 := by
  have := upTo_ok (upTo_ok c3_all (n - 3) (by omega)) i (by omega)
  rw [show n - 3 + 3 = n by omega] at this
  exact eq_of_beq this
theorem c4_ok {i : Nat} (hi : i < n - 1) : relate (stP i) (stP (i + 1)) (highP n) (stP 0) = bif i == 0 then 1 else 0 := by
  have := upTo_ok (upTo_ok c4_all (n - 3) (by omega)) i (by omega)
  rw [show n - 3 + 3 = n by omega] at this
  exact eq_of_beq this
theorem c6_ok {i : Nat} (hi : i < n - 1) : relate (stP i) (stP (i + 1)) (highP n) (stP (i + 1)) ≠ 0 := by
  have := upTo_ok (upTo_ok c6_all (n - 3) (by omega)) i (by omega)
  rw [show n - 3 + 3 = n by omega] at this
  exact bne_iff_ne.1 this
theorem c5_ok : relate (stP (n - 1)) (farP n) (farP n) (highP n) = 1 ∧ relate (stP (n - 1)) (farP n) (highP n) (stP 0) = 0 ∧ relate (farP n) (highP n) (highP n) (stP 0) = 1 := by
  have := upTo_ok c5_all (n - 3) (by omega)
  rw [show n - 3 + 3 = n by omega] at this
  unfold c5 at this
  simp only [Bool.and_eq_true, beq_iff_eq] at this
  exact ⟨this.1.1, this.1.2, this.2⟩
end
end Go.Proofs.Ytmopbegmdegooaa
/- A line of steps is one; with a way back to one of its points it is one just if that is the first. -/
namespace Go.Proofs.Ytmopbegmdegooaa
open Go Vm M
set_option linter.unusedVariables false
set_option linter.unusedSimpArgs false
def stL (n : Nat) : List P2 := (List.range n).map stP
def mL (n k : Nat) : List P2 := stL n ++ [farP n, highP n, stP k]
theorem stL_length (n : Nat) : (stL n).length = n := by simp [stL]
theorem mL_length (n k : Nat) : (mL n k).length = n + 3 := by simp [mL, stL_length]
theorem stL_at {n i : Nat} (h : i < n) : pAt (stL n) i = stP i := pAt_get (by simp [stL, h])
theorem mL_at {n k i : Nat} (h : i < n) : pAt (mL n k) i = stP i := pAt_get (by unfold mL; rw [List.getElem?_append_left (by rw [stL_length]; exact h)]; simp [stL, h])
theorem mL_far (n k : Nat) : pAt (mL n k) n = farP n := pAt_get (by unfold mL; rw [List.getElem?_append_right (by rw [stL_length]; omega), stL_length, Nat.sub_self]; rfl)
theorem mL_high (n k : Nat) : pAt (mL n k) (n + 1) = highP n := pAt_get (by unfold mL; rw [List.getElem?_append_right (by rw [stL_length]; omega), stL_length, show n + 1 - n = 1 by omega]; rfl)
theorem mL_back (n k : Nat) : pAt (mL n k) (n + 2) = stP k := pAt_get (by unfold mL; rw [List.getElem?_append_right (by rw [stL_length]; omega), stL_length, show n + 2 - n = 2 by omega]; rfl)
theorem stP_ne {i j : Nat} (h : i < j) : eqB (stP i) (stP j) = false := by
  rw [Bool.eq_false_iff]
  intro he
  have := eqB_iff.1 he
  unfold stP at this
  simp only [Prod.mk.injEq] at this
  omega
theorem stP_ok {i : Nat} (h : i < 1000) : okP (stP i) = true := by
  unfold okP stP
  simp only [Bool.and_eq_true, decide_eq_true_eq]
  omega
theorem nokO_none {ps : List P2} (h : ∀ i, i < ps.length → okP (pAt ps i) = true) : nokO ps = none :=
  firstAt_eq_none fun i _ h2 => by unfold nokB; rw [h i (by omega)]; rfl
theorem simple_of {ps : List P2} (h : ∀ i, i < ps.length - 1 → eqB (pAt ps i) (pAt ps (i + 1)) = false ∧ ∀ j, i < j → j < ps.length - 1 → relate (pAt ps i) (pAt ps (i + 1)) (pAt ps j) (pAt ps (j + 1)) = wantI ps i j) : simpleB ps = true := by
  unfold simpleB
  rw [firstAt_eq_none (fun i _ hi => ?_)]
  · rfl
  · have h1 := h i (by omega)
    unfold badI
    rw [h1.1, firstAt_eq_none (fun j hj hj2 => ?_)]
    · rfl
    · unfold badK
      rw [h1.2 j (by omega) (by omega)]
      exact bne_self_eq_false _
theorem simple_not {ps : List P2} {i j : Nat} (hij : i < j) (hj : j < ps.length - 1) (h : relate (pAt ps i) (pAt ps (i + 1)) (pAt ps j) (pAt ps (j + 1)) ≠ wantI ps i j) : simpleB ps = false := by
  unfold simpleB
  cases hf : firstAt (badI ps) (ps.length - 1) 0 with
  | some _ => rfl
  | none =>
    have h1 := firstAt_none hf i (by omega) (by omega)
    unfold badI at h1
    rw [Bool.or_eq_false_iff] at h1
    cases hg : firstAt (badK ps i) (ps.length - 1 - (i + 1)) (i + 1) with
    | some _ => rw [hg] at h1; exact absurd h1.2 (by simp)
    | none =>
      have h2 := firstAt_none hg j (by omega) (by omega)
      unfold badK at h2
      rw [bne_eq_false_iff_eq] at h2
      exact absurd h2 h
section
variable {n : Nat} (h3 : 3 ≤ n) (h60 : n ≤ 60)
include h3 h60
theorem st_open : closedB (stL n) = false := by
  unfold closedB
  rw [stL_length, stL_at (by omega), stL_at (by omega), stP_ne (by omega), Bool.and_false]
theorem st_ok : okB (stL n) = true := by
  have hs : simpleB (stL n) = true := simple_of fun i hi => by
    rw [stL_length] at hi
    refine ⟨by rw [stL_at (by omega), stL_at (by omega), stP_ne (by omega)], fun j hij hj => ?_⟩
    rw [stL_length] at hj
    rw [stL_at (by omega), stL_at (by omega), stL_at (by omega), stL_at (by omega), c1_ok hij (by omega)]
    unfold wantI
    rw [st_open h3 h60, Bool.and_false, Bool.and_false, Bool.or_false]
  unfold okB
  rw [stL_length, decide_eq_true (by omega : 2 ≤ n), decide_eq_true (by omega : n ≤ 64), hs, nokO_none (fun i hi => by rw [stL_length] at hi; rw [stL_at hi]; exact stP_ok (by omega))]
  rfl
theorem m_closed {k : Nat} (hk : k < n) : closedB (mL n k) = (k == 0) := by
  unfold closedB
  rw [mL_length, decide_eq_true (by omega : 3 ≤ n + 3), show n + 3 - 1 = n + 2 by omega, mL_at (by omega), mL_back, Bool.true_and]
  by_cases h : k = 0
  · subst h; rfl
  · rw [stP_ne (by omega), beq_eq_false_iff_ne.2 h]
theorem far_ok : okP (farP n) = true ∧ okP (highP n) = true := by
  unfold okP farP highP stP
  simp only [Bool.and_eq_true, decide_eq_true_eq]
  omega
theorem m_nok {k : Nat} (hk : k < n) : nokO (mL n k) = none := nokO_none fun i hi => by
  rw [mL_length] at hi
  by_cases h1 : i < n
  · rw [mL_at h1]; exact stP_ok (by omega)
  · by_cases h2 : i = n
    · rw [h2, mL_far]; exact (far_ok h3 h60).1
    · by_cases h4 : i = n + 1
      · rw [h4, mL_high]; exact (far_ok h3 h60).2
      · rw [show i = n + 2 by omega, mL_back]; exact stP_ok (by omega)
theorem m_simple0 : simpleB (mL n 0) = true := simple_of fun i hi => by
  rw [mL_length] at hi
  have hcl := m_closed h3 h60 (k := 0) (by omega)
  have hw : ∀ i j : Nat, wantI (mL n 0) i j = bif (j == i + 1) || ((i == 0) && (j == n + 1)) then 1 else 0 := fun i j => by
    unfold wantI
    rw [hcl, mL_length, show n + 3 - 2 = n + 1 by omega]
    simp
  have hc5 := c5_ok h3 h60
  by_cases h1 : i < n - 1
  · refine ⟨by rw [mL_at (by omega), mL_at (by omega), stP_ne (by omega)], fun j hij hj => ?_⟩
    rw [mL_length] at hj
    rw [hw, mL_at (by omega), mL_at (by omega)]
    by_cases hj1 : j < n - 1
    · rw [mL_at (by omega), mL_at (by omega), c1_ok hij (by omega), beq_eq_false_iff_ne.2 (by omega : j ≠ n + 1), Bool.and_false, Bool.or_false]
    · by_cases hj2 : j = n - 1
      · rw [hj2, mL_at (by omega), show n - 1 + 1 = n by omega, mL_far, c2_ok h3 h60 h1, beq_eq_false_iff_ne.2 (by omega : n - 1 ≠ n + 1), Bool.and_false, Bool.or_false]
      · by_cases hj3 : j = n
        · rw [hj3, mL_far, mL_high, c3_ok h3 h60 h1, beq_eq_false_iff_ne.2 (by omega : n ≠ n + 1), beq_eq_false_iff_ne.2 (by omega : n ≠ i + 1), Bool.and_false, Bool.or_false]
          rfl
        · rw [show j = n + 1 by omega, mL_high, mL_back, c4_ok h3 h60 h1, beq_eq_false_iff_ne.2 (by omega : n + 1 ≠ i + 1), beq_self_eq_true, Bool.and_true, Bool.false_or]
  · by_cases h2 : i = n - 1
    · refine ⟨?_, fun j hij hj => ?_⟩
      · rw [h2, mL_at (by omega), show n - 1 + 1 = n by omega, mL_far, Bool.eq_false_iff]
        intro he
        have := eqB_iff.1 he
        have := congrArg Prod.fst this
        unfold farP at this
        simp only at this
        omega
      · rw [mL_length] at hj
        rw [hw, h2, mL_at (by omega), show n - 1 + 1 = n by omega, mL_far]
        by_cases hj3 : j = n
        · rw [hj3, mL_far, mL_high, hc5.1, beq_self_eq_true, Bool.true_or]
          rfl
        · rw [show j = n + 1 by omega, mL_high, mL_back, hc5.2.1, beq_eq_false_iff_ne.2 (by omega : n + 1 ≠ n), beq_eq_false_iff_ne.2 (by omega : n - 1 ≠ 0), Bool.false_and, Bool.false_or]
          rfl
    · by_cases h4 : i = n
      · refine ⟨?_, fun j hij hj => ?_⟩
        · rw [h4, mL_far, mL_high, Bool.eq_false_iff]
          intro he
          have := congrArg Prod.fst (eqB_iff.1 he)
          unfold farP highP stP at this
          simp only at this
          omega
        · rw [mL_length] at hj
          rw [hw, h4, show j = n + 1 by omega, mL_far, mL_high, mL_back, hc5.2.2, beq_self_eq_true, Bool.true_or]
          rfl
      · refine ⟨?_, fun j hij hj => ?_⟩
        · rw [show i = n + 1 by omega, mL_high, mL_back, Bool.eq_false_iff]
          intro he
          have := congrArg Prod.fst (eqB_iff.1 he)
          unfold highP stP at this
          simp only at this
          omega
        · rw [mL_length] at hj
          omega
theorem m_simpleK {k : Nat} (hk : k < n) (h0 : k ≠ 0) : simpleB (mL n k) = false := by
  refine simple_not (i := k - 1) (j := n + 1) (by omega) (by rw [mL_length]; omega) ?_
  have hcl := m_closed h3 h60 hk
  rw [mL_at (by omega), show k - 1 + 1 = k by omega, mL_at hk, mL_high, mL_back]
  unfold wantI
  rw [hcl, beq_eq_false_iff_ne.2 h0, Bool.and_false, Bool.and_false, Bool.or_false, beq_eq_false_iff_ne.2 (by omega : n + 1 ≠ k - 1 + 1)]
  have := c6_ok h3 h60 (i := k - 1) (by omega)
  rw [show k - 1 + 1 = k by omega] at this
  exact this
theorem m_ok {k : Nat} (hk : k < n) : okB (mL n k) = (k == 0) := by
  unfold okB
  rw [mL_length, decide_eq_true (by omega : 2 ≤ n + 3), decide_eq_true (by omega : n + 3 ≤ 64), m_nok h3 h60 hk]
  by_cases h : k = 0
  · subst h; rw [m_simple0 h3 h60]; rfl
  · rw [m_simpleK h3 h60 hk h, beq_eq_false_iff_ne.2 h]; rfl
end
end Go.Proofs.Ytmopbegmdegooaa
/- The law LineStairs: what its code answers is true. -/
namespace Go.Proofs.Ytmopbegmdegooaa
open Go Vm M
set_option linter.unusedVariables false
set_option linter.unusedSimpArgs false
theorem aw12_true : CallsP Try.prog 32 [] (bP true) := aw12_calls
noncomputable def LS1 : Lib Try.prog := LS0.add 32 (fun ps => match ps with | [] => some (bP true) | _ => none) (Vm.enters_of named_prog Try.func32 (by kernel_rfl)) (fun ps r h => by
  match ps, h with
  | [], h => cases h; exact aw12_true)
theorem binA_add (a b : Int) (x y : Operand) : binA Try.prog BinOp.add 3 x y (iA a) (iA b) = some (iA (IntKind.i64.wrap (a + b))) := by kernel_rfl
theorem row_peek {S : List AObj} {o e n : Nat} {ps : List P2} (h : S[o]? = some (.row 2 e (some (upL (flatPP ps)).length) (upL (flatPP ps)))) (hn : n = ps.length) : mapO (peek S deep) [.row o e 2 0 n] = some [slP ps] := by
  subst hn
  rw [upL_flatPP] at h
  have := peek_rowE (n := 4) h
  simp only [mapO, show deep = 4 + 2 from rfl, this]
theorem row_mark {S : List AObj} {o e e' n : Nat} {fz : Option Nat} {ps : List P2} (h : S[o]? = some (.row 2 e fz (upL (flatPP ps)))) : List.foldl (Vm.mark 0 deep) S [.row o e' 2 0 n] = S.set o (.row 2 e (some (upL (flatPP ps)).length) (upL (flatPP ps))) := by
  rw [upL_flatPP] at h ⊢
  exact mark_row (n := 5) (ep := e') (off := 0) (len := n) h
theorem pure_okL {ps : List P2} {ev : Ev} : pureCall (cf LS1) ev 33 [slP ps] = some (bP (okB ps)) := pure_given (g := gSo fun ps => some (bP (okB ps))) (by kernel_rfl) (by rw [gSo_slP])
theorem pure_closedL {ps : List P2} {ev : Ev} (h : ps.length ≤ 200) : pureCall (cf LS1) ev 34 [slP ps] = some (bP (closedB ps)) := pure_given (g := gSo fun ps => lim ps (bP (closedB ps))) (by kernel_rfl) (by rw [gSo_slP, lim_of h])
theorem pure_aw12 {ev : Ev} : pureCall (cf LS1) ev 32 [] = some (bP true) := pure_given (g := fun ps => match ps with | [] => some (bP true) | _ => none) (by kernel_rfl) rfl
theorem stL_succ (k : Nat) : stL (k + 1) = stL k ++ [stP k] := by simp [stL, List.range_succ]
noncomputable abbrev bodySt : List AVal → List AObj → Res := evalC (cf LS1) (evalF (cf LS1) 201) ((lives.lookup 12).getD []) 0 0 201 (loopAt Try.f12 0)
theorem st_div (k : Nat) (h : k < 1000) : IntKind.i64.wrap (Int.tdiv (IntKind.i64.wrap ((k : Int) + 1)) 2) = (stP k).1 ∧ IntKind.i64.wrap (Int.tdiv (k : Int) 2) = (stP k).2 := by
  unfold stP
  simp only
  rw [wrS (by omega), Int.tdiv_eq_ediv_of_nonneg (by omega), Int.tdiv_eq_ediv_of_nonneg (by omega), IntWalk.i64_in _ (by omega), IntWalk.i64_in _ (by omega)]
  exact ⟨by omega, by omega⟩
theorem st_first (n : Nat) (back : Int) (h : 0 < n) : roundC 0 bodySt (stT n back (.v (.slice none 0 0)) (0 : Nat)) [] = some (.normal, stT n back (.row 1 0 2 0 1) (1 : Nat), stS (stL 1)) := by
  have h' := st1_eq LS1 n back (0 : Nat)
  rw [show bodySt = _ from rfl]
  rw [h']
  unfold st1
  rw [decide_eq_true (by omega : ((0 : Nat) : Int) < (n : Int)), (st_div 0 (by omega)).1, (st_div 0 (by omega)).2, wrS (by omega)]
  rfl
theorem st_next (n : Nat) (back : Int) {k : Nat} (h : k < n) (h60 : n ≤ 60) : roundC 0 bodySt (stT n back (.row 1 0 2 0 k) k) (stS (stL k)) = some (.normal, stT n back (.row 1 0 2 0 (k + 1)) (k + 1 : Nat), stS (stL (k + 1))) := by
  have d := st_div k (by omega)
  have h' := st2_eq LS1 n back k k (stL k) (stL (k + 1)) (fun _ => ⟨by rw [upL_flatPP, flatP_length, stL_length]; omega, by omega, by omega⟩) (fun _ => rfl) (fun _ => by
    rw [d.1, d.2, stL_succ]
    have := flat_snoc (stL k) (stP k)
    rw [List.drop_zero] at this
    exact this)
  rw [show bodySt = _ from rfl]
  rw [h']
  unfold st2
  rw [decide_eq_true (by omega : (k : Int) < (n : Int)), wrS (by omega)]
  rfl
theorem st_end (n : Nat) (back : Int) : roundC 0 bodySt (stT n back (.row 1 0 2 0 n) n) (stS (stL n)) = some (.exit 0, stE n back (.row 1 0 2 0 n) n, stS (stL n)) := by
  have hf : decide ((n : Int) < (n : Int)) = false := decide_eq_false (by omega)
  have h' := st2_eq LS1 n back n n (stL n) (stL n) (fun h => by rw [hf] at h; cases h) (fun h => by rw [hf] at h; cases h) (fun h => by rw [hf] at h; cases h)
  rw [show bodySt = _ from rfl]
  rw [h']
  unfold st2
  rw [hf]
  rfl
theorem st_loop (n : Nat) (back : Int) (h1 : 1 ≤ n) (h60 : n ≤ 60) : At 0 bodySt (n - 1 + 1 + 1) (stT n back (.v (.slice none 0 0)) (0 : Nat)) [] (some (.exit 0, stE n back (.row 1 0 2 0 n) n, stS (stL n))) := by
  refine At.step (st_first n back h1) ?_
  have := At.upto (base := 0) (body := bodySt) (T := fun k => stT n back (.row 1 0 2 0 k) k) (S := fun k => stS (stL k)) (n := n) (m := 1) (fun k hk => st_next n back hk h60) (At.leave (st_end n back) (by simp)) (n - 1) 1 (by omega)
  exact this
theorem st_rem (a : Int) (n : Nat) (hn : 0 < n) : ∃ k : Nat, k < n ∧ (and255 a).tmod (n : Int) = (k : Int) := by
  have hv := and255_bound a
  have hm := Int.emod_lt_of_pos (and255 a) (b := (n : Int)) (by omega)
  have hm0 := Int.emod_nonneg (and255 a) (b := (n : Int)) (by omega)
  refine ⟨(and255 a % (n : Int)).toNat, by omega, ?_⟩
  rw [Int.tmod_eq_emod_of_nonneg hv.1]
  omega
theorem lineStairs_calls (nv back : Int) : CallsP Try.prog 12 [iP nv, iP back] (bP true) := by
  obtain ⟨t, ht, hte⟩ := st_rem nv 58 (by omega)
  obtain ⟨n, rfl⟩ : ∃ n, n = t + 3 := ⟨_, rfl⟩
  obtain ⟨k, hk, hke⟩ := st_rem back (t + 3) (by omega)
  have h3 : 3 ≤ t + 3 := by omega
  have h60 : t + 3 ≤ 60 := by omega
  generalize hn : t + 3 = n at *
  have hg := stL_length n
  have hw : IntKind.i64.wrap (((stL n).length : Int) - 1) = ((n - 1 : Nat) : Int) := by rw [hg, IntWalk.i64_in _ (by omega)]; omega
  have hx : pAtR (stL n) (Int.toNat (IntKind.i64.wrap (((stL n).length : Int) - 1))) = stP (n - 1) := by rw [hw, Int.toNat_natCast, pAtR_eq, stL_at (by omega)]
  have hy : pAtRy (stL n) (Int.toNat (IntKind.i64.wrap (((stL n).length : Int) - 1))) = (stP (n - 1)).2 := by rw [hw, Int.toNat_natCast, pAtRy_eq, stL_at (by omega)]
  have hz : pAtR (stL n) 0 = stP 0 := by rw [pAtR_eq, stL_at (by omega)]
  have hb : pAtR (stL n) (Int.toNat (k : Int)) = stP k := by rw [Int.toNat_natCast, pAtR_eq, stL_at hk]
  have hs0 : 0 ≤ (stP (n - 1)).1 ∧ (stP (n - 1)).1 ≤ 100 ∧ 0 ≤ (stP (n - 1)).2 ∧ (stP (n - 1)).2 ≤ 100 := by unfold stP; simp only; omega
  have w1 : IntKind.i64.wrap ((stP (n - 1)).1 + 5) = (farP n).1 := IntWalk.i64_in _ (by omega)
  have w2 : IntKind.i64.wrap ((stP (n - 1)).2 + 9) = (farP n).2 := IntWalk.i64_in _ (by omega)
  have w3 : IntKind.i64.wrap ((stP 0).1 - 7) = (highP n).1 := by rw [IntWalk.i64_in _ (by unfold stP; simp only; omega)]; rfl
  have w4 : (farP n).2 = (highP n).2 := rfl
  have cut : cutA (upL (flatPP (stL n))) 2 0 (0 + (stL n).length) = upL (flatPP (stL n)) := by
    rw [upL_flatPP, cutA_flat, List.drop_zero, Nat.zero_add, Nat.sub_zero, List.take_length]
  have eqk : ((k : Int) == 0) = (k == 0) := by
    by_cases h : k = 0
    · subst h; rfl
    · rw [beq_eq_false_iff_ne.2 h, beq_eq_false_iff_ne.2 (by omega : (k : Int) ≠ 0)]
  have hl := At.use (at_more (st_loop n back (by omega) h60) (m := 201) (by omega)) (by rfl) (T := stT n back (.v (.slice none 0 0)) (0 : Nat)) (S := []) (by kernel_rfl)
  have key := stA_calls LS1 nv back k (okB (mL n k)) (closedB (mL n k)) (stL n) (mL n k) (by rw [m_closed h3 h60 hk, eqk, beq_self_eq_true]) (by rw [m_ok h3 h60 hk, eqk, beq_self_eq_true]) (decide_eq_false (by rw [hg]; omega)) rfl rfl
    (by
      have := binA_add (Int.tmod (and255 nv) ((58 : Nat) : Int)) 3 (Operand.tmp 13) (Operand.const (Value.int IntKind.i64 3))
      rw [hte, IntWalk.i64_in _ (by omega)] at this
      rw [hg, ← hn]
      rw [show ((t + 3 : Nat) : Int) = (t : Int) + 3 by omega]
      have e : Int.tmod (and255 nv) 58 = (t : Int) := hte
      show binA _ _ _ _ _ (iA (Int.tmod (and255 nv) 58)) (iA 3) = _
      rw [e]
      exact this)
    (by rw [hg]; exact hl)
    (by have := @pure_okL (stL n) (evalF (cf LS1) 201); rw [st_ok h3 h60] at this; exact this)
    (row_peek rfl rfl) (row_mark rfl)
    (by have := @pure_closedL (stL n) (evalF (cf LS1) 201) (by omega); rw [st_open h3 h60] at this; exact this)
    (row_mark rfl)
    (by
      have := binA_rem (and255 back) (n : Int) (Operand.tmp 37) (Operand.tmp 38) (by omega)
      rw [hke] at this
      rw [hg]
      exact this)
    ⟨by rw [hw]; omega, by rw [hw, hg]; omega⟩ ⟨by omega, by rw [hg]; omega⟩ ⟨rfl, by rw [hg]; omega, by rw [hg]; omega⟩ (by rw [cut, upL_flatPP]; exact onesP _) (by omega) (by rw [upL_flatPP, flatP_length]; omega) ⟨by omega, by rw [hg]; omega⟩
    (by rw [cut, List.nil_append, upL_flatPP, flatP_length]; exact ⟨by omega, by rw [hg]; omega, by rw [hg]; omega⟩) (by rfl)
    (by
      rw [hx, hy, hz, hb, w1, w2, w3, cut, List.nil_append, List.drop_zero, upL_flatPP, upL_flatPP]
      unfold mL
      rw [flatP_append]
      rfl)
    pure_okL (row_peek rfl (by rw [mL_length, hg]; omega)) (row_mark rfl) (pure_closedL (by rw [mL_length]; omega)) (row_mark rfl) pure_aw12
  have e : stA LS1 nv back k (okB (mL n k)) (closedB (mL n k)) (stL n) (mL n k) = bP true := by rfl
  rw [e] at key
  exact key
end Go.Proofs.Ytmopbegmdegooaa
/- A line told from its end on: what is the same of it. -/
namespace Go.Proofs.Ytmopbegmdegooaa
open Go Vm M
set_option linter.unusedVariables false
set_option linter.unusedSimpArgs false
theorem simple_iff {ps : List P2} : simpleB ps = true ↔ ∀ i, i < ps.length - 1 → eqB (pAt ps i) (pAt ps (i + 1)) = false ∧ ∀ j, i < j → j < ps.length - 1 → relate (pAt ps i) (pAt ps (i + 1)) (pAt ps j) (pAt ps (j + 1)) = wantI ps i j := by
  refine ⟨fun h i hi => ⟨?_, fun j hij hj => ?_⟩, simple_of⟩
  · unfold simpleB at h
    rw [Option.isNone_iff_eq_none] at h
    have h1 := firstAt_none h i (by omega) (by omega)
    unfold badI at h1
    exact (Bool.or_eq_false_iff.1 h1).1
  · by_cases he : relate (pAt ps i) (pAt ps (i + 1)) (pAt ps j) (pAt ps (j + 1)) = wantI ps i j
    · exact he
    · rw [simple_not hij hj he] at h
      cases h
theorem pAt_rev {ps : List P2} {i : Nat} (h : i < ps.length) : pAt ps.reverse i = pAt ps (ps.length - 1 - i) := by
  rw [pAt_eq, pAt_eq, List.getD, List.getD, List.getElem?_reverse h]
theorem eqB_comm (p q : P2) : eqB p q = eqB q p := by
  cases h : eqB p q with
  | true => rw [eqB_iff] at h; subst h; exact (eqB_iff.2 rfl).symm
  | false =>
    cases h2 : eqB q p with
    | true => rw [eqB_iff] at h2; subst h2; rw [eqB_iff.2 rfl] at h; cases h
    | false => rfl
theorem closed_rev (ps : List P2) : closedB ps.reverse = closedB ps := by
  unfold closedB
  rw [List.length_reverse]
  by_cases h : 3 ≤ ps.length
  · rw [pAt_rev (by omega), pAt_rev (by omega), eqB_comm, show ps.length - 1 - (ps.length - 1) = 0 by omega, show ps.length - 1 - 0 = ps.length - 1 by omega]
  · rw [decide_eq_false h, Bool.false_and, Bool.false_and]
theorem wantI_rev {ps : List P2} {i j : Nat} (hij : i < j) (hj : j < ps.length - 1) : wantI ps.reverse i j = wantI ps (ps.length - 2 - j) (ps.length - 2 - i) := by
  unfold wantI
  rw [closed_rev, List.length_reverse]
  have e1 : (j == i + 1) = (ps.length - 2 - i == ps.length - 2 - j + 1) := by
    by_cases h : j = i + 1
    · rw [beq_iff_eq.2 h, (beq_iff_eq.2 (by omega) : (ps.length - 2 - i == ps.length - 2 - j + 1) = true)]
    · rw [beq_eq_false_iff_ne.2 h, beq_eq_false_iff_ne.2 (by omega)]
  have e2 : (i == 0) = (ps.length - 2 - i == ps.length - 2) := by
    by_cases h : i = 0
    · rw [beq_iff_eq.2 h, (beq_iff_eq.2 (by omega) : (ps.length - 2 - i == ps.length - 2) = true)]
    · rw [beq_eq_false_iff_ne.2 h, beq_eq_false_iff_ne.2 (by omega)]
  have e3 : (j == ps.length - 2) = (ps.length - 2 - j == 0) := by
    by_cases h : j = ps.length - 2
    · rw [beq_iff_eq.2 h, (beq_iff_eq.2 (by omega) : (ps.length - 2 - j == 0) = true)]
    · rw [beq_eq_false_iff_ne.2 h, beq_eq_false_iff_ne.2 (by omega)]
  rw [e1, e2, e3, ← Bool.and_assoc, ← Bool.and_assoc, Bool.and_comm (ps.length - 2 - i == ps.length - 2)]
theorem simple_rev1 {ps : List P2} (h : simpleB ps = true) : simpleB ps.reverse = true := by
  rw [simple_iff] at h ⊢
  rw [List.length_reverse]
  intro i hi
  refine ⟨?_, fun j hij hj => ?_⟩
  · rw [pAt_rev (by omega), pAt_rev (by omega), eqB_comm]
    have := (h (ps.length - 1 - (i + 1)) (by omega)).1
    rw [show ps.length - 1 - (i + 1) + 1 = ps.length - 1 - i by omega] at this
    exact this
  · rw [wantI_rev hij hj, pAt_rev (by omega), pAt_rev (by omega), pAt_rev (by omega), pAt_rev (by omega)]
    have := (h (ps.length - 2 - j) (by omega)).2 (ps.length - 2 - i) (by omega) (by omega)
    rw [← this, ← relate_comm, relate_flip1, relate_flip2, show ps.length - 2 - j + 1 = ps.length - 1 - j by omega, show ps.length - 2 - i + 1 = ps.length - 1 - i by omega, show ps.length - 1 - (j + 1) = ps.length - 2 - j by omega, show ps.length - 1 - (i + 1) = ps.length - 2 - i by omega]
theorem simple_rev (ps : List P2) : simpleB ps.reverse = simpleB ps := by
  cases h : simpleB ps with
  | true => exact simple_rev1 h
  | false =>
    cases h2 : simpleB ps.reverse with
    | false => rfl
    | true =>
      have := simple_rev1 h2
      rw [List.reverse_reverse, h] at this
      cases this
theorem nok_iff {ps : List P2} : (nokO ps).isSome = true ↔ ∃ i, i < ps.length ∧ okP (pAt ps i) = false := by
  unfold nokO
  constructor
  · intro h
    cases hf : firstAt (nokB ps) ps.length 0 with
    | none => rw [hf] at h; cases h
    | some k =>
      have := firstAt_some hf
      refine ⟨k, by omega, ?_⟩
      have h3 := this.2.2.1
      unfold nokB at h3
      rw [Bool.not_eq_true'] at h3
      exact h3
  · rintro ⟨i, hi, h⟩
    cases hf : firstAt (nokB ps) ps.length 0 with
    | some k => rfl
    | none =>
      have := firstAt_none hf i (by omega) (by omega)
      unfold nokB at this
      rw [h] at this
      cases this
theorem nok_rev (ps : List P2) : (nokO ps.reverse).isSome = (nokO ps).isSome := by
  rw [Bool.eq_iff_iff, nok_iff, nok_iff, List.length_reverse]
  constructor <;> rintro ⟨i, hi, h⟩
  · rw [pAt_rev hi] at h
    exact ⟨_, by omega, h⟩
  · refine ⟨ps.length - 1 - i, by omega, ?_⟩
    rw [pAt_rev (by omega), show ps.length - 1 - (ps.length - 1 - i) = i by omega]
    exact h
theorem ok_rev (ps : List P2) : okB ps.reverse = okB ps := by
  unfold okB
  rw [List.length_reverse, nok_rev, simple_rev]
/-! points of a line on it -/
theorem onR_self1 (a b : P2) : onR a b a = true := by
  unfold onR turnR
  rw [show area a b a = 0 by unfold area; grind]
  simp [sgn]
  omega
theorem onR_self2 (a b : P2) : onR a b b = true := by rw [← onRS_flip]; exact onR_self1 b a
theorem on_self1 (a b : P2) : M.on a b a = true := onR_self1 _ _
theorem on_self2 (a b : P2) : M.on a b b = true := onR_self2 _ _
theorem at_self {ps : List P2} {i : Nat} (h2 : 2 ≤ ps.length) (hi : i < ps.length) : ∃ k, atO ps (pAt ps i) = some k ∧ k ≤ i - 1 := by
  have hb : atB ps (pAt ps i) (i - 1) = true := by
    unfold atB
    by_cases h0 : i = 0
    · subst h0
      exact on_self1 _ _
    · rw [show i - 1 + 1 = i by omega]
      exact on_self2 _ _
  unfold atO
  cases hf : firstAt (atB ps (pAt ps i)) (ps.length - 1) 0 with
  | none =>
    rw [firstAt_none hf (i - 1) (by omega) (by omega)] at hb
    cases hb
  | some k =>
    refine ⟨k, rfl, ?_⟩
    have := firstAt_some hf
    by_cases hk : k ≤ i - 1
    · exact hk
    · rw [this.2.2.2 (i - 1) (by omega) (by omega)] at hb
      cases hb
/-- Two segments with an end in common. -/
theorem relate_share {a b c d : P2} (p : P2) (h1 : p = a ∨ p = b) (h2 : p = c ∨ p = d) : relate a b c d ≠ 0 := by
  intro h
  have hm : nearP p ∈ [nearP a, nearP b, nearP c, nearP d] := by rcases h1 with rfl | rfl <;> simp
  have := relate_zero_com h (nearP p) hm
  have o1 : M.on (nearP a) (nearP b) (nearP p) = true := by
    rcases h1 with rfl | rfl
    · exact on_self1 _ _
    · exact on_self2 _ _
  have o2 : M.on (nearP c) (nearP d) (nearP p) = true := by
    rcases h2 with rfl | rfl
    · exact on_self1 _ _
    · exact on_self2 _ _
  unfold comB at this
  rw [o1, o2] at this
  cases this
theorem ne_first {ps : List P2} {i : Nat} (h : simpleB ps = true) (h0 : 0 < i) (hi : i < ps.length - 1) : eqB (pAt ps 0) (pAt ps i) = false := by
  cases he : eqB (pAt ps 0) (pAt ps i) with
  | false => rfl
  | true =>
    have he' := eqB_iff.1 he
    rw [simple_iff] at h
    have d0 := (h 0 (by omega)).1
    by_cases h1 : i = 1
    · subst h1; rw [he] at d0; cases d0
    · have hr := (h 0 (by omega)).2 i (by omega) hi
      have hne := relate_share (a := pAt ps 0) (b := pAt ps 1) (c := pAt ps i) (d := pAt ps (i + 1)) (pAt ps 0) (.inl rfl) (.inl he')
      rw [show (0 : Nat) + 1 = 1 from rfl] at hr
      rw [hr] at hne
      unfold wantI at hne
      rw [beq_eq_false_iff_ne.2 (by omega : i ≠ 0 + 1), Bool.false_or, beq_self_eq_true, Bool.true_and] at hne
      by_cases h2 : i = ps.length - 2
      · cases hc : closedB ps with
        | false => rw [hc, Bool.and_false] at hne; exact absurd rfl hne
        | true =>
          unfold closedB at hc
          rw [Bool.and_eq_true] at hc
          have he2 := eqB_iff.1 hc.2
          have d1 := (h i hi).1
          rw [show i + 1 = ps.length - 1 by omega, ← he', ← he2, eqB_iff.2 rfl] at d1
          cases d1
      · rw [beq_eq_false_iff_ne.2 h2, Bool.false_and] at hne
        exact absurd rfl hne
theorem ne_last {ps : List P2} {i : Nat} (h : simpleB ps = true) (h0 : 0 < i) (hi : i < ps.length - 1) : eqB (pAt ps (ps.length - 1)) (pAt ps i) = false := by
  have := ne_first (simple_rev1 h) (i := ps.length - 1 - i) (by omega) (by rw [List.length_reverse]; omega)
  rw [pAt_rev (by omega), pAt_rev (by omega), show ps.length - 1 - 0 = ps.length - 1 by omega, show ps.length - 1 - (ps.length - 1 - i) = i by omega] at this
  exact this
/-- Where a line's own points part it. -/
theorem split_self {ps : List P2} {i : Nat} (h : okB ps = true) (hi : i < ps.length) : (splitO ps (pAt ps i)).isSome = (decide (0 < i) && decide (i < ps.length - 1)) := by
  unfold okB at h
  simp only [Bool.and_eq_true, decide_eq_true_eq, Bool.not_eq_true'] at h
  obtain ⟨⟨⟨h2, h64⟩, hn⟩, hs⟩ := h
  obtain ⟨k, hk, _⟩ := at_self h2 hi
  have hok : okP (pAt ps i) = true := by
    cases ho : okP (pAt ps i) with
    | true => rfl
    | false => rw [nok_iff.2 ⟨i, hi, ho⟩] at hn; cases hn
  unfold splitO
  rw [hk, hok]
  simp only [Bool.not_true, Bool.false_or]
  by_cases h0 : 0 < i
  · by_cases h1 : i < ps.length - 1
    · rw [ne_first hs h0 h1, ne_last hs h0 h1, decide_eq_true h0, decide_eq_true h1]
      rfl
    · rw [show i = ps.length - 1 by omega, eqB_iff.2 rfl, Bool.or_true, decide_eq_false (by omega : ¬ ps.length - 1 < ps.length - 1), Bool.and_false]
      rfl
  · rw [show i = 0 by omega, eqB_iff.2 rfl, Bool.true_or, decide_eq_false (by omega : ¬ 0 < 0), Bool.false_and]
    rfl
end Go.Proofs.Ytmopbegmdegooaa
/- line.Reverse: its parts, called among the caller's objects. -/
namespace Go.Proofs.Ytmopbegmdegooaa
open Go Vm M
set_option linter.unusedVariables false
set_option linter.unusedSimpArgs false
def lrT (m : Nat) (i j : Int) : List AVal := [.row 0 1 2 0 m, .junk, iA i, iA j] ++ jk 24
def lrRev (m : Nat) (i : Int) (j : Int) (l : List P2) (l1 : List P2) (l2 : List P2) (p : P2) (q : P2) : AExit × List AVal × List AObj :=
  (bif decide (i < j) then (AExit.normal, (([AVal.row 0 1 2 0 m, AVal.junk, AVal.v (Value.int IntKind.i64 (IntKind.wrap IntKind.i64 (i + 1))), AVal.v (Value.int IntKind.i64 (IntKind.wrap IntKind.i64 (j - 1)))] ++ jk 24), ([AObj.row 2 1 none (flatP l2)]))) else (AExit.exit 0, (([AVal.row 0 1 2 0 m, AVal.junk, AVal.v (Value.int IntKind.i64 i), AVal.v (Value.int IntKind.i64 j)] ++ jk 5 ++ [AVal.v (Value.bool false)] ++ jk 18), ([AObj.row 2 1 none (flatP l)]))))
theorem lrRev_eq (m : Nat) (i : Int) (j : Int) (l : List P2) (l1 : List P2) (l2 : List P2) (p : P2) (q : P2) (e0 : 0 ≤ j ∧ j < (m : Int)) (e1 : partA Try.prog 23 (flatP l) ((0 + j.toNat) * 2) = some (ptA p)) (e2 : 0 ≤ i ∧ i < (m : Int)) (e3 : partA Try.prog 23 (flatP l) ((0 + i.toNat) * 2) = some (ptA q)) (e4 : 0 ≤ i ∧ i < (m : Int)) (e5 : putA (flatP l) ((0 + i.toNat) * 2) (cellsP p) = some (flatP l1)) (e6 : 0 ≤ j ∧ j < (m : Int)) (e7 : putA (flatP l1) ((0 + j.toNat) * 2) (cellsP q) = some (flatP l2)) : roundC 1 (evalC (cfT N8) (evalF (cfT N8) 201) (Option.getD (List.lookup 61 lives) []) 0 1 201 (loopAt Try.f61 0)) (lrT m i j) ([AObj.row 2 1 none (flatP l)]) = some (lrRev m i j l l1 l2 p q) := by
  have key := fun (bs : List Bool) (r : AExit × List AVal × List AObj) (ob : List Prop) (h : roundP (cfT N8) (evalF (cfT N8) 201) (Option.getD (List.lookup 61 lives) []) 0 1 201 [(3, 6, Hint.idx), (3, 7, Hint.load (ptA p)), (3, 10, Hint.idx), (3, 11, Hint.load (ptA q)), (3, 12, Hint.idx), (3, 13, Hint.store (flatP l1)), (3, 14, Hint.idx), (3, 15, Hint.store (flatP l2))] (loopAt Try.f61 0) (lrT m i j) ([AObj.row 2 1 none (flatP l)]) bs [] = .ok (r.1, r.2.1, r.2.2, ob)) (hp : allOb ob) => roundP_ok h hp
  unfold lrRev
  exact bif_case (P := fun r => roundC 1 (evalC (cfT N8) (evalF (cfT N8) 201) (Option.getD (List.lookup 61 lives) []) 0 1 201 (loopAt Try.f61 0)) (lrT m i j) ([AObj.row 2 1 none (flatP l)]) = some r)
    (fun h0 => key [true] ((AExit.normal, (([AVal.row 0 1 2 0 m, AVal.junk, AVal.v (Value.int IntKind.i64 (IntKind.wrap IntKind.i64 (i + 1))), AVal.v (Value.int IntKind.i64 (IntKind.wrap IntKind.i64 (j - 1)))] ++ jk 24), ([AObj.row 2 1 none (flatP l2)])))) _ (by kernel_rfl) (allOb_cons (show Plain ([AObj.row 2 1 none (flatP l2)] ++ List.replicate 16 AObj.free) from by simp only [Plain, List.all_append, List.all_cons, List.all_nil, plainO, upL_flatPP, flatP_plain, Nat.zero_mul, List.drop_zero] <;> rfl) (allOb_cons (by exact e7) (allOb_cons (by exact e6) (allOb_cons (by exact e5) (allOb_cons (by exact e4) (allOb_cons (by exact e3) (allOb_cons (by exact e2) (allOb_cons (by exact e1) (allOb_cons (by exact e0) (allOb_cons h0 allOb_nil)))))))))))
    (fun h0 => key [false] ((AExit.exit 0, (([AVal.row 0 1 2 0 m, AVal.junk, AVal.v (Value.int IntKind.i64 i), AVal.v (Value.int IntKind.i64 j)] ++ jk 5 ++ [AVal.v (Value.bool false)] ++ jk 18), ([AObj.row 2 1 none (flatP l)])))) _ (by kernel_rfl) (allOb_cons (show Plain ([AObj.row 2 1 none (flatP l)]) from by simp only [Plain, List.all_append, List.all_cons, List.all_nil, plainO, upL_flatPP, flatP_plain, Nat.zero_mul, List.drop_zero] <;> rfl) (allOb_cons h0 allOb_nil)))
def lrE (m : Nat) (i j : Int) : List AVal := [.row 0 1 2 0 m, .junk, iA i, iA j] ++ jk 5 ++ [bA false] ++ jk 18
def lrRvAll (m : Nat) (i : Int) (j : Int) (l : List P2) (l1 : List P2) : AVal × List AObj :=
  (AVal.tup [], ([AObj.row 2 1 none (flatP l1)]))
theorem lrRvAll_eq (m : Nat) (i : Int) (j : Int) (l : List P2) (l1 : List P2) (e0 : iterC 1 (evalC (cfT N8) (evalF (cfT N8) 201) ((lives.lookup 61).getD []) 0 1 201 (loopAt Try.f61 0)) 201 (lrT m 0 (IntKind.i64.wrap ((m : Int) - 1))) [.row 2 1 none (flatP l)] = some (.exit 0, lrE m i j, [.row 2 1 none (flatP l1)])) : evalF (cfT N8) (201 + 1) (0) 61 ([AVal.row 0 1 2 0 m]) ([AObj.row 2 1 none (flatP l)]) = some (lrRvAll m i j l l1) := by
  have key := fun (bs : List Bool) (r : AVal × List AObj) (ob : List Prop) (h : funP (cfT N8) (evalF (cfT N8) 201) 201 [] 61 (0) ([AVal.row 0 1 2 0 m]) ([AObj.row 2 1 none (flatP l)]) bs [(AExit.exit 0, lrE m i j, [AObj.row 2 1 none (flatP l1)])] = .ok (r.1, r.2, ob)) (hp : allOb ob) => funP_ok h hp
  unfold lrRvAll
  exact key [] ((AVal.tup [], ([AObj.row 2 1 none (flatP l1)]))) _ (by kernel_rfl) (allOb_cons (by exact e0) allOb_nil)
def lrAll (ps : List P2) (l : List P2) (l1 : List P2) (n : Nat) : PVal :=
  PVal.list (List.length l1) (flatPP l1)
theorem lrAll_calls (ps : List P2) (l : List P2) (l1 : List P2) (n : Nat) (e0 : callA (cfT N8) (evalF (cfT N8) 202) 0 60 [slA ps] [] = some (.row 0 1 2 0 n, [.row 2 1 none (flatP l)])) (e1 : callA (cfT N8) (evalF (cfT N8) 202) 0 59 [.row 0 1 2 0 n] [.row 2 1 none (flatP l)] = some (.row 0 1 2 0 n, [.row 2 1 none (flatP l)])) (e2 : callA (cfT N8) (evalF (cfT N8) 202) 0 61 [.row 0 1 2 0 n] [.row 2 1 none (flatP l)] = some (.tup [], [.row 2 1 none (flatP l1)])) (e3 : peek (Vm.mark 0 deep [.row 2 1 none (flatP l1)] (.row 0 1 2 0 n)) deep (.row 0 1 2 0 n) = some (slP l1)) : CallsP Try.prog 38 [slP ps] (lrAll ps l l1 n) := by
  have key := fun (bs : List Bool) (r : PVal) (ob : List Prop) (h : callP (cfT N8) (evalF (cfT N8) 202) 202 [(1, 1, Hint.call (AVal.row 0 1 2 0 n) [AObj.row 2 1 none (flatP l)]), (1, 2, Hint.call (AVal.row 0 1 2 0 n) [AObj.row 2 1 none (flatP l)]), (2, 1, Hint.call (AVal.tup []) [AObj.row 2 1 none (flatP l1)])] 38 [slP ps] bs [] (some (slP l1)) = .ok (r, ob)) (hp : allOb ob) => callP_ok (cfT_ok N8) h hp
  unfold lrAll
  exact key [] (PVal.list (List.length l1) (flatPP l1)) _ (by kernel_rfl) (allOb_cons (by exact e3) (allOb_cons (by exact e2) (allOb_cons (by exact e1) (allOb_cons (by exact e0) allOb_nil))))
end Go.Proofs.Ytmopbegmdegooaa
/- line.Reverse: a line the other way round. -/
namespace Go.Proofs.Ytmopbegmdegooaa
open Go Vm M
set_option linter.unusedVariables false
set_option linter.unusedSimpArgs false
noncomputable abbrev bodyLr : List AVal → List AObj → Res := evalC (cfT N8) (evalF (cfT N8) 201) ((lives.lookup 61).getD []) 0 1 201 (loopAt Try.f61 0)
theorem lr_round (x y : P2) (A M B : List P2) (m : Nat) (hm : m = A.length + (M.length + 2) + B.length) (hAB : A.length = B.length) (h200 : m ≤ 200) :
    roundC 1 bodyLr (lrT m A.length ((m : Int) - 1 - A.length)) [.row 2 1 none (flatP (A ++ (x :: M ++ [y]) ++ B))] = some (.normal, lrT m ((A ++ [y]).length : Nat) ((m : Int) - 1 - ((A ++ [y]).length : Nat)), [.row 2 1 none (flatP ((A ++ [y]) ++ M ++ (x :: B)))]) := by
  have l0 : A ++ (x :: M ++ [y]) ++ B = A ++ x :: (M ++ y :: B) := by simp
  have l1 : A ++ y :: (M ++ y :: B) = (A ++ y :: M) ++ y :: B := by simp
  have l2 : (A ++ y :: M) ++ x :: B = (A ++ [y]) ++ M ++ (x :: B) := by simp
  have l0' : A ++ (x :: M ++ [y]) ++ B = (A ++ x :: M) ++ y :: B := by simp
  have j1 : ((m : Int) - 1 - A.length).toNat = A.length + M.length + 1 := by omega
  have i1 : ((A.length : Nat) : Int).toNat = A.length := by omega
  have gy : (A ++ (x :: M ++ [y]) ++ B)[0 + (A.length + M.length + 1)]? = some y := by
    rw [l0', show 0 + (A.length + M.length + 1) = (A ++ x :: M).length by simp only [List.length_append, List.length_cons]; omega]
    simp
  have gx : (A ++ (x :: M ++ [y]) ++ B)[0 + A.length]? = some x := by
    rw [l0, Nat.zero_add]
    simp
  have s1 : (A ++ (x :: M ++ [y]) ++ B).set (0 + A.length) y = (A ++ y :: M) ++ y :: B := by
    rw [l0, Nat.zero_add, set_mid, l1]
  have s2 : ((A ++ y :: M) ++ y :: B).set (0 + (A.length + M.length + 1)) x = (A ++ [y]) ++ M ++ (x :: B) := by
    rw [show 0 + (A.length + M.length + 1) = (A ++ y :: M).length by simp; omega, set_mid, l2]
  have h := lrRev_eq m A.length ((m : Int) - 1 - A.length) (A ++ (x :: M ++ [y]) ++ B) ((A ++ y :: M) ++ y :: B) ((A ++ [y]) ++ M ++ (x :: B)) y x ⟨by omega, by omega⟩
    (by rw [j1]; exact flatP_part gy agg23 sz23) ⟨by omega, by omega⟩ (by rw [i1]; exact flatP_part gx agg23 sz23) ⟨by omega, by omega⟩
    (by rw [i1, putA_flat (by simp <;> omega), s1]) ⟨by omega, by omega⟩ (by rw [j1, putA_flat (by simp <;> omega), s2])
  rw [h]
  unfold lrRev
  rw [decide_eq_true (by omega : (A.length : Int) < (m : Int) - 1 - A.length), IntWalk.i64_in ((A.length : Int) + 1) (by omega), IntWalk.i64_in ((m : Int) - 1 - A.length - 1) (by omega)]
  rw [show (A ++ [y]).length = A.length + 1 by simp, show ((A.length + 1 : Nat) : Int) = (A.length : Int) + 1 by omega, show (m : Int) - 1 - ((A.length : Int) + 1) = (m : Int) - 1 - A.length - 1 by omega]
  rfl
theorem lr_end (l : List P2) (m : Nat) (i j : Int) (h : ¬ i < j) : roundC 1 bodyLr (lrT m i j) [.row 2 1 none (flatP l)] = some (.exit 0, lrE m i j, [.row 2 1 none (flatP l)]) := by
  have hpl : Plain [.row 2 1 none (flatP l)] := by
    simp only [Plain, List.all_append, List.all_cons, List.all_nil, plainO, flatP_plain] <;> rfl
  exact roundP_ok (hs := []) (bs := [false]) (ls := []) (ob := [Plain [.row 2 1 none (flatP l)], decide (i < j) = false]) (by kernel_rfl) (allOb_cons hpl (allOb_cons (decide_eq_false h) allOb_nil))
theorem lr_loop (m : Nat) (h200 : m ≤ 200) : ∀ (d : Nat) (A M B : List P2), M.length ≤ 2 * d + 1 → m = A.length + M.length + B.length → A.length = B.length →
    ∃ i j, At 1 bodyLr (d + 1) (lrT m A.length ((m : Int) - 1 - A.length)) [.row 2 1 none (flatP (A ++ M ++ B))] (some (.exit 0, lrE m i j, [.row 2 1 none (flatP (A ++ M.reverse ++ B))])) := by
  intro d
  induction d with
  | zero =>
    intro A M B hM hm hAB
    have e : M.reverse = M := by
      match M, hM with
      | [], _ => rfl
      | [x], _ => rfl
    rw [e]
    exact ⟨_, _, At.leave (lr_end _ m _ _ (by omega)) (by simp)⟩
  | succ d ih =>
    intro A M B hM hm hAB
    match M, hM, hm with
    | [], _, hm =>
      simp only [List.length_nil] at hm
      exact ⟨_, _, At.leave (lr_end _ m _ _ (by omega)) (by simp)⟩
    | [x], _, hm =>
      simp only [List.length_singleton] at hm
      exact ⟨_, _, At.leave (lr_end _ m _ _ (by omega)) (by simp)⟩
    | x :: z :: N, hM, hm =>
      obtain ⟨M', y, hy⟩ : ∃ M' y, z :: N = M' ++ [y] := ⟨(z :: N).dropLast, (z :: N).getLast (by simp), (List.dropLast_concat_getLast (by simp)).symm⟩
      rw [hy] at hM hm ⊢
      simp only [List.length_cons, List.length_append, List.length_nil] at hM hm
      obtain ⟨i, j, h⟩ := ih (A ++ [y]) M' (x :: B) (by omega) (by simp; omega) (by simp; omega)
      refine ⟨i, j, At.step (lr_round x y A M' B m (by omega) hAB h200) ?_⟩
      have e : A ++ (x :: (M' ++ [y])).reverse ++ B = (A ++ [y]) ++ M'.reverse ++ (x :: B) := by simp
      rw [e]
      exact h
theorem reverse_cons (q : P2) (qs : List P2) (h200 : qs.length < 200) : CallsP Try.prog 38 [slP (q :: qs)] (slP (q :: qs).reverse) := by
  have hn : (q :: qs).length = qs.length + 1 := rfl
  have c1 := tuClone_eq q qs ⟨rfl, by omega, by omega⟩ (by rw [upL_flatPP]; exact onesP _) (by omega) (flatPP_length _)
  unfold tuClone at c1
  rw [Nat.zero_add, upL_flatPP] at c1
  have e0 : callA (cfT N8) (evalF (cfT N8) 202) 0 60 [slA (q :: qs)] [] = some (.row 0 1 2 0 (q :: qs).length, [.row 2 1 none (flatP (q :: qs))]) := callA_m2 rfl rfl c1
  have c2 := tuClip_eq 1 (q :: qs).length (flatP (q :: qs)) ⟨(q :: qs).length, boundsA_clip _, by simp⟩
  unfold tuClip at c2
  rw [Int.toNat_natCast, Nat.sub_zero] at c2
  have e1 : callA (cfT N8) (evalF (cfT N8) 202) 0 59 [.row 0 1 2 0 (q :: qs).length] [.row 2 1 none (flatP (q :: qs))] = some (.row 0 1 2 0 (q :: qs).length, [.row 2 1 none (flatP (q :: qs))]) := callA_m2 rfl rfl c2
  obtain ⟨i, j, hl⟩ := lr_loop (q :: qs).length (by omega) 199 [] (q :: qs) [] (by omega) (by simp) rfl
  have hl' := At.use (at_more hl (m := 201) (by omega)) (T := lrT (q :: qs).length 0 (IntKind.i64.wrap (((q :: qs).length : Int) - 1))) (S := [.row 2 1 none (flatP (q :: qs))]) (by simp only [List.all_cons, List.all_nil, plainO, flatP_plain]; rfl) (by
    rw [IntWalk.i64_in _ (by omega)]
    simp only [List.nil_append, List.append_nil, List.length_nil]
    rw [show (((q :: qs).length : Int) - 1 - ((0 : Nat) : Int)) = ((q :: qs).length : Int) - 1 by omega]
    kernel_rfl)
  simp only [List.nil_append, List.append_nil] at hl'
  have c3 := lrRvAll_eq (q :: qs).length i j (q :: qs) (q :: qs).reverse hl'
  have e3 : callA (cfT N8) (evalF (cfT N8) 202) 0 61 [.row 0 1 2 0 (q :: qs).length] [.row 2 1 none (flatP (q :: qs))] = some (.tup [], [.row 2 1 none (flatP (q :: qs).reverse)]) := callA_m2 rfl rfl c3
  refine lrAll_calls (q :: qs) (q :: qs) (q :: qs).reverse (q :: qs).length e0 e1 e3 ?_
  have hS : ([.row 2 1 none (flatP (q :: qs).reverse)] : List AObj)[0]? = some (.row 2 1 none (flatP (q :: qs).reverse)) := rfl
  rw [show deep = 5 + 1 from rfl, mark_row (n := 5) hS]
  have hp : ([.row 2 1 none (flatP (q :: qs).reverse)] : List AObj).set 0 (.row 2 1 (some (flatP (q :: qs).reverse).length) (flatP (q :: qs).reverse)) = [.row 2 1 (some (flatP (q :: qs).reverse).length) (flatP (q :: qs).reverse)] := rfl
  rw [hp]
  have hlen : (q :: qs).length = (q :: qs).reverse.length := by simp
  rw [hlen]
  exact peek_rowE (n := 4) rfl
end Go.Proofs.Ytmopbegmdegooaa
/- LineEnds: its rounds, its path. -/
namespace Go.Proofs.Ytmopbegmdegooaa
open Go Vm M
set_option linter.unusedVariables false
set_option linter.unusedSimpArgs false
def leT (xs : List P2) (ok : Bool) (i : Int) : List AVal := [.junk, .junk, .junk, slA xs, bA ok, iA i] ++ jk 84
def leE (xs : List P2) (ok : Bool) (i : Int) : List AVal := [.junk, .junk, .junk, slA xs, bA ok, iA i] ++ jk 33 ++ [bA false] ++ jk 50
def leR (L : Lib Try.prog) (xs : List P2) (ok : Bool) (i : Int) (k : Int) (cl : Bool) (isS : Bool) (x : PVal) (y : PVal) : AExit × List AVal × List AObj :=
  (bif decide (i < (↑(List.length xs) : Int)) then (bif ok then (bif decide (i > 0) then (bif !isS == decide (i < IntKind.i64.wrap ((↑(List.length xs) : Int) - 1)) then (AExit.ret, (([AVal.junk, AVal.junk, bA false] ++ jk 87), [])) else (AExit.normal, (([AVal.junk, AVal.junk, AVal.junk, slA xs, bA ok, iA (IntKind.i64.wrap (i + 1))] ++ jk 84), []))) else (bif !isS == false then (AExit.ret, (([AVal.junk, AVal.junk, bA false] ++ jk 87), [])) else (AExit.normal, (([AVal.junk, AVal.junk, AVal.junk, slA xs, bA ok, iA (IntKind.i64.wrap (i + 1))] ++ jk 84), [])))) else (AExit.normal, (([AVal.junk, AVal.junk, AVal.junk, slA xs, bA ok, iA (IntKind.i64.wrap (i + 1))] ++ jk 84), []))) else (AExit.exit 0, (([AVal.junk, AVal.junk, AVal.junk, slA xs, bA ok, iA i] ++ jk 33 ++ [bA false] ++ jk 50), [])))
theorem leR_eq (L : Lib Try.prog) (xs : List P2) (ok : Bool) (i : Int) (k : Int) (cl : Bool) (isS : Bool) (x : PVal) (y : PVal) (p2 : (decide (k > if 0 > IntKind.i64.wrap (i - 1) then 0 else IntKind.i64.wrap (i - 1))) = false) (p1 : (decide (k < 0)) = false) (b0 : (decide (i < (↑(List.length xs) : Int))) = true → (0 : Int) ≤ i ∧ (i : Int) < (↑(List.length xs) : Int)) (e0 : (decide (i < (↑(List.length xs) : Int))) = true → pureCall (cf L) (evalF (cf L) 201) 39 [slP xs, ptP (pAt xs (Int.toNat i))] = some (iP k)) (e1 : (decide (i < (↑(List.length xs) : Int))) = true → pureCall (cf L) (evalF (cf L) 201) 40 [slP xs, ptP (pAt xs (Int.toNat i))] = some (PVal.tup [x, y, bP isS])) : roundC 0 (evalC (cf L) (evalF (cf L) 201) (Option.getD (List.lookup 13 lives) []) 0 0 201 (loopAt Try.f13 0)) (leT xs ok i) ([]) = some (leR L xs ok i k cl isS x y) := by
  have key := fun (bs : List Bool) (r : AExit × List AVal × List AObj) (ob : List Prop) (h : roundP (cf L) (evalF (cf L) 201) (Option.getD (List.lookup 13 lives) []) 0 0 201 [(9999, 0, Hint.idx), (10, 5, Hint.pcall (iP k)), (11, 13, Hint.pcall (bP cl)), (13, 5, Hint.pcall (PVal.tup [x, y, bP isS]))] (loopAt Try.f13 0) (leT xs ok i) ([]) bs [] = .ok (r.1, r.2.1, r.2.2, ob)) (hp : allOb ob) => roundP_ok h hp
  unfold leR
  exact bif_case (P := fun r => roundC 0 (evalC (cf L) (evalF (cf L) 201) (Option.getD (List.lookup 13 lives) []) 0 0 201 (loopAt Try.f13 0)) (leT xs ok i) ([]) = some r)
    (fun h0 => bif_case (P := fun r => roundC 0 (evalC (cf L) (evalF (cf L) 201) (Option.getD (List.lookup 13 lives) []) 0 0 201 (loopAt Try.f13 0)) (leT xs ok i) ([]) = some r)
     (fun h1 => bif_case (P := fun r => roundC 0 (evalC (cf L) (evalF (cf L) 201) (Option.getD (List.lookup 13 lives) []) 0 0 201 (loopAt Try.f13 0)) (leT xs ok i) ([]) = some r)
      (fun h2 => bif_case (P := fun r => roundC 0 (evalC (cf L) (evalF (cf L) 201) (Option.getD (List.lookup 13 lives) []) 0 0 201 (loopAt Try.f13 0)) (leT xs ok i) ([]) = some r)
       (fun h3 => key [true, false, false, false, false, true, true, true] ((AExit.ret, (([AVal.junk, AVal.junk, bA false] ++ jk 87), []))) _ (by kernel_rfl) (allOb_cons (show Plain [] from by simp only [Plain, List.all_append, List.all_cons, List.all_nil, plainO, upL_flatPP, flatP_plain, Nat.zero_mul, List.drop_zero] <;> rfl) (allOb_cons h3 (allOb_cons h2 (allOb_cons h1 (allOb_cons (by exact (e1 h0)) (allOb_cons (part_pt (b0 h0)) (allOb_cons (idx_ok (b0 h0)) (allOb_cons lit_f (allOb_cons lit_f (allOb_cons p2 (allOb_cons p1 (allOb_cons (by exact (e0 h0)) (allOb_cons (part_pt (b0 h0)) (allOb_cons (idx_ok (b0 h0)) (allOb_cons h0 allOb_nil))))))))))))))))
       (fun h3 => key [true, false, false, false, false, true, true, false] ((AExit.normal, (([AVal.junk, AVal.junk, AVal.junk, slA xs, bA ok, iA (IntKind.i64.wrap (i + 1))] ++ jk 84), []))) _ (by kernel_rfl) (allOb_cons (show Plain [] from by simp only [Plain, List.all_append, List.all_cons, List.all_nil, plainO, upL_flatPP, flatP_plain, Nat.zero_mul, List.drop_zero] <;> rfl) (allOb_cons h3 (allOb_cons h2 (allOb_cons h1 (allOb_cons (by exact (e1 h0)) (allOb_cons (part_pt (b0 h0)) (allOb_cons (idx_ok (b0 h0)) (allOb_cons lit_f (allOb_cons lit_f (allOb_cons p2 (allOb_cons p1 (allOb_cons (by exact (e0 h0)) (allOb_cons (part_pt (b0 h0)) (allOb_cons (idx_ok (b0 h0)) (allOb_cons h0 allOb_nil)))))))))))))))))
      (fun h2 => bif_case (P := fun r => roundC 0 (evalC (cf L) (evalF (cf L) 201) (Option.getD (List.lookup 13 lives) []) 0 0 201 (loopAt Try.f13 0)) (leT xs ok i) ([]) = some r)
       (fun h3 => key [true, false, false, false, false, true, false, true] ((AExit.ret, (([AVal.junk, AVal.junk, bA false] ++ jk 87), []))) _ (by kernel_rfl) (allOb_cons (show Plain [] from by simp only [Plain, List.all_append, List.all_cons, List.all_nil, plainO, upL_flatPP, flatP_plain, Nat.zero_mul, List.drop_zero] <;> rfl) (allOb_cons h3 (allOb_cons h2 (allOb_cons h1 (allOb_cons (by exact (e1 h0)) (allOb_cons (part_pt (b0 h0)) (allOb_cons (idx_ok (b0 h0)) (allOb_cons lit_f (allOb_cons lit_f (allOb_cons p2 (allOb_cons p1 (allOb_cons (by exact (e0 h0)) (allOb_cons (part_pt (b0 h0)) (allOb_cons (idx_ok (b0 h0)) (allOb_cons h0 allOb_nil))))))))))))))))
       (fun h3 => key [true, false, false, false, false, true, false, false] ((AExit.normal, (([AVal.junk, AVal.junk, AVal.junk, slA xs, bA ok, iA (IntKind.i64.wrap (i + 1))] ++ jk 84), []))) _ (by kernel_rfl) (allOb_cons (show Plain [] from by simp only [Plain, List.all_append, List.all_cons, List.all_nil, plainO, upL_flatPP, flatP_plain, Nat.zero_mul, List.drop_zero] <;> rfl) (allOb_cons h3 (allOb_cons h2 (allOb_cons h1 (allOb_cons (by exact (e1 h0)) (allOb_cons (part_pt (b0 h0)) (allOb_cons (idx_ok (b0 h0)) (allOb_cons lit_f (allOb_cons lit_f (allOb_cons p2 (allOb_cons p1 (allOb_cons (by exact (e0 h0)) (allOb_cons (part_pt (b0 h0)) (allOb_cons (idx_ok (b0 h0)) (allOb_cons h0 allOb_nil))))))))))))))))))
     (fun h1 => key [true, false, false, false, false, false, false] ((AExit.normal, (([AVal.junk, AVal.junk, AVal.junk, slA xs, bA ok, iA (IntKind.i64.wrap (i + 1))] ++ jk 84), []))) _ (by kernel_rfl) (allOb_cons (show Plain [] from by simp only [Plain, List.all_append, List.all_cons, List.all_nil, plainO, upL_flatPP, flatP_plain, Nat.zero_mul, List.drop_zero] <;> rfl) (allOb_cons lit_f (allOb_cons h1 (allOb_cons (by exact (e1 h0)) (allOb_cons (part_pt (b0 h0)) (allOb_cons (idx_ok (b0 h0)) (allOb_cons lit_f (allOb_cons lit_f (allOb_cons p2 (allOb_cons p1 (allOb_cons (by exact (e0 h0)) (allOb_cons (part_pt (b0 h0)) (allOb_cons (idx_ok (b0 h0)) (allOb_cons h0 allOb_nil))))))))))))))))
    (fun h0 => key [false] ((AExit.exit 0, (([AVal.junk, AVal.junk, AVal.junk, slA xs, bA ok, iA i] ++ jk 33 ++ [bA false] ++ jk 50), []))) _ (by kernel_rfl) (allOb_cons (show Plain [] from by simp only [Plain, List.all_append, List.all_cons, List.all_nil, plainO, upL_flatPP, flatP_plain, Nat.zero_mul, List.drop_zero] <;> rfl) (allOb_cons h0 allOb_nil)))
def leA (L : Lib Try.prog) (ps : List P2) (xs : List P2) (ok : Bool) (c : Bool) : PVal :=
  (bif decide ((↑(List.length ps) : Int) > 64) then bP true else (bif decide ((↑(List.length ps) : Int) < 2) then bP true else bP true))
theorem leA_calls (L : Lib Try.prog) (ps : List P2) (xs : List P2) (ok : Bool) (c : Bool) (p3 : (!c == c) = false) (p2 : (!ok == ok) = false) (e0 : pureCall (cf L) (evalF (cf L) 201) 32 [] = some (bP true)) (e1 : (decide ((↑(List.length ps) : Int) > 64)) = false → (decide ((↑(List.length ps) : Int) < 2)) = false → pureCall (cf L) (evalF (cf L) 201) 29 [slP ps] = some (slP xs)) (e2 : (decide ((↑(List.length ps) : Int) > 64)) = false → (decide ((↑(List.length ps) : Int) < 2)) = false → pureCall (cf L) (evalF (cf L) 201) 33 [slP xs] = some (bP ok)) (e3 : (decide ((↑(List.length ps) : Int) > 64)) = false → (decide ((↑(List.length ps) : Int) < 2)) = false → pureCall (cf L) (evalF (cf L) 201) 38 [slP xs] = some (slP (List.reverse xs))) (e4 : (decide ((↑(List.length ps) : Int) > 64)) = false → (decide ((↑(List.length ps) : Int) < 2)) = false → pureCall (cf L) (evalF (cf L) 201) 33 [slP (List.reverse xs)] = some (bP ok)) (e5 : (decide ((↑(List.length ps) : Int) > 64)) = false → (decide ((↑(List.length ps) : Int) < 2)) = false → pureCall (cf L) (evalF (cf L) 201) 34 [slP (List.reverse xs)] = some (bP c)) (e6 : (decide ((↑(List.length ps) : Int) > 64)) = false → (decide ((↑(List.length ps) : Int) < 2)) = false → pureCall (cf L) (evalF (cf L) 201) 34 [slP xs] = some (bP c)) (e7 : (decide ((↑(List.length ps) : Int) > 64)) = false → (decide ((↑(List.length ps) : Int) < 2)) = false → iterC 0 (evalC (cf L) (evalF (cf L) 201) ((lives.lookup 13).getD []) 0 0 201 (loopAt Try.f13 0)) 201 ([AVal.junk, AVal.junk, AVal.junk, AVal.list (List.length xs) (flatPP xs), bA ok, iA 0] ++ jk 84) [] = some (AExit.exit 0, (([AVal.junk, AVal.junk, AVal.junk, AVal.list (List.length xs) (flatPP xs), bA ok, iA (↑(List.length xs) : Int)] ++ jk 33 ++ [bA false] ++ jk 50), []))) : CallsP Try.prog 13 [slP ps] (leA L ps xs ok c) := by
  have key := fun (bs : List Bool) (r : PVal) (ob : List Prop) (h : callP (cf L) (evalF (cf L) 201) 201 [(9999, 0, Hint.idx), (2, 0, Hint.pcall (bP true)), (3, 1, Hint.pcall (slP xs)), (4, 1, Hint.pcall (bP ok)), (5, 1, Hint.pcall (slP (List.reverse xs))), (5, 2, Hint.pcall (bP ok)), (5, 7, Hint.pcall (slP (List.reverse xs))), (5, 8, Hint.pcall (bP c)), (5, 10, Hint.pcall (bP c)), (16, 0, Hint.pcall (bP true))] 13 [slP ps] bs [(AExit.exit 0, leE xs ok (↑(List.length xs) : Int), [])] (none) = .ok (r, ob)) (hp : allOb ob) => callP_ok (cf_ok L) h hp
  unfold leA
  exact bif_case (P := fun r => CallsP Try.prog 13 [slP ps] r)
    (fun h0 => key [true, true] (bP true) _ (by kernel_rfl) (allOb_cons (by exact e0) (allOb_cons lit_t (allOb_cons h0 allOb_nil))))
    (fun h0 => bif_case (P := fun r => CallsP Try.prog 13 [slP ps] r)
     (fun h1 => key [false, true] (bP true) _ (by kernel_rfl) (allOb_cons (by exact e0) (allOb_cons h1 (allOb_cons h0 allOb_nil))))
     (fun h1 => key [false, false, false, false] (bP true) _ (by kernel_rfl) (allOb_cons (by exact e0) (allOb_cons (by exact (e7 h0 h1)) (allOb_cons p3 (allOb_cons (by exact (e6 h0 h1)) (allOb_cons (by exact (e5 h0 h1)) (allOb_cons (by exact (e3 h0 h1)) (allOb_cons p2 (allOb_cons (by exact (e4 h0 h1)) (allOb_cons (by exact (e3 h0 h1)) (allOb_cons (by exact (e2 h0 h1)) (allOb_cons (by exact (e1 h0 h1)) (allOb_cons h1 (allOb_cons h0 allOb_nil)))))))))))))))
end Go.Proofs.Ytmopbegmdegooaa
/- The law LineEnds: what its code answers is true. -/
namespace Go.Proofs.Ytmopbegmdegooaa
open Go Vm M
set_option linter.unusedVariables false
set_option linter.unusedSimpArgs false
noncomputable def LE1 : Lib Try.prog := LS1.add 29 (gSo fGrid) (Vm.enters_of named_prog Try.func29 (by kernel_rfl)) (gSo_spec fGrid_ok)
def fRev : List P2 → Option PVal
  | [] => none
  | q :: qs => if qs.length < 200 then some (slP (q :: qs).reverse) else none
theorem fRev_ok (ps : List P2) (r : PVal) (h : fRev ps = some r) : CallsP Try.prog 38 [slP ps] r := by
  cases ps with
  | nil => cases h
  | cons q qs =>
    by_cases h2 : qs.length < 200
    · have e : fRev (q :: qs) = some (slP (q :: qs).reverse) := if_pos h2
      rw [e, Option.some.injEq] at h
      subst h
      exact reverse_cons q qs h2
    · have e : fRev (q :: qs) = none := if_neg h2
      rw [e] at h
      cases h
theorem fRev_of {ps : List P2} (h1 : 1 ≤ ps.length) (h200 : ps.length ≤ 200) : fRev ps = some (slP ps.reverse) := by
  cases ps with
  | nil => simp at h1
  | cons q qs =>
    have : qs.length + 1 ≤ 200 := h200
    exact if_pos (by omega)
noncomputable def LE2 : Lib Try.prog := LE1.add 38 (gSo fRev) (Vm.enters_of named_prog Try.func38 (by kernel_rfl)) (gSo_spec fRev_ok)
section
variable {ev : Ev} {ps : List P2}
theorem e_ok : pureCall (cf LE2) ev 33 [slP ps] = some (bP (okB ps)) := pure_given (g := gSo fun ps => some (bP (okB ps))) (by kernel_rfl) (by rw [gSo_slP])
theorem e_closed (h : ps.length ≤ 200) : pureCall (cf LE2) ev 34 [slP ps] = some (bP (closedB ps)) := pure_given (g := gSo fun ps => lim ps (bP (closedB ps))) (by kernel_rfl) (by rw [gSo_slP, lim_of h])
theorem e_awake : pureCall (cf LE2) ev 32 [] = some (bP true) := pure_given (g := fun ps => match ps with | [] => some (bP true) | _ => none) (by kernel_rfl) rfl
theorem e_grid (h : ps.length ≤ 200) : pureCall (cf LE2) ev 29 [slP ps] = some (slP (ps.map nearP)) := pure_given (g := gSo fGrid) (by kernel_rfl) (by rw [gSo_slP]; unfold fGrid; rw [if_pos h])
theorem e_rev (h1 : 1 ≤ ps.length) (h : ps.length ≤ 200) : pureCall (cf LE2) ev 38 [slP ps] = some (slP ps.reverse) := pure_given (g := gSo fRev) (by kernel_rfl) (by rw [gSo_slP, fRev_of h1 h])
theorem e_at (p : P2) (h : ps.length ≤ 200) : pureCall (cf LE2) ev 39 [slP ps, ptP p] = some (iP (atI ps p)) := pure_given (g := gSPo fun ps p => lim ps (iP (atI ps p))) (by kernel_rfl) (by rw [gSPo_slP, lim_of h])
theorem e_split (p : P2) (h : ps.length ≤ 200) : pureCall (cf LE2) ev 40 [slP ps, ptP p] = some (splitP ps p) := pure_given (g := gSPo fun ps p => lim ps (splitP ps p)) (by kernel_rfl) (by rw [gSPo_slP, lim_of h])
end
theorem splitP_form (ps : List P2) (p : P2) : ∃ x y, splitP ps p = .tup [x, y, bP (splitO ps p).isSome] := by
  unfold splitP
  cases splitO ps p with
  | none => exact ⟨_, _, rfl⟩
  | some ab => exact ⟨_, _, rfl⟩
noncomputable abbrev bodyLe : List AVal → List AObj → Res := evalC (cf LE2) (evalF (cf LE2) 201) ((lives.lookup 13).getD []) 0 0 201 (loopAt Try.f13 0)
section
variable (xs : List P2) (h2 : 2 ≤ xs.length) (h64 : xs.length ≤ 64)
include h2 h64
theorem le_next {i : Nat} (hi : i < xs.length) : roundC 0 bodyLe (leT xs (okB xs) i) [] = some (.normal, leT xs (okB xs) (i + 1 : Nat), []) := by
  obtain ⟨k, hk, hki⟩ := at_self h2 hi
  obtain ⟨x, y, hs⟩ := splitP_form xs (pAt xs i)
  have ha : atI xs (pAt xs i) = (k : Int) := by unfold atI; rw [hk]
  have hw : IntKind.i64.wrap ((i : Int) - 1) = (i : Int) - 1 := IntWalk.i64_in _ (by omega)
  have hw2 : IntKind.i64.wrap ((xs.length : Int) - 1) = ((xs.length - 1 : Nat) : Int) := by rw [IntWalk.i64_in _ (by omega)]; omega
  have h := leR_eq LE2 xs (okB xs) i k true (splitO xs (pAt xs i)).isSome x y (decide_eq_false (by rw [hw]; split <;> omega)) (decide_eq_false (by omega)) (fun _ => ⟨by omega, by omega⟩)
    (fun _ => by rw [Int.toNat_natCast, ← ha]; exact e_at _ (by omega)) (fun _ => by rw [Int.toNat_natCast]; have := @e_split (evalF (cf LE2) 201) xs (pAt xs i) (by omega); rw [hs] at this; exact this)
  rw [show bodyLe = _ from rfl]
  rw [h]
  have hd : decide ((i : Int) < (xs.length : Int)) = true := decide_eq_true (by omega)
  unfold leR
  rw [hd, hw2, wrS (by omega)]
  cases ho : okB xs with
  | false => rfl
  | true =>
    have hb := split_self ho hi
    rw [hb]
    by_cases h0 : 0 < i
    · rw [decide_eq_true h0, decide_eq_true (by omega : (i : Int) > 0)]
      by_cases h1 : i < xs.length - 1
      · rw [decide_eq_true h1, decide_eq_true (by omega : (i : Int) < ((xs.length - 1 : Nat) : Int))]
        rfl
      · rw [decide_eq_false h1, decide_eq_false (by omega : ¬ (i : Int) < ((xs.length - 1 : Nat) : Int))]
        rfl
    · rw [decide_eq_false h0, decide_eq_false (by omega : ¬ (i : Int) > 0)]
      rfl
theorem le_end : roundC 0 bodyLe (leT xs (okB xs) xs.length) [] = some (.exit 0, leE xs (okB xs) xs.length, []) := by
  have hd : decide ((xs.length : Int) < (xs.length : Int)) = false := decide_eq_false (by omega)
  have hw : IntKind.i64.wrap ((xs.length : Int) - 1) = (xs.length : Int) - 1 := IntWalk.i64_in _ (by omega)
  have h := leR_eq LE2 xs (okB xs) xs.length 0 true true noneP noneP (decide_eq_false (by rw [hw]; split <;> omega)) (by rfl) (fun h => by rw [hd] at h; cases h) (fun h => by rw [hd] at h; cases h) (fun h => by rw [hd] at h; cases h)
  rw [show bodyLe = _ from rfl]
  rw [h]
  unfold leR
  rw [hd]
  rfl
theorem le_loop : At 0 bodyLe (xs.length + 1) (leT xs (okB xs) (0 : Nat)) [] (some (.exit 0, leE xs (okB xs) xs.length, [])) :=
  At.upto (base := 0) (body := bodyLe) (T := fun k => leT xs (okB xs) k) (S := fun _ => []) (n := xs.length) (m := 1) (fun k hk => le_next xs h2 h64 hk) (At.leave (le_end xs h2 h64) (by simp)) xs.length 0 (by omega)
end
theorem lineEnds_calls (ps : List P2) : CallsP Try.prog 13 [slP ps] (bP true) := by
  generalize hx : ps.map nearP = xs
  have hl : xs.length = ps.length := by rw [← hx]; simp
  have hs : ∀ {P : Prop}, (2 ≤ xs.length → xs.length ≤ 64 → P) → (decide ((ps.length : Int) > 64)) = false → (decide ((ps.length : Int) < 2)) = false → P := fun f h1 h2 => f (by have := of_decide_eq_false h2; omega) (by have := of_decide_eq_false h1; omega)
  have key := leA_calls LE2 ps xs (okB xs) (closedB xs) (by cases closedB xs <;> rfl) (by cases okB xs <;> rfl) e_awake (hs fun h2 h64 => by rw [← hx]; exact e_grid (by omega)) (hs fun h2 h64 => e_ok)
    (hs fun h2 h64 => e_rev (by omega) (by omega)) (hs fun h2 h64 => by rw [← ok_rev xs]; exact e_ok) (hs fun h2 h64 => by rw [← closed_rev xs]; exact e_closed (by rw [List.length_reverse]; omega))
    (hs fun h2 h64 => e_closed (by omega)) (hs fun h2 h64 => At.use (at_more (le_loop xs h2 h64) (m := 201) (by omega)) (by rfl) (T := leT xs (okB xs) (0 : Nat)) (S := []) (by kernel_rfl))
  have e : leA LE2 ps xs (okB xs) (closedB xs) = bP true := by
    unfold leA
    cases decide ((ps.length : Int) > 64) <;> cases decide ((ps.length : Int) < 2) <;> rfl
  rw [e] at key
  exact key
end Go.Proofs.Ytmopbegmdegooaa
