/- TopoFills: the row. Proved: whatever the input, the law answers true and leaves its arguments as they were. -/
import Derived.Test.YtkkgimhbliocoaaGreatBnLawTopoFills14
import Derived.Lib.Overlaps
import Derived.Laws.CopyRow
import Derived.Laws.Externs
import Derived.Shelf.RegionOpenPlain
/- slices.Insert of one node among nodes: by objects (XInsert, turned to nodes). -/
namespace Go.Proofs.YtkkgimhbliocoaaGreat
open Go Go.RowKit Go.Shelf M
set_option linter.unusedVariables false
set_option linter.unusedSimpArgs false
theorem run_copy_rowN {P : Program} (w : World) (dT sT ty elem : TypeId) (sz g o dLen dCap : Nat) (a : Addr) (sLen sCap : Nat) (cur : Array Value) (t : TypeId) (cs : List Value)
    (hu : P.underlying dT = some (.slice elem)) (hs : (P.info? elem).map (·.size) = some sz)
    (hg : w.heap[g]? = some (.cells cur t (0, 0))) (hn : cs.length = Nat.min sLen dLen * sz)
    (hsrc : ∀ j v, cs[j]? = some v → w.cell? (a.add j) = some v) (hfit : o + cs.length ≤ cur.size) (h1 : ∀ v ∈ cs, v.oneCell' = true) :
    (Builtin.copy_ #[dT, sT] ty #[.slice (some ⟨g, o, none⟩) dLen dCap, .slice (some a) sLen sCap]).run P w =
      .ok (goInt (Nat.min sLen dLen)) (w.setRow g (cur.toList.take o ++ cs ++ cur.toList.drop (o + cs.length)).toArray) := by
  have hst := run_storeCells_at P g o t cs 0 cur w hg (by simpa using hfit) h1
  cases hq : P.info? elem with
  | none => simp [hq] at hs
  | some i =>
    have hi : i.size = sz := by simpa [hq] using hs
    have hl := run_firstCells_some (P := P) w sz (Nat.min sLen dLen) a sLen sCap cs hn hsrc
    simp only [Nat.add_zero] at hst
    simp [Builtin.copy_, run_underlying hu, Builtin.lenOf, sizeOf, typeInfo, hq, hi, hl, hst]
theorem wpList_copy_runI {P : Program} (w : World) {ops : Array Oper} {rest : List Oper} {o : Oper} {a : Act} {Q : Exit → Act → World → Prop} (hgd : o.guard = none) (d s : Operand) (t t' : TypeId)
    (ho : o.op = .call { callee := .builtin .copy, args := #[d, s], argTypes := #[t, t'] }) (v u : Value) (hd : a.eval d = v) (hs : a.eval s = u) {v' : Value} {w' : World}
    (hr : (Builtin.copy_ #[t, t'] o.type #[v, u]).run P w = .ok v' w') (h : wpList P ops Q rest (a.put o.dst v') w') : wpList P ops Q (o :: rest) a w :=
  wpList_plain hgd fun K hK => by
    unfold Oper.wp execOp
    simp only [ho, resolve, invoke, builtin, Sem.run_bind, Sem.run_pure, Result.andThen_ok, List.map_toArray, List.map_cons, List.map_nil, hd, hs, hr]
    exact hK _ _ h
theorem step_copy_runI {P : Program} {ops : Array Oper} {o : Oper} {a : Act} {w : World} {K : Act → World → Prop} {Q : Exit → Act → World → Prop} {E : Prop}
    (hg : o.guard = none) (d x : Operand) (dT sT : TypeId) (hop : o.op = Op.call { callee := Callee.builtin Builtin.copy, args := #[d, x], argTypes := #[dT, sT] })
    (v u : Value) (hd : a.eval d = v) (hx : a.eval x = u) {v' : Value} {w' : World} (hr : (Builtin.copy_ #[dT, sT] o.type #[v, u]).run P w = .ok v' w') (hK : K (a.put o.dst v') w') :
    if Region.wanted o (yielded ops a.tmps) = true then Oper.wp P o a w K Q else E := by
  have hw : Region.wanted o (yielded ops a.tmps) = true := by simp [Region.wanted, hg]
  rw [if_pos hw]
  unfold Oper.wp
  simp [execOp, hop, resolve, invoke, builtin, hd, hx, hr, Result.andThen]
  exact hK
theorem sz23i : (Tryz.prog.info? 30).map (·.size) = some 4 := by kernel_rfl
def spl (L : List Value) (o : Nat) (cs : List Value) : Array Value := (L.take o ++ cs ++ L.drop (o + cs.length)).toArray
set_option maxRecDepth 100000 in
set_option maxHeartbeats 4000000 in
theorem insN_room (b off n c i vb voff vc : Nat) (cs ds : Array Value) (t t2 : TypeId) (w : World) (mid vals : List Value) (hi : i < n) (hroom : n + 1 ≤ c) (hbig : (n + 1) * 32 ≤ 140737488355328) (hne : vb ≠ b)
    (hb : w.heap[b]? = some (.cells cs t (0, 0))) (hv : w.heap[vb]? = some (.cells ds t2 (0, 0))) (hfit : off + c * 4 ≤ cs.size) (hvfit : voff + 4 ≤ ds.size)
    (hml : mid.length = (n - i) * 4) (hmid : ∀ j v, mid[j]? = some v → cs[off + i * 4 + j]? = some v) (hvl : vals.length = 4) (hvals : ∀ j v, vals[j]? = some v → ds[voff + j]? = some v)
    (h1m : ∀ v ∈ mid, v.oneCell' = true) (h1v : ∀ v ∈ vals, v.oneCell' = true) :
    Calls Tryz.prog 151 #[.slice (some ⟨b, off, none⟩) n c, .int .i64 i, .slice (some ⟨vb, voff, none⟩) 1 vc] w fun e w' =>
      e = .returned (.slice (some ⟨b, off, none⟩) (n + 1) c) ∧ w' = w.drew.setRow b (spl (spl cs.toList (off + (i + 1) * 4) mid).toList (off + i * 4) vals) := by
  have mixed := mixed_prog
  have hz1 : ¬ ((1 : Int) = 0) := by omega
  have hz2 : ¬ ((i : Int) = (n : Int)) := by omega
  have hsb : w.shape? b = some (t, cs.size) := by simp [World.shape?, hb]
  have hsa : w.shape? vb = some (t2, ds.size) := by simp [World.shape?, hv]
  have hf : ∀ k, w.frozen? ⟨vb, k, none⟩ = false := fun k => by simp [World.frozen?, hv]
  have hov : ∀ lb cb, (callFunc 182 #[.slice (some ⟨vb, voff, none⟩) 1 vc, .slice (some ⟨b, off + (i + 1) * 4, none⟩) lb cb]).run Tryz.prog w = .ok (.value (.bool false)) w := fun lb cb => by
    rw [run_callFunc_extern Tryz.func182 (by kernel_rfl) (by kernel_rfl) (by kernel_rfl) (e := Extern.SlicesOverlaps.overlaps #[22, 22] #[4]) (by kernel_rfl),
      Lib.run_overlaps_apart w 22 4 30 Tryz.underlying22 4 (fun w => by kernel_rfl) ⟨vb, voff, none⟩ ⟨b, off + (i + 1) * 4, none⟩ 1 vc lb cb hne t2 t ds.size cs.size hsa hsb (by omega) (hf _) (hf _)]
    rfl
  have hw1 : IntKind.i64.wrap ((i : Int) + 1) = (i : Int) + 1 := by rw [IntKind.wrap_i64]; omega
  have hb1 : (0 : Int) ≤ (i : Int) + 1 := by omega
  have hin : i ≤ n := by omega
  have htn : ((i : Int) + 1).toNat = i + 1 := by omega
  have hb2 : ¬ (c = i + 1) := by omega
  have hb3 : (i : Int) ≤ (n : Int) + 1 := by omega
  have hb4 : ¬ (c = i) := by omega
  have hcp1 : ∀ ty dc sc, (Builtin.copy_ #[22, 22] ty #[.slice (some ⟨b, off + (i + 1) * 4, none⟩) (n - i) dc, .slice (some ⟨b, off + i * 4, none⟩) (n + 1 - i) sc]).run Tryz.prog w.drew = .ok (goInt (Nat.min (n + 1 - i) (n - i))) (w.drew.setRow b (spl cs.toList (off + (i + 1) * 4) mid)) := fun ty dc sc =>
    run_copy_rowN w.drew _ _ ty 30 4 b (off + (i + 1) * 4) (n - i) dc ⟨b, off + i * 4, none⟩ (n + 1 - i) sc cs t mid Tryz.underlying22 sz23i hb
      (by rw [hml]; simp only [Nat.min_def]; split <;> omega) (fun j v hj => by
        have := hmid j v hj
        have hb0 : w.drew.heap[b]? = some (.cells cs t (0, 0)) := hb
        simpa [Addr.add_lit, World.cell?, hb0] using this) (by omega) h1m
  have hs1 : (spl cs.toList (off + (i + 1) * 4) mid).size = cs.size := by
    unfold spl
    simp
    omega
  have hb' : (w.drew.setRow b (spl cs.toList (off + (i + 1) * 4) mid)).heap[b]? = some (.cells (spl cs.toList (off + (i + 1) * 4) mid) t (0, 0)) := setRow_heap _ _ _ _ _ _ hb
  have hv' : (w.drew.setRow b (spl cs.toList (off + (i + 1) * 4) mid)).heap[vb]? = some (.cells ds t2 (0, 0)) := by
    have : (w.drew.setRow b (spl cs.toList (off + (i + 1) * 4) mid)).heap[vb]? = w.drew.heap[vb]? := by
      unfold World.setRow
      simp [Array.getElem?_modify, Ne.symm hne]
    rw [this]
    exact hv
  have hcp2 : ∀ ty dc sc, (Builtin.copy_ #[22, 22] ty #[.slice (some ⟨b, off + i * 4, none⟩) (n + 1 - i) dc, .slice (some ⟨vb, voff, none⟩) 1 sc]).run Tryz.prog (w.drew.setRow b (spl cs.toList (off + (i + 1) * 4) mid)) = .ok (goInt (Nat.min 1 (n + 1 - i))) (w.drew.setRow b (spl (spl cs.toList (off + (i + 1) * 4) mid).toList (off + i * 4) vals)) := fun ty dc sc => by
    have h := run_copy_rowN (P := Tryz.prog) (w.drew.setRow b (spl cs.toList (off + (i + 1) * 4) mid)) 22 22 ty 30 4 b (off + i * 4) (n + 1 - i) dc ⟨vb, voff, none⟩ 1 sc (spl cs.toList (off + (i + 1) * 4) mid) t vals Tryz.underlying22 sz23i hb'
      (by rw [hvl]; simp only [Nat.min_def]; split <;> omega) (fun j v hj => by
        have := hvals j v hj
        simpa [Addr.add_lit, World.cell?, hv'] using this) (by rw [hs1]; omega) h1v
    rw [setRow_setRow] at h
    exact h
  generalize hA : spl cs.toList (off + (i + 1) * 4) mid = A1 at hcp1 hcp2 ⊢
  generalize hA2 : spl A1.toList (off + i * 4) vals = A2 at hcp2 ⊢
  go_enter Tryz.func151, Tryz.ntmps151
  go_wp2_with (simp only [hov])
  go_region_law_o (refine step_copy_runI rfl _ _ 22 22 rfl _ _ (by simp [Act.eval, Act.put]) (by simp [Act.eval, Act.put]) (hcp1 _ _ _) ?_)
  go_wp2_with (at_builtin; refine wpList_copy_runI _ rfl _ _ 22 22 rfl _ _ rfl rfl (hcp2 _ _ _) ?_)
  go_ret
  exact ⟨rfl, rfl⟩
theorem alloc_setRow (W : World) (cs cs2 : Array Value) (t : TypeId) : (W.alloc (.cells cs t)).setRow W.heap.size cs2 = W.alloc (.cells cs2 t) := by
  unfold World.alloc World.setRow
  congr 1
  apply Array.ext_getElem?
  intro k
  rw [Array.getElem?_modify]
  by_cases hk : W.heap.size = k
  · subst hk
    simp
  · rw [if_neg hk]
    rw [Array.getElem?_push, Array.getElem?_push]
    simp [Ne.symm hk]
set_option maxRecDepth 100000 in
set_option maxHeartbeats 4000000 in
theorem insN_grow (b off n c i vb voff vc : Nat) (cs ds : Array Value) (t t2 : TypeId) (w : World) (olds mid vals : List Value) (hi : i < n) (hnc : n ≤ c) (hroom : c < n + 1) (hbig : (n + 1) * 32 ≤ 140737488355328)
    (hb : w.heap[b]? = some (.cells cs t (0, 0))) (hv : w.heap[vb]? = some (.cells ds t2 (0, 0))) (hfit : off + c * 4 ≤ cs.size) (hvfit : voff + 4 ≤ ds.size)
    (hol : olds.length = i * 4) (hold : ∀ j v, olds[j]? = some v → cs[off + j]? = some v) (hml : mid.length = (n - i) * 4) (hmid : ∀ j v, mid[j]? = some v → cs[off + i * 4 + j]? = some v)
    (hvl : vals.length = 4) (hvals : ∀ j v, vals[j]? = some v → ds[voff + j]? = some v) (h1m : ∀ v ∈ mid, v.oneCell' = true) (h1v : ∀ v ∈ vals, v.oneCell' = true) :
    Calls Tryz.prog 151 #[.slice (some ⟨b, off, none⟩) n c, .int .i64 i, .slice (some ⟨vb, voff, none⟩) 1 vc] w fun e w' =>
      ∃ (G : Nat) (R : Array Value) (W' : World), e = .returned (.slice (some ⟨w.heap.size, 0, none⟩) (n + 1) G) ∧ n + 1 ≤ G ∧ W'.heap = w.heap ∧ W'.os = w.os ∧ W'.tape = w.tape ∧ W'.output = w.output ∧ w' = W'.alloc (.cells R 30) ∧
        R.size = G * 4 ∧ ∃ rest, R.toList = olds ++ vals ++ mid ++ rest := by
  have mixed := mixed_prog
  have hz1 : ¬ ((1 : Int) = 0) := by omega
  have hz2 : ¬ ((i : Int) = (n : Int)) := by omega
  have hz3 : (c : Int) < (n : Int) + 1 := by omega
  have hbw : b < w.heap.size := (Array.getElem?_eq_some_iff.1 hb).1
  have hvw : vb < w.heap.size := (Array.getElem?_eq_some_iff.1 hv).1
  have hkk : (n : Int) + 1 - (i : Int) = ((n + 1 - i : Nat) : Int) := by omega
  have hik : i + (n + 1 - i) = n + 1 := by omega
  obtain ⟨i0, hi0, hzs, hzb, z0, hz0, hz0s⟩ : ∃ i0, Tryz.prog.info? 30 = some i0 ∧ i0.size = 4 ∧ i0.bytes = 32 ∧ ∃ z0, i0.zero = some z0 ∧ z0.cells.size = 4 := ⟨_, rfl, rfl, rfl, _, rfl, rfl⟩
  have hfold : (Builtin.firstCells i0.size i (.slice (some ⟨b, off, none⟩) i c)).run Tryz.prog w.drew = .ok olds.toArray w.drew := by
    rw [hzs]
    exact run_firstCells_some w.drew 4 i ⟨b, off, none⟩ i c olds hol (fun j v hj => by
      have hb0 : w.drew.heap[b]? = some (.cells cs t (0, 0)) := hb
      have := hold j v hj
      simpa [Addr.add_lit, World.cell?, hb0] using this)
  have hrz : ∀ ty, (Builtin.append_ #[22, 3] ty #[.slice (some ⟨b, off, none⟩) i c, .int .i64 ((n : Int) + 1 - (i : Int))]).run Tryz.prog w =
      .ok (.slice (some ⟨w.heap.size, 0, none⟩) (n + 1) (grownCap w (n + 1) c 30)) (w.drew.alloc (.cells (olds.toArray ++ Builtin.zeroCells z0.cells (n + 1 - i) ++ Builtin.zeroCells z0.cells (grownCap w (n + 1) c 30 - (n + 1))) 30)) := fun ty => by
    have h := Lib.run_append_grow_zeros w 22 3 ty 30 i0 z0 .i64 .i64 Tryz.underlying22 Tryz.underlying3 hi0 hz0 (some ⟨b, off, none⟩) i c olds hfold (n + 1 - i) (by omega) (by omega) (by omega) (by omega) (by rw [hzb]; omega) (by rw [hzb, hik]; exact growslice_fits hroom hbig)
    rw [hik] at h
    rw [hkk]
    exact h
  have hGn := grownCap_ge w (n + 1) c 30
  have hG63 : grownCap w (n + 1) c 30 ≤ 9223372036854775807 := by
    have := grownCap_le_maxLen w (n + 1) c 30 (by unfold maxLen; omega)
    unfold maxLen at this
    omega
  generalize grownCap w (n + 1) c 30 = G at *
  obtain ⟨ROW, hROW⟩ : ∃ ROW : Array Value, ROW = olds.toArray ++ Builtin.zeroCells z0.cells (n + 1 - i) ++ Builtin.zeroCells z0.cells (G - (n + 1)) := ⟨_, rfl⟩
  rw [← hROW] at hrz
  have hRs : ROW.size = G * 4 := by
    rw [hROW]
    simp only [Array.size_append, List.size_toArray, size_zeroCells, hz0s, hol]
    omega
  have hRt : ROW.toList.take (i * 4) = olds := by
    rw [hROW]
    simp only [Array.toList_append, List.append_assoc]
    rw [List.take_append_of_le_length (by rw [hol]; exact Nat.le_refl _), ← hol, List.take_length]
  -- the first copy
  have hN0 : (w.drew.alloc (.cells ROW 30)).heap[w.heap.size]? = some (.cells ROW 30 (0, 0)) := World.alloc_heap_new w.drew _
  have hvN : ∀ R : Array Value, (w.drew.alloc (.cells R 30)).heap[vb]? = some (.cells ds t2 (0, 0)) := fun R => by
    rw [Below.heap_alloc _ _ _ (show vb < w.drew.heap.size from hvw)]
    exact hv
  have hbN : ∀ R : Array Value, (w.drew.alloc (.cells R 30)).heap[b]? = some (.cells cs t (0, 0)) := fun R => by
    rw [Below.heap_alloc _ _ _ (show b < w.drew.heap.size from hbw)]
    exact hb
  have hcpA : ∀ ty dc, (Builtin.copy_ #[22, 22] ty #[.slice (some ⟨w.heap.size, i * 4, none⟩) (n + 1 - i) dc, .slice (some ⟨vb, voff, none⟩) 1 vc]).run Tryz.prog (w.drew.alloc (.cells ROW 30)) = .ok (goInt (Nat.min 1 (n + 1 - i))) (w.drew.alloc (.cells (spl ROW.toList (i * 4) vals) 30)) := fun ty dc => by
    have h := run_copy_rowN (P := Tryz.prog) (w.drew.alloc (.cells ROW 30)) 22 22 ty 30 4 w.heap.size (i * 4) (n + 1 - i) dc ⟨vb, voff, none⟩ 1 vc ROW 30 vals Tryz.underlying22 sz23i hN0
      (by rw [hvl]; simp only [Nat.min_def]; split <;> omega) (fun j v hj => by
        have := hvals j v hj
        simpa [Addr.add_lit, World.cell?, hvN ROW] using this) (by rw [hRs]; omega) h1v
    have e := alloc_setRow w.drew ROW (spl ROW.toList (i * 4) vals) 30
    exact h.trans (by rw [show w.drew.heap.size = w.heap.size from rfl] at e; rw [← e]; rfl)
  generalize hA : spl ROW.toList (i * 4) vals = A1 at hcpA
  have hA1s : A1.size = G * 4 := by
    rw [← hA]
    unfold spl
    simp
    omega
  have hN1 : (w.drew.alloc (.cells A1 30)).drew.heap[w.heap.size]? = some (.cells A1 30 (0, 0)) := World.alloc_heap_new w.drew _
  have hcpB : ∀ ty dc sc, (Builtin.copy_ #[22, 22] ty #[.slice (some ⟨w.heap.size, (i + 1) * 4, none⟩) (n - i) dc, .slice (some ⟨b, off + i * 4, none⟩) (n - i) sc]).run Tryz.prog (w.drew.alloc (.cells A1 30)).drew = .ok (goInt (Nat.min (n - i) (n - i))) ((w.drew.alloc (.cells (spl A1.toList ((i + 1) * 4) mid) 30)).drew) := fun ty dc sc => by
    have hb0 : (w.drew.alloc (.cells A1 30)).drew.heap[b]? = some (.cells cs t (0, 0)) := hbN A1
    have h := run_copy_rowN (P := Tryz.prog) (w.drew.alloc (.cells A1 30)).drew 22 22 ty 30 4 w.heap.size ((i + 1) * 4) (n - i) dc ⟨b, off + i * 4, none⟩ (n - i) sc A1 30 mid Tryz.underlying22 sz23i hN1
      (by rw [hml]; simp only [Nat.min_def]; split <;> omega) (fun j v hj => by
        have := hmid j v hj
        simpa [Addr.add_lit, World.cell?, hb0] using this) (by rw [hA1s]; omega) h1m
    have e := alloc_setRow w.drew A1 (spl A1.toList ((i + 1) * 4) mid) 30
    refine h.trans ?_
    rw [show w.drew.heap.size = w.heap.size from rfl] at e
    have e2 : (w.drew.alloc (.cells A1 30)).drew.setRow w.heap.size (spl A1.toList ((i + 1) * 4) mid) = ((w.drew.alloc (.cells A1 30)).setRow w.heap.size (spl A1.toList ((i + 1) * 4) mid)).drew := rfl
    unfold spl at e e2 ⊢
    rw [e2, e]
  generalize hA2 : spl A1.toList ((i + 1) * 4) mid = A2 at hcpB
  have hA2s : A2.size = G * 4 := by
    rw [← hA2]
    unfold spl
    simp
    omega
  have hA2l : ∃ rest, A2.toList = olds ++ vals ++ mid ++ rest := by
    refine ⟨A1.toList.drop ((i + 1) * 4 + mid.length), ?_⟩
    rw [← hA2]
    unfold spl
    have : A1.toList.take ((i + 1) * 4) = olds ++ vals := by
      rw [← hA]
      unfold spl
      simp only [List.append_assoc]
      rw [hRt, ← List.append_assoc, List.take_append_of_le_length (by simp; omega), List.take_of_length_le (by simp; omega)]
    rw [this]
  have hw1 : IntKind.i64.wrap ((i : Int) + 1) = (i : Int) + 1 := by rw [IntKind.wrap_i64]; omega
  have hb1 : (0 : Int) ≤ (i : Int) + 1 := by omega
  have hin : i ≤ n := by omega
  have htn : ((i : Int) + 1).toNat = i + 1 := by omega
  have hb3 : (i : Int) ≤ (n : Int) := by omega
  have hb4 : ¬ (c = i) := by omega
  have hGi : ¬ (G = i) := by omega
  have hGim : ¬ (G = i + 1) := by omega
  have hrz' : ∀ ty, (Builtin.append_ #[22, 3] ty #[.slice (some ⟨b, off, none⟩) i c, .int .i64 ((n : Int) + 1 - (i : Int))]).run Tryz.prog w = .ok (.slice (some ⟨w.heap.size, 0, none⟩) (n + 1) G) (w.alloc (.cells ROW 30)).drew := hrz
  have hcpA' : ∀ ty dc, (Builtin.copy_ #[22, 22] ty #[.slice (some ⟨w.heap.size, i * 4, none⟩) (n + 1 - i) dc, .slice (some ⟨vb, voff, none⟩) 1 vc]).run Tryz.prog (w.alloc (.cells ROW 30)).drew = .ok (goInt (Nat.min 1 (n + 1 - i))) (w.alloc (.cells A1 30)).drew := hcpA
  have hcpB' : ∀ ty dc sc, (Builtin.copy_ #[22, 22] ty #[.slice (some ⟨w.heap.size, (i + 1) * 4, none⟩) (n - i) dc, .slice (some ⟨b, off + i * 4, none⟩) (n - i) sc]).run Tryz.prog (w.alloc (.cells A1 30)).drew.drew = .ok (goInt (Nat.min (n - i) (n - i))) (w.alloc (.cells A2 30)).drew.drew := hcpB
  have fin : ∃ W' : World, W'.heap = w.heap ∧ W'.os = w.os ∧ W'.tape = w.tape ∧ W'.output = w.output ∧ (w.alloc (.cells A2 30)).drew.drew = W'.alloc (.cells A2 30) := ⟨w.drew.drew, rfl, rfl, rfl, rfl, rfl⟩
  clear hkk hik hfold hROW hRt hA hA2
  go_enter Tryz.func151, Tryz.ntmps151
  go_wp2_with (first
    | (at_builtin; refine Lib.wpList_append_run _ rfl _ _ _ _ rfl _ _ rfl rfl _ _ (hrz' _) ?_)
    | (at_builtin; refine wpList_copy_runI _ rfl _ _ 22 22 rfl _ _ rfl rfl (hcpA' _ _) ?_))
  go_region_law_o (refine step_copy_runI rfl _ _ 22 22 rfl _ _ (by simp [Act.eval, Act.put]) (by simp [Act.eval, Act.put]) (hcpB' _ _ _) ?_)
  go_wp2
  go_ret
  obtain ⟨W', f1, f2, f3, f4, f5⟩ := fin
  exact ⟨G, A2, W', rfl, hGn, f1, f2, f3, f4, f5, hA2s, hA2l⟩
end Go.Proofs.YtkkgimhbliocoaaGreat
/- slices.Insert of one node among nodes, as a call that goes by objects. -/
namespace Go.Proofs.YtkkgimhbliocoaaGreat
open Go Vm M
set_option linter.unusedVariables false
set_option linter.unusedSimpArgs false
theorem same_heap {C : Ctx} (hS : St C) (w' : World) (hh : w'.heap = C.w.heap) (hos : w'.os = C.w.os) (ht : w'.tape = C.w.tape) (ho : w'.output = C.w.output) :
    St ⟨C.ρ, C.S, C.ok, w'⟩ ∧ Ext C ⟨C.ρ, C.S, C.ok, w'⟩ :=
  later_ok hS ⟨hos, ht, ho⟩ (by rw [hh]; exact Nat.le_refl _) (fun b _ => by rw [hh])
theorem vs_threeV {C : Ctx} {vs : Array Value} {a b c : AVal} (h : vs.size = 3) (hr : Rvs C [a, b, c] (fun i y => vs[i]? = some y) 0) : ∃ u v x, vs = #[u, v, x] ∧ Rv C a u ∧ Rv C b v ∧ Rv C c x := by
  simp only [Rvs] at hr
  obtain ⟨⟨u, hu, h1⟩, ⟨v, hv, h2⟩, ⟨x, hx, h3⟩, _⟩ := hr
  refine ⟨u, v, x, ?_, h1, h2, h3⟩
  apply Array.ext
  · simpa using h
  · intro i h4 h5
    have : i = 0 ∨ i = 1 ∨ i = 2 := by simp at h5; omega
    rcases this with rfl | rfl | rfl
    · rw [Array.getElem?_eq_getElem h4] at hu; simpa using hu
    · rw [Nat.zero_add, Array.getElem?_eq_getElem h4] at hv; simpa using hv
    · rw [Nat.zero_add, Array.getElem?_eq_getElem h4] at hx; simpa using hx
/-- The cells of a piece of a row, as a list of values. -/
theorem piece {C : Ctx} {q sz ep : Nat} {fr : Option Nat} {xs : List AVal} (hS : St C) (h : C.S[q]? = some (.row sz ep fr xs)) {cs : Array Value} {t : TypeId} (hh : C.w.heap[(C.ρ q).b]? = some (.cells cs t (0, 0))) (k m : Nat) :
    ∃ us : List Value, us.length = ((xs.drop k).take m).length ∧ Rvs C ((xs.drop k).take m) (fun j y => us[j]? = some y) 0 ∧ (∀ j y, us[j]? = some y → cs[(C.ρ q).off + k + j]? = some y) ∧ ∀ u ∈ us, u.oneCell' = true := by
  obtain ⟨cs', t', h1, _, _, _, h5, h6, _⟩ := hS.obj q _ h
  rw [hh] at h1
  cases h1
  have hr := Rvs_take (Rvs_drop h5 k) m
  have h6' : ((xs.drop k).take m).all AVal.one = true := by
    rw [List.all_eq_true] at *
    exact fun b hb => h6 b (List.mem_of_mem_drop (List.mem_of_mem_take hb))
  obtain ⟨us, k1, k2, k3, k4⟩ := one_list hr h6'
  exact ⟨us, k1, k2, fun j y hj => by have := k3 j y hj; rw [Nat.add_assoc]; exact this, k4⟩
theorem take_cells {cs olds : List Value} {k : Nat} (hk : k + olds.length ≤ cs.length) (h : ∀ j v, olds[j]? = some v → cs[k + j]? = some v) : cs.take (k + olds.length) = cs.take k ++ olds := by
  apply List.ext_getElem?
  intro j
  rw [List.getElem?_take]
  by_cases hj : j < k
  · rw [if_pos (by omega), List.getElem?_append_left (by simp; omega), List.getElem?_take, if_pos hj]
  · rw [List.getElem?_append_right (by simp; omega), List.length_take, Nat.min_eq_left (by omega)]
    by_cases hj2 : j < k + olds.length
    · rw [if_pos hj2]
      have := h (j - k) olds[j - k] (List.getElem?_eq_getElem (by omega))
      rw [show k + (j - k) = j by omega] at this
      rw [this, List.getElem?_eq_getElem (by omega)]
    · rw [if_neg hj2, List.getElem?_eq_none (by omega)]
theorem spl_insert {cs : List Value} {k : Nat} {olds vals mid : List Value} (hk : k + olds.length + vals.length + mid.length ≤ cs.length) (h : ∀ j v, olds[j]? = some v → cs[k + j]? = some v) :
    (spl (spl cs (k + olds.length + vals.length) mid).toList (k + olds.length) vals).toList = cs.take k ++ (olds ++ vals ++ mid) ++ cs.drop (k + olds.length + vals.length + mid.length) := by
  unfold spl
  simp only [List.append_assoc]
  rw [List.take_append_of_le_length (by simp; omega), List.take_take, Nat.min_eq_left (by omega), take_cells (by omega) h]
  rw [List.drop_append, List.drop_take]
  simp only [List.length_take]
  rw [Nat.min_eq_left (by omega), Nat.sub_self]
  simp
theorem insN_callsA {S : List AObj} {o ep off len o2 ep2 off2 : Nat} {xs ys : List AVal} {fz2 : Option Nat} (i : Nat) (ho : S[o]? = some (.row 4 ep none xs)) (ho2 : S[o2]? = some (.row 4 ep2 fz2 ys)) (hne : o ≠ o2)
    (hx : (off + len) * 4 = xs.length) (hy : (off2 + 1) * 4 ≤ ys.length) (hi : i < len) (hbig : (len + 1) * 32 ≤ 140737488355328) :
    CallsA Tryz.prog 151 [.row o ep 4 off len, .v (.int .i64 (i : Int)), .row o2 ep2 4 off2 1] S (.row o (ep + 1) 4 0 (len + 1))
      (S.set o (.row 4 (ep + 1) none ((xs.drop (off * 4)).take (i * 4) ++ (ys.drop (off2 * 4)).take 4 ++ (xs.drop ((off + i) * 4)).take ((len - i) * 4)))) := by
  intro C vs hCS hS hs hr
  subst hCS
  obtain ⟨u, v, x, rfl, h1, h2, h3⟩ := vs_threeV (by simpa using hs) hr
  simp only [Rv] at h1 h2 h3
  subst h2
  obtain ⟨a, c, rfl, hlc, q1, e1, k1, k2, _, k4⟩ := h1
  obtain ⟨a2, c2, rfl, hlc2, q2, e2, l1, l2, _, l4⟩ := h3
  rw [ho] at k1; cases k1
  rw [ho2] at l1; cases l1
  simp only [AObj.ep?, Option.some.injEq] at k2 l2
  subst k2 l2
  obtain ⟨cs, t, hh, hs1, hs2, _, hrs, hone, _⟩ := hS.obj o _ ho
  obtain ⟨ds, t2, hh2, hd1, hd2, _, hrd, hone2, _⟩ := hS.obj o2 _ ho2
  obtain ⟨rfl, hcap⟩ : a = ⟨(C.ρ o).b, (C.ρ o).off + off * 4, none⟩ ∧ off + c ≤ (C.ρ o).cap := by
    rcases k4 rfl with h | ⟨h, _⟩
    · exact h
    · omega
  obtain ⟨rfl, hcap2⟩ : a2 = ⟨(C.ρ o2).b, (C.ρ o2).off + off2 * 4, none⟩ ∧ off2 + c2 ≤ (C.ρ o2).cap := by
    rcases l4 rfl with h | ⟨h, _⟩
    · exact h
    · omega
  have hbne : (C.ρ o2).b ≠ (C.ρ o).b := fun h => hne (hS.inj o o2 _ _ _ _ ho ho2 rfl rfl h.symm)
  obtain ⟨olds, ol, or_, oc, o1⟩ := piece hS ho hh (off * 4) (i * 4)
  obtain ⟨mid, ml, mr, mc, m1⟩ := piece hS ho hh ((off + i) * 4) ((len - i) * 4)
  obtain ⟨vals, vl, vr, vc, v1⟩ := piece hS ho2 hh2 (off2 * 4) 4
  have ol' : olds.length = i * 4 := by rw [ol]; simp; omega
  have ml' : mid.length = (len - i) * 4 := by rw [ml]; simp; omega
  have vl' : vals.length = 4 := by rw [vl]; simp; omega
  have hnone : ∀ j, ¬ C.ok (C.ρ o).b j := fun j hj => by
    rcases hS.okRow _ _ hj o _ _ ho rfl rfl with ⟨_, _, _, _, hx, _⟩ | ⟨_, _, hx⟩ <;> cases hx
  have honeN : ((xs.drop (off * 4)).take (i * 4) ++ (ys.drop (off2 * 4)).take 4 ++ (xs.drop ((off + i) * 4)).take ((len - i) * 4)).all AVal.one = true := by
    rw [List.all_eq_true] at *
    intro b hb
    rcases List.mem_append.1 hb with hb | hb
    · rcases List.mem_append.1 hb with hb | hb
      · exact hone b (List.mem_of_mem_drop (List.mem_of_mem_take hb))
      · exact hone2 b (List.mem_of_mem_drop (List.mem_of_mem_take hb))
    · exact hone b (List.mem_of_mem_drop (List.mem_of_mem_take hb))
  have hlenN : ((xs.drop (off * 4)).take (i * 4) ++ (ys.drop (off2 * 4)).take 4 ++ (xs.drop ((off + i) * 4)).take ((len - i) * 4)).length = (len + 1) * 4 := by
    simp only [List.length_append, ← ol, ← ml, ← vl, ol', ml', vl']
    omega
  have hrelN : Rvs C ((xs.drop (off * 4)).take (i * 4) ++ (ys.drop (off2 * 4)).take 4 ++ (xs.drop ((off + i) * 4)).take ((len - i) * 4)) (fun j y => (olds ++ vals ++ mid)[j]? = some y) 0 := by
    refine Rvs_append (Rvs_append (Rvs_mono (Grows.refl C) _ _ _ _ (fun j y hj => ?_) or_) (Rvs_mono (Grows.refl C) _ _ _ _ (fun j y hj => ?_) vr)) (Rvs_mono (Grows.refl C) _ _ _ _ (fun j y hj => ?_) mr)
    · have := (List.getElem?_eq_some_iff.1 hj).1
      rw [List.append_assoc, List.getElem?_append_left this]
      exact hj
    · have := (List.getElem?_eq_some_iff.1 hj).1
      simp only [Nat.zero_add, ← ol]
      rw [List.append_assoc, List.getElem?_append_right (by omega), Nat.add_sub_cancel_left, List.getElem?_append_left this]
      exact hj
    · simp only [Nat.zero_add, List.length_append, ← ol, ← vl]
      rw [List.getElem?_append_right (by simp), List.length_append, Nat.add_sub_cancel_left]
      exact hj
  generalize hxN : (xs.drop (off * 4)).take (i * 4) ++ (ys.drop (off2 * 4)).take 4 ++ (xs.drop ((off + i) * 4)).take ((len - i) * 4) = xN at *
  by_cases hroom : len + 1 ≤ c
  · refine (insN_room (C.ρ o).b ((C.ρ o).off + off * 4) len c i (C.ρ o2).b ((C.ρ o2).off + off2 * 4) c2 cs ds t t2 C.w mid vals hi hroom hbig hbne hh hh2 (by omega) (by omega) ml'
      (fun j v hj => by have := mc j v hj; rw [Nat.add_mul] at this; rw [← this]; congr 1; omega) vl' (fun j v hj => vc j v hj) m1 v1).mono ?_
    rintro e w' ⟨rfl, rfl⟩
    have hA := spl_insert (cs := cs.toList) (k := (C.ρ o).off + off * 4) (olds := olds) (vals := vals) (mid := mid) (by rw [ol', vl', ml']; simp; omega) (fun j v hj => by simpa using oc j v hj)
    rw [ol', vl', ml'] at hA
    rw [show (C.ρ o).off + off * 4 + i * 4 + 4 = (C.ρ o).off + off * 4 + (i + 1) * 4 by omega] at hA
    generalize spl (spl cs.toList ((C.ρ o).off + off * 4 + (i + 1) * 4) mid).toList ((C.ρ o).off + off * 4 + i * 4) vals = A2 at hA ⊢
    have hAs : A2.size = cs.size := by
      rw [← Array.length_toList, hA]
      simp only [List.length_append, List.length_take, List.length_drop, Array.length_toList, ol', vl', ml']
      omega
    obtain ⟨hS1, hE1⟩ := same_heap hS C.w.drew rfl rfl rfl rfl
    obtain ⟨ρ', g2, g3, g4⟩ := turned hS1 o (.row 4 ep none xs) (.row 4 (ep + 1) none xN) ep (ep + 1) ho rfl rfl A2 ⟨(C.ρ o).b, (C.ρ o).off + off * 4, (C.ρ o).cap - off⟩ rfl (.inr (Nat.lt_succ_self _)) ⟨_, t, hh⟩
      (fun j hj => absurd hj (hnone j)) (fun C' g hw hρ hok' => by
      refine ⟨A2, t, by rw [hρ, hw]; exact setRow_heap _ _ _ _ _ _ hh, by rw [hρ, hAs]; simp only; rw [Nat.sub_mul]; omega, by rw [hρ, hlenN]; exact Nat.mul_le_mul_right _ (by simp only; omega), by omega, ?_, honeN, fun k hk => by cases hk⟩
      rw [hρ]
      refine Rvs_mono (hE1.grows.trans g) _ _ _ _ (fun j y hj => ?_) hrelN
      simp only [Nat.zero_add] at hj ⊢
      have hlt := (List.getElem?_eq_some_iff.1 hj).1
      rw [← Array.getElem?_toList, hA, List.append_assoc, List.getElem?_append_right (by simp only [List.length_take, Array.length_toList]; omega), List.length_take, Array.length_toList, Nat.min_eq_left (by omega), Nat.add_sub_cancel_left, List.getElem?_append_left hlt]
      exact hj)
    refine ⟨_, _, rfl, rfl, rfl, g2, hE1.trans g3, ?_⟩
    simp only [Rv]
    refine ⟨_, _, rfl, hroom, .row 4 (ep + 1) none xN, ep + 1, ?_, rfl, Nat.le_refl _, fun _ => .inl ?_⟩
    · rw [List.getElem?_set, if_pos rfl, if_pos (List.getElem?_eq_some_iff.1 ho).1]
    · rw [g4]
      exact ⟨by simp, by simp only; omega⟩
  · refine (insN_grow (C.ρ o).b ((C.ρ o).off + off * 4) len c i (C.ρ o2).b ((C.ρ o2).off + off2 * 4) c2 cs ds t t2 C.w olds mid vals hi hlc (by omega) hbig hh hh2 (by omega) (by omega) ol' (fun j v hj => oc j v hj) ml'
      (fun j v hj => by have := mc j v hj; rw [Nat.add_mul] at this; rw [← this]; congr 1; omega) vl' (fun j v hj => vc j v hj) m1 v1).mono ?_
    rintro e w' ⟨G, R, W', rfl, hG, f1, f2, f3, f4, rfl, hRs, rest, hRl⟩
    obtain ⟨ρ', g2, g3, g4⟩ := moved hS o (.row 4 ep none xs) (.row 4 (ep + 1) none xN) ep (ep + 1) ho rfl rfl (Nat.lt_succ_self _) R 30 G W' f1 f2 f3 f4 (fun C' g hw hρ hok' => by
      refine ⟨R, 30, by rw [hρ, hw, ← f1]; exact World.alloc_heap_new W' _, by rw [hρ, hRs]; simp, by rw [hρ, hlenN]; exact Nat.mul_le_mul_right _ hG, by omega, ?_, honeN, fun k hk => by cases hk⟩
      rw [hρ]
      refine Rvs_mono g _ _ _ _ (fun j y hj => ?_) hrelN
      simp only [Nat.zero_add]
      have := (List.getElem?_eq_some_iff.1 hj).1
      rw [← Array.getElem?_toList, hRl, List.getElem?_append_left this]
      exact hj)
    refine ⟨_, _, rfl, rfl, rfl, g2, g3, ?_⟩
    simp only [Rv]
    refine ⟨_, _, rfl, hG, .row 4 (ep + 1) none xN, ep + 1, ?_, rfl, Nat.le_refl _, fun _ => .inl ?_⟩
    · rw [List.getElem?_set, if_pos rfl, if_pos (List.getElem?_eq_some_iff.1 ho).1]
    · rw [g4]
      exact ⟨by simp, by simp⟩
end Go.Proofs.YtkkgimhbliocoaaGreat
/- slices.Insert of a node, as what is given by objects. -/
namespace Go.Proofs.YtkkgimhbliocoaaGreat
open Go Vm M
set_option linter.unusedVariables false
set_option linter.unusedSimpArgs false
def insNA (o ep off len : Nat) (xs ys : List AVal) (off2 i : Nat) (S : List AObj) : AVal × List AObj :=
  (.row o (ep + 1) 4 0 (len + 1), S.set o (.row 4 (ep + 1) none ((xs.drop (off * 4)).take (i * 4) ++ (ys.drop (off2 * 4)).take 4 ++ (xs.drop ((off + i) * 4)).take ((len - i) * 4))))
def gInN (lo : Nat) (args : List AVal) (S : List AObj) : Option (AVal × List AObj) :=
  match args with
  | [.row o ep sz off len, .v (.int .i64 i), .row o2 ep2 sz2 off2 n2] => match S[o]?, S[o2]? with
    | some (.row s1 e1 none xs), some (.row s2 e2 _ ys) =>
      if sz = 4 ∧ sz2 = 4 ∧ s1 = 4 ∧ s2 = 4 ∧ e1 = ep ∧ e2 = ep2 ∧ n2 = 1 ∧ o ≠ o2 ∧ lo ≤ o ∧ (off + len) * 4 = xs.length ∧ (off2 + 1) * 4 ≤ ys.length ∧ 0 ≤ i ∧ i < (len : Int) ∧ (len + 1) * 32 ≤ 140737488355328 then
        some (insNA o ep off len xs ys off2 i.toNat S)
      else none
    | _, _ => none
  | _ => none
theorem gInN_ok {lo : Nat} {args : List AVal} {S : List AObj} {r : AVal} {S' : List AObj} (h : gInN lo args S = some (r, S')) : CallsA Tryz.prog 151 args S r S' ∧ Stays lo S S' := by
  unfold gInN at h
  split at h
  · rename_i o ep sz off len i o2 ep2 sz2 off2 n2
    split at h
    · rename_i s1 e1 xs s2 e2 fz2 ys hx hy
      split at h
      · rename_i hc
        obtain ⟨rfl, rfl, rfl, rfl, rfl, rfl, rfl, h1, h2, h3, h4, h5, h6, h7⟩ := hc
        unfold insNA at h
        simp only [Option.some.injEq, Prod.mk.injEq] at h
        obtain ⟨rfl, rfl⟩ := h
        have hi : i = ((i.toNat : Nat) : Int) := by omega
        refine ⟨?_, by simp, fun q hq _ => by rw [List.getElem?_set, if_neg (by omega)]⟩
        have := insN_callsA i.toNat hx hy h1 h3 h4 (by omega) h7
        rw [← hi] at this
        exact this
      · cases h
    · cases h
  · cases h
end Go.Proofs.YtkkgimhbliocoaaGreat
/- 'clear' of a piece of a row, whatever its elements' size. -/
namespace Go.Proofs.YtkkgimhbliocoaaGreat
open Go Go.RowKit Go.Shelf M
set_option linter.unusedVariables false
set_option linter.unusedSimpArgs false
theorem run_clear_rowN {P : Program} (w : World) (t e ty : TypeId) (z : Value) (g o n c : Nat) (cur : Array Value) (tt : TypeId) (cs : List Value)
    (ht : P.underlying t = some (.slice e)) (hv : ∀ w, (zeroValue e).run P w = .ok z w) (hcs : (Builtin.zeroCells z.cells n).toList = cs)
    (hg : w.heap[g]? = some (.cells cur tt (0, 0))) (hn : 0 < n) (hfit : o + cs.length ≤ cur.size) (h1 : ∀ v ∈ cs, v.oneCell' = true) :
    (Builtin.clear_ #[t] ty #[.slice (some ⟨g, o, none⟩) n c]).run P w = .ok (.tuple #[]) (w.setRow g (spl cur.toList o cs)) := by
  have hst := run_storeCells_at P g o tt cs 0 cur w hg (by simpa using hfit) h1
  simp only [Nat.add_zero] at hst
  obtain ⟨m, rfl⟩ : ∃ m, n = m + 1 := ⟨n - 1, by omega⟩
  simp [Builtin.clear_, run_underlying ht, hv, hcs, hst, spl]
open Vm in
/-- A straight region whose last operation clears the end of a row: zs are the zero cells. -/
theorem EV.clear {c : Cfg} {ev : Ev} (hc : CfgOk c) (he : EvOk c ev) {base lo id : Nat} {ops : Array Oper} {pre : List Oper} {clr : Oper} {m : Tmp} {t el : TypeId} {z : Value} {o e sz off len : Nat} {xs : List AVal} {zs : List Value}
    {T T1 : List AVal} {S S1 : List AObj} (h1 : ops.toList = pre ++ [clr]) (h2 : clr.op = .call { callee := .builtin .clear, args := #[.tmp m], argTypes := #[t] } ∧ clr.guard = none ∧ clr.dst = none)
    (hr : runOps c ev lo ops pre T S = some (T1, S1)) (hm : T1.getD m .junk = .row o e sz off len) (ho : S1[o]? = some (.row sz e none xs)) (hn : 0 < len) (hx : (off + len) * sz = xs.length)
    (ht : c.P.underlying t = some (.slice el)) (hv : ∀ w, (zeroValue el).run c.P w = .ok z w) (hz : (Builtin.zeroCells z.cells len).toList = zs) (hzl : zs.length = len * sz) (hz1 : ∀ v ∈ zs, v.oneCell' = true)
    (hzr : ∀ C : Ctx, Rvs C (zs.map .v) (fun i y => zs[i]? = some y) 0) : EV c base (.region id ops false) T S .normal T1 (S1.set o (.row sz e none (xs.take (off * sz) ++ zs.map .v))) := by
  intro ro C0 C a d0 hro hb hS hE hT hd hCS
  refine wpIn_region ?_
  rw [List.range_eq_range']
  have hsz : ops.size = pre.length + 1 := by
    have := congrArg List.length h1
    simpa using this
  refine runOps_pre (C0 := C) (d0 := a.defers) hc he [clr] pre 0 T a C T1 S1 (by simpa using h1) hS (Ext.refl C) hT rfl (by rw [hCS]; exact hr) fun a1 C1 e1 k1 k2 k3 k4 => ?_
  have hrop : ops[0 + pre.length]? = some clr := by
    rw [← Array.getElem?_toList, h1, Nat.zero_add, List.getElem?_append_right (Nat.le_refl _), Nat.sub_self]; rfl
  rw [show ops.size - (0 + pre.length) = 0 + 1 by omega, List.range'_succ, List.range'_zero]
  simp only [wpOpsIn, hrop]
  have hmv := k3.get m
  rw [hm] at hmv
  simp only [Rv] at hmv
  obtain ⟨ad, cc, hu, hcc, ob, e0, g1, g2, g3, g4⟩ := hmv
  have ho1 : C1.S[o]? = some (.row sz e none xs) := by rw [e1]; exact ho
  rw [ho1] at g1; cases g1
  simp only [AObj.ep?, Option.some.injEq] at g2
  subst g2
  obtain ⟨rfl, hcap⟩ : ad = ⟨(C1.ρ o).b, (C1.ρ o).off + off * sz, none⟩ ∧ off + cc ≤ (C1.ρ o).cap := by
    rcases g4 rfl with h | ⟨h, _⟩
    · exact h
    · omega
  obtain ⟨cs, tt, hh, hs1, hs2, hs0, hrs, hone, _⟩ := k1.obj o _ ho1
  have hfit : (C1.ρ o).off + off * sz + zs.length ≤ cs.size := by
    rw [hzl]
    have : (off + len) * sz ≤ (C1.ρ o).cap * sz := Nat.mul_le_mul_right _ (by omega)
    rw [Nat.add_mul] at this
    omega
  have hwant : Region.wanted clr (yielded ops a1.tmps) = true := by simp [Region.wanted, h2.2.1]
  rw [if_pos hwant]
  have hev : a1.eval (.tmp m) = .slice (some ⟨(C1.ρ o).b, (C1.ρ o).off + off * sz, none⟩) len cc := by
    show a1.tmps.getD m undef = _
    rw [hu]
  have hrun := run_clear_rowN C1.w t el clr.type z (C1.ρ o).b ((C1.ρ o).off + off * sz) len cc cs tt zs ht hv hz hh hn hfit hz1
  have hx1 : (execOp a1.eval clr).run c.P C1.w = .ok (.value (.tuple #[])) (C1.w.setRow (C1.ρ o).b (spl cs.toList ((C1.ρ o).off + off * sz) zs)) := by
    simp [execOp, h2.1, resolve, invoke, builtin, hev, hrun, Result.andThen]
  refine opIn_of (fun d h => by rw [h2.1] at h; cases h) hx1 ?_
  rw [Oper.uponIn_value, h2.2.2]
  have hnone : ∀ j, ¬ C1.ok (C1.ρ o).b j := fun j hj => by
    rcases k1.okRow _ _ hj o _ _ ho1 rfl rfl with ⟨_, _, _, _, hx, _⟩ | ⟨_, _, hx⟩ <;> cases hx
  have hcl : (C1.ρ o).off + off * sz ≤ cs.toList.length := by simp only [Array.length_toList]; omega
  have hAs : (spl cs.toList ((C1.ρ o).off + off * sz) zs).size = cs.size := by
    unfold spl
    simp only [List.size_toArray, List.length_append, List.length_take, List.length_drop, Array.length_toList]
    omega
  have hxl : off * sz + len * sz = xs.length := by rw [← Nat.add_mul]; exact hx
  have hnl : (xs.take (off * sz) ++ zs.map AVal.v).length = xs.length := by
    simp only [List.length_append, List.length_take, List.length_map, hzl]
    omega
  obtain ⟨ρ', t2, t3, t4⟩ := turned k1 o (.row sz e none xs) (.row sz e none (xs.take (off * sz) ++ zs.map AVal.v)) e e ho1 rfl rfl (spl cs.toList ((C1.ρ o).off + off * sz) zs) (C1.ρ o) rfl (.inl ⟨rfl, rfl⟩) ⟨_, tt, hh⟩
    (fun j hj => absurd hj (hnone j)) (fun C' g hw hρ hok' => by
      refine ⟨spl cs.toList ((C1.ρ o).off + off * sz) zs, tt, by rw [hρ, hw]; exact setRow_heap _ _ _ _ _ _ hh, by rw [hρ, hAs]; exact hs1, by rw [hρ, hnl]; exact hs2, hs0, ?_, ?_, fun k hk => by cases hk⟩
      · rw [hρ]
        refine Rvs_append (Rvs_mk fun j x hj => ?_) (Rvs_mono (Grows.refl C') _ _ _ _ (fun j y hj => ?_) (hzr C'))
        · rw [List.getElem?_take] at hj
          split at hj
          · rename_i hlt
            obtain ⟨y, hy, hry⟩ := Rvs_get hrs j x hj
            refine ⟨y, ?_, Rv_mono g _ _ hry⟩
            have hyl := (Array.getElem?_eq_some_iff.1 hy).1
            unfold spl
            simp only [List.getElem?_toArray, List.append_assoc]
            rw [List.getElem?_append_left (by rw [List.length_take, Nat.min_eq_left hcl]; omega), List.getElem?_take_of_lt (by omega), Array.getElem?_toList]
            exact hy
          · simp at hj
        · rw [List.length_take, Nat.min_eq_left (by omega)]
          unfold spl
          have := (List.getElem?_eq_some_iff.1 hj).1
          simp only [List.getElem?_toArray, List.append_assoc]
          rw [List.getElem?_append_right (by rw [List.length_take]; omega), List.length_take, Nat.min_eq_left hcl, show (C1.ρ o).off + (off * sz + j) - ((C1.ρ o).off + off * sz) = j by omega, List.getElem?_append_left this]
          exact hj
      · rw [List.all_eq_true]
        intro b hb'
        rcases List.mem_append.1 hb' with h | h
        · exact (List.all_eq_true.1 hone) b (List.mem_of_mem_take h)
        · simp only [List.mem_map] at h
          obtain ⟨v, hv', rfl⟩ := h
          exact hz1 v hv')
  refine ⟨⟨ρ', _, C1.ok, _⟩, rfl, by rw [e1], t2, hE.trans (k2.trans t3), k3.mono t3.grows, ?_, trivial⟩
  have hmk := hd.ext (k2.trans t3)
  rw [← k4] at hmk
  exact hmk
end Go.Proofs.YtkkgimhbliocoaaGreat
/- topo.Copy of a plan without edges. -/
namespace Go.Proofs.YtkkgimhbliocoaaGreat
open Go Vm M
set_option linter.unusedVariables false
set_option linter.unusedSimpArgs false
/-- The rows of nodes are copied as new memory; what they are put into comes by objects. -/
def md4 (f : FuncId) : Nat := bif Nat.beq f 175 then 3 else bif Nat.beq f 133 || Nat.beq f 151 then 2 else bif Nat.beq f 149 then 5 else md3 f
noncomputable abbrev cfW (L : Lib Tryz.prog) : Cfg := cfgS md4 L
theorem cfW_ok (L : Lib Tryz.prog) : CfgOk (cfW L) := cfgS_ok md4 L
def clnN (q : Nd) (qs : List Nd) : AVal × List AObj :=
  (AVal.row 0 1 4 0 (0 + List.length (q :: qs)), ([AObj.row 4 1 none (iA (Prod.fst q) :: iA (Prod.fst (Prod.fst (Prod.snd q))) :: iA (Prod.snd (Prod.fst (Prod.snd q))) :: iA (Prod.snd (Prod.snd q)) :: upL (flatN qs))]))
theorem clnN_eq (q : Nd) (qs : List Nd) (e0 : (0 + 0) * 4 = ([] : List AVal).length ∧ (0 + (q :: qs).length) * 32 ≤ 140737488355328 ∧ 0 + (q :: qs).length ≤ 9223372036854775807) (e1 : Ones (upL (flatN (q :: qs)))) (e2 : 0 < (q :: qs).length) (e3 : (flatN (q :: qs)).length = (q :: qs).length * 4) : evalF (cfW KB2) (60 + 1) (0) 175 ([nsA (q :: qs)]) ([]) = some (clnN q qs) := by
  have key := fun (bs : List Bool) (r : AVal × List AObj) (ob : List Prop) (h : funP (cfW KB2) (evalF (cfW KB2) 60) 60 [(3, 2, Hint.appX)] 175 (0) ([nsA (q :: qs)]) ([]) bs [] = .ok (r.1, r.2, ob)) (hp : allOb ob) => funP_ok h hp
  unfold clnN
  exact key [false] ((AVal.row 0 1 4 0 (0 + List.length (q :: qs)), ([AObj.row 4 1 none (iA (Prod.fst q) :: iA (Prod.fst (Prod.fst (Prod.snd q))) :: iA (Prod.snd (Prod.fst (Prod.snd q))) :: iA (Prod.snd (Prod.snd q)) :: upL (flatN qs))]))) _ (by kernel_rfl) (allOb_cons (by exact e3) (allOb_cons (by exact e2) (allOb_cons (by exact e1) (allOb_cons (by exact e0) (allOb_cons lit_f allOb_nil)))))
def ndB (n : Nd) : AObj := .box [iA n.1, iA n.2.1.1, iA n.2.1.2, iA n.2.2]
def wnS (ms : List Nd) (n : Nd) : List AObj := [.box [nsA ms, nilA], ndB n, .box [nilA, nilA]]
noncomputable def coB : Code := Tryz.f133.body.getD .skip
noncomputable def coLv : List Nat := (lives.lookup 133).getD []
noncomputable def co1 : Code := c1 (c2 coB)
def coT1 : List AVal := jk 1 ++ [.ptr 3 0 0, .ptr 4 0 0] ++ jk 31
def coS1 (ms : List Nd) (n : Nd) : List AObj := wnS ms n ++ [.box [nsA ms, nilA], .box [nilA, nilA]]
def coR (q : Nd) (n : Nd) (qs : List Nd) : AExit × List AVal × List AObj :=
  (AExit.normal, (([AVal.junk, AVal.junk, AVal.ptr 4 0 0, AVal.ptr 14 0 0] ++ jk 30), ([AObj.box [AVal.list (List.length (q :: qs)) (iP (Prod.fst q) :: iP (Prod.fst (Prod.fst (Prod.snd q))) :: iP (Prod.snd (Prod.fst (Prod.snd q))) :: iP (Prod.snd (Prod.snd q)) :: flatN qs), AVal.v (Value.slice none 0 0)], AObj.box [iA (Prod.fst n), iA (Prod.fst (Prod.fst (Prod.snd n))), iA (Prod.snd (Prod.fst (Prod.snd n))), iA (Prod.snd (Prod.snd n))], AObj.box [AVal.v (Value.slice none 0 0), AVal.v (Value.slice none 0 0)], AObj.box [AVal.list (List.length (q :: qs)) (iP (Prod.fst q) :: iP (Prod.fst (Prod.fst (Prod.snd q))) :: iP (Prod.snd (Prod.fst (Prod.snd q))) :: iP (Prod.snd (Prod.snd q)) :: flatN qs), AVal.v (Value.slice none 0 0)], AObj.box [AVal.v (Value.slice none 0 0), AVal.v (Value.slice none 0 0)], AObj.free, AObj.free, AObj.row 4 0 none (iA (Prod.fst q) :: iA (Prod.fst (Prod.fst (Prod.snd q))) :: iA (Prod.snd (Prod.fst (Prod.snd q))) :: iA (Prod.snd (Prod.snd q)) :: upL (flatN qs))] ++ List.replicate 6 AObj.free ++ [AObj.box [AVal.row 7 0 4 0 (List.length (q :: qs)), AVal.v (Value.slice none 0 0)], AObj.free])))
theorem coR_eq (q : Nd) (n : Nd) (qs : List Nd) (e0 : freshOf (cfW KB2) (evalF (cfW KB2) 61) 175 [PVal.list (List.length (q :: qs)) (iP (Prod.fst q) :: iP (Prod.fst (Prod.fst (Prod.snd q))) :: iP (Prod.snd (Prod.fst (Prod.snd q))) :: iP (Prod.snd (Prod.snd q)) :: flatN qs)] = some (Fr.row 4 0 (List.length (q :: qs)) (iP (Prod.fst q) :: iP (Prod.fst (Prod.fst (Prod.snd q))) :: iP (Prod.snd (Prod.fst (Prod.snd q))) :: iP (Prod.snd (Prod.snd q)) :: flatN qs))) : evalC (cfW KB2) (evalF (cfW KB2) 61) (coLv) 0 3 61 (co1) (coT1) (coS1 (q :: qs) n) = some (coR q n qs) := by
  have key := fun (bs : List Bool) (r : AExit × List AVal × List AObj) (ob : List Prop) (h : pathP (cfW KB2) (evalF (cfW KB2) 61) (coLv) 0 3 61 [(1, 2, Hint.fcall (Fr.row 4 0 (List.length (q :: qs)) (flatN (q :: qs))))] (co1) (coT1) (coS1 (q :: qs) n) bs [] = .ok (r.1, r.2.1, r.2.2, ob)) (hp : allOb ob) => pathP_ok h hp
  unfold coR
  exact key [] ((AExit.normal, (([AVal.junk, AVal.junk, AVal.ptr 4 0 0, AVal.ptr 14 0 0] ++ jk 30), ([AObj.box [AVal.list (List.length (q :: qs)) (iP (Prod.fst q) :: iP (Prod.fst (Prod.fst (Prod.snd q))) :: iP (Prod.snd (Prod.fst (Prod.snd q))) :: iP (Prod.snd (Prod.snd q)) :: flatN qs), AVal.v (Value.slice none 0 0)], AObj.box [iA (Prod.fst n), iA (Prod.fst (Prod.fst (Prod.snd n))), iA (Prod.snd (Prod.fst (Prod.snd n))), iA (Prod.snd (Prod.snd n))], AObj.box [AVal.v (Value.slice none 0 0), AVal.v (Value.slice none 0 0)], AObj.box [AVal.list (List.length (q :: qs)) (iP (Prod.fst q) :: iP (Prod.fst (Prod.fst (Prod.snd q))) :: iP (Prod.snd (Prod.fst (Prod.snd q))) :: iP (Prod.snd (Prod.snd q)) :: flatN qs), AVal.v (Value.slice none 0 0)], AObj.box [AVal.v (Value.slice none 0 0), AVal.v (Value.slice none 0 0)], AObj.free, AObj.free, AObj.row 4 0 none (iA (Prod.fst q) :: iA (Prod.fst (Prod.fst (Prod.snd q))) :: iA (Prod.snd (Prod.fst (Prod.snd q))) :: iA (Prod.snd (Prod.snd q)) :: upL (flatN qs))] ++ List.replicate 6 AObj.free ++ [AObj.box [AVal.row 7 0 4 0 (List.length (q :: qs)), AVal.v (Value.slice none 0 0)], AObj.free])))) _ (by kernel_rfl) (allOb_cons (by exact e0) allOb_nil)
end Go.Proofs.YtkkgimhbliocoaaGreat
/- topo.Copy of a plan without edges, as a call by objects. -/
namespace Go.Proofs.YtkkgimhbliocoaaGreat
open Go Vm M
set_option linter.unusedVariables false
set_option linter.unusedSectionVars false
set_option linter.unusedSimpArgs false
noncomputable abbrev cW : Cfg := cfW KB2
theorem cW_ok : CfgOk cW := cfW_ok KB2
noncomputable abbrev evW : Ev := evalF cW (60 + 1)
theorem evW_ok : EvOk cW evW := evalF_ok cW_ok (60 + 1)
theorem mark_flatN (lo n : Nat) (S : List AObj) : ∀ ns : List Nd, (upL (flatN ns)).foldl (Vm.mark lo n) S = S
  | [] => rfl
  | m :: ns => by
    cases n with
    | zero => simp only [flatN, upL, up, List.foldl_cons, Vm.mark]; exact mark_flatN lo 0 S ns
    | succ n => simp only [flatN, upL, up, List.foldl_cons, Vm.mark]; exact mark_flatN lo (n + 1) S ns
theorem peek_flatN (S : List AObj) (n : Nat) : ∀ ns : List Nd, mapO (peek S (n + 1)) (upL (flatN ns)) = some (flatN ns)
  | [] => rfl
  | m :: ns => by
    have ih := peek_flatN S n ns
    simp only [flatN, upL, up, mapO, peek, ih]
set_option maxRecDepth 100000 in
theorem fresh_cloneN (q : Nd) (qs : List Nd) (hl : (q :: qs).length ≤ 1000) : freshOf cW evW 175 [nsP (q :: qs)] = some (.row 4 0 (q :: qs).length (flatN (q :: qs))) := by
  have hc := clnN_eq q qs ⟨rfl, by omega, by omega⟩ (flatN_one _) (by simp) (flatN_length (q :: qs))
  have e : clnN q qs = (.row 0 1 4 0 (0 + (q :: qs).length), [.row 4 1 none (upL (flatN (q :: qs)))]) := rfl
  rw [e, Nat.zero_add] at hc
  unfold freshOf
  have hg : cW.givenP 175 = none := by kernel_rfl
  rw [hg]
  simp only
  rw [show upL [nsP (q :: qs)] = [nsA (q :: qs)] from rfl, hc]
  simp only [List.getElem?_cons_zero]
  rw [mark_flatN]
  simp only [List.getElem?_cons_zero, and_self, if_true]
  rw [show deep = 5 + 1 from rfl, peek_flatN]
  rfl
noncomputable def co2 : Code := c1 (c1 (c2 (c2 coB)))
noncomputable abbrev coK : Code := loopAt Tryz.f133 0
noncomputable def co7 : Code := c2 (c2 (c2 coB))
theorem co_tail : tailC 1 coB = .seq co1 (.seq (.seq co2 (.block 0 (.loop coK))) co7) := by kernel_rfl
noncomputable def coA : FnA := (cW.tab 133).getD ⟨0, #[], .skip, []⟩
theorem coA_tab : cW.tab 133 = some coA := by kernel_rfl
theorem coA_body : coA.body = coB := by kernel_rfl
section
variable (q n : Nd) (qs : List Nd)
def coT3 : List AVal := jk 2 ++ [.ptr 4 0 0, .ptr 14 0 0] ++ jk 30
def coS (ms : List Nd) (n : Nd) (x : AVal) (ys : List AVal) : List AObj := wnS ms n ++ [.free, .box [x, nilA], .free, .free, .row 4 0 none ys] ++ List.replicate 6 .free ++ [.box [.row 7 0 4 0 ms.length, nilA]]
theorem co0_eq : evalL cW evW coLv 0 3 61 (headL 1 coB) ([.agg [nsA (q :: qs), nilA]] ++ List.replicate (coA.ntmps - 1) (.v undef)) (wnS (q :: qs) n) = some (coT1, coS1 (q :: qs) n) := by kernel_rfl
theorem co1_ev (hl : (q :: qs).length ≤ 1000) : EV cW 3 co1 coT1 (coS1 (q :: qs) n) .normal coT3 (coS (q :: qs) n nilA (upL (flatN (q :: qs)))) := by
  refine EV.tidy [7] (EV.of cW_ok evW_ok (coR_eq q n qs (fresh_cloneN q qs hl))) (fun o ho y hy => ?_) ?_
  · simp only [List.mem_singleton] at ho
    subst ho
    have : y = .row 4 0 none (upL (flatN (q :: qs))) := (Option.some.inj hy).symm
    subst this
    exact flatN_plain _
  · kernel_rfl
noncomputable def co4 (ys : List AVal) : AExit × List AVal × List AObj := (evalC cW evW coLv 0 3 61 co2 coT3 (coS (q :: qs) n nilA ys)).getD (.normal, [], [])
theorem co4_eq (ys : List AVal) : evalC cW evW coLv 0 3 61 co2 coT3 (coS (q :: qs) n nilA ys) = some (.normal, (co4 q n qs ys).2.1, coS (q :: qs) n nilA ys) := by kernel_rfl
noncomputable def co5 (ys : List AVal) : AExit × List AVal × List AObj := (evalC cW evW coLv 0 3 61 coK (co4 q n qs ys).2.1 (coS (q :: qs) n nilA ys)).getD (.normal, [], [])
theorem co5_eq (ys : List AVal) : evalC cW evW coLv 0 3 61 coK (co4 q n qs ys).2.1 (coS (q :: qs) n nilA ys) = some (.exit 0, (co5 q n qs ys).2.1, coS (q :: qs) n nilA ys) := by kernel_rfl
noncomputable def co6 (ys : List AVal) : AExit × List AVal × List AObj := (evalC cW evW coLv 0 3 61 co7 (co5 q n qs ys).2.1 (coS (q :: qs) n nilA ys)).getD (.normal, [], [])
theorem co6_eq (ys : List AVal) : evalC cW evW coLv 0 3 61 co7 (co5 q n qs ys).2.1 (coS (q :: qs) n nilA ys) = some (.ret, (co6 q n qs ys).2.1, coS (q :: qs) n (.row 7 0 4 0 (q :: qs).length) ys) := by kernel_rfl
theorem copy_callsA (hl : (q :: qs).length ≤ 1000) : CallsA Tryz.prog 133 [.agg [nsA (q :: qs), nilA]] (wnS (q :: qs) n) (.agg [.row 7 0 4 0 (q :: qs).length, nilA]) (coS (q :: qs) n (.row 7 0 4 0 (q :: qs).length) (upL (flatN (q :: qs)))) := by
  refine callsA_of_EV cW_ok coA_tab (x := .ret) (.inr rfl) (T' := (co6 q n qs (upL (flatN (q :: qs)))).2.1) (by kernel_rfl) ?_
  rw [coA_body]
  refine EV.head cW_ok evW_ok 1 (co0_eq q n qs) ?_
  rw [co_tail]
  exact EV.seq (co1_ev q n qs hl) (EV.seq (EV.seq (EV.of cW_ok evW_ok (co4_eq q n qs _)) (EV.block (EV.loop (n := 0) (T := fun _ => (co4 q n qs (upL (flatN (q :: qs)))).2.1) (S := fun _ => coS (q :: qs) n nilA (upL (flatN (q :: qs)))) (fun k hk => by omega) (EV.of cW_ok evW_ok (co5_eq q n qs _)) (by simp)))) (EV.of cW_ok evW_ok (co6_eq q n qs _)))
end
end Go.Proofs.YtkkgimhbliocoaaGreat
/- topo.Copy of a plan without edges, at the state of topo.WithoutNode. -/
namespace Go.Proofs.YtkkgimhbliocoaaGreat
open Go Vm M
set_option linter.unusedVariables false
set_option linter.unusedSimpArgs false
def woS (ms : List Nd) (n : Int) : List AObj := [.box [nsA ms, nilA], .box [iA n], .box [nilA, nilA]]
def cpS1 (ms : List Nd) (n : Int) : List AObj := woS ms n ++ [.box [nsA ms, nilA], .box [nilA, nilA]]
def cpR (q : Nd) (n : Int) (qs : List Nd) : AExit × List AVal × List AObj :=
  (AExit.normal, (([AVal.junk, AVal.junk, AVal.ptr 4 0 0, AVal.ptr 14 0 0] ++ jk 30), ([AObj.box [AVal.list (List.length (q :: qs)) (iP (Prod.fst q) :: iP (Prod.fst (Prod.fst (Prod.snd q))) :: iP (Prod.snd (Prod.fst (Prod.snd q))) :: iP (Prod.snd (Prod.snd q)) :: flatN qs), AVal.v (Value.slice none 0 0)], AObj.box [iA n], AObj.box [AVal.v (Value.slice none 0 0), AVal.v (Value.slice none 0 0)], AObj.box [AVal.list (List.length (q :: qs)) (iP (Prod.fst q) :: iP (Prod.fst (Prod.fst (Prod.snd q))) :: iP (Prod.snd (Prod.fst (Prod.snd q))) :: iP (Prod.snd (Prod.snd q)) :: flatN qs), AVal.v (Value.slice none 0 0)], AObj.box [AVal.v (Value.slice none 0 0), AVal.v (Value.slice none 0 0)], AObj.free, AObj.free, AObj.row 4 0 none (iA (Prod.fst q) :: iA (Prod.fst (Prod.fst (Prod.snd q))) :: iA (Prod.snd (Prod.fst (Prod.snd q))) :: iA (Prod.snd (Prod.snd q)) :: upL (flatN qs))] ++ List.replicate 6 AObj.free ++ [AObj.box [AVal.row 7 0 4 0 (List.length (q :: qs)), AVal.v (Value.slice none 0 0)], AObj.free])))
theorem cpR_eq (q : Nd) (n : Int) (qs : List Nd) (e0 : freshOf (cfW KB2) (evalF (cfW KB2) 61) 175 [PVal.list (List.length (q :: qs)) (iP (Prod.fst q) :: iP (Prod.fst (Prod.fst (Prod.snd q))) :: iP (Prod.snd (Prod.fst (Prod.snd q))) :: iP (Prod.snd (Prod.snd q)) :: flatN qs)] = some (Fr.row 4 0 (List.length (q :: qs)) (iP (Prod.fst q) :: iP (Prod.fst (Prod.fst (Prod.snd q))) :: iP (Prod.snd (Prod.fst (Prod.snd q))) :: iP (Prod.snd (Prod.snd q)) :: flatN qs))) : evalC (cfW KB2) (evalF (cfW KB2) 61) (coLv) 0 3 61 (co1) (coT1) (cpS1 (q :: qs) n) = some (cpR q n qs) := by
  have key := fun (bs : List Bool) (r : AExit × List AVal × List AObj) (ob : List Prop) (h : pathP (cfW KB2) (evalF (cfW KB2) 61) (coLv) 0 3 61 [(1, 2, Hint.fcall (Fr.row 4 0 (List.length (q :: qs)) (flatN (q :: qs))))] (co1) (coT1) (cpS1 (q :: qs) n) bs [] = .ok (r.1, r.2.1, r.2.2, ob)) (hp : allOb ob) => pathP_ok h hp
  unfold cpR
  exact key [] ((AExit.normal, (([AVal.junk, AVal.junk, AVal.ptr 4 0 0, AVal.ptr 14 0 0] ++ jk 30), ([AObj.box [AVal.list (List.length (q :: qs)) (iP (Prod.fst q) :: iP (Prod.fst (Prod.fst (Prod.snd q))) :: iP (Prod.snd (Prod.fst (Prod.snd q))) :: iP (Prod.snd (Prod.snd q)) :: flatN qs), AVal.v (Value.slice none 0 0)], AObj.box [iA n], AObj.box [AVal.v (Value.slice none 0 0), AVal.v (Value.slice none 0 0)], AObj.box [AVal.list (List.length (q :: qs)) (iP (Prod.fst q) :: iP (Prod.fst (Prod.fst (Prod.snd q))) :: iP (Prod.snd (Prod.fst (Prod.snd q))) :: iP (Prod.snd (Prod.snd q)) :: flatN qs), AVal.v (Value.slice none 0 0)], AObj.box [AVal.v (Value.slice none 0 0), AVal.v (Value.slice none 0 0)], AObj.free, AObj.free, AObj.row 4 0 none (iA (Prod.fst q) :: iA (Prod.fst (Prod.fst (Prod.snd q))) :: iA (Prod.snd (Prod.fst (Prod.snd q))) :: iA (Prod.snd (Prod.snd q)) :: upL (flatN qs))] ++ List.replicate 6 AObj.free ++ [AObj.box [AVal.row 7 0 4 0 (List.length (q :: qs)), AVal.v (Value.slice none 0 0)], AObj.free])))) _ (by kernel_rfl) (allOb_cons (by exact e0) allOb_nil)
end Go.Proofs.YtkkgimhbliocoaaGreat
/- topo.Copy of a plan without edges, at the state of topo.WithoutNode, as a call by objects. -/
namespace Go.Proofs.YtkkgimhbliocoaaGreat
open Go Vm M
set_option linter.unusedVariables false
set_option linter.unusedSectionVars false
set_option linter.unusedSimpArgs false
section
variable (q : Nd) (n : Int) (qs : List Nd)
def cpS (ms : List Nd) (n : Int) (x : AVal) (ys : List AVal) : List AObj := woS ms n ++ [.free, .box [x, nilA], .free, .free, .row 4 0 none ys] ++ List.replicate 6 .free ++ [.box [.row 7 0 4 0 ms.length, nilA]]
theorem cp0_eq : evalL cW evW coLv 0 3 61 (headL 1 coB) ([.agg [nsA (q :: qs), nilA]] ++ List.replicate (coA.ntmps - 1) (.v undef)) (woS (q :: qs) n) = some (coT1, cpS1 (q :: qs) n) := by kernel_rfl
theorem cp1_ev (hl : (q :: qs).length ≤ 1000) : EV cW 3 co1 coT1 (cpS1 (q :: qs) n) .normal coT3 (cpS (q :: qs) n nilA (upL (flatN (q :: qs)))) := by
  refine EV.tidy [7] (EV.of cW_ok evW_ok (cpR_eq q n qs (fresh_cloneN q qs hl))) (fun o ho y hy => ?_) ?_
  · simp only [List.mem_singleton] at ho
    subst ho
    have : y = .row 4 0 none (upL (flatN (q :: qs))) := (Option.some.inj hy).symm
    subst this
    exact flatN_plain _
  · kernel_rfl
noncomputable def cp4 (ys : List AVal) : AExit × List AVal × List AObj := (evalC cW evW coLv 0 3 61 co2 coT3 (cpS (q :: qs) n nilA ys)).getD (.normal, [], [])
theorem cp4_eq (ys : List AVal) : evalC cW evW coLv 0 3 61 co2 coT3 (cpS (q :: qs) n nilA ys) = some (.normal, (cp4 q n qs ys).2.1, cpS (q :: qs) n nilA ys) := by kernel_rfl
noncomputable def cp5 (ys : List AVal) : AExit × List AVal × List AObj := (evalC cW evW coLv 0 3 61 coK (cp4 q n qs ys).2.1 (cpS (q :: qs) n nilA ys)).getD (.normal, [], [])
theorem cp5_eq (ys : List AVal) : evalC cW evW coLv 0 3 61 coK (cp4 q n qs ys).2.1 (cpS (q :: qs) n nilA ys) = some (.exit 0, (cp5 q n qs ys).2.1, cpS (q :: qs) n nilA ys) := by kernel_rfl
noncomputable def cp6 (ys : List AVal) : AExit × List AVal × List AObj := (evalC cW evW coLv 0 3 61 co7 (cp5 q n qs ys).2.1 (cpS (q :: qs) n nilA ys)).getD (.normal, [], [])
theorem cp6_eq (ys : List AVal) : evalC cW evW coLv 0 3 61 co7 (cp5 q n qs ys).2.1 (cpS (q :: qs) n nilA ys) = some (.ret, (cp6 q n qs ys).2.1, cpS (q :: qs) n (.row 7 0 4 0 (q :: qs).length) ys) := by kernel_rfl
theorem copyW_callsA (hl : (q :: qs).length ≤ 1000) : CallsA Tryz.prog 133 [.agg [nsA (q :: qs), nilA]] (woS (q :: qs) n) (.agg [.row 7 0 4 0 (q :: qs).length, nilA]) (cpS (q :: qs) n (.row 7 0 4 0 (q :: qs).length) (upL (flatN (q :: qs)))) := by
  refine callsA_of_EV cW_ok coA_tab (x := .ret) (.inr rfl) (T' := (cp6 q n qs (upL (flatN (q :: qs)))).2.1) (by kernel_rfl) ?_
  rw [coA_body]
  refine EV.head cW_ok evW_ok 1 (cp0_eq q n qs) ?_
  rw [co_tail]
  exact EV.seq (cp1_ev q n qs hl) (EV.seq (EV.seq (EV.of cW_ok evW_ok (cp4_eq q n qs _)) (EV.block (EV.loop (n := 0) (T := fun _ => (cp4 q n qs (upL (flatN (q :: qs)))).2.1) (S := fun _ => cpS (q :: qs) n nilA (upL (flatN (q :: qs)))) (fun k hk => by omega) (EV.of cW_ok evW_ok (cp5_eq q n qs _)) (by simp)))) (EV.of cW_ok evW_ok (cp6_eq q n qs _)))
end
end Go.Proofs.YtkkgimhbliocoaaGreat
/- The search for a number among nodes, as a call by value and as one that borrows. -/
namespace Go.Proofs.YtkkgimhbliocoaaGreat
open Go Vm M
set_option linter.unusedVariables false
set_option linter.unusedSectionVars false
set_option linter.unusedSimpArgs false
/-- The place of a number among nodes that rise. -/
def binM (ns : List Nd) (t : Int) : Nat := (firstAt (fun k => decide (t ≤ (nAt ns k).1)) ns.length 0).getD ns.length
def riseC (ns : List Nd) (t : Int) : Bool := (List.range ns.length).all fun k => decide (k < binM ns t) || decide (t ≤ (nAt ns k).1)
theorem rise_of {ns : List Nd} {t : Int} (h : riseC ns t = true) : riseB ns t (binM ns t) := by
  unfold riseC at h
  rw [List.all_eq_true] at h
  refine ⟨?_, fun k hk => ?_, fun k hk hl => ?_⟩
  · unfold binM
    cases hf : firstAt (fun k => decide (t ≤ (nAt ns k).1)) ns.length 0 with
    | none => exact Nat.le_refl _
    | some j => have := firstAt_some hf; simp only [Option.getD_some]; omega
  · unfold binM at hk
    cases hf : firstAt (fun k => decide (t ≤ (nAt ns k).1)) ns.length 0 with
    | none =>
      rw [hf] at hk
      simp only [Option.getD_none] at hk
      have := of_decide_eq_false (firstAt_none hf k (by omega) (by omega))
      omega
    | some j =>
      rw [hf] at hk
      simp only [Option.getD_some] at hk
      have := of_decide_eq_false ((firstAt_some hf).2.2.2 k (by omega) hk)
      omega
  · have := h k (List.mem_range.2 hl)
    rw [Bool.or_eq_true, decide_eq_true_eq, decide_eq_true_eq] at this
    rcases this with h1 | h1
    · omega
    · exact h1
theorem binM_eq {ns : List Nd} {t : Int} {m : Nat} (h : riseB ns t m) : binM ns t = m ∧ riseC ns t = true := by
  obtain ⟨h1, h2, h3⟩ := h
  have e : binM ns t = m := by
    unfold binM
    by_cases hm : m < ns.length
    · rw [firstAt_eq_some (c := fun k => decide (t ≤ (nAt ns k).1)) (d := ns.length) (k := 0) (j := m) (by omega) (by omega) (decide_eq_true (h3 m (Nat.le_refl _) hm)) (fun i _ hi => decide_eq_false (by have := h2 i hi; omega))]
      rfl
    · rw [firstAt_eq_none (c := fun k => decide (t ≤ (nAt ns k).1)) (d := ns.length) (k := 0) (fun i _ hi => decide_eq_false (by have := h2 i (by omega); omega))]
      simp only [Option.getD_none]
      omega
  refine ⟨e, ?_⟩
  unfold riseC
  rw [List.all_eq_true, e]
  intro k hk
  have hk := List.mem_range.1 hk
  rw [Bool.or_eq_true, decide_eq_true_eq, decide_eq_true_eq]
  by_cases hm : k < m
  · exact .inl hm
  · exact .inr (h3 k (by omega) hk)
def gBin (args : List PVal) : Option PVal :=
  match args with
  | [.list k xs, .v (.int .i64 t), .fn f []] => match unN xs with
    | some ns => if f = 150 ∧ k = ns.length ∧ ns.length ≤ 1000 ∧ riseC ns t = true then some (binV ns t (binM ns t)) else none
    | none => none
  | _ => none
theorem gBin_spec : ∀ args v, gBin args = some v → CallsP Tryz.prog 149 args v := by
  intro args v h
  unfold gBin at h
  split at h
  · rename_i k xs t f
    split at h
    · rename_i ns hn
      split at h
      · rename_i hc
        obtain ⟨rfl, rfl, hl, hr⟩ := hc
        have := unN_some hn
        subst this
        simp only [Option.some.injEq] at h
        subst h
        exact bin_calls ns t _ hl (rise_of hr)
      · cases h
    · cases h
  · cases h
theorem gBin_of {ns : List Nd} {t : Int} {m : Nat} (hl : ns.length ≤ 1000) (h : riseB ns t m) : gBin [nsP ns, iP t, fnW] = some (binV ns t m) := by
  obtain ⟨e, hr⟩ := binM_eq h
  unfold gBin nsP fnW iP
  simp only [unN_flat]
  rw [if_pos ⟨trivial, trivial, hl, hr⟩, e]
noncomputable def KB3 : Lib Tryz.prog := KB2.add 149 gBin (Vm.enters_of named_prog Tryz.func149 (by kernel_rfl)) gBin_spec
theorem peekT_flatN (S : List AObj) (n : Nat) : ∀ ns : List Nd, (upL (flatN ns)).map (peekT S (n + 1)) = flatN ns
  | [] => rfl
  | m :: ns => by
    have ih := peekT_flatN S n ns
    simp only [flatN, upL, up, List.map_cons, peekT, ih]
end Go.Proofs.YtkkgimhbliocoaaGreat
/- topo.WithNode of a plan without edges. -/
namespace Go.Proofs.YtkkgimhbliocoaaGreat
open Go Vm M
set_option linter.unusedVariables false
set_option linter.unusedSimpArgs false
/-- topo.Copy, told of the objects that stand when topo.WithNode calls it. -/
noncomputable def gCo (lo : Nat) (args : List AVal) (S : List AObj) : Option (AVal × List AObj) :=
  match args with
  | [.agg [.list k xs, .v (.slice none 0 0)]] => match S with
    | [.box [.list k2 xs2, .v (.slice none 0 0)], .box [.v (.int .i64 a), .v (.int .i64 b), .v (.int .i64 c), .v (.int .i64 d)], .box [.v (.slice none 0 0), .v (.slice none 0 0)]] => match unN xs, unN xs2 with
      | some (q :: qs), some ms => if ms = q :: qs ∧ k = (q :: qs).length ∧ k2 = k ∧ k ≤ 1000 then some (.agg [.row 7 0 4 0 (q :: qs).length, nilA], coS (q :: qs) (a, (b, c), d) (.row 7 0 4 0 (q :: qs).length) (upL (flatN (q :: qs)))) else none
      | _, _ => none
    | _ => none
  | _ => none
theorem gCo_ok {lo : Nat} {args : List AVal} {S : List AObj} {r : AVal} {S' : List AObj} (h : gCo lo args S = some (r, S')) : CallsA Tryz.prog 133 args S r S' ∧ Stays lo S S' := by
  unfold gCo at h
  split at h
  · rename_i k xs
    split at h
    · rename_i k2 xs2 a b c d
      split at h
      · rename_i q qs ms h1 h2
        split at h
        · rename_i hc
          obtain ⟨rfl, rfl, rfl, hl⟩ := hc
          have e1 := unN_some h1
          have e2 := unN_some h2
          subst e1 e2
          simp only [Option.some.injEq, Prod.mk.injEq] at h
          obtain ⟨rfl, rfl⟩ := h
          refine ⟨copy_callsA q (a, (b, c), d) qs hl, by simp [coS, wnS], fun o ho hol => ?_⟩
          have e : wnS (q :: qs) (a, (b, c), d) = [.box [.list (q :: qs).length (flatN (q :: qs)), .v (.slice none 0 0)], .box [.v (.int .i64 a), .v (.int .i64 b), .v (.int .i64 c), .v (.int .i64 d)], .box [.v (.slice none 0 0), .v (.slice none 0 0)]] := rfl
          unfold coS
          rw [← e, List.append_assoc, List.append_assoc, List.getElem?_append_left (by rw [e]; exact hol)]
        · cases h
      · cases h
    · cases h
  · cases h
noncomputable def giW (f : FuncId) : Option (Nat → List AVal → List AObj → Option (AVal × List AObj)) := bif Nat.beq f 133 then some gCo else giS f
noncomputable abbrev cfU (L : Lib Tryz.prog) : Cfg := { cfW L with givenS := giW }
set_option maxRecDepth 100000 in
theorem cfU_ok (L : Lib Tryz.prog) : CfgOk (cfU L) where
  mixed := mixed_prog
  tab := fun f a h => tabOf_ok named_prog h rfl
  givenP := L.ok
  givenV := (cfW_ok L).givenV
  givenS := fun f g h => by
    have h' : giW f = some g := h
    unfold giW at h'
    cases hb : Nat.beq f 133 with
    | true =>
      rw [hb] at h'
      simp only [cond_true, Option.some.injEq] at h'
      have hf : f = 133 := Nat.eq_of_beq_eq_true hb
      subst h' hf
      exact ⟨Vm.enters_of named_prog Tryz.func133 (by kernel_rfl), fun lo args S r S' h => gCo_ok h⟩
    | false =>
      rw [hb, cond_false] at h'
      exact (cfW_ok L).givenS f g h'
def wiC (q : Nd) (n : Nd) (qs : List Nd) (m : Nat) (b : Bool) (zs : List AVal) : AVal × List AObj :=
  (AVal.agg [AVal.row 7 1 4 0 (List.length (q :: qs) + 1), AVal.v (Value.slice none 0 0)], ([AObj.box [AVal.row 7 1 4 0 (List.length (q :: qs) + 1), AVal.v (Value.slice none 0 0)], AObj.box [iA (Prod.fst n), iA (Prod.fst (Prod.fst (Prod.snd n))), iA (Prod.snd (Prod.fst (Prod.snd n))), iA (Prod.snd (Prod.snd n))], AObj.box [AVal.row 7 1 4 0 (List.length (q :: qs) + 1), AVal.v (Value.slice none 0 0)], AObj.row 4 0 none [iA (Prod.fst n), iA (Prod.fst (Prod.fst (Prod.snd n))), iA (Prod.snd (Prod.fst (Prod.snd n))), iA (Prod.snd (Prod.snd n))], AObj.box [AVal.row 7 0 4 0 (List.length (q :: qs)), AVal.v (Value.slice none 0 0)], AObj.free, AObj.free, AObj.row 4 1 none zs] ++ List.replicate 6 AObj.free ++ [AObj.box [AVal.row 7 0 4 0 (List.length (q :: qs)), AVal.v (Value.slice none 0 0)]]))
theorem wiC_eq (q : Nd) (n : Nd) (qs : List Nd) (m : Nat) (b : Bool) (zs : List AVal) (e0 : callA (cfU KB3) (evalF (cfU KB3) 61) 0 133 [AVal.agg [AVal.list (List.length (q :: qs)) (iP (Prod.fst q) :: iP (Prod.fst (Prod.fst (Prod.snd q))) :: iP (Prod.snd (Prod.fst (Prod.snd q))) :: iP (Prod.snd (Prod.snd q)) :: flatN qs), AVal.v (Value.slice none 0 0)]] [AObj.box [AVal.list (List.length (q :: qs)) (iP (Prod.fst q) :: iP (Prod.fst (Prod.fst (Prod.snd q))) :: iP (Prod.snd (Prod.fst (Prod.snd q))) :: iP (Prod.snd (Prod.snd q)) :: flatN qs), AVal.v (Value.slice none 0 0)], AObj.box [iA (Prod.fst n), iA (Prod.fst (Prod.fst (Prod.snd n))), iA (Prod.snd (Prod.fst (Prod.snd n))), iA (Prod.snd (Prod.snd n))], AObj.box [AVal.v (Value.slice none 0 0), AVal.v (Value.slice none 0 0)]] = some (AVal.agg [AVal.row 7 0 4 0 (List.length (q :: qs)), AVal.v (Value.slice none 0 0)], [AObj.box [AVal.list (List.length (q :: qs)) (iP (Prod.fst q) :: iP (Prod.fst (Prod.fst (Prod.snd q))) :: iP (Prod.snd (Prod.fst (Prod.snd q))) :: iP (Prod.snd (Prod.snd q)) :: flatN qs), AVal.v (Value.slice none 0 0)], AObj.box [iA (Prod.fst n), iA (Prod.fst (Prod.fst (Prod.snd n))), iA (Prod.snd (Prod.fst (Prod.snd n))), iA (Prod.snd (Prod.snd n))], AObj.box [AVal.v (Value.slice none 0 0), AVal.v (Value.slice none 0 0)], AObj.free, AObj.box [AVal.row 7 0 4 0 (List.length (q :: qs)), AVal.v (Value.slice none 0 0)], AObj.free, AObj.free, AObj.row 4 0 none (iA (Prod.fst q) :: iA (Prod.fst (Prod.fst (Prod.snd q))) :: iA (Prod.snd (Prod.fst (Prod.snd q))) :: iA (Prod.snd (Prod.snd q)) :: upL (flatN qs)), AObj.free, AObj.free, AObj.free, AObj.free, AObj.free, AObj.free, AObj.box [AVal.row 7 0 4 0 (List.length (q :: qs)), AVal.v (Value.slice none 0 0)]])) (e1 : callA (cfU KB3) (evalF (cfU KB3) 61) 0 149 [AVal.row 7 0 4 0 (List.length (q :: qs)), iA (Prod.fst n), AVal.fn 150 []] [AObj.box [AVal.row 7 0 4 0 (List.length (q :: qs)), AVal.v (Value.slice none 0 0)], AObj.box [iA (Prod.fst n), iA (Prod.fst (Prod.fst (Prod.snd n))), iA (Prod.snd (Prod.fst (Prod.snd n))), iA (Prod.snd (Prod.snd n))], AObj.box [AVal.v (Value.slice none 0 0), AVal.v (Value.slice none 0 0)], AObj.free, AObj.box [AVal.row 7 0 4 0 (List.length (q :: qs)), AVal.v (Value.slice none 0 0)], AObj.free, AObj.free, AObj.row 4 0 none (iA (Prod.fst q) :: iA (Prod.fst (Prod.fst (Prod.snd q))) :: iA (Prod.snd (Prod.fst (Prod.snd q))) :: iA (Prod.snd (Prod.snd q)) :: upL (flatN qs)), AObj.free, AObj.free, AObj.free, AObj.free, AObj.free, AObj.free, AObj.box [AVal.row 7 0 4 0 (List.length (q :: qs)), AVal.v (Value.slice none 0 0)]] = some (AVal.tup [iA (Int.ofNat m), bA b], [AObj.box [AVal.row 7 0 4 0 (List.length (q :: qs)), AVal.v (Value.slice none 0 0)], AObj.box [iA (Prod.fst n), iA (Prod.fst (Prod.fst (Prod.snd n))), iA (Prod.snd (Prod.fst (Prod.snd n))), iA (Prod.snd (Prod.snd n))], AObj.box [AVal.v (Value.slice none 0 0), AVal.v (Value.slice none 0 0)], AObj.free, AObj.box [AVal.row 7 0 4 0 (List.length (q :: qs)), AVal.v (Value.slice none 0 0)], AObj.free, AObj.free, AObj.row 4 0 none (iA (Prod.fst q) :: iA (Prod.fst (Prod.fst (Prod.snd q))) :: iA (Prod.snd (Prod.fst (Prod.snd q))) :: iA (Prod.snd (Prod.snd q)) :: upL (flatN qs)), AObj.free, AObj.free, AObj.free, AObj.free, AObj.free, AObj.free, AObj.box [AVal.row 7 0 4 0 (List.length (q :: qs)), AVal.v (Value.slice none 0 0)]])) (e2 : callA (cfU KB3) (evalF (cfU KB3) 61) 0 151 [AVal.row 7 0 4 0 (List.length (q :: qs)), iA (Int.ofNat m), AVal.row 3 0 4 0 1] [AObj.box [AVal.row 7 0 4 0 (List.length (q :: qs)), AVal.v (Value.slice none 0 0)], AObj.box [iA (Prod.fst n), iA (Prod.fst (Prod.fst (Prod.snd n))), iA (Prod.snd (Prod.fst (Prod.snd n))), iA (Prod.snd (Prod.snd n))], AObj.box [AVal.v (Value.slice none 0 0), AVal.v (Value.slice none 0 0)], AObj.row 4 0 none [iA (Prod.fst n), iA (Prod.fst (Prod.fst (Prod.snd n))), iA (Prod.snd (Prod.fst (Prod.snd n))), iA (Prod.snd (Prod.snd n))], AObj.box [AVal.row 7 0 4 0 (List.length (q :: qs)), AVal.v (Value.slice none 0 0)], AObj.free, AObj.free, AObj.row 4 0 none (iA (Prod.fst q) :: iA (Prod.fst (Prod.fst (Prod.snd q))) :: iA (Prod.snd (Prod.fst (Prod.snd q))) :: iA (Prod.snd (Prod.snd q)) :: upL (flatN qs)), AObj.free, AObj.free, AObj.free, AObj.free, AObj.free, AObj.free, AObj.box [AVal.row 7 0 4 0 (List.length (q :: qs)), AVal.v (Value.slice none 0 0)]] = some (AVal.row 7 1 4 0 (List.length (q :: qs) + 1), [AObj.box [AVal.row 7 0 4 0 (List.length (q :: qs)), AVal.v (Value.slice none 0 0)], AObj.box [iA (Prod.fst n), iA (Prod.fst (Prod.fst (Prod.snd n))), iA (Prod.snd (Prod.fst (Prod.snd n))), iA (Prod.snd (Prod.snd n))], AObj.box [AVal.v (Value.slice none 0 0), AVal.v (Value.slice none 0 0)], AObj.row 4 0 none [iA (Prod.fst n), iA (Prod.fst (Prod.fst (Prod.snd n))), iA (Prod.snd (Prod.fst (Prod.snd n))), iA (Prod.snd (Prod.snd n))], AObj.box [AVal.row 7 0 4 0 (List.length (q :: qs)), AVal.v (Value.slice none 0 0)], AObj.free, AObj.free, AObj.row 4 1 none zs, AObj.free, AObj.free, AObj.free, AObj.free, AObj.free, AObj.free, AObj.box [AVal.row 7 0 4 0 (List.length (q :: qs)), AVal.v (Value.slice none 0 0)]])) : evalF (cfU KB3) (61 + 1) (0) 89 ([AVal.agg [nsA (q :: qs), nilA], ndA n]) ([]) = some (wiC q n qs m b zs) := by
  have key := fun (bs : List Bool) (r : AVal × List AObj) (ob : List Prop) (h : funP (cfU KB3) (evalF (cfU KB3) 61) 61 [(1, 1, Hint.call (AVal.agg [AVal.row 7 0 4 0 (List.length (q :: qs)), nilA]) (coS (q :: qs) n (AVal.row 7 0 4 0 (List.length (q :: qs))) (upL (flatN (q :: qs))))), (2, 4, Hint.callS fun a S => (AVal.tup [iA (↑m : Int), bA b], S)), (3, 5, Hint.callS fun a S => (AVal.row 7 1 4 0 (List.length (q :: qs) + 1), List.set S 7 (AObj.row 4 1 none zs)))] 89 (0) ([AVal.agg [nsA (q :: qs), nilA], ndA n]) ([]) bs [] = .ok (r.1, r.2, ob)) (hp : allOb ob) => funP_ok h hp
  unfold wiC
  exact key [] ((AVal.agg [AVal.row 7 1 4 0 (List.length (q :: qs) + 1), AVal.v (Value.slice none 0 0)], ([AObj.box [AVal.row 7 1 4 0 (List.length (q :: qs) + 1), AVal.v (Value.slice none 0 0)], AObj.box [iA (Prod.fst n), iA (Prod.fst (Prod.fst (Prod.snd n))), iA (Prod.snd (Prod.fst (Prod.snd n))), iA (Prod.snd (Prod.snd n))], AObj.box [AVal.row 7 1 4 0 (List.length (q :: qs) + 1), AVal.v (Value.slice none 0 0)], AObj.row 4 0 none [iA (Prod.fst n), iA (Prod.fst (Prod.fst (Prod.snd n))), iA (Prod.snd (Prod.fst (Prod.snd n))), iA (Prod.snd (Prod.snd n))], AObj.box [AVal.row 7 0 4 0 (List.length (q :: qs)), AVal.v (Value.slice none 0 0)], AObj.free, AObj.free, AObj.row 4 1 none zs] ++ List.replicate 6 AObj.free ++ [AObj.box [AVal.row 7 0 4 0 (List.length (q :: qs)), AVal.v (Value.slice none 0 0)]]))) _ (by kernel_rfl) (allOb_cons (by exact e2) (allOb_cons (by exact e1) (allOb_cons (by exact e0) allOb_nil)))
def wiS (ms : List Nd) (n : Nd) (ys : List AVal) : List AObj := [.box [.row 7 0 4 0 ms.length, nilA], ndB n, .box [nilA, nilA], .row 4 0 none [iA n.1, iA n.2.1.1, iA n.2.1.2, iA n.2.2], .box [.row 7 0 4 0 ms.length, nilA], .free, .free, .row 4 0 none ys] ++ List.replicate 6 .free ++ [.box [.row 7 0 4 0 ms.length, nilA]]
def inE (ms : List Nd) (n : Nd) (m : Nat) (ys : List AVal) : AVal × List AObj :=
  (AVal.row 7 1 4 0 (List.length ms + 1), ([AObj.box [AVal.row 7 0 4 0 (List.length ms), AVal.v (Value.slice none 0 0)], AObj.box [iA (Prod.fst n), iA (Prod.fst (Prod.fst (Prod.snd n))), iA (Prod.snd (Prod.fst (Prod.snd n))), iA (Prod.snd (Prod.snd n))], AObj.box [AVal.v (Value.slice none 0 0), AVal.v (Value.slice none 0 0)], AObj.row 4 0 none [iA (Prod.fst n), iA (Prod.fst (Prod.fst (Prod.snd n))), iA (Prod.snd (Prod.fst (Prod.snd n))), iA (Prod.snd (Prod.snd n))], AObj.box [AVal.row 7 0 4 0 (List.length ms), AVal.v (Value.slice none 0 0)], AObj.free, AObj.free, AObj.row 4 1 none (ys ++ [iA (Prod.fst n), iA (Prod.fst (Prod.fst (Prod.snd n))), iA (Prod.snd (Prod.fst (Prod.snd n))), iA (Prod.snd (Prod.snd n))])] ++ List.replicate 6 AObj.free ++ [AObj.box [AVal.row 7 0 4 0 (List.length ms), AVal.v (Value.slice none 0 0)]]))
theorem inE_eq (ms : List Nd) (n : Nd) (m : Nat) (ys : List AVal) (p1 : ((↑m : Int) == (↑(List.length ms) : Int)) = true) (p0 : (false) = false) (e0 : boundsA (List.length ms) (some (iA (Int.ofNat m))) none none = some (Int.toNat (↑m : Int), List.length ms, none)) (e1 : (0 + List.length ms) * 4 = List.length ys ∧ (List.length ms + 1) * 32 ≤ 140737488355328 ∧ List.length ms + 1 ≤ 9223372036854775807) : evalF (cfU KB3) (60 + 1) (0) 151 ([AVal.row 7 0 4 0 (List.length ms), iA (↑m : Int), AVal.row 3 0 4 0 1]) (wiS ms n ys) = some (inE ms n m ys) := by
  have key := fun (bs : List Bool) (r : AVal × List AObj) (ob : List Prop) (h : funP (cfU KB3) (evalF (cfU KB3) 60) 60 [(1, 2, Hint.cut), (7, 2, Hint.app)] 151 (0) ([AVal.row 7 0 4 0 (List.length ms), iA (↑m : Int), AVal.row 3 0 4 0 1]) (wiS ms n ys) bs [] = .ok (r.1, r.2, ob)) (hp : allOb ob) => funP_ok h hp
  unfold inE
  exact key [false, true] ((AVal.row 7 1 4 0 (List.length ms + 1), ([AObj.box [AVal.row 7 0 4 0 (List.length ms), AVal.v (Value.slice none 0 0)], AObj.box [iA (Prod.fst n), iA (Prod.fst (Prod.fst (Prod.snd n))), iA (Prod.snd (Prod.fst (Prod.snd n))), iA (Prod.snd (Prod.snd n))], AObj.box [AVal.v (Value.slice none 0 0), AVal.v (Value.slice none 0 0)], AObj.row 4 0 none [iA (Prod.fst n), iA (Prod.fst (Prod.fst (Prod.snd n))), iA (Prod.snd (Prod.fst (Prod.snd n))), iA (Prod.snd (Prod.snd n))], AObj.box [AVal.row 7 0 4 0 (List.length ms), AVal.v (Value.slice none 0 0)], AObj.free, AObj.free, AObj.row 4 1 none (ys ++ [iA (Prod.fst n), iA (Prod.fst (Prod.fst (Prod.snd n))), iA (Prod.snd (Prod.fst (Prod.snd n))), iA (Prod.snd (Prod.snd n))])] ++ List.replicate 6 AObj.free ++ [AObj.box [AVal.row 7 0 4 0 (List.length ms), AVal.v (Value.slice none 0 0)]]))) _ (by kernel_rfl) (allOb_cons (by exact e1) (allOb_cons p1 (allOb_cons lit_f (allOb_cons (by exact e0) allOb_nil))))
end Go.Proofs.YtkkgimhbliocoaaGreat
/- topo.WithNode of a plan without edges: a node behind all others. -/
namespace Go.Proofs.YtkkgimhbliocoaaGreat
open Go Vm M
set_option linter.unusedVariables false
set_option linter.unusedSectionVars false
set_option linter.unusedSimpArgs false
theorem callA_m2 {c : Cfg} {ev : Ev} {lo : Nat} {F : FuncId} {args : List AVal} {S : List AObj} {x : AVal × List AObj} (h0 : c.givenS F = none) (hm : c.mode F = 2) (he : ev lo F args S = some x) : callA c ev lo F args S = some x := by
  unfold callA
  simp only [h0, hm, he]
theorem callA_gS {c : Cfg} {ev : Ev} {lo : Nat} {F : FuncId} {g : Nat → List AVal → List AObj → Option (AVal × List AObj)} {args : List AVal} {S : List AObj} {x : AVal × List AObj} (h0 : c.givenS F = some g) (he : g lo args S = some x) : callA c ev lo F args S = some x := by
  unfold callA
  simp only [h0, he]
theorem callA_lend {c : Cfg} {ev : Ev} {lo : Nat} {F : FuncId} {g : List PVal → Option PVal} {args : List AVal} {S : List AObj} {r : PVal} (h0 : c.givenS F = none) (hm : c.mode F = 5) (hp : c.givenP F = some g) (he : g (args.map (peekT S deep)) = some r) (hf : flatA (up r) = true) : callA c ev lo F args S = some (up r, S) := by
  unfold callA
  simp only [h0, hm]
  unfold lendCall
  simp only [h0, hp, he, hf, cond_true]
  rfl
theorem gCo_wn (q n : Nd) (qs : List Nd) (hl : (q :: qs).length ≤ 1000) : gCo 0 [.agg [nsA (q :: qs), nilA]] (wnS (q :: qs) n) = some (.agg [.row 7 0 4 0 (q :: qs).length, nilA], coS (q :: qs) n (.row 7 0 4 0 (q :: qs).length) (upL (flatN (q :: qs)))) := by
  unfold gCo nsA nilA wnS ndB nsA nilA iA
  simp only [unN_flat]
  rw [if_pos ⟨trivial, trivial, trivial, hl⟩]
theorem mark_rowN {S : List AObj} {o e ep off len n : Nat} {fz : Option Nat} {ns : List Nd} (h : S[o]? = some (.row 4 e fz (upL (flatN ns)))) : Vm.mark 0 (n + 1) S (.row o ep 4 off len) = S.set o (.row 4 e (some (upL (flatN ns)).length) (upL (flatN ns))) := by
  simp only [Vm.mark, h]
  rw [if_pos (Nat.zero_le _), mark_flatN]
theorem upL_length : ∀ xs : List PVal, (upL xs).length = xs.length
  | [] => rfl
  | x :: xs => by simp [upL, upL_length xs]
theorem cutN (ns : List Nd) : cutA (upL (flatN ns)) 4 0 (0 + ns.length) = upL (flatN ns) := by
  unfold cutA
  rw [Nat.zero_mul, List.drop_zero, List.take_of_length_le (by rw [upL_length, flatN_length]; omega)]
theorem peek_rowN {S : List AObj} {o n e : Nat} {ns : List Nd} (h : S[o]? = some (.row 4 e (some (upL (flatN ns)).length) (upL (flatN ns)))) : peek S (n + 2) (.row o e 4 0 ns.length) = some (nsP ns) := by
  simp only [peek, h]
  rw [if_pos ⟨trivial, trivial, by rw [upL_length, flatN_length]; omega⟩, cutN, peek_flatN]
  rfl
theorem peekT_rowN {S : List AObj} {o n e : Nat} {fz : Option Nat} {ns : List Nd} (h : S[o]? = some (.row 4 e fz (upL (flatN ns)))) : peekT S (n + 2) (.row o e 4 0 ns.length) = nsP ns := by
  simp only [peekT, h]
  rw [Nat.beq_refl, Nat.beq_refl, show Nat.ble ((0 + ns.length) * 4) (upL (flatN ns)).length = true from Nat.ble_eq_true_of_le (by rw [upL_length, flatN_length]; omega)]
  simp only [Bool.and_self, cond_true]
  rw [cutN, peekT_flatN]
  rfl
theorem upL_flatN_snoc (ms : List Nd) (n : Nd) : upL (flatN ms) ++ [iA n.1, iA n.2.1.1, iA n.2.1.2, iA n.2.2] = upL (flatN (ms ++ [n])) := by
  induction ms with
  | nil => rfl
  | cons m ms ih =>
    simp only [List.cons_append, flatN, upL]
    rw [ih]
theorem boundsA_lo {n a : Nat} (h1 : a ≤ n) : boundsA n (some (iA (a : Int))) none none = some (a, n, none) := by
  simp [boundsA, numA, iA, mxOk, h1]
set_option maxRecDepth 100000 in
theorem withEnd_calls (q n : Nd) (qs : List Nd) (hl : (q :: qs).length ≤ 999) (hr : riseB (q :: qs) n.1 (q :: qs).length) :
    CallsP Tryz.prog 89 [plN (q :: qs).length (flatN (q :: qs)), ndP n] (plN ((q :: qs) ++ [n]).length (flatN ((q :: qs) ++ [n]))) := by
  have hb := gBin_of (t := n.1) (by omega) hr
  have e := wiC_eq q n qs (q :: qs).length (decide ((q :: qs).length < (q :: qs).length) && ((nAt (q :: qs) (q :: qs).length).1 == n.1)) (upL (flatN ((q :: qs) ++ [n])))
    (callA_gS (g := gCo) (by kernel_rfl) (gCo_wn q n qs (by omega)))
    (callA_lend (g := gBin) (r := binV (q :: qs) n.1 (q :: qs).length) (by kernel_rfl) (by kernel_rfl) (by kernel_rfl) (by
      have h8 := peekT_rowN (S := [.box [.row 7 0 4 0 (q :: qs).length, nilA], ndB n, .box [nilA, nilA], .free, .box [.row 7 0 4 0 (q :: qs).length, nilA], .free, .free, .row 4 0 none (upL (flatN (q :: qs))), .free, .free, .free, .free, .free, .free, .box [.row 7 0 4 0 (q :: qs).length, nilA]]) (o := 7) (n := 4) (e := 0) (fz := none) (ns := q :: qs) rfl
      refine Eq.trans (congrArg gBin ?_) hb
      exact congrArg (fun x => [x, iP n.1, fnW]) h8) rfl)
    (callA_m2 (by kernel_rfl) (by kernel_rfl) (by
      have h9 := inE_eq (q :: qs) n (q :: qs).length (upL (flatN (q :: qs))) (by simp) rfl (boundsA_lo (Nat.le_refl _)) ⟨by rw [upL_length, flatN_length]; omega, by omega, by omega⟩
      unfold inE at h9
      rw [upL_flatN_snoc] at h9
      exact h9))
  have hA := (evalF_ok (cfU_ok KB3) 62).calls _ _ _ _ _ _ e
  refine callsP_of_A (ps := [plN (q :: qs).length (flatN (q :: qs)), ndP n]) hA ?_
  have hlen : ((q :: qs) ++ [n]).length = (q :: qs).length + 1 := by simp
  have hm : Vm.mark 0 5 (wiC q n qs (q :: qs).length (decide ((q :: qs).length < (q :: qs).length) && ((nAt (q :: qs) (q :: qs).length).1 == n.1)) (upL (flatN ((q :: qs) ++ [n])))).2 (.row 7 1 4 0 ((q :: qs).length + 1)) = _ := mark_rowN (o := 7) (e := 1) (n := 4) (fz := none) (ns := (q :: qs) ++ [n]) rfl
  show peek (Vm.mark 0 5 (Vm.mark 0 5 (wiC q n qs (q :: qs).length (decide ((q :: qs).length < (q :: qs).length) && ((nAt (q :: qs) (q :: qs).length).1 == n.1)) (upL (flatN ((q :: qs) ++ [n])))).2 (.row 7 1 4 0 ((q :: qs).length + 1))) nilA) deep (.agg [.row 7 1 4 0 ((q :: qs).length + 1), nilA]) = _
  rw [hm]
  have hp := peek_rowN (S := ((wiC q n qs (q :: qs).length (decide ((q :: qs).length < (q :: qs).length) && ((nAt (q :: qs) (q :: qs).length).1 == n.1)) (upL (flatN ((q :: qs) ++ [n])))).2).set 7 (.row 4 1 (some (upL (flatN ((q :: qs) ++ [n]))).length) (upL (flatN ((q :: qs) ++ [n]))))) (o := 7) (n := 3) (e := 1) (ns := (q :: qs) ++ [n]) rfl
  rw [hlen] at hp
  show (mapO (peek _ 5) [.row 7 1 4 0 ((q :: qs).length + 1), nilA]).map PVal.agg = _
  simp only [mapO]
  rw [show peek (Vm.mark 0 5 (((wiC q n qs (q :: qs).length (decide ((q :: qs).length < (q :: qs).length) && ((nAt (q :: qs) (q :: qs).length).1 == n.1)) (upL (flatN ((q :: qs) ++ [n])))).2).set 7 (.row 4 1 (some (upL (flatN ((q :: qs) ++ [n]))).length) (upL (flatN ((q :: qs) ++ [n]))))) nilA) 5 (.row 7 1 4 0 ((q :: qs).length + 1)) = some (nsP ((q :: qs) ++ [n])) from hp]
  rfl
end Go.Proofs.YtkkgimhbliocoaaGreat
/- topo.WithNode of a plan without edges: a node among others. -/
namespace Go.Proofs.YtkkgimhbliocoaaGreat
open Go Vm M
set_option linter.unusedVariables false
set_option linter.unusedSimpArgs false
noncomputable def giX (f : FuncId) : Option (Nat → List AVal → List AObj → Option (AVal × List AObj)) := bif Nat.beq f 133 then some gCo else bif Nat.beq f 151 then some gInN else giS f
noncomputable abbrev cfX (L : Lib Tryz.prog) : Cfg := { cfW L with givenS := giX }
set_option maxRecDepth 100000 in
theorem cfX_ok (L : Lib Tryz.prog) : CfgOk (cfX L) where
  mixed := mixed_prog
  tab := fun f a h => tabOf_ok named_prog h rfl
  givenP := L.ok
  givenV := (cfW_ok L).givenV
  givenS := fun f g h => by
    have h' : giX f = some g := h
    unfold giX at h'
    cases hb : Nat.beq f 133 with
    | true =>
      rw [hb] at h'
      simp only [cond_true, Option.some.injEq] at h'
      have hf : f = 133 := Nat.eq_of_beq_eq_true hb
      subst h' hf
      exact ⟨Vm.enters_of named_prog Tryz.func133 (by kernel_rfl), fun lo args S r S' h => gCo_ok h⟩
    | false =>
      rw [hb, cond_false] at h'
      cases hb2 : Nat.beq f 151 with
      | true =>
        rw [hb2] at h'
        simp only [cond_true, Option.some.injEq] at h'
        have hf : f = 151 := Nat.eq_of_beq_eq_true hb2
        subst h' hf
        exact ⟨Vm.enters_of named_prog Tryz.func151 (by kernel_rfl), fun lo args S r S' h => gInN_ok h⟩
      | false =>
        rw [hb2, cond_false] at h'
        exact (cfW_ok L).givenS f g h'
def wiM (q : Nd) (n : Nd) (qs : List Nd) (m : Nat) (b : Bool) (zs : List AVal) : AVal × List AObj :=
  (AVal.agg [AVal.row 7 1 4 0 (List.length (q :: qs) + 1), AVal.v (Value.slice none 0 0)], ([AObj.box [AVal.row 7 1 4 0 (List.length (q :: qs) + 1), AVal.v (Value.slice none 0 0)], AObj.box [iA (Prod.fst n), iA (Prod.fst (Prod.fst (Prod.snd n))), iA (Prod.snd (Prod.fst (Prod.snd n))), iA (Prod.snd (Prod.snd n))], AObj.box [AVal.row 7 1 4 0 (List.length (q :: qs) + 1), AVal.v (Value.slice none 0 0)], AObj.row 4 0 none [iA (Prod.fst n), iA (Prod.fst (Prod.fst (Prod.snd n))), iA (Prod.snd (Prod.fst (Prod.snd n))), iA (Prod.snd (Prod.snd n))], AObj.box [AVal.row 7 0 4 0 (List.length (q :: qs)), AVal.v (Value.slice none 0 0)], AObj.free, AObj.free, AObj.row 4 1 none zs] ++ List.replicate 6 AObj.free ++ [AObj.box [AVal.row 7 0 4 0 (List.length (q :: qs)), AVal.v (Value.slice none 0 0)]]))
theorem wiM_eq (q : Nd) (n : Nd) (qs : List Nd) (m : Nat) (b : Bool) (zs : List AVal) (e0 : callA (cfX KB3) (evalF (cfX KB3) 61) 0 133 [AVal.agg [AVal.list (List.length (q :: qs)) (iP (Prod.fst q) :: iP (Prod.fst (Prod.fst (Prod.snd q))) :: iP (Prod.snd (Prod.fst (Prod.snd q))) :: iP (Prod.snd (Prod.snd q)) :: flatN qs), AVal.v (Value.slice none 0 0)]] [AObj.box [AVal.list (List.length (q :: qs)) (iP (Prod.fst q) :: iP (Prod.fst (Prod.fst (Prod.snd q))) :: iP (Prod.snd (Prod.fst (Prod.snd q))) :: iP (Prod.snd (Prod.snd q)) :: flatN qs), AVal.v (Value.slice none 0 0)], AObj.box [iA (Prod.fst n), iA (Prod.fst (Prod.fst (Prod.snd n))), iA (Prod.snd (Prod.fst (Prod.snd n))), iA (Prod.snd (Prod.snd n))], AObj.box [AVal.v (Value.slice none 0 0), AVal.v (Value.slice none 0 0)]] = some (AVal.agg [AVal.row 7 0 4 0 (List.length (q :: qs)), AVal.v (Value.slice none 0 0)], [AObj.box [AVal.list (List.length (q :: qs)) (iP (Prod.fst q) :: iP (Prod.fst (Prod.fst (Prod.snd q))) :: iP (Prod.snd (Prod.fst (Prod.snd q))) :: iP (Prod.snd (Prod.snd q)) :: flatN qs), AVal.v (Value.slice none 0 0)], AObj.box [iA (Prod.fst n), iA (Prod.fst (Prod.fst (Prod.snd n))), iA (Prod.snd (Prod.fst (Prod.snd n))), iA (Prod.snd (Prod.snd n))], AObj.box [AVal.v (Value.slice none 0 0), AVal.v (Value.slice none 0 0)], AObj.free, AObj.box [AVal.row 7 0 4 0 (List.length (q :: qs)), AVal.v (Value.slice none 0 0)], AObj.free, AObj.free, AObj.row 4 0 none (iA (Prod.fst q) :: iA (Prod.fst (Prod.fst (Prod.snd q))) :: iA (Prod.snd (Prod.fst (Prod.snd q))) :: iA (Prod.snd (Prod.snd q)) :: upL (flatN qs)), AObj.free, AObj.free, AObj.free, AObj.free, AObj.free, AObj.free, AObj.box [AVal.row 7 0 4 0 (List.length (q :: qs)), AVal.v (Value.slice none 0 0)]])) (e1 : callA (cfX KB3) (evalF (cfX KB3) 61) 0 149 [AVal.row 7 0 4 0 (List.length (q :: qs)), iA (Prod.fst n), AVal.fn 150 []] [AObj.box [AVal.row 7 0 4 0 (List.length (q :: qs)), AVal.v (Value.slice none 0 0)], AObj.box [iA (Prod.fst n), iA (Prod.fst (Prod.fst (Prod.snd n))), iA (Prod.snd (Prod.fst (Prod.snd n))), iA (Prod.snd (Prod.snd n))], AObj.box [AVal.v (Value.slice none 0 0), AVal.v (Value.slice none 0 0)], AObj.free, AObj.box [AVal.row 7 0 4 0 (List.length (q :: qs)), AVal.v (Value.slice none 0 0)], AObj.free, AObj.free, AObj.row 4 0 none (iA (Prod.fst q) :: iA (Prod.fst (Prod.fst (Prod.snd q))) :: iA (Prod.snd (Prod.fst (Prod.snd q))) :: iA (Prod.snd (Prod.snd q)) :: upL (flatN qs)), AObj.free, AObj.free, AObj.free, AObj.free, AObj.free, AObj.free, AObj.box [AVal.row 7 0 4 0 (List.length (q :: qs)), AVal.v (Value.slice none 0 0)]] = some (AVal.tup [iA (Int.ofNat m), bA b], [AObj.box [AVal.row 7 0 4 0 (List.length (q :: qs)), AVal.v (Value.slice none 0 0)], AObj.box [iA (Prod.fst n), iA (Prod.fst (Prod.fst (Prod.snd n))), iA (Prod.snd (Prod.fst (Prod.snd n))), iA (Prod.snd (Prod.snd n))], AObj.box [AVal.v (Value.slice none 0 0), AVal.v (Value.slice none 0 0)], AObj.free, AObj.box [AVal.row 7 0 4 0 (List.length (q :: qs)), AVal.v (Value.slice none 0 0)], AObj.free, AObj.free, AObj.row 4 0 none (iA (Prod.fst q) :: iA (Prod.fst (Prod.fst (Prod.snd q))) :: iA (Prod.snd (Prod.fst (Prod.snd q))) :: iA (Prod.snd (Prod.snd q)) :: upL (flatN qs)), AObj.free, AObj.free, AObj.free, AObj.free, AObj.free, AObj.free, AObj.box [AVal.row 7 0 4 0 (List.length (q :: qs)), AVal.v (Value.slice none 0 0)]])) (e2 : callA (cfX KB3) (evalF (cfX KB3) 61) 0 151 [AVal.row 7 0 4 0 (List.length (q :: qs)), iA (Int.ofNat m), AVal.row 3 0 4 0 1] [AObj.box [AVal.row 7 0 4 0 (List.length (q :: qs)), AVal.v (Value.slice none 0 0)], AObj.box [iA (Prod.fst n), iA (Prod.fst (Prod.fst (Prod.snd n))), iA (Prod.snd (Prod.fst (Prod.snd n))), iA (Prod.snd (Prod.snd n))], AObj.box [AVal.v (Value.slice none 0 0), AVal.v (Value.slice none 0 0)], AObj.row 4 0 none [iA (Prod.fst n), iA (Prod.fst (Prod.fst (Prod.snd n))), iA (Prod.snd (Prod.fst (Prod.snd n))), iA (Prod.snd (Prod.snd n))], AObj.box [AVal.row 7 0 4 0 (List.length (q :: qs)), AVal.v (Value.slice none 0 0)], AObj.free, AObj.free, AObj.row 4 0 none (iA (Prod.fst q) :: iA (Prod.fst (Prod.fst (Prod.snd q))) :: iA (Prod.snd (Prod.fst (Prod.snd q))) :: iA (Prod.snd (Prod.snd q)) :: upL (flatN qs)), AObj.free, AObj.free, AObj.free, AObj.free, AObj.free, AObj.free, AObj.box [AVal.row 7 0 4 0 (List.length (q :: qs)), AVal.v (Value.slice none 0 0)]] = some (AVal.row 7 1 4 0 (List.length (q :: qs) + 1), [AObj.box [AVal.row 7 0 4 0 (List.length (q :: qs)), AVal.v (Value.slice none 0 0)], AObj.box [iA (Prod.fst n), iA (Prod.fst (Prod.fst (Prod.snd n))), iA (Prod.snd (Prod.fst (Prod.snd n))), iA (Prod.snd (Prod.snd n))], AObj.box [AVal.v (Value.slice none 0 0), AVal.v (Value.slice none 0 0)], AObj.row 4 0 none [iA (Prod.fst n), iA (Prod.fst (Prod.fst (Prod.snd n))), iA (Prod.snd (Prod.fst (Prod.snd n))), iA (Prod.snd (Prod.snd n))], AObj.box [AVal.row 7 0 4 0 (List.length (q :: qs)), AVal.v (Value.slice none 0 0)], AObj.free, AObj.free, AObj.row 4 1 none zs, AObj.free, AObj.free, AObj.free, AObj.free, AObj.free, AObj.free, AObj.box [AVal.row 7 0 4 0 (List.length (q :: qs)), AVal.v (Value.slice none 0 0)]])) : evalF (cfX KB3) (61 + 1) (0) 89 ([AVal.agg [nsA (q :: qs), nilA], ndA n]) ([]) = some (wiM q n qs m b zs) := by
  have key := fun (bs : List Bool) (r : AVal × List AObj) (ob : List Prop) (h : funP (cfX KB3) (evalF (cfX KB3) 61) 61 [(1, 1, Hint.call (AVal.agg [AVal.row 7 0 4 0 (List.length (q :: qs)), nilA]) (coS (q :: qs) n (AVal.row 7 0 4 0 (List.length (q :: qs))) (upL (flatN (q :: qs))))), (2, 4, Hint.callS fun a S => (AVal.tup [iA (↑m : Int), bA b], S)), (3, 5, Hint.callS fun a S => (AVal.row 7 1 4 0 (List.length (q :: qs) + 1), List.set S 7 (AObj.row 4 1 none zs)))] 89 (0) ([AVal.agg [nsA (q :: qs), nilA], ndA n]) ([]) bs [] = .ok (r.1, r.2, ob)) (hp : allOb ob) => funP_ok h hp
  unfold wiM
  exact key [] ((AVal.agg [AVal.row 7 1 4 0 (List.length (q :: qs) + 1), AVal.v (Value.slice none 0 0)], ([AObj.box [AVal.row 7 1 4 0 (List.length (q :: qs) + 1), AVal.v (Value.slice none 0 0)], AObj.box [iA (Prod.fst n), iA (Prod.fst (Prod.fst (Prod.snd n))), iA (Prod.snd (Prod.fst (Prod.snd n))), iA (Prod.snd (Prod.snd n))], AObj.box [AVal.row 7 1 4 0 (List.length (q :: qs) + 1), AVal.v (Value.slice none 0 0)], AObj.row 4 0 none [iA (Prod.fst n), iA (Prod.fst (Prod.fst (Prod.snd n))), iA (Prod.snd (Prod.fst (Prod.snd n))), iA (Prod.snd (Prod.snd n))], AObj.box [AVal.row 7 0 4 0 (List.length (q :: qs)), AVal.v (Value.slice none 0 0)], AObj.free, AObj.free, AObj.row 4 1 none zs] ++ List.replicate 6 AObj.free ++ [AObj.box [AVal.row 7 0 4 0 (List.length (q :: qs)), AVal.v (Value.slice none 0 0)]]))) _ (by kernel_rfl) (allOb_cons (by exact e2) (allOb_cons (by exact e1) (allOb_cons (by exact e0) allOb_nil)))
end Go.Proofs.YtkkgimhbliocoaaGreat
/- topo.WithNode of a plan without edges: a node among others, told. -/
namespace Go.Proofs.YtkkgimhbliocoaaGreat
open Go Vm M
set_option linter.unusedVariables false
set_option linter.unusedSectionVars false
set_option linter.unusedSimpArgs false
def midN (ms : List Nd) (n : Nd) (m : Nat) : List Nd := ms.take m ++ [n] ++ ms.drop m
theorem upL_append' : ∀ xs ys : List PVal, upL (xs ++ ys) = upL xs ++ upL ys
  | [], ys => rfl
  | x :: xs, ys => by simp [upL, upL_append' xs ys]
theorem upL_take' : ∀ (xs : List PVal) (k : Nat), (upL xs).take k = upL (xs.take k)
  | xs, 0 => by simp [upL]
  | [], k + 1 => rfl
  | x :: xs, k + 1 => by simp [upL, upL_take' xs k]
theorem upL_drop' : ∀ (xs : List PVal) (k : Nat), (upL xs).drop k = upL (xs.drop k)
  | xs, 0 => rfl
  | [], k + 1 => rfl
  | x :: xs, k + 1 => by simp [upL, upL_drop' xs k]
theorem mid_cells (ms : List Nd) (n : Nd) (m : Nat) : ((upL (flatN ms)).drop (0 * 4)).take (m * 4) ++ (([iA n.1, iA n.2.1.1, iA n.2.1.2, iA n.2.2] : List AVal).drop (0 * 4)).take 4 ++ ((upL (flatN ms)).drop ((0 + m) * 4)).take ((ms.length - m) * 4) = upL (flatN (midN ms n m)) := by
  unfold midN
  rw [flatN_append, flatN_append, upL_append', upL_append', Nat.zero_mul, List.drop_zero, upL_take', flatN_take, Nat.zero_add, upL_drop', flatN_drop, upL_take', show (flatN (ms.drop m)).take ((ms.length - m) * 4) = flatN (ms.drop m) from List.take_of_length_le (by rw [flatN_length, List.length_drop]; exact Nat.le_refl _)]
  rfl
theorem gInN_wi (ms : List Nd) (n : Nd) {m : Nat} (hm : m < ms.length) (hl : ms.length ≤ 999) : gInN 0 [.row 7 0 4 0 ms.length, iA m, .row 3 0 4 0 1] (wiS ms n (upL (flatN ms))) = some (.row 7 1 4 0 (ms.length + 1), (wiS ms n (upL (flatN ms))).set 7 (.row 4 1 none (upL (flatN (midN ms n m))))) := by
  have e7 : (wiS ms n (upL (flatN ms)))[7]? = some (.row 4 0 none (upL (flatN ms))) := rfl
  have e3 : (wiS ms n (upL (flatN ms)))[3]? = some (.row 4 0 none [iA n.1, iA n.2.1.1, iA n.2.1.2, iA n.2.2]) := rfl
  unfold gInN iA
  simp only [e7, e3]
  rw [if_pos ⟨trivial, trivial, trivial, trivial, trivial, trivial, trivial, by decide, by decide, by rw [upL_length, flatN_length]; omega, by simp, by omega, by omega, by omega⟩]
  unfold insNA
  rw [Int.toNat_natCast]
  have := mid_cells ms n m
  rw [this]
end Go.Proofs.YtkkgimhbliocoaaGreat
/- topo.WithNode of a plan without edges, a node among others: the call. -/
namespace Go.Proofs.YtkkgimhbliocoaaGreat
open Go Vm M
set_option linter.unusedVariables false
set_option linter.unusedSectionVars false
set_option linter.unusedSimpArgs false
set_option maxRecDepth 100000 in
theorem withMid_calls (q n : Nd) (qs : List Nd) (m : Nat) (hm : m < (q :: qs).length) (hl : (q :: qs).length ≤ 999) (hr : riseB (q :: qs) n.1 m) :
    CallsP Tryz.prog 89 [plN (q :: qs).length (flatN (q :: qs)), ndP n] (plN (midN (q :: qs) n m).length (flatN (midN (q :: qs) n m))) := by
  have hb := gBin_of (t := n.1) (by omega) hr
  have e := wiM_eq q n qs m (decide (m < (q :: qs).length) && ((nAt (q :: qs) m).1 == n.1)) (upL (flatN (midN (q :: qs) n m)))
    (callA_gS (g := gCo) (by kernel_rfl) (gCo_wn q n qs (by omega)))
    (callA_lend (g := gBin) (r := binV (q :: qs) n.1 m) (by kernel_rfl) (by kernel_rfl) (by kernel_rfl) (by
      have h8 := peekT_rowN (S := [.box [.row 7 0 4 0 (q :: qs).length, nilA], ndB n, .box [nilA, nilA], .free, .box [.row 7 0 4 0 (q :: qs).length, nilA], .free, .free, .row 4 0 none (upL (flatN (q :: qs))), .free, .free, .free, .free, .free, .free, .box [.row 7 0 4 0 (q :: qs).length, nilA]]) (o := 7) (n := 4) (e := 0) (fz := none) (ns := q :: qs) rfl
      refine Eq.trans (congrArg gBin ?_) hb
      exact congrArg (fun x => [x, iP n.1, fnW]) h8) rfl)
    (callA_gS (g := gInN) (by kernel_rfl) (gInN_wi (q :: qs) n hm hl))
  have hA := (evalF_ok (cfX_ok KB3) 62).calls _ _ _ _ _ _ e
  refine callsP_of_A (ps := [plN (q :: qs).length (flatN (q :: qs)), ndP n]) hA ?_
  have hlen : (midN (q :: qs) n m).length = (q :: qs).length + 1 := by simp only [midN, List.length_append, List.length_take, List.length_drop, List.length_singleton]; omega
  have hm : Vm.mark 0 5 (wiM q n qs m (decide (m < (q :: qs).length) && ((nAt (q :: qs) m).1 == n.1)) (upL (flatN (midN (q :: qs) n m)))).2 (.row 7 1 4 0 ((q :: qs).length + 1)) = _ := mark_rowN (o := 7) (e := 1) (n := 4) (fz := none) (ns := midN (q :: qs) n m) rfl
  show peek (Vm.mark 0 5 (Vm.mark 0 5 (wiM q n qs m (decide (m < (q :: qs).length) && ((nAt (q :: qs) m).1 == n.1)) (upL (flatN (midN (q :: qs) n m)))).2 (.row 7 1 4 0 ((q :: qs).length + 1))) nilA) deep (.agg [.row 7 1 4 0 ((q :: qs).length + 1), nilA]) = _
  rw [hm]
  have hp := peek_rowN (S := ((wiM q n qs m (decide (m < (q :: qs).length) && ((nAt (q :: qs) m).1 == n.1)) (upL (flatN (midN (q :: qs) n m)))).2).set 7 (.row 4 1 (some (upL (flatN (midN (q :: qs) n m))).length) (upL (flatN (midN (q :: qs) n m))))) (o := 7) (n := 3) (e := 1) (ns := midN (q :: qs) n m) rfl
  rw [hlen] at hp
  show (mapO (peek _ 5) [.row 7 1 4 0 ((q :: qs).length + 1), nilA]).map PVal.agg = _
  simp only [mapO]
  rw [show peek (Vm.mark 0 5 (((wiM q n qs m (decide (m < (q :: qs).length) && ((nAt (q :: qs) m).1 == n.1)) (upL (flatN (midN (q :: qs) n m)))).2).set 7 (.row 4 1 (some (upL (flatN (midN (q :: qs) n m))).length) (upL (flatN (midN (q :: qs) n m))))) nilA) 5 (.row 7 1 4 0 ((q :: qs).length + 1)) = some (nsP (midN (q :: qs) n m)) from hp]
  rfl
end Go.Proofs.YtkkgimhbliocoaaGreat
/- topo.AddNode of a plan without edges. -/
namespace Go.Proofs.YtkkgimhbliocoaaGreat
open Go Vm M
set_option linter.unusedVariables false
set_option linter.unusedSimpArgs false
def okC (p : P2) : PVal :=
  (bif decide (Prod.fst p ≥ -1048576) then (bif decide (Prod.fst p ≤ 1048576) then (bif decide (Prod.snd p ≥ -1048576) then bP (decide (Prod.snd p ≤ 1048576)) else bP false) else bP false) else bP false)
theorem okC_calls (p : P2) : CallsP Tryz.prog 68 [ptP p] (okC p) := by
  have key := fun (bs : List Bool) (r : PVal) (ob : List Prop) (h : callP (cfM KB3) (evalF (cfM KB3) 60) 60 [] 68 [ptP p] bs [] (none) = .ok (r, ob)) (hp : allOb ob) => callP_ok (cfM_ok KB3) h hp
  unfold okC
  exact bif_case (P := fun r => CallsP Tryz.prog 68 [ptP p] r)
    (fun h0 => bif_case (P := fun r => CallsP Tryz.prog 68 [ptP p] r)
     (fun h1 => bif_case (P := fun r => CallsP Tryz.prog 68 [ptP p] r)
      (fun h2 => key [true, true, true] (bP (decide (Prod.snd p ≤ 1048576))) _ (by kernel_rfl) (allOb_cons h2 (allOb_cons h1 (allOb_cons h0 allOb_nil))))
      (fun h2 => key [true, true, false] (bP false) _ (by kernel_rfl) (allOb_cons h2 (allOb_cons h1 (allOb_cons h0 allOb_nil)))))
     (fun h1 => key [true, false, false] (bP false) _ (by kernel_rfl) (allOb_cons lit_f (allOb_cons h1 (allOb_cons h0 allOb_nil)))))
    (fun h0 => key [false, false, false] (bP false) _ (by kernel_rfl) (allOb_cons lit_f (allOb_cons lit_f (allOb_cons h0 allOb_nil))))
/-- Where all nodes have lesser numbers. -/
def endB (ns : List Nd) (t : Int) : Bool := (List.range ns.length).all fun k => decide ((nAt ns k).1 < t)
theorem rise_end {ns : List Nd} {t : Int} (h : endB ns t = true) : riseB ns t ns.length := by
  unfold endB at h
  rw [List.all_eq_true] at h
  exact ⟨Nat.le_refl _, fun k hk => of_decide_eq_true (h k (List.mem_range.2 hk)), fun k h1 h2 => by omega⟩
theorem withEnd_all {ns : List Nd} {n : Nd} (h1 : 1 ≤ ns.length) (hl : ns.length ≤ 999) (h : endB ns n.1 = true) : CallsP Tryz.prog 89 [plN ns.length (flatN ns), ndP n] (plN (ns ++ [n]).length (flatN (ns ++ [n]))) := by
  cases ns with
  | nil => simp at h1
  | cons q qs => exact withEnd_calls q n qs hl (rise_end h)
def gWith (args : List PVal) : Option PVal := withNs args fun ns r => match r with
  | [.agg [.v (.int .i64 a), .v (.int .i64 b), .v (.int .i64 c), .v (.int .i64 d)]] => if 1 ≤ ns.length ∧ ns.length ≤ 999 ∧ endB ns a = true then some (plN (ns ++ [(a, (b, c), d)]).length (flatN (ns ++ [(a, (b, c), d)]))) else none
  | _ => none
theorem gWith_spec : ∀ args v, gWith args = some v → CallsP Tryz.prog 89 args v := withNs_spec fun ns r v h => by
  split at h
  · rename_i a b c d
    split at h
    · rename_i hc
      simp only [Option.some.injEq] at h
      subst h
      exact withEnd_all (n := (a, (b, c), d)) hc.1 hc.2.1 hc.2.2
    · cases h
  · cases h
noncomputable def KA1 : Lib Tryz.prog := KB3.add 68 (g1 fun p => okC p) (Vm.enters_of named_prog Tryz.func68 (by kernel_rfl)) (g1_spec okC_calls)
noncomputable def KA2 : Lib Tryz.prog := KA1.add 41 (gLn fun l => iP (unuK l + 1 : Nat)) (Vm.enters_of named_prog Tryz.func41 (by kernel_rfl)) (gLn_spec fun l h => unused_calls (Lib.none _) l h)
noncomputable def KA3 : Lib Tryz.prog := KA2.add 89 gWith (Vm.enters_of named_prog Tryz.func89 (by kernel_rfl)) gWith_spec
def addC (q : Nd) (qs : List Nd) (p : P2) (okp : Bool) (fr : Bool) (il : List Int) (m : Nat) (xs : List PVal) (id : Int) (fc : Int) : PVal :=
  (bif !okp then PVal.tup [PVal.agg [PVal.v (Value.slice none 0 0), PVal.v (Value.slice none 0 0)], iP (Int.ofNat 0), iP (Int.ofNat 25)] else (bif !fr then PVal.tup [PVal.agg [PVal.v (Value.slice none 0 0), PVal.v (Value.slice none 0 0)], iP (Int.ofNat 0), iP (Int.ofNat 26)] else (bif decide ((↑(List.length (q :: qs)) : Int) ≥ 200) then PVal.tup [PVal.agg [PVal.v (Value.slice none 0 0), PVal.v (Value.slice none 0 0)], iP (Int.ofNat 0), iP (Int.ofNat 65)] else PVal.tup [PVal.agg [PVal.list m xs, PVal.v (Value.slice none 0 0)], iP id, iP (Int.ofNat 0)])))
theorem addC_calls (q : Nd) (qs : List Nd) (p : P2) (okp : Bool) (fr : Bool) (il : List Int) (m : Nat) (xs : List PVal) (id : Int) (fc : Int) (e0 : pureCall (cfM KA3) (evalF (cfM KA3) 60) 68 [ptP p] = some (bP okp)) (e1 : (!okp) = false → pureCall (cfM KA3) (evalF (cfM KA3) 60) 59 [PVal.agg [PVal.list (List.length (q :: qs)) (iP (Prod.fst q) :: iP (Prod.fst (Prod.fst (Prod.snd q))) :: iP (Prod.snd (Prod.fst (Prod.snd q))) :: iP (Prod.snd (Prod.snd q)) :: flatN qs), PVal.v (Value.slice none 0 0)], ptP p] = some (bP fr)) (e2 : (!okp) = false → (!fr) = false → (decide ((↑(List.length (q :: qs)) : Int) ≥ 200)) = false → pureCall (cfM KA3) (evalF (cfM KA3) 60) 88 [PVal.agg [PVal.list (List.length (q :: qs)) (iP (Prod.fst q) :: iP (Prod.fst (Prod.fst (Prod.snd q))) :: iP (Prod.snd (Prod.fst (Prod.snd q))) :: iP (Prod.snd (Prod.snd q)) :: flatN qs), PVal.v (Value.slice none 0 0)]] = some (PVal.list (List.length il) (intP il))) (e3 : (!okp) = false → (!fr) = false → (decide ((↑(List.length (q :: qs)) : Int) ≥ 200)) = false → pureCall (cfM KA3) (evalF (cfM KA3) 60) 41 [PVal.list (List.length il) (intP il)] = some (iP id)) (e4 : (!okp) = false → (!fr) = false → (decide ((↑(List.length (q :: qs)) : Int) ≥ 200)) = false → pureCall (cfM KA3) (evalF (cfM KA3) 60) 69 [PVal.agg [PVal.list (List.length (q :: qs)) (iP (Prod.fst q) :: iP (Prod.fst (Prod.fst (Prod.snd q))) :: iP (Prod.snd (Prod.fst (Prod.snd q))) :: iP (Prod.snd (Prod.snd q)) :: flatN qs), PVal.v (Value.slice none 0 0)], ptP p] = some (iP fc)) (e5 : (!okp) = false → (!fr) = false → (decide ((↑(List.length (q :: qs)) : Int) ≥ 200)) = false → pureCall (cfM KA3) (evalF (cfM KA3) 60) 89 [PVal.agg [PVal.list (List.length (q :: qs)) (iP (Prod.fst q) :: iP (Prod.fst (Prod.fst (Prod.snd q))) :: iP (Prod.snd (Prod.fst (Prod.snd q))) :: iP (Prod.snd (Prod.snd q)) :: flatN qs), PVal.v (Value.slice none 0 0)], PVal.agg [iP id, iP (Prod.fst p), iP (Prod.snd p), iP fc]] = some (PVal.agg [PVal.list m xs, PVal.v (Value.slice none 0 0)])) : CallsP Tryz.prog 43 [plN (List.length (q :: qs)) (flatN (q :: qs)), ptP p] (addC q qs p okp fr il m xs id fc) := by
  have key := fun (bs : List Bool) (r : PVal) (ob : List Prop) (h : callP (cfM KA3) (evalF (cfM KA3) 60) 60 [(1, 1, Hint.pcall (bP okp)), (3, 2, Hint.pcall (bP fr)), (7, 1, Hint.pcall (slI il)), (7, 2, Hint.pcall (iP id)), (8, 5, Hint.pcall (iP fc)), (8, 7, Hint.pcall (plN m xs))] 43 [plN (List.length (q :: qs)) (flatN (q :: qs)), ptP p] bs [] (none) = .ok (r, ob)) (hp : allOb ob) => callP_ok (cfM_ok KA3) h hp
  unfold addC
  exact bif_case (P := fun r => CallsP Tryz.prog 43 [plN (List.length (q :: qs)) (flatN (q :: qs)), ptP p] r)
    (fun h0 => key [true] (PVal.tup [PVal.agg [PVal.v (Value.slice none 0 0), PVal.v (Value.slice none 0 0)], iP (Int.ofNat 0), iP (Int.ofNat 25)]) _ (by kernel_rfl) (allOb_cons h0 (allOb_cons (by exact e0) allOb_nil)))
    (fun h0 => bif_case (P := fun r => CallsP Tryz.prog 43 [plN (List.length (q :: qs)) (flatN (q :: qs)), ptP p] r)
     (fun h1 => key [false, true] (PVal.tup [PVal.agg [PVal.v (Value.slice none 0 0), PVal.v (Value.slice none 0 0)], iP (Int.ofNat 0), iP (Int.ofNat 26)]) _ (by kernel_rfl) (allOb_cons h1 (allOb_cons (by exact (e1 h0)) (allOb_cons h0 (allOb_cons (by exact e0) allOb_nil)))))
     (fun h1 => bif_case (P := fun r => CallsP Tryz.prog 43 [plN (List.length (q :: qs)) (flatN (q :: qs)), ptP p] r)
      (fun h2 => key [false, false, true] (PVal.tup [PVal.agg [PVal.v (Value.slice none 0 0), PVal.v (Value.slice none 0 0)], iP (Int.ofNat 0), iP (Int.ofNat 65)]) _ (by kernel_rfl) (allOb_cons h2 (allOb_cons h1 (allOb_cons (by exact (e1 h0)) (allOb_cons h0 (allOb_cons (by exact e0) allOb_nil))))))
      (fun h2 => key [false, false, false] (PVal.tup [PVal.agg [PVal.list m xs, PVal.v (Value.slice none 0 0)], iP id, iP (Int.ofNat 0)]) _ (by kernel_rfl) (allOb_cons (by exact (e5 h0 h1 h2)) (allOb_cons (by exact (e4 h0 h1 h2)) (allOb_cons (by exact (e3 h0 h1 h2)) (allOb_cons (by exact (e2 h0 h1 h2)) (allOb_cons h2 (allOb_cons h1 (allOb_cons (by exact (e1 h0)) (allOb_cons h0 (allOb_cons (by exact e0) allOb_nil))))))))))))
end Go.Proofs.YtkkgimhbliocoaaGreat
/- topo.AddNode of a plan without edges, where the new number is greater than all others. -/
namespace Go.Proofs.YtkkgimhbliocoaaGreat
open Go Vm M
set_option linter.unusedVariables false
set_option linter.unusedSectionVars false
set_option linter.unusedSimpArgs false
section
variable {ev : Ev}
theorem a_ok (p : P2) {b : Bool} (h : okC p = bP b) : pureCall (cfM KA3) ev 68 [ptP p] = some (bP b) := pure_given (g := g1 fun p => okC p) (by kernel_rfl) (by rw [← h]; rfl)
theorem a_free (ns : List Nd) (p : P2) (h : ns.length ≤ 1000) : pureCall (cfM KA3) ev 59 [plN ns.length (flatN ns), ptP p] = some (bP (!hasN ns (nearP p))) := freeG ns p h (by kernel_rfl)
theorem a_face (ns : List Nd) (p : P2) (h : ns.length ≤ 1000) : pureCall (cfM KA3) ev 69 [plN ns.length (flatN ns), ptP p] = some (iP 0) := faceG ns p h (by kernel_rfl)
theorem a_ids (ns : List Nd) (h1 : 1 ≤ ns.length) (h : ns.length ≤ 1000) : pureCall (cfM KA3) ev 88 [plN ns.length (flatN ns)] = some (slI (idsI ns)) := pure_given (g := gIDs) (by kernel_rfl) (by unfold gIDs; rw [withNs_ok]; exact if_pos ⟨h1, h⟩)
theorem a_un (l : List Int) (h : l.length ≤ 1000) : pureCall (cfM KA3) ev 41 [slI l] = some (iP (unuK l + 1 : Nat)) := pure_given (g := gLn fun l => iP (unuK l + 1 : Nat)) (by kernel_rfl) (by unfold gLn; simp only [unI_slI]; exact if_pos h)
theorem a_with (ns : List Nd) (n : Nd) (h1 : 1 ≤ ns.length) (hl : ns.length ≤ 999) (h : endB ns n.1 = true) : pureCall (cfM KA3) ev 89 [plN ns.length (flatN ns), ndP n] = some (plN (ns ++ [n]).length (flatN (ns ++ [n]))) := pure_given (g := gWith) (by kernel_rfl) (by unfold gWith; rw [withNs_ok]; exact if_pos ⟨h1, hl, h⟩)
end
/-- A node is put behind all others. -/
theorem addEnd_calls (ns : List Nd) (p : P2) (h1 : 1 ≤ ns.length) (hl : ns.length < 200) (ho : okC p = bP true) (hf : hasN ns (nearP p) = false) (he : endB ns (unuK (idsI ns) + 1 : Nat) = true) :
    CallsP Tryz.prog 43 [plN ns.length (flatN ns), ptP p] (.tup [plN (ns ++ [(((unuK (idsI ns) + 1 : Nat) : Int), p, 0)]).length (flatN (ns ++ [(((unuK (idsI ns) + 1 : Nat) : Int), p, 0)])), iP (unuK (idsI ns) + 1 : Nat), iP 0]) := by
  cases ns with
  | nil => simp at h1
  | cons q qs =>
    have hi : (idsI (q :: qs)).length ≤ 1000 := by simp only [idsI, List.length_map]; omega
    have := addC_calls q qs p true true (idsI (q :: qs)) _ _ _ _ (a_ok p ho) (fun _ => by have := a_free (ev := evalF (cfM KA3) 60) (q :: qs) p (by omega); rw [hf] at this; exact this) (fun _ _ _ => a_ids (q :: qs) h1 (by omega)) (fun _ _ _ => a_un _ hi) (fun _ _ _ => a_face (q :: qs) p (by omega)) (fun _ _ _ => a_with (q :: qs) (((unuK (idsI (q :: qs)) + 1 : Nat) : Int), p, 0) h1 (by omega) he)
    unfold addC at this
    rw [Bool.not_true, cond_false, cond_false, decide_eq_false (by omega : ¬ (((q :: qs).length : Int) ≥ 200)), cond_false] at this
    exact this
/-- There are too many. -/
theorem addMany_calls (ns : List Nd) (p : P2) (hl : 200 ≤ ns.length) (h2 : ns.length ≤ 1000) (ho : okC p = bP true) (hf : hasN ns (nearP p) = false) :
    CallsP Tryz.prog 43 [plN ns.length (flatN ns), ptP p] (.tup [.agg [nilP, nilP], iP 0, iP 65]) := by
  cases ns with
  | nil => simp at hl
  | cons q qs =>
    have h : ¬ decide (((q :: qs).length : Int) ≥ 200) = false := by rw [decide_eq_true (by omega : ((q :: qs).length : Int) ≥ 200)]; simp
    have := addC_calls q qs p true true [] 0 [] 0 0 (a_ok p ho) (fun _ => by have := a_free (ev := evalF (cfM KA3) 60) (q :: qs) p h2; rw [hf] at this; exact this) (fun _ _ h3 => absurd h3 h) (fun _ _ h3 => absurd h3 h) (fun _ _ h3 => absurd h3 h) (fun _ _ h3 => absurd h3 h)
    unfold addC at this
    rw [Bool.not_true, cond_false, cond_false, decide_eq_true (by omega : (((q :: qs).length : Int) ≥ 200)), cond_true] at this
    exact this
end Go.Proofs.YtkkgimhbliocoaaGreat
/- The search for a number among nodes, one by one: plan.Node's. -/
namespace Go.Proofs.YtkkgimhbliocoaaGreat
open Go Vm M
set_option linter.unusedVariables false
set_option linter.unusedSimpArgs false
def pnE (t : Int) : PVal := .ptr [.v (.int .i64 t)]
def pnP (t : Int) : PVal := .fn 181 [.ptr [.v (.int .i64 t)]]
def pnF (t : Int) : AVal := .fn 181 [.eptr [.v (.int .i64 t)]]
def nyT (ns : List Nd) (t : Int) (i : Int) : List AVal := [nsA ns, pnF t] ++ jk 5 ++ [iA ns.length, iA i] ++ jk 10
def pn1 (m : Nd) (t : Int) : PVal :=
  bP (Prod.fst m == t)
theorem pn1_calls (m : Nd) (t : Int) : CallsP Tryz.prog 181 [ndP m, pnE t] (pn1 m t) := by
  have key := fun (bs : List Bool) (r : PVal) (ob : List Prop) (h : callP (cfM KA3) (evalF (cfM KA3) 60) 60 [] 181 [ndP m, pnE t] bs [] (none) = .ok (r, ob)) (hp : allOb ob) => callP_ok (cfM_ok KA3) h hp
  unfold pn1
  exact key [] (bP (Prod.fst m == t)) _ (by kernel_rfl) allOb_nil
def gPn1 : List PVal → Option PVal
  | [.agg [.v (.int .i64 a), .v (.int .i64 b), .v (.int .i64 c), .v (.int .i64 d)], .ptr [.v (.int .i64 t)]] => some (pn1 (a, (b, c), d) t)
  | _ => none
theorem gPn1_spec : ∀ args v, gPn1 args = some v → CallsP Tryz.prog 181 args v := by
  intro args v h
  unfold gPn1 at h
  split at h
  · rename_i a b c d t
    simp only [Option.some.injEq] at h
    subst h
    exact pn1_calls (a, (b, c), d) t
  · cases h
noncomputable def KP1 : Lib Tryz.prog := KA3.add 181 gPn1 (Vm.enters_of named_prog Tryz.func181 (by kernel_rfl)) gPn1_spec
def nyK (ns : List Nd) (t : Int) (i : Int) (q : Nd) (j : Bool) : AExit × List AVal × List AObj :=
  (bif decide (i < (↑(List.length ns) : Int)) then (bif j then (AExit.ret, ((jk 4 ++ [iA i] ++ jk 14), [])) else (AExit.normal, (([AVal.list (List.length ns) (flatN ns), AVal.fn 181 [AVal.eptr [iP t]]] ++ jk 5 ++ [iA (Int.ofNat (List.length ns)), iA (IntKind.i64.wrap (i + 1))] ++ jk 10), []))) else (AExit.exit 0, (([AVal.list (List.length ns) (flatN ns), AVal.fn 181 [AVal.eptr [iP t]]] ++ jk 5 ++ [iA (Int.ofNat (List.length ns)), iA i, bA false] ++ jk 9), [])))
theorem nyK_eq (ns : List Nd) (t : Int) (i : Int) (q : Nd) (j : Bool) (b0 : (decide (i < (↑(List.length ns) : Int))) = true → (0 : Int) ≤ i ∧ (i : Int) < (↑(List.length ns) : Int)) (e0 : (decide (i < (↑(List.length ns) : Int))) = true → partA (Cfg.P (cfM KP1)) 30 (upL (List.drop (Int.toNat i * 4) (flatN ns))) 0 = some (ndA q)) (e1 : (decide (i < (↑(List.length ns) : Int))) = true → pureCall (cfM KP1) (evalF (cfM KP1) 60) 181 [PVal.agg [iP (Prod.fst q), iP (Prod.fst (Prod.fst (Prod.snd q))), iP (Prod.snd (Prod.fst (Prod.snd q))), iP (Prod.snd (Prod.snd q))], PVal.ptr [iP t]] = some (bP j)) : evalC (cfM KP1) (evalF (cfM KP1) 60) (ixLv) 0 0 60 (loopAt Tryz.f165 0) (nyT ns t i) ([]) = some (nyK ns t i q j) := by
  have key := fun (bs : List Bool) (r : AExit × List AVal × List AObj) (ob : List Prop) (h : pathP (cfM KP1) (evalF (cfM KP1) 60) (ixLv) 0 0 60 [(4, 3, Hint.idx), (4, 4, Hint.load (ndA q)), (4, 5, Hint.pcall (bP j))] (loopAt Tryz.f165 0) (nyT ns t i) ([]) bs [] = .ok (r.1, r.2.1, r.2.2, ob)) (hp : allOb ob) => pathP_ok h hp
  unfold nyK
  exact bif_case (P := fun r => evalC (cfM KP1) (evalF (cfM KP1) 60) (ixLv) 0 0 60 (loopAt Tryz.f165 0) (nyT ns t i) ([]) = some r)
    (fun h0 => bif_case (P := fun r => evalC (cfM KP1) (evalF (cfM KP1) 60) (ixLv) 0 0 60 (loopAt Tryz.f165 0) (nyT ns t i) ([]) = some r)
     (fun h1 => key [true, true] ((AExit.ret, ((jk 4 ++ [iA i] ++ jk 14), []))) _ (by kernel_rfl) (allOb_cons h1 (allOb_cons (by exact (e1 h0)) (allOb_cons (by exact (e0 h0)) (allOb_cons (idx_okN (b0 h0)) (allOb_cons h0 allOb_nil))))))
     (fun h1 => key [true, false] ((AExit.normal, (([AVal.list (List.length ns) (flatN ns), AVal.fn 181 [AVal.eptr [iP t]]] ++ jk 5 ++ [iA (Int.ofNat (List.length ns)), iA (IntKind.i64.wrap (i + 1))] ++ jk 10), []))) _ (by kernel_rfl) (allOb_cons h1 (allOb_cons (by exact (e1 h0)) (allOb_cons (by exact (e0 h0)) (allOb_cons (idx_okN (b0 h0)) (allOb_cons h0 allOb_nil)))))))
    (fun h0 => key [false] ((AExit.exit 0, (([AVal.list (List.length ns) (flatN ns), AVal.fn 181 [AVal.eptr [iP t]]] ++ jk 5 ++ [iA (Int.ofNat (List.length ns)), iA i, bA false] ++ jk 9), []))) _ (by kernel_rfl) (allOb_cons h0 allOb_nil))
end Go.Proofs.YtkkgimhbliocoaaGreat
/- The search for a number among nodes, one by one. -/
namespace Go.Proofs.YtkkgimhbliocoaaGreat
open Go Vm M
set_option linter.unusedVariables false
set_option linter.unusedSectionVars false
set_option linter.unusedSimpArgs false
def atI2 (ns : List Nd) (t : Int) (k : Nat) : Bool := (nAt ns k).1 == t
def ixI (ns : List Nd) (t : Int) : Int := match firstAt (atI2 ns t) ns.length 0 with
  | some j => (j : Int)
  | none => -1
theorem ixA_tabP : (cfM KP1).tab 165 = some ixA := by kernel_rfl
theorem pnG (m : Nd) (t : Int) {ev : Ev} : pureCall (cfM KP1) ev 181 [ndP m, pnE t] = some (bP (m.1 == t)) := pure_given (g := gPn1) (by kernel_rfl) rfl
theorem evP1_ok : EvOk (cfM KP1) (evalF (cfM KP1) 60) := evalF_ok (cfM_ok KP1) 60
section
variable (ns : List Nd) (t : Int)
theorem ny_at (hl : ns.length ≤ 1000) {k : Nat} (h : k < ns.length) : evalC (cfM KP1) (evalF (cfM KP1) 60) ixLv 0 0 60 ixK (nyT ns t k) [] = some (nyK ns t k (nAt ns k) (atI2 ns t k)) :=
  nyK_eq ns t k (nAt ns k) (atI2 ns t k) (fun _ => by omega) (fun _ => partN h) (fun _ => pnG (nAt ns k) t)
theorem ny_step (hl : ns.length ≤ 1000) {k : Nat} (h : k < ns.length) (hc : atI2 ns t k = false) : EV (cfM KP1) 0 ixK (nyT ns t k) [] .normal (nyT ns t (k + 1 : Nat)) [] := by
  have e := ny_at ns t hl h
  unfold nyK at e
  rw [decide_eq_true (by omega : ((k : Int) < (ns.length : Int))), cond_true, hc, cond_false, wrS (by omega)] at e
  exact EV.of (cfM_ok KP1) evP1_ok e
theorem ny_hit (hl : ns.length ≤ 1000) {k : Nat} (h : k < ns.length) (hc : atI2 ns t k = true) : EV (cfM KP1) 0 ixK (nyT ns t k) [] .ret (jk 4 ++ [iA k] ++ jk 14) [] := by
  have e := ny_at ns t hl h
  unfold nyK at e
  rw [decide_eq_true (by omega : ((k : Int) < (ns.length : Int))), cond_true, hc, cond_true] at e
  exact EV.of (cfM_ok KP1) evP1_ok e
def nyE : List AVal := [nsA ns, pnF t] ++ jk 5 ++ [iA ns.length, iA ns.length, bA false] ++ jk 9
theorem ny_end (hl : ns.length ≤ 1000) : EV (cfM KP1) 0 ixK (nyT ns t ns.length) [] (.exit 0) (nyE ns t) [] := by
  have e := nyK_eq ns t ns.length (nAt ns 0) false (fun h => by have := of_decide_eq_true h; omega) (fun h => by have := of_decide_eq_true h; omega) (fun h => by have := of_decide_eq_true h; omega)
  unfold nyK at e
  rw [decide_eq_false (by omega : ¬ ((ns.length : Int) < (ns.length : Int))), cond_false] at e
  exact EV.of (cfM_ok KP1) evP1_ok e
noncomputable def ix0y : List AVal × List AObj := (evalL (cfM KP1) (evalF (cfM KP1) 60) ixLv 0 0 60 (headL 1 ixB) (upL [nsP ns, pnP t] ++ List.replicate (ixA.ntmps - (upL [nsP ns, pnP t]).length) (.v undef)) []).getD ([], [])
theorem ix0y_eq : evalL (cfM KP1) (evalF (cfM KP1) 60) ixLv 0 0 60 (headL 1 ixB) (upL [nsP ns, pnP t] ++ List.replicate (ixA.ntmps - (upL [nsP ns, pnP t]).length) (.v undef)) [] = some ((ix0y ns t).1, (ix0y ns t).2) := by kernel_rfl
noncomputable def ix3y : AExit × List AVal × List AObj := (evalC (cfM KP1) (evalF (cfM KP1) 60) ixLv 0 0 60 ix1 (ix0y ns t).1 (ix0y ns t).2).getD (.normal, [], [])
theorem ix3y_eq : evalC (cfM KP1) (evalF (cfM KP1) 60) ixLv 0 0 60 ix1 (ix0y ns t).1 (ix0y ns t).2 = some (.normal, (ix3y ns t).2.1, (ix3y ns t).2.2) := by kernel_rfl
theorem ix3y_ev : EV (cfM KP1) 0 ix1 (ix0y ns t).1 (ix0y ns t).2 .normal (nyT ns t (0 : Nat)) [] := EV.tidy [] (EV.of (cfM_ok KP1) evP1_ok (ix3y_eq ns t)) (fun q hq y hy => by simp at hq) (by kernel_rfl)
noncomputable def ix9y : AExit × List AVal × List AObj := (evalC (cfM KP1) (evalF (cfM KP1) 60) ixLv 0 0 60 ix2 (nyE ns t) []).getD (.normal, [], [])
theorem ix9y_eq : evalC (cfM KP1) (evalF (cfM KP1) 60) ixLv 0 0 60 ix2 (nyE ns t) [] = some (.ret, (ix9y ns t).2.1, (ix9y ns t).2.2) := by kernel_rfl
theorem ixI_calls (hl : ns.length ≤ 1000) : CallsP Tryz.prog 165 [nsP ns, pnP t] (iP (ixI ns t)) := by
  unfold ixI
  cases h : firstAt (atI2 ns t) ns.length 0 with
  | some j =>
    refine callsP_of_A (r0 := iA j) (S := []) (callsA_of_EV (cfM_ok KP1) ixA_tabP (x := .ret) (.inr rfl) (T' := jk 4 ++ [iA j] ++ jk 14) (by kernel_rfl) ?_) (by kernel_rfl)
    rw [ixA_body]
    refine EV.head (cfM_ok KP1) evP1_ok 1 (ix0y_eq ns t) ?_
    rw [ix_tail]
    exact EV.seqX (EV.seq (ix3y_ev ns t) (EV.blockR (EV.found (T := fun k => nyT ns t k) (S := fun _ => []) h (fun k hk hc => ny_step ns t hl hk hc) (fun hk hc => ny_hit ns t hl hk hc) (by simp)))) (by simp)
  | none =>
    refine callsP_of_A (r0 := iA (-1)) (S := (ix9y ns t).2.2) (callsA_of_EV (cfM_ok KP1) ixA_tabP (x := .ret) (.inr rfl) (T' := (ix9y ns t).2.1) (by kernel_rfl) ?_) (by kernel_rfl)
    rw [ixA_body]
    refine EV.head (cfM_ok KP1) evP1_ok 1 (ix0y_eq ns t) ?_
    rw [ix_tail]
    exact EV.seq (EV.seq (ix3y_ev ns t) (EV.block (EV.missed (T := fun k => nyT ns t k) (S := fun _ => []) h (fun k hk hc => ny_step ns t hl hk hc) (ny_end ns t hl) (by simp)))) (EV.of (cfM_ok KP1) evP1_ok (ix9y_eq ns t))
end
end Go.Proofs.YtkkgimhbliocoaaGreat
/- plan.Node, topo.Isolated and topo.alone of a plan without edges. -/
namespace Go.Proofs.YtkkgimhbliocoaaGreat
open Go Vm M
set_option linter.unusedVariables false
set_option linter.unusedSimpArgs false
/-- What is given a slice of nodes, and whether a number is a node's. -/
def gIxP (args : List PVal) : Option PVal :=
  match args with
  | [.list k xs, .fn f [.ptr [.v (.int .i64 t)]]] => match unN xs with
    | some ns => if f = 181 ∧ k = ns.length ∧ ns.length ≤ 1000 then some (iP (ixI ns t)) else none
    | none => none
  | _ => none
theorem gIxP_ok (ns : List Nd) (t : Int) (h : ns.length ≤ 1000) : gIxP [nsP ns, pnP t] = some (iP (ixI ns t)) := by
  unfold gIxP nsP pnP
  simp only [unN_flat]
  rw [if_pos ⟨trivial, trivial, h⟩]
theorem gIxP_spec : ∀ args v, gIxP args = some v → CallsP Tryz.prog 165 args v := by
  intro args v h
  unfold gIxP at h
  split at h
  · rename_i k xs f t
    split at h
    · rename_i ns hn
      split at h
      · rename_i hc
        obtain ⟨rfl, rfl, hl⟩ := hc
        have := unN_some hn
        subst this
        simp only [Option.some.injEq] at h
        subst h
        exact ixI_calls ns t hl
      · cases h
    · cases h
  · cases h
noncomputable def KP2 : Lib Tryz.prog := KP1.add 165 gIxP (Vm.enters_of named_prog Tryz.func165 (by kernel_rfl)) gIxP_spec
theorem ixPG (ns : List Nd) (t : Int) (h : ns.length ≤ 1000) {ev : Ev} : pureCall (cfM KP2) ev 165 [nsP ns, pnP t] = some (iP (ixI ns t)) := pure_given (g := gIxP) (by kernel_rfl) (gIxP_ok ns t h)
def plNode (ns : List Nd) (t : Int) (i : Int) (q : Nd) : PVal :=
  (bif decide (i < 0) then PVal.tup [PVal.agg [iP (Int.ofNat 0), iP (Int.ofNat 0), iP (Int.ofNat 0), iP (Int.ofNat 0)], bP false] else PVal.tup [PVal.agg [iP (Prod.fst q), iP (Prod.fst (Prod.fst (Prod.snd q))), iP (Prod.snd (Prod.fst (Prod.snd q))), iP (Prod.snd (Prod.snd q))], bP true])
theorem plNode_calls (ns : List Nd) (t : Int) (i : Int) (q : Nd) (e0 : pureCall (cfM KP2) (evalF (cfM KP2) 60) 165 [PVal.list (List.length ns) (flatN ns), PVal.fn 181 [PVal.ptr [iP t]]] = some (iP i)) (b0 : (decide (i < 0)) = false → (0 : Int) ≤ i ∧ (i : Int) < (↑(List.length ns) : Int)) (e1 : (decide (i < 0)) = false → partA (Cfg.P (cfM KP2)) 30 (upL (List.drop (Int.toNat i * 4) (flatN ns))) 0 = some (ndA q)) : CallsP Tryz.prog 147 [plN (List.length ns) (flatN ns), iP t] (plNode ns t i q) := by
  have key := fun (bs : List Bool) (r : PVal) (ob : List Prop) (h : callP (cfM KP2) (evalF (cfM KP2) 60) 60 [(1, 3, Hint.pcall (iP i)), (4, 3, Hint.idx), (4, 4, Hint.load (ndA q))] 147 [plN (List.length ns) (flatN ns), iP t] bs [] (none) = .ok (r, ob)) (hp : allOb ob) => callP_ok (cfM_ok KP2) h hp
  unfold plNode
  exact bif_case (P := fun r => CallsP Tryz.prog 147 [plN (List.length ns) (flatN ns), iP t] r)
    (fun h0 => key [true] (PVal.tup [PVal.agg [iP (Int.ofNat 0), iP (Int.ofNat 0), iP (Int.ofNat 0), iP (Int.ofNat 0)], bP false]) _ (by kernel_rfl) (allOb_cons h0 (allOb_cons (by exact e0) allOb_nil)))
    (fun h0 => key [false] (PVal.tup [PVal.agg [iP (Prod.fst q), iP (Prod.fst (Prod.fst (Prod.snd q))), iP (Prod.snd (Prod.fst (Prod.snd q))), iP (Prod.snd (Prod.snd q))], bP true]) _ (by kernel_rfl) (allOb_cons (by exact (e1 h0)) (allOb_cons (idx_okN (b0 h0)) (allOb_cons h0 (allOb_cons (by exact e0) allOb_nil)))))
end Go.Proofs.YtkkgimhbliocoaaGreat
/- topo.Isolated and topo.alone of a plan without edges: there is such a node. -/
namespace Go.Proofs.YtkkgimhbliocoaaGreat
open Go Vm M
set_option linter.unusedVariables false
set_option linter.unusedSimpArgs false
/-- What takes a plan without edges and a number that one of its nodes has; j is the first of these. -/
def withNI (args : List PVal) (F : List Nd → Nat → PVal) : Option PVal := withNs args fun ns r => match r with
  | [.v (.int .i64 t)] => if ns.length ≤ 1000 then (firstAt (atI2 ns t) ns.length 0).map (F ns) else none
  | _ => none
theorem withNI_ok (F : List Nd → Nat → PVal) {ns : List Nd} {t : Int} {j : Nat} (h : ns.length ≤ 1000) (hj : firstAt (atI2 ns t) ns.length 0 = some j) : withNI [plN ns.length (flatN ns), iP t] F = some (F ns j) := by
  unfold withNI
  rw [withNs_ok]
  show (if ns.length ≤ 1000 then (firstAt (atI2 ns t) ns.length 0).map (F ns) else none) = _
  rw [if_pos h, hj]
  rfl
theorem withNI_spec {P : Program} {f : FuncId} {F : List Nd → Nat → PVal} (h : ∀ ns t j, ns.length ≤ 1000 → firstAt (atI2 ns t) ns.length 0 = some j → CallsP P f [plN ns.length (flatN ns), iP t] (F ns j)) : ∀ args v, withNI args F = some v → CallsP P f args v := withNs_spec fun ns r v hv => by
  split at hv
  · rename_i t
    split at hv
    · rename_i hl
      cases hj : firstAt (atI2 ns t) ns.length 0 with
      | none => rw [hj] at hv; cases hv
      | some j =>
        rw [hj] at hv
        simp only [Option.map_some, Option.some.injEq] at hv
        subst hv
        exact h ns t j hl hj
    · cases hv
  · cases hv
theorem node_calls (ns : List Nd) (t : Int) (j : Nat) (hl : ns.length ≤ 1000) (hj : firstAt (atI2 ns t) ns.length 0 = some j) : CallsP Tryz.prog 147 [plN ns.length (flatN ns), iP t] (.tup [ndP (nAt ns j), bP true]) := by
  have hix : ixI ns t = (j : Int) := by unfold ixI; rw [hj]
  have hlt : j < ns.length := by have := (firstAt_some hj).2.1; omega
  have := plNode_calls ns t j (nAt ns j) (by rw [← hix]; exact ixPG ns t hl) (fun _ => by omega) (fun _ => partN hlt)
  unfold plNode at this
  rw [decide_eq_false (by omega : ¬ ((j : Int) < 0)), cond_false] at this
  exact this
noncomputable def KP3 : Lib Tryz.prog := KP2.add 147 (fun a => withNI a fun ns j => .tup [ndP (nAt ns j), bP true]) (Vm.enters_of named_prog Tryz.func147 (by kernel_rfl)) (withNI_spec node_calls)
theorem nodeG (ns : List Nd) (t : Int) {j : Nat} (h : ns.length ≤ 1000) (hj : firstAt (atI2 ns t) ns.length 0 = some j) {c : Cfg} (hc : c.givenP 147 = KP3.given 147) {ev : Ev} : pureCall c ev 147 [plN ns.length (flatN ns), iP t] = some (.tup [ndP (nAt ns j), bP true]) := pure_given (g := fun a => withNI a fun ns j => .tup [ndP (nAt ns j), bP true]) (hc.trans (by kernel_rfl)) (withNI_ok _ h hj)
def isoC (ns : List Nd) (t : Int) (m : Nd) : PVal :=
  bP true
theorem isoC_calls (ns : List Nd) (t : Int) (m : Nd) (e0 : pureCall (cfM KP3) (evalF (cfM KP3) 60) 147 [PVal.agg [PVal.list (List.length ns) (flatN ns), PVal.v (Value.slice none 0 0)], iP t] = some (PVal.tup [PVal.agg [iP (Prod.fst m), iP (Prod.fst (Prod.fst (Prod.snd m))), iP (Prod.snd (Prod.fst (Prod.snd m))), iP (Prod.snd (Prod.snd m))], bP true])) : CallsP Tryz.prog 86 [plN (List.length ns) (flatN ns), iP t] (isoC ns t m) := by
  have key := fun (bs : List Bool) (r : PVal) (ob : List Prop) (h : callP (cfM KP3) (evalF (cfM KP3) 60) 60 [(1, 2, Hint.pcall (PVal.tup [ndP m, bP true]))] 86 [plN (List.length ns) (flatN ns), iP t] bs [] (none) = .ok (r, ob)) (hp : allOb ob) => callP_ok (cfM_ok KP3) h hp
  unfold isoC
  exact key [true] (bP true) _ (by kernel_rfl) (allOb_cons lit_t (allOb_cons (by exact e0) allOb_nil))
theorem iso_calls (ns : List Nd) (t : Int) (j : Nat) (hl : ns.length ≤ 1000) (hj : firstAt (atI2 ns t) ns.length 0 = some j) : CallsP Tryz.prog 86 [plN ns.length (flatN ns), iP t] (bP true) := isoC_calls ns t (nAt ns j) (nodeG ns t hl hj (by kernel_rfl))
noncomputable def KP4 : Lib Tryz.prog := KP3.add 86 (fun a => withNI a fun ns j => bP true) (Vm.enters_of named_prog Tryz.func86 (by kernel_rfl)) (withNI_spec iso_calls)
theorem isoG (ns : List Nd) (t : Int) {j : Nat} (h : ns.length ≤ 1000) (hj : firstAt (atI2 ns t) ns.length 0 = some j) {ev : Ev} : pureCall (cfM KP4) ev 86 [plN ns.length (flatN ns), iP t] = some (bP true) := pure_given (g := fun a => withNI a fun ns j => bP true) (by kernel_rfl) (withNI_ok _ h hj)
def aloC (ns : List Nd) (t : Int) (m : Nd) : PVal :=
  PVal.tup [PVal.agg [iP (Prod.fst m), iP (Prod.fst (Prod.fst (Prod.snd m))), iP (Prod.snd (Prod.fst (Prod.snd m))), iP (Prod.snd (Prod.snd m))], iP (Int.ofNat 0)]
theorem aloC_calls (ns : List Nd) (t : Int) (m : Nd) (e0 : pureCall (cfM KP4) (evalF (cfM KP4) 60) 147 [PVal.agg [PVal.list (List.length ns) (flatN ns), PVal.v (Value.slice none 0 0)], iP t] = some (PVal.tup [PVal.agg [iP (Prod.fst m), iP (Prod.fst (Prod.fst (Prod.snd m))), iP (Prod.snd (Prod.fst (Prod.snd m))), iP (Prod.snd (Prod.snd m))], bP true])) (e1 : pureCall (cfM KP4) (evalF (cfM KP4) 60) 86 [PVal.agg [PVal.list (List.length ns) (flatN ns), PVal.v (Value.slice none 0 0)], iP t] = some (bP true)) : CallsP Tryz.prog 90 [plN (List.length ns) (flatN ns), iP t] (aloC ns t m) := by
  have key := fun (bs : List Bool) (r : PVal) (ob : List Prop) (h : callP (cfM KP4) (evalF (cfM KP4) 60) 60 [(1, 2, Hint.pcall (PVal.tup [ndP m, bP true])), (4, 2, Hint.pcall (bP true))] 90 [plN (List.length ns) (flatN ns), iP t] bs [] (none) = .ok (r, ob)) (hp : allOb ob) => callP_ok (cfM_ok KP4) h hp
  unfold aloC
  exact key [false, false] (PVal.tup [PVal.agg [iP (Prod.fst m), iP (Prod.fst (Prod.fst (Prod.snd m))), iP (Prod.snd (Prod.fst (Prod.snd m))), iP (Prod.snd (Prod.snd m))], iP (Int.ofNat 0)]) _ (by kernel_rfl) (allOb_cons lit_f (allOb_cons (by exact e1) (allOb_cons lit_f (allOb_cons (by exact e0) allOb_nil))))
theorem alone_calls (ns : List Nd) (t : Int) (j : Nat) (hl : ns.length ≤ 1000) (hj : firstAt (atI2 ns t) ns.length 0 = some j) : CallsP Tryz.prog 90 [plN ns.length (flatN ns), iP t] (.tup [ndP (nAt ns j), iP 0]) := aloC_calls ns t (nAt ns j) (nodeG ns t hl hj (by kernel_rfl)) (isoG ns t hl hj)
noncomputable def KP5 : Lib Tryz.prog := KP4.add 90 (fun a => withNI a fun ns j => .tup [ndP (nAt ns j), iP 0]) (Vm.enters_of named_prog Tryz.func90 (by kernel_rfl)) (withNI_spec alone_calls)
def remC (ns : List Nd) (t : Int) (q : Nd) (m : Nat) (xs : List PVal) : PVal :=
  PVal.tup [PVal.agg [PVal.list m xs, PVal.v (Value.slice none 0 0)], iP (Int.ofNat 0)]
theorem remC_calls (ns : List Nd) (t : Int) (q : Nd) (m : Nat) (xs : List PVal) (e0 : pureCall (cfM KP5) (evalF (cfM KP5) 60) 90 [PVal.agg [PVal.list (List.length ns) (flatN ns), PVal.v (Value.slice none 0 0)], iP t] = some (PVal.tup [PVal.agg [iP (Prod.fst q), iP (Prod.fst (Prod.fst (Prod.snd q))), iP (Prod.snd (Prod.fst (Prod.snd q))), iP (Prod.snd (Prod.snd q))], iP (Int.ofNat 0)])) (e1 : pureCall (cfM KP5) (evalF (cfM KP5) 60) 77 [PVal.agg [PVal.list (List.length ns) (flatN ns), PVal.v (Value.slice none 0 0)], iP t] = some (PVal.agg [PVal.list m xs, PVal.v (Value.slice none 0 0)])) : CallsP Tryz.prog 44 [plN (List.length ns) (flatN ns), iP t] (remC ns t q m xs) := by
  have key := fun (bs : List Bool) (r : PVal) (ob : List Prop) (h : callP (cfM KP5) (evalF (cfM KP5) 60) 60 [(1, 2, Hint.pcall (PVal.tup [ndP q, iP 0])), (4, 2, Hint.pcall (plN m xs))] 44 [plN (List.length ns) (flatN ns), iP t] bs [] (none) = .ok (r, ob)) (hp : allOb ob) => callP_ok (cfM_ok KP5) h hp
  unfold remC
  exact key [false] (PVal.tup [PVal.agg [PVal.list m xs, PVal.v (Value.slice none 0 0)], iP (Int.ofNat 0)]) _ (by kernel_rfl) (allOb_cons (by exact e1) (allOb_cons lit_f (allOb_cons (by exact e0) allOb_nil)))
end Go.Proofs.YtkkgimhbliocoaaGreat
/- topo.AddNode of the empty plan, at its middle. -/
namespace Go.Proofs.YtkkgimhbliocoaaGreat
open Go Vm M
set_option linter.unusedVariables false
set_option linter.unusedSimpArgs false
theorem add0_calls : CallsP Tryz.prog 43 [.agg [nilP, nilP], ptP (0, 0)] (.tup [plN 1 (flatN [(1, (0, 0), 0)]), iP 1, iP 0]) := (pureCall_ok cAw_ok (evalF_ok cAw_ok 60) (f := 43) (ps := [.agg [nilP, nilP], ptP (0, 0)]) (r := .tup [plN 1 (flatN [(1, (0, 0), 0)]), iP 1, iP 0]) (by kernel_rfl)).2
end Go.Proofs.YtkkgimhbliocoaaGreat
/- The plans that TopoFills makes. -/
namespace Go.Proofs.YtkkgimhbliocoaaGreat
open Go Vm M
set_option linter.unusedVariables false
set_option linter.unusedSimpArgs false
def nF (j : Nat) : Nd := ((j + 1 : Nat), ((j : Int), (j : Int) * (j : Int)), 0)
def nsF (i : Nat) : List Nd := (List.range i).map nF
theorem nsF_length (i : Nat) : (nsF i).length = i := by simp [nsF]
theorem nsF_succ (i : Nat) : nsF i ++ [nF i] = nsF (i + 1) := by simp [nsF, List.range_succ]
theorem nsF_at {i k : Nat} (h : k < i) : nAt (nsF i) k = nF k := by
  refine nAt_get ?_
  simp [nsF, List.getElem?_map, List.getElem?_range h]
theorem ids_mem {i : Nat} {t : Int} : t ∈ idsI (nsF i) ↔ 1 ≤ t ∧ t ≤ (i : Int) := by
  unfold idsI nsF
  simp only [List.map_map, List.mem_map, List.mem_range, Function.comp, nF]
  constructor
  · rintro ⟨j, hj, rfl⟩
    omega
  · rintro ⟨h1, h2⟩
    exact ⟨(t - 1).toNat, by omega, by omega⟩
theorem unu_fill (i : Nat) : unuK (idsI (nsF i)) = i := by
  obtain ⟨h1, h2, h3⟩ := unuK_spec (idsI (nsF i))
  have g1 : ¬ (((unuK (idsI (nsF i)) + 1 : Nat) : Int) ∈ idsI (nsF i)) := fun hm => by rw [hasI_iff.2 hm] at h1; cases h1
  rw [ids_mem] at g1
  by_cases hlt : i < unuK (idsI (nsF i))
  · have := hasI_iff.1 (h2 i hlt)
    rw [ids_mem] at this
    omega
  · omega
theorem end_fill (i : Nat) : endB (nsF i) (i + 1 : Nat) = true := by
  unfold endB
  rw [List.all_eq_true, nsF_length]
  intro k hk
  have hk := List.mem_range.1 hk
  rw [nsF_at hk]
  exact decide_eq_true (by unfold nF; simp only; omega)
theorem sq_le {i : Nat} (h : i ≤ 300) : (0 : Int) ≤ (i : Int) * (i : Int) ∧ (i : Int) * (i : Int) ≤ 90000 := by
  have h1 : i * i ≤ 300 * 300 := Nat.mul_le_mul h h
  have h2 : ((i * i : Nat) : Int) = (i : Int) * (i : Int) := by simp
  omega
theorem near_fill {i : Nat} (h : i ≤ 300) : nearP ((i : Int), (i : Int) * (i : Int)) = ((i : Int), (i : Int) * (i : Int)) := by
  have hs := sq_le h
  unfold nearP near1
  simp only
  rw [Prod.mk.injEq]
  constructor
  · split <;> (try split) <;> omega
  · split <;> (try split) <;> omega
theorem has_fill {i : Nat} (h : i ≤ 300) (j : Nat) (hj : j ≤ i) : hasN (nsF j) (nearP ((i : Int), (i : Int) * (i : Int))) = false := by
  rw [near_fill h]
  unfold hasN
  rw [firstAt_eq_none (c := atP (nsF j) ((i : Int), (i : Int) * (i : Int))) (d := (nsF j).length) (k := 0) (fun k _ hk => ?_)]
  · rfl
  · rw [nsF_length] at hk
    unfold atP
    rw [nsF_at (by omega)]
    cases hb : eqB (nF k).2.1 ((i : Int), (i : Int) * (i : Int)) with
    | false => rfl
    | true =>
      have := congrArg Prod.fst (eqB_iff.1 hb)
      simp only [nF] at this
      omega
theorem ok_fill {i : Nat} (h : i ≤ 300) : okC ((i : Int), (i : Int) * (i : Int)) = bP true := by
  have hs := sq_le h
  unfold okC
  simp only
  rw [decide_eq_true (by omega : (i : Int) ≥ -1048576), decide_eq_true (by omega : (i : Int) ≤ 1048576), decide_eq_true (by omega : (i : Int) * (i : Int) ≥ -1048576), decide_eq_true (by omega : (i : Int) * (i : Int) ≤ 1048576)]
  rfl
/-- A round that puts one node more. -/
theorem fill_calls (i : Nat) (h1 : 1 ≤ i) (h : i < 200) : CallsP Tryz.prog 43 [plN i (flatN (nsF i)), ptP ((i : Int), (i : Int) * (i : Int))] (.tup [plN (i + 1) (flatN (nsF (i + 1))), iP (i + 1 : Nat), iP 0]) := by
  have := addEnd_calls (nsF i) ((i : Int), (i : Int) * (i : Int)) (by rw [nsF_length]; exact h1) (by rw [nsF_length]; exact h) (ok_fill (by omega)) (has_fill (by omega) i (Nat.le_refl _)) (by rw [unu_fill]; exact end_fill i)
  rw [unu_fill, show (((i + 1 : Nat) : Int), ((i : Int), (i : Int) * (i : Int)), (0 : Int)) = nF i from rfl, nsF_succ, nsF_length, nsF_length] at this
  exact this
/-- A round that is one too many. -/
theorem many_calls (i : Nat) (h1 : 200 ≤ i) (h : i ≤ 300) : CallsP Tryz.prog 43 [plN 200 (flatN (nsF 200)), ptP ((i : Int), (i : Int) * (i : Int))] (.tup [.agg [nilP, nilP], iP 0, iP 65]) := by
  have := addMany_calls (nsF 200) ((i : Int), (i : Int) * (i : Int)) (by rw [nsF_length]; exact Nat.le_refl _) (by rw [nsF_length]; omega) (ok_fill h) (has_fill h 200 h1)
  rw [nsF_length] at this
  exact this
end Go.Proofs.YtkkgimhbliocoaaGreat
/- A list of nodes without one of them; the row of nodes while one is taken out, step by step. -/
namespace Go.Proofs.YtkkgimhbliocoaaGreat
open Go Vm M
set_option linter.unusedVariables false
set_option linter.unusedSimpArgs false
def delN (ms : List Nd) (k : Nat) : List Nd := ms.take k ++ ms.drop (k + 1)
theorem delN_length {ms : List Nd} {k : Nat} (h : k < ms.length) : (delN ms k).length + 1 = ms.length := by
  simp only [delN, List.length_append, List.length_take, List.length_drop]; omega
/-- The row while nodes are moved: i are in their place. -/
def dlY (ms : List Nd) (k i : Nat) : List Nd := (delN ms k).take i ++ ms.drop i
theorem dlY_length {ms : List Nd} {k i : Nat} (h : k < ms.length) (hi : i < ms.length) : (dlY ms k i).length = ms.length := by
  have := delN_length h
  simp only [dlY, List.length_append, List.length_take, List.length_drop]; omega
theorem dlY_first {ms : List Nd} {k : Nat} (h : k < ms.length) : dlY ms k k = ms := by
  unfold dlY delN
  rw [List.take_append_of_le_length (by rw [List.length_take]; omega), List.take_take, Nat.min_self, List.take_append_drop]
theorem nAt_q (ms : List Nd) (i : Nat) : nAt ms i = (ms[i]?).getD (0, (0, 0), 0) := by simp [nAt, List.getD]
theorem take_del {ms : List Nd} {k i : Nat} (h : k < ms.length) (hi : i < ms.length) : ((delN ms k).take i).length = i := by
  have := delN_length h
  rw [List.length_take]; omega
theorem dlY_at {ms : List Nd} {k i : Nat} (h : k ≤ i) (hi : i + 1 < ms.length) : nAt (dlY ms k i) (i + 1) = nAt ms (i + 1) := by
  unfold dlY
  rw [nAt_q, nAt_q, List.getElem?_append_right (by rw [take_del (by omega) (by omega)]; omega), take_del (by omega) (by omega), List.getElem?_drop, show i + (i + 1 - i) = i + 1 by omega]
theorem del_at {ms : List Nd} {k i : Nat} (h : k ≤ i) (hi : i + 1 < ms.length) : (delN ms k)[i]? = some (nAt ms (i + 1)) := by
  unfold delN
  rw [List.getElem?_append_right (by rw [List.length_take]; omega), List.length_take, Nat.min_eq_left (by omega), List.getElem?_drop, show k + 1 + (i - k) = i + 1 by omega, nAt_q, List.getElem?_eq_getElem hi]
  rfl
theorem put_node {ns : List Nd} {i : Nat} (n : Nd) (h : i < ns.length) : putA (upL (flatN ns)) (i * 4) [iA n.1, iA n.2.1.1, iA n.2.1.2, iA n.2.2] = some (upL (flatN (ns.take i ++ [n] ++ ns.drop (i + 1)))) := by
  unfold putA
  rw [if_pos (by
    simp only [List.length_cons, List.length_nil, upL_length, flatN_length, Bool.and_eq_true, decide_eq_true_eq]
    exact ⟨by omega, rfl⟩)]
  rw [flatN_append, flatN_append, upL_append', upL_append', upL_take', flatN_take, show i * 4 + [iA n.1, iA n.2.1.1, iA n.2.1.2, iA n.2.2].length = (i + 1) * 4 by simp only [List.length_cons, List.length_nil]; omega, upL_drop', flatN_drop]
  rfl
theorem dlY_put {ms : List Nd} {k i : Nat} (h : k ≤ i) (hi : i + 1 < ms.length) : putA (upL (flatN (dlY ms k i))) (i * 4) [iA (nAt ms (i + 1)).1, iA (nAt ms (i + 1)).2.1.1, iA (nAt ms (i + 1)).2.1.2, iA (nAt ms (i + 1)).2.2] = some (upL (flatN (dlY ms k (i + 1)))) := by
  rw [put_node _ (by rw [dlY_length (by omega) (by omega)]; omega)]
  have e1 : (dlY ms k i).take i = (delN ms k).take i := by
    unfold dlY
    rw [List.take_append_of_le_length (by rw [take_del (by omega) (by omega)]; exact Nat.le_refl _), List.take_take, Nat.min_self]
  have e2 : (dlY ms k i).drop (i + 1) = ms.drop (i + 1) := by
    unfold dlY
    rw [List.drop_append, take_del (by omega) (by omega), List.drop_eq_nil_of_le (by rw [take_del (by omega) (by omega)]; omega), List.nil_append, List.drop_drop, show i + (i + 1 - i) = i + 1 by omega]
  have e3 : (delN ms k).take (i + 1) = (delN ms k).take i ++ [nAt ms (i + 1)] := by
    rw [List.take_add_one, del_at h hi]; rfl
  rw [e1, e2, ← e3]
  rfl
/-- All are in their place; one is left behind them. -/
theorem dlY_last {ms : List Nd} {k : Nat} (h : k < ms.length) : dlY ms k (ms.length - 1) = delN ms k ++ ms.drop (ms.length - 1) := by
  unfold dlY
  have := delN_length h
  rw [List.take_of_length_le (by omega)]
end Go.Proofs.YtkkgimhbliocoaaGreat
/- The search for a number among nodes, one by one: topo.WithoutNode's. -/
namespace Go.Proofs.YtkkgimhbliocoaaGreat
open Go Vm M
set_option linter.unusedVariables false
set_option linter.unusedSimpArgs false
def dnP (t : Int) : PVal := .fn 139 [.ptr [.v (.int .i64 t)]]
def dnF (t : Int) : AVal := .fn 139 [.eptr [.v (.int .i64 t)]]
def nzT (ns : List Nd) (t : Int) (i : Int) : List AVal := [nsA ns, dnF t] ++ jk 5 ++ [iA ns.length, iA i] ++ jk 10
def dn1 (m : Nd) (t : Int) : PVal :=
  bP (Prod.fst m == t)
theorem dn1_calls (m : Nd) (t : Int) : CallsP Tryz.prog 139 [ndP m, pnE t] (dn1 m t) := by
  have key := fun (bs : List Bool) (r : PVal) (ob : List Prop) (h : callP (cfM KP5) (evalF (cfM KP5) 60) 60 [] 139 [ndP m, pnE t] bs [] (none) = .ok (r, ob)) (hp : allOb ob) => callP_ok (cfM_ok KP5) h hp
  unfold dn1
  exact key [] (bP (Prod.fst m == t)) _ (by kernel_rfl) allOb_nil
def gDn1 : List PVal → Option PVal
  | [.agg [.v (.int .i64 a), .v (.int .i64 b), .v (.int .i64 c), .v (.int .i64 d)], .ptr [.v (.int .i64 t)]] => some (dn1 (a, (b, c), d) t)
  | _ => none
theorem gDn1_spec : ∀ args v, gDn1 args = some v → CallsP Tryz.prog 139 args v := by
  intro args v h
  unfold gDn1 at h
  split at h
  · rename_i a b c d t
    simp only [Option.some.injEq] at h
    subst h
    exact dn1_calls (a, (b, c), d) t
  · cases h
noncomputable def KD1 : Lib Tryz.prog := KP5.add 139 gDn1 (Vm.enters_of named_prog Tryz.func139 (by kernel_rfl)) gDn1_spec
def nzK (ns : List Nd) (t : Int) (i : Int) (q : Nd) (j : Bool) : AExit × List AVal × List AObj :=
  (bif decide (i < (↑(List.length ns) : Int)) then (bif j then (AExit.ret, ((jk 4 ++ [iA i] ++ jk 14), [])) else (AExit.normal, (([AVal.list (List.length ns) (flatN ns), AVal.fn 139 [AVal.eptr [iP t]]] ++ jk 5 ++ [iA (Int.ofNat (List.length ns)), iA (IntKind.i64.wrap (i + 1))] ++ jk 10), []))) else (AExit.exit 0, (([AVal.list (List.length ns) (flatN ns), AVal.fn 139 [AVal.eptr [iP t]]] ++ jk 5 ++ [iA (Int.ofNat (List.length ns)), iA i, bA false] ++ jk 9), [])))
theorem nzK_eq (ns : List Nd) (t : Int) (i : Int) (q : Nd) (j : Bool) (b0 : (decide (i < (↑(List.length ns) : Int))) = true → (0 : Int) ≤ i ∧ (i : Int) < (↑(List.length ns) : Int)) (e0 : (decide (i < (↑(List.length ns) : Int))) = true → partA (Cfg.P (cfM KD1)) 30 (upL (List.drop (Int.toNat i * 4) (flatN ns))) 0 = some (ndA q)) (e1 : (decide (i < (↑(List.length ns) : Int))) = true → pureCall (cfM KD1) (evalF (cfM KD1) 60) 139 [PVal.agg [iP (Prod.fst q), iP (Prod.fst (Prod.fst (Prod.snd q))), iP (Prod.snd (Prod.fst (Prod.snd q))), iP (Prod.snd (Prod.snd q))], PVal.ptr [iP t]] = some (bP j)) : evalC (cfM KD1) (evalF (cfM KD1) 60) (ixLv) 0 0 60 (loopAt Tryz.f165 0) (nzT ns t i) ([]) = some (nzK ns t i q j) := by
  have key := fun (bs : List Bool) (r : AExit × List AVal × List AObj) (ob : List Prop) (h : pathP (cfM KD1) (evalF (cfM KD1) 60) (ixLv) 0 0 60 [(4, 3, Hint.idx), (4, 4, Hint.load (ndA q)), (4, 5, Hint.pcall (bP j))] (loopAt Tryz.f165 0) (nzT ns t i) ([]) bs [] = .ok (r.1, r.2.1, r.2.2, ob)) (hp : allOb ob) => pathP_ok h hp
  unfold nzK
  exact bif_case (P := fun r => evalC (cfM KD1) (evalF (cfM KD1) 60) (ixLv) 0 0 60 (loopAt Tryz.f165 0) (nzT ns t i) ([]) = some r)
    (fun h0 => bif_case (P := fun r => evalC (cfM KD1) (evalF (cfM KD1) 60) (ixLv) 0 0 60 (loopAt Tryz.f165 0) (nzT ns t i) ([]) = some r)
     (fun h1 => key [true, true] ((AExit.ret, ((jk 4 ++ [iA i] ++ jk 14), []))) _ (by kernel_rfl) (allOb_cons h1 (allOb_cons (by exact (e1 h0)) (allOb_cons (by exact (e0 h0)) (allOb_cons (idx_okN (b0 h0)) (allOb_cons h0 allOb_nil))))))
     (fun h1 => key [true, false] ((AExit.normal, (([AVal.list (List.length ns) (flatN ns), AVal.fn 139 [AVal.eptr [iP t]]] ++ jk 5 ++ [iA (Int.ofNat (List.length ns)), iA (IntKind.i64.wrap (i + 1))] ++ jk 10), []))) _ (by kernel_rfl) (allOb_cons h1 (allOb_cons (by exact (e1 h0)) (allOb_cons (by exact (e0 h0)) (allOb_cons (idx_okN (b0 h0)) (allOb_cons h0 allOb_nil)))))))
    (fun h0 => key [false] ((AExit.exit 0, (([AVal.list (List.length ns) (flatN ns), AVal.fn 139 [AVal.eptr [iP t]]] ++ jk 5 ++ [iA (Int.ofNat (List.length ns)), iA i, bA false] ++ jk 9), []))) _ (by kernel_rfl) (allOb_cons h0 allOb_nil))
end Go.Proofs.YtkkgimhbliocoaaGreat
/- The search for a number among nodes, one by one. -/
namespace Go.Proofs.YtkkgimhbliocoaaGreat
open Go Vm M
set_option linter.unusedVariables false
set_option linter.unusedSectionVars false
set_option linter.unusedSimpArgs false
theorem ixA_tabD : (cfM KD1).tab 165 = some ixA := by kernel_rfl
theorem dnG (m : Nd) (t : Int) {ev : Ev} : pureCall (cfM KD1) ev 139 [ndP m, pnE t] = some (bP (m.1 == t)) := pure_given (g := gDn1) (by kernel_rfl) rfl
theorem evD1_ok : EvOk (cfM KD1) (evalF (cfM KD1) 60) := evalF_ok (cfM_ok KD1) 60
section
variable (ns : List Nd) (t : Int)
theorem nz_at (hl : ns.length ≤ 1000) {k : Nat} (h : k < ns.length) : evalC (cfM KD1) (evalF (cfM KD1) 60) ixLv 0 0 60 ixK (nzT ns t k) [] = some (nzK ns t k (nAt ns k) (atI2 ns t k)) :=
  nzK_eq ns t k (nAt ns k) (atI2 ns t k) (fun _ => by omega) (fun _ => partN h) (fun _ => dnG (nAt ns k) t)
theorem nz_step (hl : ns.length ≤ 1000) {k : Nat} (h : k < ns.length) (hc : atI2 ns t k = false) : EV (cfM KD1) 0 ixK (nzT ns t k) [] .normal (nzT ns t (k + 1 : Nat)) [] := by
  have e := nz_at ns t hl h
  unfold nzK at e
  rw [decide_eq_true (by omega : ((k : Int) < (ns.length : Int))), cond_true, hc, cond_false, wrS (by omega)] at e
  exact EV.of (cfM_ok KD1) evD1_ok e
theorem nz_hit (hl : ns.length ≤ 1000) {k : Nat} (h : k < ns.length) (hc : atI2 ns t k = true) : EV (cfM KD1) 0 ixK (nzT ns t k) [] .ret (jk 4 ++ [iA k] ++ jk 14) [] := by
  have e := nz_at ns t hl h
  unfold nzK at e
  rw [decide_eq_true (by omega : ((k : Int) < (ns.length : Int))), cond_true, hc, cond_true] at e
  exact EV.of (cfM_ok KD1) evD1_ok e
def nzE : List AVal := [nsA ns, dnF t] ++ jk 5 ++ [iA ns.length, iA ns.length, bA false] ++ jk 9
theorem nz_end (hl : ns.length ≤ 1000) : EV (cfM KD1) 0 ixK (nzT ns t ns.length) [] (.exit 0) (nzE ns t) [] := by
  have e := nzK_eq ns t ns.length (nAt ns 0) false (fun h => by have := of_decide_eq_true h; omega) (fun h => by have := of_decide_eq_true h; omega) (fun h => by have := of_decide_eq_true h; omega)
  unfold nzK at e
  rw [decide_eq_false (by omega : ¬ ((ns.length : Int) < (ns.length : Int))), cond_false] at e
  exact EV.of (cfM_ok KD1) evD1_ok e
noncomputable def ix0z : List AVal × List AObj := (evalL (cfM KD1) (evalF (cfM KD1) 60) ixLv 0 0 60 (headL 1 ixB) (upL [nsP ns, dnP t] ++ List.replicate (ixA.ntmps - (upL [nsP ns, dnP t]).length) (.v undef)) []).getD ([], [])
theorem ix0z_eq : evalL (cfM KD1) (evalF (cfM KD1) 60) ixLv 0 0 60 (headL 1 ixB) (upL [nsP ns, dnP t] ++ List.replicate (ixA.ntmps - (upL [nsP ns, dnP t]).length) (.v undef)) [] = some ((ix0z ns t).1, (ix0z ns t).2) := by kernel_rfl
noncomputable def ix3z : AExit × List AVal × List AObj := (evalC (cfM KD1) (evalF (cfM KD1) 60) ixLv 0 0 60 ix1 (ix0z ns t).1 (ix0z ns t).2).getD (.normal, [], [])
theorem ix3z_eq : evalC (cfM KD1) (evalF (cfM KD1) 60) ixLv 0 0 60 ix1 (ix0z ns t).1 (ix0z ns t).2 = some (.normal, (ix3z ns t).2.1, (ix3z ns t).2.2) := by kernel_rfl
theorem ix3z_ev : EV (cfM KD1) 0 ix1 (ix0z ns t).1 (ix0z ns t).2 .normal (nzT ns t (0 : Nat)) [] := EV.tidy [] (EV.of (cfM_ok KD1) evD1_ok (ix3z_eq ns t)) (fun q hq y hy => by simp at hq) (by kernel_rfl)
noncomputable def ix9z : AExit × List AVal × List AObj := (evalC (cfM KD1) (evalF (cfM KD1) 60) ixLv 0 0 60 ix2 (nzE ns t) []).getD (.normal, [], [])
theorem ix9z_eq : evalC (cfM KD1) (evalF (cfM KD1) 60) ixLv 0 0 60 ix2 (nzE ns t) [] = some (.ret, (ix9z ns t).2.1, (ix9z ns t).2.2) := by kernel_rfl
theorem ixD_calls (hl : ns.length ≤ 1000) : CallsP Tryz.prog 165 [nsP ns, dnP t] (iP (ixI ns t)) := by
  unfold ixI
  cases h : firstAt (atI2 ns t) ns.length 0 with
  | some j =>
    refine callsP_of_A (r0 := iA j) (S := []) (callsA_of_EV (cfM_ok KD1) ixA_tabD (x := .ret) (.inr rfl) (T' := jk 4 ++ [iA j] ++ jk 14) (by kernel_rfl) ?_) (by kernel_rfl)
    rw [ixA_body]
    refine EV.head (cfM_ok KD1) evD1_ok 1 (ix0z_eq ns t) ?_
    rw [ix_tail]
    exact EV.seqX (EV.seq (ix3z_ev ns t) (EV.blockR (EV.found (T := fun k => nzT ns t k) (S := fun _ => []) h (fun k hk hc => nz_step ns t hl hk hc) (fun hk hc => nz_hit ns t hl hk hc) (by simp)))) (by simp)
  | none =>
    refine callsP_of_A (r0 := iA (-1)) (S := (ix9z ns t).2.2) (callsA_of_EV (cfM_ok KD1) ixA_tabD (x := .ret) (.inr rfl) (T' := (ix9z ns t).2.1) (by kernel_rfl) ?_) (by kernel_rfl)
    rw [ixA_body]
    refine EV.head (cfM_ok KD1) evD1_ok 1 (ix0z_eq ns t) ?_
    rw [ix_tail]
    exact EV.seq (EV.seq (ix3z_ev ns t) (EV.block (EV.missed (T := fun k => nzT ns t k) (S := fun _ => []) h (fun k hk hc => nz_step ns t hl hk hc) (nz_end ns t hl) (by simp)))) (EV.of (cfM_ok KD1) evD1_ok (ix9z_eq ns t))
end
end Go.Proofs.YtkkgimhbliocoaaGreat
/- The search for a number among nodes, given to topo.WithoutNode. -/
namespace Go.Proofs.YtkkgimhbliocoaaGreat
open Go Vm M
set_option linter.unusedVariables false
set_option linter.unusedSimpArgs false
def gIxD (args : List PVal) : Option PVal :=
  match args with
  | [.list k xs, .fn f [.ptr [.v (.int .i64 t)]]] => match unN xs with
    | some ns => if f = 139 ∧ k = ns.length ∧ ns.length ≤ 1000 then some (iP (ixI ns t)) else none
    | none => none
  | _ => none
theorem gIxD_ok (ns : List Nd) (t : Int) (h : ns.length ≤ 1000) : gIxD [nsP ns, dnP t] = some (iP (ixI ns t)) := by
  unfold gIxD nsP dnP
  simp only [unN_flat]
  rw [if_pos ⟨trivial, trivial, h⟩]
theorem gIxD_spec : ∀ args v, gIxD args = some v → CallsP Tryz.prog 165 args v := by
  intro args v h
  unfold gIxD at h
  split at h
  · rename_i k xs f t
    split at h
    · rename_i ns hn
      split at h
      · rename_i hc
        obtain ⟨rfl, rfl, hl⟩ := hc
        have := unN_some hn
        subst this
        simp only [Option.some.injEq] at h
        subst h
        exact ixD_calls ns t hl
      · cases h
    · cases h
  · cases h
noncomputable def KD2 : Lib Tryz.prog := KD1.add 165 gIxD (Vm.enters_of named_prog Tryz.func165 (by kernel_rfl)) gIxD_spec
/-- What is asked of nodes is borrowed; nodes are taken out of a row by objects. -/
def md5 (f : FuncId) : Nat := bif Nat.beq f 165 || Nat.beq f 139 then 5 else bif Nat.beq f 138 then 2 else md4 f
noncomputable abbrev cfD (L : Lib Tryz.prog) : Cfg := cfgS md5 L
theorem cfD_ok (L : Lib Tryz.prog) : CfgOk (cfD L) := cfgS_ok md5 L
end Go.Proofs.YtkkgimhbliocoaaGreat
/- topo.Copy at the state of topo.WithoutNode, what is free out of sight; one more function told by objects. -/
namespace Go.Proofs.YtkkgimhbliocoaaGreat
open Go Vm M
set_option linter.unusedVariables false
set_option linter.unusedSectionVars false
set_option linter.unusedSimpArgs false
/-- What is free may be out of sight. -/
theorem callsA_hush {P : Program} {f : FuncId} {args : List AVal} {S S1 S2 : List AObj} {r : AVal} (h : CallsA P f args S r S1) (h1 : ∀ (q : Nat) (y : AObj), S1[q]? = some y → y = .free ∨ S2[q]? = some y) (h2 : ∀ (q : Nat) (y : AObj), S2[q]? = some y → y = .hidden ∨ S1[q]? = some y) : CallsA P f args S r S2 := by
  intro C vs hCS hS hn hv
  refine (h C vs hCS hS hn hv).mono ?_
  rintro e w1 ⟨v, C1, rfl, rfl, e1, k1, k2, k3⟩
  have up : ∀ (q : Nat) (y : AObj) (e : Nat), C1.S[q]? = some y → y.ep? = some e → S2[q]? = some y := fun q y e hy he => by
    rw [e1] at hy
    rcases h1 q y hy with rfl | h
    · cases he
    · exact h
  have dn : ∀ (q : Nat) (y : AObj) (e : Nat), S2[q]? = some y → y.ep? = some e → C1.S[q]? = some y := fun q y e hy he => by
    rw [e1]
    rcases h2 q y hy with rfl | h
    · cases he
    · exact h
  have g : Grows C1 ⟨C1.ρ, S2, C1.ok, C1.w⟩ := ⟨Look.Le.refl _, fun q y e hy he => ⟨y, e, up q y e hy he, he, .inl ⟨rfl, rfl⟩⟩⟩
  refine ⟨v, ⟨C1.ρ, S2, C1.ok, C1.w⟩, rfl, rfl, rfl, ⟨fun q y hy => ?_, fun q q' y y' e e' hy hy' he he' => k1.inj q q' y y' e e' (dn q y e hy he) (dn q' y' e' hy' he') he he', k1.okIn, fun b j hj q y e hy he => k1.okRow b j hj q y e (dn q y e hy he) he⟩,
    ⟨k2.grows.trans g, k2.os, k2.tape, k2.output, k2.size, k2.ok, k2.frame, k2.okNew, fun q y e hy he => k2.blocks q y e (dn q y e hy he) he⟩, Rv_mono g _ _ k3⟩
  rcases h2 q y hy with rfl | h
  · trivial
  · exact (k1.obj q y (by rw [e1]; exact h)).keep g (fun _ _ h => h) rfl fun _ _ => rfl
/-- One more function that is told by objects. -/
noncomputable abbrev addS (c : Cfg) (F : FuncId) (g : Nat → List AVal → List AObj → Option (AVal × List AObj)) : Cfg := { c with givenS := fun f => bif Nat.beq f F then some g else c.givenS f }
theorem addS_ok {c : Cfg} {F : FuncId} {g : Nat → List AVal → List AObj → Option (AVal × List AObj)} (hc : CfgOk c) (he : Vm.Enters c.P F) (h : ∀ lo args S r S', g lo args S = some (r, S') → CallsA c.P F args S r S' ∧ Stays lo S S') : CfgOk (addS c F g) where
  mixed := hc.mixed
  tab := fun f a h => ⟨(hc.tab f a h).fn⟩
  givenP := hc.givenP
  givenV := hc.givenV
  givenS := fun f g' h' => by
    have h'' : (bif Nat.beq f F then some g else c.givenS f) = some g' := h'
    cases hb : Nat.beq f F with
    | true =>
      rw [hb] at h''
      simp only [cond_true, Option.some.injEq] at h''
      have hf : f = F := Nat.eq_of_beq_eq_true hb
      subst h'' hf
      exact ⟨he, h⟩
    | false =>
      rw [hb, cond_false] at h''
      exact hc.givenS f g' h''
def cpH (ms : List Nd) (n : Int) (x : AVal) (ys : List AVal) : List AObj := woS ms n ++ [.hidden, .box [x, nilA], .hidden, .hidden, .row 4 0 none ys] ++ List.replicate 6 .hidden ++ [.box [.row 7 0 4 0 ms.length, nilA]]
theorem copyH_callsA (q : Nd) (n : Int) (qs : List Nd) (hl : (q :: qs).length ≤ 1000) : CallsA Tryz.prog 133 [.agg [nsA (q :: qs), nilA]] (woS (q :: qs) n) (.agg [.row 7 0 4 0 (q :: qs).length, nilA]) (cpH (q :: qs) n (.row 7 0 4 0 (q :: qs).length) (upL (flatN (q :: qs)))) := by
  refine callsA_hush (copyW_callsA q n qs hl) (fun o y hy => ?_) (fun o y hy => ?_)
  · rcases o with _ | _ | _ | _ | _ | _ | _ | _ | _ | _ | _ | _ | _ | _ | _ | o <;> first | exact .inr hy | exact .inl (Option.some.inj hy).symm
  · rcases o with _ | _ | _ | _ | _ | _ | _ | _ | _ | _ | _ | _ | _ | _ | _ | o <;> first | exact .inr hy | exact .inl (Option.some.inj hy).symm
noncomputable def gCo2 (lo : Nat) (args : List AVal) (S : List AObj) : Option (AVal × List AObj) :=
  match args with
  | [.agg [.list k xs, .v (.slice none 0 0)]] => match S with
    | [.box [.list k2 xs2, .v (.slice none 0 0)], .box [.v (.int .i64 a)], .box [.v (.slice none 0 0), .v (.slice none 0 0)]] => match unN xs, unN xs2 with
      | some (q :: qs), some ms => if ms = q :: qs ∧ k = (q :: qs).length ∧ k2 = k ∧ k ≤ 1000 then some (.agg [.row 7 0 4 0 (q :: qs).length, nilA], cpH (q :: qs) a (.row 7 0 4 0 (q :: qs).length) (upL (flatN (q :: qs)))) else none
      | _, _ => none
    | _ => none
  | _ => none
theorem gCo2_ok {lo : Nat} {args : List AVal} {S : List AObj} {r : AVal} {S' : List AObj} (h : gCo2 lo args S = some (r, S')) : CallsA Tryz.prog 133 args S r S' ∧ Stays lo S S' := by
  unfold gCo2 at h
  split at h
  · rename_i k xs
    split at h
    · rename_i k2 xs2 a
      split at h
      · rename_i q qs ms h1 h2
        split at h
        · rename_i hc
          obtain ⟨rfl, rfl, rfl, hl⟩ := hc
          have e1 := unN_some h1
          have e2 := unN_some h2
          subst e1 e2
          simp only [Option.some.injEq, Prod.mk.injEq] at h
          obtain ⟨rfl, rfl⟩ := h
          refine ⟨copyH_callsA q a qs hl, by simp [cpH, woS], fun o ho hol => ?_⟩
          have e : woS (q :: qs) a = [.box [.list (q :: qs).length (flatN (q :: qs)), .v (.slice none 0 0)], .box [.v (.int .i64 a)], .box [.v (.slice none 0 0), .v (.slice none 0 0)]] := rfl
          unfold cpH
          rw [← e, List.append_assoc, List.append_assoc, List.getElem?_append_left (by rw [e]; exact hol)]
        · cases h
      · cases h
    · cases h
  · cases h
theorem gCo2_wo (q : Nd) (n : Int) (qs : List Nd) (hl : (q :: qs).length ≤ 1000) : gCo2 0 [.agg [nsA (q :: qs), nilA]] (woS (q :: qs) n) = some (.agg [.row 7 0 4 0 (q :: qs).length, nilA], cpH (q :: qs) n (.row 7 0 4 0 (q :: qs).length) (upL (flatN (q :: qs)))) := by
  unfold gCo2 nsA nilA woS nsA nilA iA
  simp only [unN_flat]
  rw [if_pos ⟨trivial, trivial, trivial, hl⟩]
set_option maxRecDepth 100000 in
noncomputable abbrev cD0 : Cfg := addS (cfD KD2) 133 gCo2
set_option maxRecDepth 100000 in
theorem cD0_ok : CfgOk cD0 := addS_ok (cfD_ok KD2) (Vm.enters_of named_prog Tryz.func133 (by kernel_rfl)) fun lo args S r S' h => gCo2_ok h
end Go.Proofs.YtkkgimhbliocoaaGreat
/- slices.DeleteFunc of nodes, at the state of topo.WithoutNode: its rounds. -/
namespace Go.Proofs.YtkkgimhbliocoaaGreat
open Go Vm M
set_option linter.unusedVariables false
set_option linter.unusedSimpArgs false
def deS (ms : List Nd) (n : Int) (ys : List AVal) : List AObj := [.box [.row 7 0 4 0 ms.length, nilA], .box [iA n], .box [nilA, nilA], .hidden, .box [.row 7 0 4 0 ms.length, nilA], .hidden, .hidden, .row 4 0 none ys] ++ List.replicate 6 .hidden ++ [.box [.row 7 0 4 0 ms.length, nilA]]
noncomputable def deLv : List Nat := (lives.lookup 138).getD []
noncomputable abbrev deK : Code := loopAt Tryz.f138 0
def deT (ms : List Nd) (i j : Nat) : List AVal := [.row 7 0 4 0 ms.length, .fn 139 [.ptr 1 0 0]] ++ jk 3 ++ [iA i, iA j] ++ jk 35
def dlK (ms : List Nd) (n : Int) (ys : List AVal) (ws : List AVal) (i : Nat) (j : Nat) (q : Nd) (b : Bool) : AExit × List AVal × List AObj :=
  (bif decide ((↑j : Int) < (↑(List.length ms) : Int)) then (bif !b then (AExit.normal, (([AVal.row 7 0 4 0 (List.length ms), AVal.fn 139 [AVal.ptr 1 0 0], AVal.junk, AVal.junk, AVal.junk, iA (IntKind.i64.wrap ((↑i : Int) + 1)), iA (IntKind.i64.wrap ((↑j : Int) + 1))] ++ jk 35), ([AObj.box [AVal.row 7 0 4 0 (List.length ms), AVal.v (Value.slice none 0 0)], AObj.box [iA n], AObj.box [AVal.v (Value.slice none 0 0), AVal.v (Value.slice none 0 0)], AObj.hidden, AObj.box [AVal.row 7 0 4 0 (List.length ms), AVal.v (Value.slice none 0 0)], AObj.hidden, AObj.hidden, AObj.row 4 0 none ws, AObj.hidden, AObj.hidden, AObj.hidden, AObj.hidden, AObj.hidden, AObj.hidden, AObj.box [AVal.row 7 0 4 0 (List.length ms), AVal.v (Value.slice none 0 0)], AObj.box [iA (Prod.fst q), iA (Prod.fst (Prod.fst (Prod.snd q))), iA (Prod.snd (Prod.fst (Prod.snd q))), iA (Prod.snd (Prod.snd q))]]))) else (AExit.normal, (([AVal.row 7 0 4 0 (List.length ms), AVal.fn 139 [AVal.ptr 1 0 0], AVal.junk, AVal.junk, AVal.junk, iA (Int.ofNat i), iA (IntKind.i64.wrap ((↑j : Int) + 1))] ++ jk 35), ([AObj.box [AVal.row 7 0 4 0 (List.length ms), AVal.v (Value.slice none 0 0)], AObj.box [iA n], AObj.box [AVal.v (Value.slice none 0 0), AVal.v (Value.slice none 0 0)], AObj.hidden, AObj.box [AVal.row 7 0 4 0 (List.length ms), AVal.v (Value.slice none 0 0)], AObj.hidden, AObj.hidden, AObj.row 4 0 none ys, AObj.hidden, AObj.hidden, AObj.hidden, AObj.hidden, AObj.hidden, AObj.hidden, AObj.box [AVal.row 7 0 4 0 (List.length ms), AVal.v (Value.slice none 0 0)], AObj.box [iA (Prod.fst q), iA (Prod.fst (Prod.fst (Prod.snd q))), iA (Prod.snd (Prod.fst (Prod.snd q))), iA (Prod.snd (Prod.snd q))]])))) else (AExit.exit 0, (([AVal.row 7 0 4 0 (List.length ms), AVal.fn 139 [AVal.ptr 1 0 0], AVal.junk, AVal.junk, AVal.junk, iA (Int.ofNat i), iA (Int.ofNat j)] ++ jk 12 ++ [bA false] ++ jk 22), ([AObj.box [AVal.row 7 0 4 0 (List.length ms), AVal.v (Value.slice none 0 0)], AObj.box [iA n], AObj.box [AVal.v (Value.slice none 0 0), AVal.v (Value.slice none 0 0)], AObj.hidden, AObj.box [AVal.row 7 0 4 0 (List.length ms), AVal.v (Value.slice none 0 0)], AObj.hidden, AObj.hidden, AObj.row 4 0 none ys, AObj.hidden, AObj.hidden, AObj.hidden, AObj.hidden, AObj.hidden, AObj.hidden, AObj.box [AVal.row 7 0 4 0 (List.length ms), AVal.v (Value.slice none 0 0)]]))))
theorem dlK_eq (ms : List Nd) (n : Int) (ys : List AVal) (ws : List AVal) (i : Nat) (j : Nat) (q : Nd) (b : Bool) (b0 : (decide ((↑j : Int) < (↑(List.length ms) : Int))) = true → (0 : Int) ≤ (↑j : Int) ∧ ((↑j : Int) : Int) < (↑(List.length ms) : Int)) (e0 : (decide ((↑j : Int) < (↑(List.length ms) : Int))) = true → partA (Cfg.P cD0) 30 ys ((0 + Int.toNat (↑j : Int)) * 4) = some (ndA q)) (e1 : (decide ((↑j : Int) < (↑(List.length ms) : Int))) = true → callA cD0 (evalF cD0 60) 0 139 [AVal.agg [iA (Prod.fst q), iA (Prod.fst (Prod.fst (Prod.snd q))), iA (Prod.snd (Prod.fst (Prod.snd q))), iA (Prod.snd (Prod.snd q))], AVal.ptr 1 0 0] [AObj.box [AVal.row 7 0 4 0 (List.length ms), AVal.v (Value.slice none 0 0)], AObj.box [iA n], AObj.box [AVal.v (Value.slice none 0 0), AVal.v (Value.slice none 0 0)], AObj.hidden, AObj.box [AVal.row 7 0 4 0 (List.length ms), AVal.v (Value.slice none 0 0)], AObj.hidden, AObj.hidden, AObj.row 4 0 none ys, AObj.hidden, AObj.hidden, AObj.hidden, AObj.hidden, AObj.hidden, AObj.hidden, AObj.box [AVal.row 7 0 4 0 (List.length ms), AVal.v (Value.slice none 0 0)], AObj.box [iA (Prod.fst q), iA (Prod.fst (Prod.fst (Prod.snd q))), iA (Prod.snd (Prod.fst (Prod.snd q))), iA (Prod.snd (Prod.snd q))]] = some (bA b, [AObj.box [AVal.row 7 0 4 0 (List.length ms), AVal.v (Value.slice none 0 0)], AObj.box [iA n], AObj.box [AVal.v (Value.slice none 0 0), AVal.v (Value.slice none 0 0)], AObj.hidden, AObj.box [AVal.row 7 0 4 0 (List.length ms), AVal.v (Value.slice none 0 0)], AObj.hidden, AObj.hidden, AObj.row 4 0 none ys, AObj.hidden, AObj.hidden, AObj.hidden, AObj.hidden, AObj.hidden, AObj.hidden, AObj.box [AVal.row 7 0 4 0 (List.length ms), AVal.v (Value.slice none 0 0)], AObj.box [iA (Prod.fst q), iA (Prod.fst (Prod.fst (Prod.snd q))), iA (Prod.snd (Prod.fst (Prod.snd q))), iA (Prod.snd (Prod.snd q))]])) (b1 : (decide ((↑j : Int) < (↑(List.length ms) : Int))) = true → (!b) = true → (0 : Int) ≤ (↑i : Int) ∧ ((↑i : Int) : Int) < (↑(List.length ms) : Int)) (e2 : (decide ((↑j : Int) < (↑(List.length ms) : Int))) = true → (!b) = true → putA ys ((0 + Int.toNat (↑i : Int)) * 4) [iA (Prod.fst q), iA (Prod.fst (Prod.fst (Prod.snd q))), iA (Prod.snd (Prod.fst (Prod.snd q))), iA (Prod.snd (Prod.snd q))] = some ws) : evalC (cD0) (evalF cD0 60) (deLv) 0 15 60 (loopAt Tryz.f138 0) (deT ms i j) (deS ms n ys) = some (dlK ms n ys ws i j q b) := by
  have key := fun (bs : List Bool) (r : AExit × List AVal × List AObj) (ob : List Prop) (h : pathP (cD0) (evalF cD0 60) (deLv) 0 15 60 [(7, 2, Hint.idx), (7, 3, Hint.load (ndA q)), (8, 2, Hint.callS fun a S => (bA b, S)), (9, 3, Hint.idx), (9, 4, Hint.store ws)] (loopAt Tryz.f138 0) (deT ms i j) (deS ms n ys) bs [] = .ok (r.1, r.2.1, r.2.2, ob)) (hp : allOb ob) => pathP_ok h hp
  unfold dlK
  exact bif_case (P := fun r => evalC (cD0) (evalF cD0 60) (deLv) 0 15 60 (loopAt Tryz.f138 0) (deT ms i j) (deS ms n ys) = some r)
    (fun h0 => bif_case (P := fun r => evalC (cD0) (evalF cD0 60) (deLv) 0 15 60 (loopAt Tryz.f138 0) (deT ms i j) (deS ms n ys) = some r)
     (fun h1 => key [true, true] ((AExit.normal, (([AVal.row 7 0 4 0 (List.length ms), AVal.fn 139 [AVal.ptr 1 0 0], AVal.junk, AVal.junk, AVal.junk, iA (IntKind.i64.wrap ((↑i : Int) + 1)), iA (IntKind.i64.wrap ((↑j : Int) + 1))] ++ jk 35), ([AObj.box [AVal.row 7 0 4 0 (List.length ms), AVal.v (Value.slice none 0 0)], AObj.box [iA n], AObj.box [AVal.v (Value.slice none 0 0), AVal.v (Value.slice none 0 0)], AObj.hidden, AObj.box [AVal.row 7 0 4 0 (List.length ms), AVal.v (Value.slice none 0 0)], AObj.hidden, AObj.hidden, AObj.row 4 0 none ws, AObj.hidden, AObj.hidden, AObj.hidden, AObj.hidden, AObj.hidden, AObj.hidden, AObj.box [AVal.row 7 0 4 0 (List.length ms), AVal.v (Value.slice none 0 0)], AObj.box [iA (Prod.fst q), iA (Prod.fst (Prod.fst (Prod.snd q))), iA (Prod.snd (Prod.fst (Prod.snd q))), iA (Prod.snd (Prod.snd q))]])))) _ (by kernel_rfl) (allOb_cons (by exact (e2 h0 h1)) (allOb_cons (b1 h0 h1) (allOb_cons h1 (allOb_cons (by exact (e1 h0)) (allOb_cons (by exact (e0 h0)) (allOb_cons (b0 h0) (allOb_cons h0 allOb_nil))))))))
     (fun h1 => key [true, false] ((AExit.normal, (([AVal.row 7 0 4 0 (List.length ms), AVal.fn 139 [AVal.ptr 1 0 0], AVal.junk, AVal.junk, AVal.junk, iA (Int.ofNat i), iA (IntKind.i64.wrap ((↑j : Int) + 1))] ++ jk 35), ([AObj.box [AVal.row 7 0 4 0 (List.length ms), AVal.v (Value.slice none 0 0)], AObj.box [iA n], AObj.box [AVal.v (Value.slice none 0 0), AVal.v (Value.slice none 0 0)], AObj.hidden, AObj.box [AVal.row 7 0 4 0 (List.length ms), AVal.v (Value.slice none 0 0)], AObj.hidden, AObj.hidden, AObj.row 4 0 none ys, AObj.hidden, AObj.hidden, AObj.hidden, AObj.hidden, AObj.hidden, AObj.hidden, AObj.box [AVal.row 7 0 4 0 (List.length ms), AVal.v (Value.slice none 0 0)], AObj.box [iA (Prod.fst q), iA (Prod.fst (Prod.fst (Prod.snd q))), iA (Prod.snd (Prod.fst (Prod.snd q))), iA (Prod.snd (Prod.snd q))]])))) _ (by kernel_rfl) (allOb_cons h1 (allOb_cons (by exact (e1 h0)) (allOb_cons (by exact (e0 h0)) (allOb_cons (b0 h0) (allOb_cons h0 allOb_nil)))))))
    (fun h0 => key [false] ((AExit.exit 0, (([AVal.row 7 0 4 0 (List.length ms), AVal.fn 139 [AVal.ptr 1 0 0], AVal.junk, AVal.junk, AVal.junk, iA (Int.ofNat i), iA (Int.ofNat j)] ++ jk 12 ++ [bA false] ++ jk 22), ([AObj.box [AVal.row 7 0 4 0 (List.length ms), AVal.v (Value.slice none 0 0)], AObj.box [iA n], AObj.box [AVal.v (Value.slice none 0 0), AVal.v (Value.slice none 0 0)], AObj.hidden, AObj.box [AVal.row 7 0 4 0 (List.length ms), AVal.v (Value.slice none 0 0)], AObj.hidden, AObj.hidden, AObj.row 4 0 none ys, AObj.hidden, AObj.hidden, AObj.hidden, AObj.hidden, AObj.hidden, AObj.hidden, AObj.box [AVal.row 7 0 4 0 (List.length ms), AVal.v (Value.slice none 0 0)]])))) _ (by kernel_rfl) (allOb_cons h0 allOb_nil))
noncomputable def deB : Code := Tryz.f138.body.getD .skip
noncomputable def deA0 : Code := c1 deB
noncomputable def deA1 : Code := c1 (c2 deB)
noncomputable def deA2 : Code := c1 (c2 (c2 deB))
noncomputable def deA4 : Code := c1 (c1 (c2 (c2 (c2 deB))))
noncomputable def deA11 : Code := c1 (c2 (c2 (c2 (c2 deB))))
noncomputable def deA12 : Code := c2 (c2 (c2 (c2 (c2 deB))))
theorem de_body : deB = .seq deA0 (.seq deA1 (.seq deA2 (.seq (.seq deA4 (.block 0 (.loop deK))) (.seq deA11 deA12)))) := by kernel_rfl
def deF : AVal := .fn 139 [.ptr 1 0 0]
def deT0 (ms : List Nd) (i : AVal) : List AVal := [.row 7 0 4 0 ms.length, deF] ++ jk 3 ++ [i] ++ jk 36
def deH1 (ms : List Nd) (n : Int) (ys : List AVal) (i : Nat) : AExit × List AVal × List AObj :=
  (AExit.normal, (([AVal.row 7 0 4 0 (List.length ms), AVal.fn 139 [AVal.ptr 1 0 0], AVal.junk, AVal.junk, AVal.junk, iA (Int.ofNat i)] ++ jk 36), ([AObj.box [AVal.row 7 0 4 0 (List.length ms), AVal.v (Value.slice none 0 0)], AObj.box [iA n], AObj.box [AVal.v (Value.slice none 0 0), AVal.v (Value.slice none 0 0)], AObj.hidden, AObj.box [AVal.row 7 0 4 0 (List.length ms), AVal.v (Value.slice none 0 0)], AObj.hidden, AObj.hidden, AObj.row 4 0 none ys, AObj.hidden, AObj.hidden, AObj.hidden, AObj.hidden, AObj.hidden, AObj.hidden, AObj.box [AVal.row 7 0 4 0 (List.length ms), AVal.v (Value.slice none 0 0)]])))
theorem deH1_eq (ms : List Nd) (n : Int) (ys : List AVal) (i : Nat) (e0 : callA cD0 (evalF cD0 60) 0 165 [AVal.row 7 0 4 0 (List.length ms), AVal.fn 139 [AVal.ptr 1 0 0]] [AObj.box [AVal.row 7 0 4 0 (List.length ms), AVal.v (Value.slice none 0 0)], AObj.box [iA n], AObj.box [AVal.v (Value.slice none 0 0), AVal.v (Value.slice none 0 0)], AObj.hidden, AObj.box [AVal.row 7 0 4 0 (List.length ms), AVal.v (Value.slice none 0 0)], AObj.hidden, AObj.hidden, AObj.row 4 0 none ys, AObj.hidden, AObj.hidden, AObj.hidden, AObj.hidden, AObj.hidden, AObj.hidden, AObj.box [AVal.row 7 0 4 0 (List.length ms), AVal.v (Value.slice none 0 0)]] = some (iA (Int.ofNat i), [AObj.box [AVal.row 7 0 4 0 (List.length ms), AVal.v (Value.slice none 0 0)], AObj.box [iA n], AObj.box [AVal.v (Value.slice none 0 0), AVal.v (Value.slice none 0 0)], AObj.hidden, AObj.box [AVal.row 7 0 4 0 (List.length ms), AVal.v (Value.slice none 0 0)], AObj.hidden, AObj.hidden, AObj.row 4 0 none ys, AObj.hidden, AObj.hidden, AObj.hidden, AObj.hidden, AObj.hidden, AObj.hidden, AObj.box [AVal.row 7 0 4 0 (List.length ms), AVal.v (Value.slice none 0 0)]])) : evalC (cD0) (evalF cD0 60) (deLv) 0 15 60 (deA1) (deT0 ms AVal.junk) (deS ms n ys) = some (deH1 ms n ys i) := by
  have key := fun (bs : List Bool) (r : AExit × List AVal × List AObj) (ob : List Prop) (h : pathP (cD0) (evalF cD0 60) (deLv) 0 15 60 [(1, 2, Hint.callS fun a S => (iA (↑i : Int), S))] (deA1) (deT0 ms AVal.junk) (deS ms n ys) bs [] = .ok (r.1, r.2.1, r.2.2, ob)) (hp : allOb ob) => pathP_ok h hp
  unfold deH1
  exact key [] ((AExit.normal, (([AVal.row 7 0 4 0 (List.length ms), AVal.fn 139 [AVal.ptr 1 0 0], AVal.junk, AVal.junk, AVal.junk, iA (Int.ofNat i)] ++ jk 36), ([AObj.box [AVal.row 7 0 4 0 (List.length ms), AVal.v (Value.slice none 0 0)], AObj.box [iA n], AObj.box [AVal.v (Value.slice none 0 0), AVal.v (Value.slice none 0 0)], AObj.hidden, AObj.box [AVal.row 7 0 4 0 (List.length ms), AVal.v (Value.slice none 0 0)], AObj.hidden, AObj.hidden, AObj.row 4 0 none ys, AObj.hidden, AObj.hidden, AObj.hidden, AObj.hidden, AObj.hidden, AObj.hidden, AObj.box [AVal.row 7 0 4 0 (List.length ms), AVal.v (Value.slice none 0 0)]])))) _ (by kernel_rfl) (allOb_cons (by exact e0) allOb_nil)
def deH2 (ms : List Nd) (n : Int) (ys : List AVal) (i : Nat) : AExit × List AVal × List AObj :=
  (AExit.normal, (([AVal.row 7 0 4 0 (List.length ms), AVal.fn 139 [AVal.ptr 1 0 0], AVal.junk, AVal.junk, AVal.junk, iA (Int.ofNat i)] ++ jk 6 ++ [bA false] ++ jk 29), ([AObj.box [AVal.row 7 0 4 0 (List.length ms), AVal.v (Value.slice none 0 0)], AObj.box [iA n], AObj.box [AVal.v (Value.slice none 0 0), AVal.v (Value.slice none 0 0)], AObj.hidden, AObj.box [AVal.row 7 0 4 0 (List.length ms), AVal.v (Value.slice none 0 0)], AObj.hidden, AObj.hidden, AObj.row 4 0 none ys, AObj.hidden, AObj.hidden, AObj.hidden, AObj.hidden, AObj.hidden, AObj.hidden, AObj.box [AVal.row 7 0 4 0 (List.length ms), AVal.v (Value.slice none 0 0)]])))
theorem deH2_eq (ms : List Nd) (n : Int) (ys : List AVal) (i : Nat) (p0 : (false) = false) : evalC (cD0) (evalF cD0 60) (deLv) 0 15 60 (deA2) (deT0 ms (iA (↑i : Int))) (deS ms n ys) = some (deH2 ms n ys i) := by
  have key := fun (bs : List Bool) (r : AExit × List AVal × List AObj) (ob : List Prop) (h : pathP (cD0) (evalF cD0 60) (deLv) 0 15 60 [] (deA2) (deT0 ms (iA (↑i : Int))) (deS ms n ys) bs [] = .ok (r.1, r.2.1, r.2.2, ob)) (hp : allOb ob) => pathP_ok h hp
  unfold deH2
  exact key [false] ((AExit.normal, (([AVal.row 7 0 4 0 (List.length ms), AVal.fn 139 [AVal.ptr 1 0 0], AVal.junk, AVal.junk, AVal.junk, iA (Int.ofNat i)] ++ jk 6 ++ [bA false] ++ jk 29), ([AObj.box [AVal.row 7 0 4 0 (List.length ms), AVal.v (Value.slice none 0 0)], AObj.box [iA n], AObj.box [AVal.v (Value.slice none 0 0), AVal.v (Value.slice none 0 0)], AObj.hidden, AObj.box [AVal.row 7 0 4 0 (List.length ms), AVal.v (Value.slice none 0 0)], AObj.hidden, AObj.hidden, AObj.row 4 0 none ys, AObj.hidden, AObj.hidden, AObj.hidden, AObj.hidden, AObj.hidden, AObj.hidden, AObj.box [AVal.row 7 0 4 0 (List.length ms), AVal.v (Value.slice none 0 0)]])))) _ (by kernel_rfl) (allOb_cons lit_f allOb_nil)
def deX (ms : List Nd) (i j : Nat) : List AVal := [.row 7 0 4 0 ms.length, deF] ++ jk 3 ++ [iA i, iA j] ++ jk 12 ++ [bA false] ++ jk 22
def deH12 (ms : List Nd) (n : Int) (ys : List AVal) (i : Nat) : AExit × List AVal × List AObj :=
  (AExit.ret, ((jk 4 ++ [AVal.row 7 0 4 0 (Int.toNat (↑i : Int))] ++ jk 37), ([AObj.box [AVal.row 7 0 4 0 (List.length ms), AVal.v (Value.slice none 0 0)], AObj.box [iA n], AObj.box [AVal.v (Value.slice none 0 0), AVal.v (Value.slice none 0 0)], AObj.hidden, AObj.box [AVal.row 7 0 4 0 (List.length ms), AVal.v (Value.slice none 0 0)], AObj.hidden, AObj.hidden, AObj.row 4 0 none ys, AObj.hidden, AObj.hidden, AObj.hidden, AObj.hidden, AObj.hidden, AObj.hidden, AObj.box [AVal.row 7 0 4 0 (List.length ms), AVal.v (Value.slice none 0 0)]])))
theorem deH12_eq (ms : List Nd) (n : Int) (ys : List AVal) (i : Nat) (e0 : boundsA (List.length ms) none (some (iA (Int.ofNat i))) none = some (0, Int.toNat (↑i : Int), none)) : evalC (cD0) (evalF cD0 60) (deLv) 0 15 60 (deA12) (deT0 ms (iA (↑i : Int))) (deS ms n ys) = some (deH12 ms n ys i) := by
  have key := fun (bs : List Bool) (r : AExit × List AVal × List AObj) (ob : List Prop) (h : pathP (cD0) (evalF cD0 60) (deLv) 0 15 60 [(12, 2, Hint.cut)] (deA12) (deT0 ms (iA (↑i : Int))) (deS ms n ys) bs [] = .ok (r.1, r.2.1, r.2.2, ob)) (hp : allOb ob) => pathP_ok h hp
  unfold deH12
  exact key [] ((AExit.ret, ((jk 4 ++ [AVal.row 7 0 4 0 (Int.toNat (↑i : Int))] ++ jk 37), ([AObj.box [AVal.row 7 0 4 0 (List.length ms), AVal.v (Value.slice none 0 0)], AObj.box [iA n], AObj.box [AVal.v (Value.slice none 0 0), AVal.v (Value.slice none 0 0)], AObj.hidden, AObj.box [AVal.row 7 0 4 0 (List.length ms), AVal.v (Value.slice none 0 0)], AObj.hidden, AObj.hidden, AObj.row 4 0 none ys, AObj.hidden, AObj.hidden, AObj.hidden, AObj.hidden, AObj.hidden, AObj.hidden, AObj.box [AVal.row 7 0 4 0 (List.length ms), AVal.v (Value.slice none 0 0)]])))) _ (by kernel_rfl) (allOb_cons (by exact e0) allOb_nil)
end Go.Proofs.YtkkgimhbliocoaaGreat
/- slices.DeleteFunc of nodes, at the state of topo.WithoutNode, as a call by objects. -/
namespace Go.Proofs.YtkkgimhbliocoaaGreat
open Go Vm M
set_option linter.unusedVariables false
set_option linter.unusedSectionVars false
set_option linter.unusedSimpArgs false
open Vm in
/-- What is in temporaries may be left out of sight. -/
theorem EV.dim {c : Cfg} {base : Nat} {code : Code} {T T1 : List AVal} {S S1 : List AObj} {x : AExit} (m : Nat) (h : EV c base code T S x T1 S1) : EV c base code T S x (forget m T1) S1 := by
  intro ro C0 C a d0 hro hb hS hE hT hd hCS
  refine wpIn_mono (h ro C0 C a d0 hro hb hS hE hT hd hCS) ?_
  rintro e a1 w1 ⟨C1, h1, e1, k1, k2, k3, k4, k5⟩
  exact ⟨C1, h1, e1, k1, k2, forgetRT k3 m, k4, k5⟩
theorem boundsA_hi' {n b : Nat} (h2 : b ≤ n) : boundsA n none (some (iA (b : Int))) none = some (0, b, none) := by
  simp [boundsA, numA, iA, mxOk, h2]
noncomputable abbrev evD : Ev := evalF cD0 60
theorem evD_ok : EvOk cD0 evD := evalF_ok cD0_ok 60
theorem partNr {ns : List Nd} {k : Nat} (h : k < ns.length) : partA Tryz.prog 30 (upL (flatN ns)) ((0 + k) * 4) = some (ndA (nAt ns k)) := by
  have := partN h
  unfold partA at this ⊢
  rw [aggN, szN] at this ⊢
  simp only at this ⊢
  rw [if_pos (by rw [upL_length, flatN_length]; omega)]
  rw [if_pos (by rw [upL_length, List.length_drop, flatN_length]; omega), List.drop_zero] at this
  rw [Nat.zero_add, upL_drop']
  exact this
section
variable (ms : List Nd) (t : Int) (k : Nat)
def dlS (i : Nat) : List AObj := deS ms t (upL (flatN (dlY ms k i)))
theorem dl_not (m : Nd) (S : List AObj) (hS : S[1]? = some (.box [iA t])) (hm : (m.1 == t) = false) : callA cD0 evD 0 139 [ndA m, .ptr 1 0 0] S = some (bA false, S) := by
  refine callA_lend (r := bP false) (g := gDn1) (by kernel_rfl) (by kernel_rfl) (by kernel_rfl) ?_ rfl
  have e : [ndA m, AVal.ptr 1 0 0].map (peekT S deep) = [ndP m, pnE t] := by
    have e1 : peekT S deep (.ptr 1 0 0) = pnE t := by
      show peekT S (5 + 1) (.ptr 1 0 0) = _
      simp only [peekT, hS]
      rfl
    simp only [List.map_cons, List.map_nil, e1]
    rfl
  rw [e]
  show some (bP (m.1 == t)) = _
  rw [hm]
theorem dl_round (hl : ms.length ≤ 1000) (hk : k < ms.length) {i : Nat} (h1 : k ≤ i) (h2 : i + 1 < ms.length) (hn : (nAt ms (i + 1)).1 ≠ t) : EV cD0 15 deK (deT ms i (i + 1)) (dlS ms t k i) .normal (deT ms (i + 1) (i + 2)) (dlS ms t k (i + 1)) := by
  have hd : decide (((i + 1 : Nat) : Int) < (ms.length : Int)) = true := decide_eq_true (by omega)
  have e := dlK_eq ms t (upL (flatN (dlY ms k i))) (upL (flatN (dlY ms k (i + 1)))) i (i + 1) (nAt ms (i + 1)) false
    (fun _ => ⟨by omega, by omega⟩)
    (fun _ => by
      have := partNr (ns := dlY ms k i) (k := i + 1) (by rw [dlY_length hk (by omega)]; exact h2)
      rw [dlY_at h1 h2] at this
      exact this)
    (fun _ => dl_not t (nAt ms (i + 1)) _ rfl (by rw [beq_eq_false_iff_ne]; exact hn))
    (fun _ _ => ⟨by omega, by omega⟩)
    (fun _ _ => by
      rw [show (0 + Int.toNat (i : Int)) * 4 = i * 4 by simp]
      exact dlY_put h1 h2)
  unfold dlK at e
  rw [hd, cond_true, Bool.not_false, cond_true, wrS (by omega), wrS (by omega)] at e
  refine EV.tidy [7] (EV.of cD0_ok evD_ok e) (fun q hq y hy => ?_) (by kernel_rfl)
  simp only [List.mem_singleton] at hq
  subst hq
  have : y = .row 4 0 none (upL (flatN (dlY ms k (i + 1)))) := (Option.some.inj hy).symm
  subst this
  exact flatN_plain _
theorem dl_end (hl : ms.length ≤ 1000) (hk : k < ms.length) : EV cD0 15 deK (deT ms (ms.length - 1) ms.length) (dlS ms t k (ms.length - 1)) (.exit 0) (deX ms (ms.length - 1) ms.length) (dlS ms t k (ms.length - 1)) := by
  have hd : decide (((ms.length : Nat) : Int) < (ms.length : Int)) = false := decide_eq_false (by omega)
  have e := dlK_eq ms t (upL (flatN (dlY ms k (ms.length - 1)))) [] (ms.length - 1) ms.length (nAt ms 0) false
    (fun h => by rw [hd] at h; cases h) (fun h => by rw [hd] at h; cases h) (fun h => by rw [hd] at h; cases h) (fun h => by rw [hd] at h; cases h) (fun h => by rw [hd] at h; cases h)
  unfold dlK at e
  rw [hd, cond_false] at e
  exact EV.of cD0_ok evD_ok e
theorem dl_loop (hl : ms.length ≤ 1000) (hk : k < ms.length) (hn : ∀ j, k < j → j < ms.length → (nAt ms j).1 ≠ t) : EV cD0 15 (.loop deK) (deT ms k (k + 1)) (dlS ms t k k) (.exit 0) (deX ms (ms.length - 1) ms.length) (dlS ms t k (ms.length - 1)) := by
  have := EV.loop (c := cD0) (base := 15) (body := deK) (n := ms.length - 1 - k) (T := fun d => deT ms (k + d) (k + d + 1)) (S := fun d => dlS ms t k (k + d)) (x := .exit 0) (T' := deX ms (ms.length - 1) ms.length) (S' := dlS ms t k (ms.length - 1))
    (fun d hd => dl_round ms t k hl hk (by omega) (by omega) (hn _ (by omega) (by omega))) (by
      have := dl_end ms t k hl hk
      rw [show k + (ms.length - 1 - k) = ms.length - 1 by omega, show ms.length - 1 + 1 = ms.length by omega]
      exact this) (by simp)
  exact this
end
end Go.Proofs.YtkkgimhbliocoaaGreat
/- slices.DeleteFunc of nodes: what is behind is cleared; the whole call. -/
namespace Go.Proofs.YtkkgimhbliocoaaGreat
open Go Vm M
set_option linter.unusedVariables false
set_option linter.unusedSectionVars false
set_option linter.unusedSimpArgs false
noncomputable def deO : Array Oper := match deA11 with
  | .region _ ops _ => ops
  | _ => #[]
theorem de11_reg : deA11 = .region 11 deO false := by kernel_rfl
noncomputable def dePre : List Oper := deO.toList.take 3
noncomputable def deClr : Oper := match deO.toList with
  | [_, _, _, c] => c
  | _ => ⟨none, .move (.tmp 0), 0, "", #[], none⟩
theorem deO_list : deO.toList = dePre ++ [deClr] := by kernel_rfl
noncomputable def zN : Value := ((Tryz.prog.info? 30).bind fun i => i.zero).getD undef
def zN4 : List Value := [.int .i64 0, .int .i64 0, .int .i64 0, .int .i64 0]
section
variable (ms : List Nd) (t : Int) (k : Nat)
def deT1 (i : Nat) : List AVal := (((deX ms i ms.length).set 36 (.row 7 0 4 0 ms.length)).set 37 (iA i)).set 38 (.row 7 0 4 (0 + i) (ms.length - i))
noncomputable def deKn (ys : List AVal) (i : Nat) : List Nat := match opsP cD0 evD 0 [(11, 2, .cut)] 11 deO 0 dePre (deX ms i ms.length) (deS ms t ys) ⟨[], [], [], []⟩ with
  | .ok (_, _, st) => st.kn
  | _ => []
theorem de11_run (ys : List AVal) (i : Nat) (h : i ≤ ms.length) : runOps cD0 evD 0 deO dePre (deX ms i ms.length) (deS ms t ys) = some (deT1 ms i, deS ms t ys) :=
  (opsP_ok (hs := [(11, 2, .cut)]) (id := 11) dePre 0 _ _ ⟨[], [], [], []⟩ (deT1 ms i) (deS ms t ys) ⟨[], [], deKn ms t ys i, [boundsA ms.length (some (iA (i : Int))) none none = some (i, ms.length, none)]⟩ (by kernel_rfl) (allOb_cons (boundsA_lo h) allOb_nil)).1
def deZ : List AVal := [iA 0, iA 0, iA 0, iA 0]
theorem de11_ev (hk : k < ms.length) : EV cD0 15 deA11 (deX ms (ms.length - 1) ms.length) (dlS ms t k (ms.length - 1)) .normal (deT0 ms (iA (ms.length - 1 : Nat))) (deS ms t (upL (flatN (delN ms k)) ++ deZ)) := by
  have h1 : ms.length - (ms.length - 1) = 1 := by omega
  have hd := delN_length hk
  have e := EV.clear (c := cD0) (base := 15) (lo := 0) (id := 11) cD0_ok evD_ok (pre := dePre) (clr := deClr) (m := 38) (t := 22) (el := 30) (z := zN) (o := 7) (e := 0) (sz := 4) (off := 0 + (ms.length - 1)) (len := ms.length - (ms.length - 1)) (xs := upL (flatN (dlY ms k (ms.length - 1)))) (zs := zN4)
    deO_list ⟨by kernel_rfl, by kernel_rfl, by kernel_rfl⟩ (de11_run ms t (upL (flatN (dlY ms k (ms.length - 1)))) (ms.length - 1) (by omega)) (by kernel_rfl) rfl (by omega) (by rw [upL_length, flatN_length, dlY_length hk (by omega)]; omega)
    (by kernel_rfl) (fun w => by kernel_rfl) (by rw [h1]; kernel_rfl) (by rw [h1]; rfl) (by intro v hv; simp only [zN4, List.mem_cons, List.not_mem_nil, or_false, or_self] at hv; subst hv; rfl)
    (fun C => Rvs_mk fun j x hj => by
      simp only [List.getElem?_map, Option.map_eq_some_iff] at hj
      obtain ⟨y, hy, rfl⟩ := hj
      exact ⟨y, by rw [Nat.zero_add]; exact hy, by simp [Rv]⟩)
  rw [← de11_reg] at e
  have e2 := EV.dim 35 e
  have ex : (upL (flatN (dlY ms k (ms.length - 1)))).take ((0 + (ms.length - 1)) * 4) = upL (flatN (delN ms k)) := by
    rw [Nat.zero_add, upL_take', flatN_take, dlY_last hk, List.take_append_of_le_length (by omega), List.take_of_length_le (by omega)]
  rw [ex] at e2
  exact e2
theorem de_ix (hl : ms.length ≤ 1000) (hix : ixI ms t = (k : Int)) (S : List AObj) (h1 : S[1]? = some (.box [iA t])) (h7 : S[7]? = some (.row 4 0 none (upL (flatN ms)))) : callA cD0 evD 0 165 [.row 7 0 4 0 ms.length, deF] S = some (iA k, S) := by
  refine callA_lend (r := iP k) (g := gIxD) (by kernel_rfl) (by kernel_rfl) (by kernel_rfl) ?_ rfl
  have e1 : peekT S deep deF = dnP t := by
    show peekT S (5 + 1) deF = _
    unfold deF
    simp only [peekT, List.map_cons, List.map_nil, h1]
    rfl
  have e2 : peekT S deep (.row 7 0 4 0 ms.length) = nsP ms := peekT_rowN (n := 4) h7
  simp only [List.map_cons, List.map_nil, e1, e2]
  rw [gIxD_ok ms t hl, hix]
theorem del_callsA (hl : ms.length ≤ 1000) (hk : k < ms.length) (hix : ixI ms t = (k : Int)) (hn : ∀ j, k < j → j < ms.length → (nAt ms j).1 ≠ t) :
    CallsA Tryz.prog 138 [.row 7 0 4 0 ms.length, deF] (deS ms t (upL (flatN ms))) (.row 7 0 4 0 (ms.length - 1)) (deS ms t (upL (flatN (delN ms k)) ++ deZ)) := by
  have hT : cD0.tab 138 = some ((cD0.tab 138).getD ⟨0, #[], .skip, []⟩) := by kernel_rfl
  refine callsA_of_EV cD0_ok hT (x := .ret) (.inr rfl) (T' := (deH12 ms t (upL (flatN (delN ms k)) ++ deZ) (ms.length - 1)).2.1) (by kernel_rfl) ?_
  rw [show (((cD0.tab 138).getD ⟨0, #[], .skip, []⟩).body) = deB by kernel_rfl, de_body, show (deS ms t (upL (flatN ms))).length = 15 from rfl]
  refine EV.seq (EV.of cD0_ok evD_ok (lv := deLv) (lo := 0) (n := 60) (T' := deT0 ms .junk) (S' := deS ms t (upL (flatN ms))) (by kernel_rfl)) ?_
  refine EV.seq (EV.of cD0_ok evD_ok (deH1_eq ms t (upL (flatN ms)) k (de_ix ms t k hl hix _ rfl rfl))) ?_
  refine EV.seq (EV.of cD0_ok evD_ok (deH2_eq ms t (upL (flatN ms)) k rfl)) ?_
  have h4 : EV cD0 15 deA4 (deH2 ms t (upL (flatN ms)) k).2.1 (deS ms t (upL (flatN ms))) .normal (deT ms k (k + 1)) (deS ms t (upL (flatN ms))) := by
    have e : evalC cD0 evD deLv 0 15 60 deA4 (deH2 ms t (upL (flatN ms)) k).2.1 (deS ms t (upL (flatN ms))) = some (.normal, [.row 7 0 4 0 ms.length, deF] ++ jk 3 ++ [iA k, iA (IntKind.i64.wrap ((k : Int) + 1))] ++ jk 35, deS ms t (upL (flatN ms))) := by kernel_rfl
    rw [wrS (by omega)] at e
    exact EV.of cD0_ok evD_ok e
  have hloop := dl_loop ms t k hl hk hn
  unfold dlS at hloop
  rw [dlY_first hk] at hloop
  refine EV.seq (EV.seq h4 (EV.block hloop)) ?_
  exact EV.seq (de11_ev ms t k hk) (EV.of cD0_ok evD_ok (deH12_eq ms t (upL (flatN (delN ms k)) ++ deZ) (ms.length - 1) (boundsA_hi' (by omega))))
end
end Go.Proofs.YtkkgimhbliocoaaGreat
/- topo.WithoutNode of a plan without edges: printed over what is told of slices.DeleteFunc. -/
namespace Go.Proofs.YtkkgimhbliocoaaGreat
open Go Vm M
set_option linter.unusedVariables false
set_option linter.unusedSimpArgs false
noncomputable abbrev cDg (gd : Nat → List AVal → List AObj → Option (AVal × List AObj)) : Cfg := addS cD0 138 gd
def woC (gd : Nat → List AVal → List AObj → Option (AVal × List AObj)) (q : Nd) (t : Int) (qs : List Nd) (m : Nat) (zs : List AVal) : AVal × List AObj :=
  (AVal.agg [AVal.row 7 0 4 0 m, AVal.v (Value.slice none 0 0)], ([AObj.box [AVal.row 7 0 4 0 m, AVal.v (Value.slice none 0 0)], AObj.box [iA t], AObj.box [AVal.row 7 0 4 0 m, AVal.v (Value.slice none 0 0)], AObj.hidden, AObj.box [AVal.row 7 0 4 0 (List.length (q :: qs)), AVal.v (Value.slice none 0 0)], AObj.hidden, AObj.hidden, AObj.row 4 0 none zs, AObj.hidden, AObj.hidden, AObj.hidden, AObj.hidden, AObj.hidden, AObj.hidden, AObj.box [AVal.row 7 0 4 0 (List.length (q :: qs)), AVal.v (Value.slice none 0 0)]]))
theorem woC_eq (gd : Nat → List AVal → List AObj → Option (AVal × List AObj)) (q : Nd) (t : Int) (qs : List Nd) (m : Nat) (zs : List AVal) (e0 : callA (cDg gd) (evalF (cDg gd) 61) 0 133 [AVal.agg [AVal.list (List.length (q :: qs)) (iP (Prod.fst q) :: iP (Prod.fst (Prod.fst (Prod.snd q))) :: iP (Prod.snd (Prod.fst (Prod.snd q))) :: iP (Prod.snd (Prod.snd q)) :: flatN qs), AVal.v (Value.slice none 0 0)]] [AObj.box [AVal.list (List.length (q :: qs)) (iP (Prod.fst q) :: iP (Prod.fst (Prod.fst (Prod.snd q))) :: iP (Prod.snd (Prod.fst (Prod.snd q))) :: iP (Prod.snd (Prod.snd q)) :: flatN qs), AVal.v (Value.slice none 0 0)], AObj.box [iA t], AObj.box [AVal.v (Value.slice none 0 0), AVal.v (Value.slice none 0 0)]] = some (AVal.agg [AVal.row 7 0 4 0 (List.length (q :: qs)), AVal.v (Value.slice none 0 0)], [AObj.box [AVal.list (List.length (q :: qs)) (iP (Prod.fst q) :: iP (Prod.fst (Prod.fst (Prod.snd q))) :: iP (Prod.snd (Prod.fst (Prod.snd q))) :: iP (Prod.snd (Prod.snd q)) :: flatN qs), AVal.v (Value.slice none 0 0)], AObj.box [iA t], AObj.box [AVal.v (Value.slice none 0 0), AVal.v (Value.slice none 0 0)], AObj.hidden, AObj.box [AVal.row 7 0 4 0 (List.length (q :: qs)), AVal.v (Value.slice none 0 0)], AObj.hidden, AObj.hidden, AObj.row 4 0 none (iA (Prod.fst q) :: iA (Prod.fst (Prod.fst (Prod.snd q))) :: iA (Prod.snd (Prod.fst (Prod.snd q))) :: iA (Prod.snd (Prod.snd q)) :: upL (flatN qs)), AObj.hidden, AObj.hidden, AObj.hidden, AObj.hidden, AObj.hidden, AObj.hidden, AObj.box [AVal.row 7 0 4 0 (List.length (q :: qs)), AVal.v (Value.slice none 0 0)]])) (e1 : callA (cDg gd) (evalF (cDg gd) 61) 0 138 [AVal.row 7 0 4 0 (List.length (q :: qs)), AVal.fn 139 [AVal.ptr 1 0 0]] [AObj.box [AVal.row 7 0 4 0 (List.length (q :: qs)), AVal.v (Value.slice none 0 0)], AObj.box [iA t], AObj.box [AVal.v (Value.slice none 0 0), AVal.v (Value.slice none 0 0)], AObj.hidden, AObj.box [AVal.row 7 0 4 0 (List.length (q :: qs)), AVal.v (Value.slice none 0 0)], AObj.hidden, AObj.hidden, AObj.row 4 0 none (iA (Prod.fst q) :: iA (Prod.fst (Prod.fst (Prod.snd q))) :: iA (Prod.snd (Prod.fst (Prod.snd q))) :: iA (Prod.snd (Prod.snd q)) :: upL (flatN qs)), AObj.hidden, AObj.hidden, AObj.hidden, AObj.hidden, AObj.hidden, AObj.hidden, AObj.box [AVal.row 7 0 4 0 (List.length (q :: qs)), AVal.v (Value.slice none 0 0)]] = some (AVal.row 7 0 4 0 m, [AObj.box [AVal.row 7 0 4 0 (List.length (q :: qs)), AVal.v (Value.slice none 0 0)], AObj.box [iA t], AObj.box [AVal.v (Value.slice none 0 0), AVal.v (Value.slice none 0 0)], AObj.hidden, AObj.box [AVal.row 7 0 4 0 (List.length (q :: qs)), AVal.v (Value.slice none 0 0)], AObj.hidden, AObj.hidden, AObj.row 4 0 none zs, AObj.hidden, AObj.hidden, AObj.hidden, AObj.hidden, AObj.hidden, AObj.hidden, AObj.box [AVal.row 7 0 4 0 (List.length (q :: qs)), AVal.v (Value.slice none 0 0)]])) : evalF (cDg gd) (61 + 1) (0) 77 ([AVal.agg [nsA (q :: qs), nilA], iA t]) ([]) = some (woC gd q t qs m zs) := by
  have key := fun (bs : List Bool) (r : AVal × List AObj) (ob : List Prop) (h : funP (cDg gd) (evalF (cDg gd) 61) 61 [(1, 1, Hint.call (AVal.agg [AVal.row 7 0 4 0 (List.length (q :: qs)), nilA]) (cpH (q :: qs) t (AVal.row 7 0 4 0 (List.length (q :: qs))) (upL (flatN (q :: qs))))), (2, 3, Hint.callS fun a S => (AVal.row 7 0 4 0 m, List.set S 7 (AObj.row 4 0 none zs)))] 77 (0) ([AVal.agg [nsA (q :: qs), nilA], iA t]) ([]) bs [] = .ok (r.1, r.2, ob)) (hp : allOb ob) => funP_ok h hp
  unfold woC
  exact key [] ((AVal.agg [AVal.row 7 0 4 0 m, AVal.v (Value.slice none 0 0)], ([AObj.box [AVal.row 7 0 4 0 m, AVal.v (Value.slice none 0 0)], AObj.box [iA t], AObj.box [AVal.row 7 0 4 0 m, AVal.v (Value.slice none 0 0)], AObj.hidden, AObj.box [AVal.row 7 0 4 0 (List.length (q :: qs)), AVal.v (Value.slice none 0 0)], AObj.hidden, AObj.hidden, AObj.row 4 0 none zs, AObj.hidden, AObj.hidden, AObj.hidden, AObj.hidden, AObj.hidden, AObj.hidden, AObj.box [AVal.row 7 0 4 0 (List.length (q :: qs)), AVal.v (Value.slice none 0 0)]]))) _ (by kernel_rfl) (allOb_cons (by exact e1) (allOb_cons (by exact e0) allOb_nil))
end Go.Proofs.YtkkgimhbliocoaaGreat
/- topo.WithoutNode of a plan without edges, as a call by values. -/
namespace Go.Proofs.YtkkgimhbliocoaaGreat
open Go Vm M
set_option linter.unusedVariables false
set_option linter.unusedSectionVars false
set_option linter.unusedSimpArgs false
theorem mark_rowZ {S : List AObj} {o e ep off len n : Nat} {fz : Option Nat} {ns : List Nd} (h : S[o]? = some (.row 4 e fz (upL (flatN ns) ++ deZ))) : Vm.mark 0 (n + 2) S (.row o ep 4 off len) = S.set o (.row 4 e (some (upL (flatN ns) ++ deZ).length) (upL (flatN ns) ++ deZ)) := by
  simp only [Vm.mark, h]
  rw [if_pos (Nat.zero_le _), List.foldl_append, mark_flatN]
  rfl
theorem peek_rowZ {S : List AObj} {o n e : Nat} {ns : List Nd} (h : S[o]? = some (.row 4 e (some (upL (flatN ns) ++ deZ).length) (upL (flatN ns) ++ deZ))) : peek S (n + 2) (.row o e 4 0 ns.length) = some (nsP ns) := by
  simp only [peek, h]
  have hc : cutA (upL (flatN ns) ++ deZ) 4 0 (0 + ns.length) = upL (flatN ns) := by
    unfold cutA
    rw [Nat.zero_mul, List.drop_zero, List.take_append_of_le_length (by rw [upL_length, flatN_length]; omega), List.take_of_length_le (by rw [upL_length, flatN_length]; omega)]
  rw [if_pos ⟨trivial, trivial, by rw [List.length_append, upL_length, flatN_length]; omega⟩, hc, peek_flatN]
  rfl
section
variable (ms : List Nd) (t : Int) (k : Nat)
open Classical in
noncomputable def gDelC (lo : Nat) (args : List AVal) (S : List AObj) : Option (AVal × List AObj) :=
  if lo = 0 ∧ args = [.row 7 0 4 0 ms.length, deF] ∧ S = deS ms t (upL (flatN ms)) then some (.row 7 0 4 0 (ms.length - 1), deS ms t (upL (flatN (delN ms k)) ++ deZ)) else none
theorem gDelC_ok (hl : ms.length ≤ 1000) (hk : k < ms.length) (hix : ixI ms t = (k : Int)) (hn : ∀ j, k < j → j < ms.length → (nAt ms j).1 ≠ t) (lo : Nat) (args : List AVal) (S : List AObj) (r : AVal) (S' : List AObj) (h : gDelC ms t k lo args S = some (r, S')) :
    CallsA Tryz.prog 138 args S r S' ∧ Stays lo S S' := by
  unfold gDelC at h
  split at h
  · rename_i hc
    obtain ⟨rfl, rfl, rfl⟩ := hc
    simp only [Option.some.injEq, Prod.mk.injEq] at h
    obtain ⟨rfl, rfl⟩ := h
    exact ⟨del_callsA ms t k hl hk hix hn, Nat.le_refl _, fun q hq _ => by omega⟩
  · cases h
end
set_option maxRecDepth 100000 in
theorem without_calls (q : Nd) (qs : List Nd) (t : Int) (k : Nat) (hl : (q :: qs).length ≤ 1000) (hk : k < (q :: qs).length) (hix : ixI (q :: qs) t = (k : Int)) (hn : ∀ j, k < j → j < (q :: qs).length → (nAt (q :: qs) j).1 ≠ t) :
    CallsP Tryz.prog 77 [plN (q :: qs).length (flatN (q :: qs)), iP t] (plN (delN (q :: qs) k).length (flatN (delN (q :: qs) k))) := by
  have hd := delN_length hk
  have hok : CfgOk (cDg (gDelC (q :: qs) t k)) := addS_ok cD0_ok (Vm.enters_of named_prog Tryz.func138 (by kernel_rfl)) (gDelC_ok (q :: qs) t k hl hk hix hn)
  have e := woC_eq (gDelC (q :: qs) t k) q t qs ((q :: qs).length - 1) (upL (flatN (delN (q :: qs) k)) ++ deZ)
    (callA_gS (g := gCo2) (by kernel_rfl) (gCo2_wo q t qs hl))
    (callA_gS (g := gDelC (q :: qs) t k) (by kernel_rfl) (if_pos ⟨rfl, rfl, rfl⟩))
  have hA := (evalF_ok hok 62).calls _ _ _ _ _ _ e
  refine callsP_of_A (ps := [plN (q :: qs).length (flatN (q :: qs)), iP t]) hA ?_
  have hlen : (q :: qs).length - 1 = (delN (q :: qs) k).length := by omega
  rw [hlen]
  have hm : Vm.mark 0 5 (woC (gDelC (q :: qs) t k) q t qs (delN (q :: qs) k).length (upL (flatN (delN (q :: qs) k)) ++ deZ)).2 (.row 7 0 4 0 (delN (q :: qs) k).length) = _ := mark_rowZ (o := 7) (e := 0) (n := 3) (fz := none) (ns := delN (q :: qs) k) rfl
  show peek (Vm.mark 0 5 (Vm.mark 0 5 (woC (gDelC (q :: qs) t k) q t qs (delN (q :: qs) k).length (upL (flatN (delN (q :: qs) k)) ++ deZ)).2 (.row 7 0 4 0 (delN (q :: qs) k).length)) nilA) deep (.agg [.row 7 0 4 0 (delN (q :: qs) k).length, nilA]) = _
  rw [hm]
  have hp := peek_rowZ (S := ((woC (gDelC (q :: qs) t k) q t qs (delN (q :: qs) k).length (upL (flatN (delN (q :: qs) k)) ++ deZ)).2).set 7 (.row 4 0 (some (upL (flatN (delN (q :: qs) k)) ++ deZ).length) (upL (flatN (delN (q :: qs) k)) ++ deZ))) (o := 7) (n := 3) (e := 0) (ns := delN (q :: qs) k) rfl
  show (mapO (peek _ 5) [.row 7 0 4 0 (delN (q :: qs) k).length, nilA]).map PVal.agg = _
  simp only [mapO]
  rw [show peek (Vm.mark 0 5 (((woC (gDelC (q :: qs) t k) q t qs (delN (q :: qs) k).length (upL (flatN (delN (q :: qs) k)) ++ deZ)).2).set 7 (.row 4 0 (some (upL (flatN (delN (q :: qs) k)) ++ deZ).length) (upL (flatN (delN (q :: qs) k)) ++ deZ))) nilA) 5 (.row 7 0 4 0 (delN (q :: qs) k).length) = some (nsP (delN (q :: qs) k)) from hp]
  rfl
def uniqB (ns : List Nd) (t : Int) (j : Nat) : Bool := (List.range ns.length).all fun i => decide (i ≤ j) || !((nAt ns i).1 == t)
theorem without_all {ns : List Nd} {t : Int} {j : Nat} (hl : ns.length ≤ 1000) (hj : firstAt (atI2 ns t) ns.length 0 = some j) (hu : uniqB ns t j = true) : CallsP Tryz.prog 77 [plN ns.length (flatN ns), iP t] (plN (delN ns j).length (flatN (delN ns j))) := by
  have hlt : j < ns.length := by have := (firstAt_some hj).2.1; omega
  cases ns with
  | nil => simp at hlt
  | cons q qs =>
    refine without_calls q qs t j hl hlt (by unfold ixI; rw [hj]) fun i h1 h2 => ?_
    unfold uniqB at hu
    rw [List.all_eq_true] at hu
    have := hu i (List.mem_range.2 h2)
    rw [decide_eq_false (by omega), Bool.false_or, Bool.not_eq_true', beq_eq_false_iff_ne] at this
    exact this
def gWo (args : List PVal) : Option PVal := withNs args fun ns r => match r with
  | [.v (.int .i64 t)] => if ns.length ≤ 1000 then (firstAt (atI2 ns t) ns.length 0).bind fun j => if uniqB ns t j = true then some (plN (delN ns j).length (flatN (delN ns j))) else none else none
  | _ => none
theorem gWo_spec : ∀ args v, gWo args = some v → CallsP Tryz.prog 77 args v := withNs_spec fun ns r v h => by
  split at h
  · rename_i t
    split at h
    · rename_i hl
      rw [Option.bind_eq_some_iff] at h
      obtain ⟨j, hj, h⟩ := h
      split at h
      · rename_i hu
        simp only [Option.some.injEq] at h
        subst h
        exact without_all hl hj hu
      · cases h
    · cases h
  · cases h
theorem gWo_ok {ns : List Nd} {t : Int} {j : Nat} (hl : ns.length ≤ 1000) (hj : firstAt (atI2 ns t) ns.length 0 = some j) (hu : uniqB ns t j = true) : gWo [plN ns.length (flatN ns), iP t] = some (plN (delN ns j).length (flatN (delN ns j))) := by
  unfold gWo
  rw [withNs_ok]
  show (if ns.length ≤ 1000 then (firstAt (atI2 ns t) ns.length 0).bind fun j => if uniqB ns t j = true then some (plN (delN ns j).length (flatN (delN ns j))) else none else none) = _
  rw [if_pos hl, hj, Option.bind_some, if_pos hu]
end Go.Proofs.YtkkgimhbliocoaaGreat
/- topo.RemNode and topo.AddNode of plans without edges, over what is told of WithNode and WithoutNode. -/
namespace Go.Proofs.YtkkgimhbliocoaaGreat
open Go Vm M
set_option linter.unusedVariables false
set_option linter.unusedSimpArgs false
theorem midN_end (ns : List Nd) (n : Nd) : midN ns n ns.length = ns ++ [n] := by simp [midN]
theorem withAny_all {ns : List Nd} {n : Nd} (h1 : 1 ≤ ns.length) (hl : ns.length ≤ 999) (h : riseC ns n.1 = true) : CallsP Tryz.prog 89 [plN ns.length (flatN ns), ndP n] (plN (midN ns n (binM ns n.1)).length (flatN (midN ns n (binM ns n.1)))) := by
  have hr := rise_of h
  cases ns with
  | nil => simp at h1
  | cons q qs =>
    by_cases hm : binM (q :: qs) n.1 < (q :: qs).length
    · exact withMid_calls q n qs _ hm hl hr
    · have he : binM (q :: qs) n.1 = (q :: qs).length := by have := hr.1; omega
      rw [he, midN_end]
      rw [he] at hr
      exact withEnd_calls q n qs hl hr
def gWith2 (args : List PVal) : Option PVal := withNs args fun ns r => match r with
  | [.agg [.v (.int .i64 a), .v (.int .i64 b), .v (.int .i64 c), .v (.int .i64 d)]] => if 1 ≤ ns.length ∧ ns.length ≤ 999 ∧ riseC ns a = true then some (plN (midN ns (a, (b, c), d) (binM ns a)).length (flatN (midN ns (a, (b, c), d) (binM ns a)))) else none
  | _ => none
theorem gWith2_spec : ∀ args v, gWith2 args = some v → CallsP Tryz.prog 89 args v := withNs_spec fun ns r v h => by
  split at h
  · rename_i a b c d
    split at h
    · rename_i hc
      simp only [Option.some.injEq] at h
      subst h
      exact withAny_all (n := (a, (b, c), d)) hc.1 hc.2.1 hc.2.2
    · cases h
  · cases h
noncomputable def KQ1 : Lib Tryz.prog := KP5.add 77 gWo (Vm.enters_of named_prog Tryz.func77 (by kernel_rfl)) gWo_spec
noncomputable def KQ2 : Lib Tryz.prog := KQ1.add 89 gWith2 (Vm.enters_of named_prog Tryz.func89 (by kernel_rfl)) gWith2_spec
def remQ (ns : List Nd) (t : Int) (q : Nd) (m : Nat) (xs : List PVal) : PVal :=
  PVal.tup [PVal.agg [PVal.list m xs, PVal.v (Value.slice none 0 0)], iP (Int.ofNat 0)]
theorem remQ_calls (ns : List Nd) (t : Int) (q : Nd) (m : Nat) (xs : List PVal) (e0 : pureCall (cfM KQ2) (evalF (cfM KQ2) 60) 90 [PVal.agg [PVal.list (List.length ns) (flatN ns), PVal.v (Value.slice none 0 0)], iP t] = some (PVal.tup [PVal.agg [iP (Prod.fst q), iP (Prod.fst (Prod.fst (Prod.snd q))), iP (Prod.snd (Prod.fst (Prod.snd q))), iP (Prod.snd (Prod.snd q))], iP (Int.ofNat 0)])) (e1 : pureCall (cfM KQ2) (evalF (cfM KQ2) 60) 77 [PVal.agg [PVal.list (List.length ns) (flatN ns), PVal.v (Value.slice none 0 0)], iP t] = some (PVal.agg [PVal.list m xs, PVal.v (Value.slice none 0 0)])) : CallsP Tryz.prog 44 [plN (List.length ns) (flatN ns), iP t] (remQ ns t q m xs) := by
  have key := fun (bs : List Bool) (r : PVal) (ob : List Prop) (h : callP (cfM KQ2) (evalF (cfM KQ2) 60) 60 [(1, 2, Hint.pcall (PVal.tup [ndP q, iP 0])), (4, 2, Hint.pcall (plN m xs))] 44 [plN (List.length ns) (flatN ns), iP t] bs [] (none) = .ok (r, ob)) (hp : allOb ob) => callP_ok (cfM_ok KQ2) h hp
  unfold remQ
  exact key [false] (PVal.tup [PVal.agg [PVal.list m xs, PVal.v (Value.slice none 0 0)], iP (Int.ofNat 0)]) _ (by kernel_rfl) (allOb_cons (by exact e1) (allOb_cons lit_f (allOb_cons (by exact e0) allOb_nil)))
def addQ (q : Nd) (qs : List Nd) (p : P2) (okp : Bool) (fr : Bool) (il : List Int) (m : Nat) (xs : List PVal) (id : Int) (fc : Int) : PVal :=
  (bif !okp then PVal.tup [PVal.agg [PVal.v (Value.slice none 0 0), PVal.v (Value.slice none 0 0)], iP (Int.ofNat 0), iP (Int.ofNat 25)] else (bif !fr then PVal.tup [PVal.agg [PVal.v (Value.slice none 0 0), PVal.v (Value.slice none 0 0)], iP (Int.ofNat 0), iP (Int.ofNat 26)] else (bif decide ((↑(List.length (q :: qs)) : Int) ≥ 200) then PVal.tup [PVal.agg [PVal.v (Value.slice none 0 0), PVal.v (Value.slice none 0 0)], iP (Int.ofNat 0), iP (Int.ofNat 65)] else PVal.tup [PVal.agg [PVal.list m xs, PVal.v (Value.slice none 0 0)], iP id, iP (Int.ofNat 0)])))
theorem addQ_calls (q : Nd) (qs : List Nd) (p : P2) (okp : Bool) (fr : Bool) (il : List Int) (m : Nat) (xs : List PVal) (id : Int) (fc : Int) (e0 : pureCall (cfM KQ2) (evalF (cfM KQ2) 60) 68 [ptP p] = some (bP okp)) (e1 : (!okp) = false → pureCall (cfM KQ2) (evalF (cfM KQ2) 60) 59 [PVal.agg [PVal.list (List.length (q :: qs)) (iP (Prod.fst q) :: iP (Prod.fst (Prod.fst (Prod.snd q))) :: iP (Prod.snd (Prod.fst (Prod.snd q))) :: iP (Prod.snd (Prod.snd q)) :: flatN qs), PVal.v (Value.slice none 0 0)], ptP p] = some (bP fr)) (e2 : (!okp) = false → (!fr) = false → (decide ((↑(List.length (q :: qs)) : Int) ≥ 200)) = false → pureCall (cfM KQ2) (evalF (cfM KQ2) 60) 88 [PVal.agg [PVal.list (List.length (q :: qs)) (iP (Prod.fst q) :: iP (Prod.fst (Prod.fst (Prod.snd q))) :: iP (Prod.snd (Prod.fst (Prod.snd q))) :: iP (Prod.snd (Prod.snd q)) :: flatN qs), PVal.v (Value.slice none 0 0)]] = some (PVal.list (List.length il) (intP il))) (e3 : (!okp) = false → (!fr) = false → (decide ((↑(List.length (q :: qs)) : Int) ≥ 200)) = false → pureCall (cfM KQ2) (evalF (cfM KQ2) 60) 41 [PVal.list (List.length il) (intP il)] = some (iP id)) (e4 : (!okp) = false → (!fr) = false → (decide ((↑(List.length (q :: qs)) : Int) ≥ 200)) = false → pureCall (cfM KQ2) (evalF (cfM KQ2) 60) 69 [PVal.agg [PVal.list (List.length (q :: qs)) (iP (Prod.fst q) :: iP (Prod.fst (Prod.fst (Prod.snd q))) :: iP (Prod.snd (Prod.fst (Prod.snd q))) :: iP (Prod.snd (Prod.snd q)) :: flatN qs), PVal.v (Value.slice none 0 0)], ptP p] = some (iP fc)) (e5 : (!okp) = false → (!fr) = false → (decide ((↑(List.length (q :: qs)) : Int) ≥ 200)) = false → pureCall (cfM KQ2) (evalF (cfM KQ2) 60) 89 [PVal.agg [PVal.list (List.length (q :: qs)) (iP (Prod.fst q) :: iP (Prod.fst (Prod.fst (Prod.snd q))) :: iP (Prod.snd (Prod.fst (Prod.snd q))) :: iP (Prod.snd (Prod.snd q)) :: flatN qs), PVal.v (Value.slice none 0 0)], PVal.agg [iP id, iP (Prod.fst p), iP (Prod.snd p), iP fc]] = some (PVal.agg [PVal.list m xs, PVal.v (Value.slice none 0 0)])) : CallsP Tryz.prog 43 [plN (List.length (q :: qs)) (flatN (q :: qs)), ptP p] (addQ q qs p okp fr il m xs id fc) := by
  have key := fun (bs : List Bool) (r : PVal) (ob : List Prop) (h : callP (cfM KQ2) (evalF (cfM KQ2) 60) 60 [(1, 1, Hint.pcall (bP okp)), (3, 2, Hint.pcall (bP fr)), (7, 1, Hint.pcall (slI il)), (7, 2, Hint.pcall (iP id)), (8, 5, Hint.pcall (iP fc)), (8, 7, Hint.pcall (plN m xs))] 43 [plN (List.length (q :: qs)) (flatN (q :: qs)), ptP p] bs [] (none) = .ok (r, ob)) (hp : allOb ob) => callP_ok (cfM_ok KQ2) h hp
  unfold addQ
  exact bif_case (P := fun r => CallsP Tryz.prog 43 [plN (List.length (q :: qs)) (flatN (q :: qs)), ptP p] r)
    (fun h0 => key [true] (PVal.tup [PVal.agg [PVal.v (Value.slice none 0 0), PVal.v (Value.slice none 0 0)], iP (Int.ofNat 0), iP (Int.ofNat 25)]) _ (by kernel_rfl) (allOb_cons h0 (allOb_cons (by exact e0) allOb_nil)))
    (fun h0 => bif_case (P := fun r => CallsP Tryz.prog 43 [plN (List.length (q :: qs)) (flatN (q :: qs)), ptP p] r)
     (fun h1 => key [false, true] (PVal.tup [PVal.agg [PVal.v (Value.slice none 0 0), PVal.v (Value.slice none 0 0)], iP (Int.ofNat 0), iP (Int.ofNat 26)]) _ (by kernel_rfl) (allOb_cons h1 (allOb_cons (by exact (e1 h0)) (allOb_cons h0 (allOb_cons (by exact e0) allOb_nil)))))
     (fun h1 => bif_case (P := fun r => CallsP Tryz.prog 43 [plN (List.length (q :: qs)) (flatN (q :: qs)), ptP p] r)
      (fun h2 => key [false, false, true] (PVal.tup [PVal.agg [PVal.v (Value.slice none 0 0), PVal.v (Value.slice none 0 0)], iP (Int.ofNat 0), iP (Int.ofNat 65)]) _ (by kernel_rfl) (allOb_cons h2 (allOb_cons h1 (allOb_cons (by exact (e1 h0)) (allOb_cons h0 (allOb_cons (by exact e0) allOb_nil))))))
      (fun h2 => key [false, false, false] (PVal.tup [PVal.agg [PVal.list m xs, PVal.v (Value.slice none 0 0)], iP id, iP (Int.ofNat 0)]) _ (by kernel_rfl) (allOb_cons (by exact (e5 h0 h1 h2)) (allOb_cons (by exact (e4 h0 h1 h2)) (allOb_cons (by exact (e3 h0 h1 h2)) (allOb_cons (by exact (e2 h0 h1 h2)) (allOb_cons h2 (allOb_cons h1 (allOb_cons (by exact (e1 h0)) (allOb_cons h0 (allOb_cons (by exact e0) allOb_nil))))))))))))
end Go.Proofs.YtkkgimhbliocoaaGreat
/- topo.RemNode and topo.AddNode of plans without edges: the calls, and what is given of them. -/
namespace Go.Proofs.YtkkgimhbliocoaaGreat
open Go Vm M
set_option linter.unusedVariables false
set_option linter.unusedSectionVars false
set_option linter.unusedSimpArgs false
section
variable {ev : Ev}
theorem q_ok (p : P2) {b : Bool} (h : okC p = bP b) : pureCall (cfM KQ2) ev 68 [ptP p] = some (bP b) := pure_given (g := g1 fun p => okC p) (by kernel_rfl) (by rw [← h]; rfl)
theorem q_free (ns : List Nd) (p : P2) (h : ns.length ≤ 1000) : pureCall (cfM KQ2) ev 59 [plN ns.length (flatN ns), ptP p] = some (bP (!hasN ns (nearP p))) := freeG ns p h (by kernel_rfl)
theorem q_face (ns : List Nd) (p : P2) (h : ns.length ≤ 1000) : pureCall (cfM KQ2) ev 69 [plN ns.length (flatN ns), ptP p] = some (iP 0) := faceG ns p h (by kernel_rfl)
theorem q_ids (ns : List Nd) (h1 : 1 ≤ ns.length) (h : ns.length ≤ 1000) : pureCall (cfM KQ2) ev 88 [plN ns.length (flatN ns)] = some (slI (idsI ns)) := pure_given (g := gIDs) (by kernel_rfl) (by unfold gIDs; rw [withNs_ok]; exact if_pos ⟨h1, h⟩)
theorem q_un (l : List Int) (h : l.length ≤ 1000) : pureCall (cfM KQ2) ev 41 [slI l] = some (iP (unuK l + 1 : Nat)) := pure_given (g := gLn fun l => iP (unuK l + 1 : Nat)) (by kernel_rfl) (by unfold gLn; simp only [unI_slI]; exact if_pos h)
theorem q_with (ns : List Nd) (n : Nd) (h1 : 1 ≤ ns.length) (hl : ns.length ≤ 999) (h : riseC ns n.1 = true) : pureCall (cfM KQ2) ev 89 [plN ns.length (flatN ns), ndP n] = some (plN (midN ns n (binM ns n.1)).length (flatN (midN ns n (binM ns n.1)))) := pure_given (g := gWith2) (by kernel_rfl) (by unfold gWith2; rw [withNs_ok]; exact if_pos ⟨h1, hl, h⟩)
theorem q_wo (ns : List Nd) (t : Int) (j : Nat) (hl : ns.length ≤ 1000) (hj : firstAt (atI2 ns t) ns.length 0 = some j) (hu : uniqB ns t j = true) : pureCall (cfM KQ2) ev 77 [plN ns.length (flatN ns), iP t] = some (plN (delN ns j).length (flatN (delN ns j))) := pure_given (g := gWo) (by kernel_rfl) (gWo_ok hl hj hu)
theorem q_alone (ns : List Nd) (t : Int) (j : Nat) (hl : ns.length ≤ 1000) (hj : firstAt (atI2 ns t) ns.length 0 = some j) : pureCall (cfM KQ2) ev 90 [plN ns.length (flatN ns), iP t] = some (.tup [ndP (nAt ns j), iP 0]) := pure_given (g := fun a => withNI a fun ns j => .tup [ndP (nAt ns j), iP 0]) (by kernel_rfl) (withNI_ok _ hl hj)
end
theorem rem_calls (ns : List Nd) (t : Int) (j : Nat) (hl : ns.length ≤ 1000) (hj : firstAt (atI2 ns t) ns.length 0 = some j) (hu : uniqB ns t j = true) :
    CallsP Tryz.prog 44 [plN ns.length (flatN ns), iP t] (.tup [plN (delN ns j).length (flatN (delN ns j)), iP 0]) := remQ_calls ns t (nAt ns j) _ _ (q_alone ns t j hl hj) (q_wo ns t j hl hj hu)
def newI (ns : List Nd) : Int := (unuK (idsI ns) + 1 : Nat)
def newN (ns : List Nd) (p : P2) : List Nd := midN ns (newI ns, p, 0) (binM ns (newI ns))
theorem addAny_calls (ns : List Nd) (p : P2) (h1 : 1 ≤ ns.length) (hl : ns.length < 200) (ho : okC p = bP true) (hf : hasN ns (nearP p) = false) (hr : riseC ns (newI ns) = true) :
    CallsP Tryz.prog 43 [plN ns.length (flatN ns), ptP p] (.tup [plN (newN ns p).length (flatN (newN ns p)), iP (newI ns), iP 0]) := by
  cases ns with
  | nil => simp at h1
  | cons q qs =>
    have hi : (idsI (q :: qs)).length ≤ 1000 := by simp only [idsI, List.length_map]; omega
    have := addQ_calls q qs p true true (idsI (q :: qs)) _ _ _ _ (q_ok p ho) (fun _ => by have := q_free (ev := evalF (cfM KQ2) 60) (q :: qs) p (by omega); rw [hf] at this; exact this) (fun _ _ _ => q_ids (q :: qs) h1 (by omega)) (fun _ _ _ => q_un _ hi) (fun _ _ _ => q_face (q :: qs) p (by omega)) (fun _ _ _ => q_with (q :: qs) (newI (q :: qs), p, 0) h1 (by omega) hr)
    unfold addQ at this
    rw [Bool.not_true, cond_false, cond_false, decide_eq_false (by omega : ¬ (((q :: qs).length : Int) ≥ 200)), cond_false] at this
    exact this
def gRem (args : List PVal) : Option PVal := withNs args fun ns r => match r with
  | [.v (.int .i64 t)] => if ns.length ≤ 1000 then (firstAt (atI2 ns t) ns.length 0).bind fun j => if uniqB ns t j = true then some (.tup [plN (delN ns j).length (flatN (delN ns j)), iP 0]) else none else none
  | _ => none
theorem gRem_spec : ∀ args v, gRem args = some v → CallsP Tryz.prog 44 args v := withNs_spec fun ns r v h => by
  split at h
  · rename_i t
    split at h
    · rename_i hl
      rw [Option.bind_eq_some_iff] at h
      obtain ⟨j, hj, h⟩ := h
      split at h
      · rename_i hu
        simp only [Option.some.injEq] at h
        subst h
        exact rem_calls ns t j hl hj hu
      · cases h
    · cases h
  · cases h
theorem gRem_ok {ns : List Nd} {t : Int} {j : Nat} (hl : ns.length ≤ 1000) (hj : firstAt (atI2 ns t) ns.length 0 = some j) (hu : uniqB ns t j = true) : gRem [plN ns.length (flatN ns), iP t] = some (.tup [plN (delN ns j).length (flatN (delN ns j)), iP 0]) := by
  unfold gRem
  rw [withNs_ok]
  show (if ns.length ≤ 1000 then (firstAt (atI2 ns t) ns.length 0).bind fun j => if uniqB ns t j = true then some (PVal.tup [plN (delN ns j).length (flatN (delN ns j)), iP 0]) else none else none) = _
  rw [if_pos hl, hj, Option.bind_some, if_pos hu]
def truthB : PVal → Bool
  | .v (.bool b) => b
  | _ => false
theorem truthB_of {x : PVal} (h : truthB x = true) : x = bP true := by
  unfold truthB at h
  split at h
  · rw [h]; rfl
  · cases h
/-- What is known of AddNode: at the empty plan's middle; at plans without edges where there is room, or none. -/
def gAddR (ns : List Nd) (r : List PVal) : Option PVal :=
  match r with
  | [.agg [.v (.int .i64 x), .v (.int .i64 y)]] => if 1 ≤ ns.length ∧ ns.length ≤ 1000 ∧ truthB (okC (x, y)) = true ∧ hasN ns (nearP (x, y)) = false then
      (if 200 ≤ ns.length then some (.tup [.agg [nilP, nilP], iP 0, iP 65]) else if riseC ns (newI ns) = true then some (.tup [plN (newN ns (x, y)).length (flatN (newN ns (x, y))), iP (newI ns), iP 0]) else none) else none
  | _ => none
def gAddQ (args : List PVal) : Option PVal :=
  match args with
  | [.agg [.v (.slice none 0 0), .v (.slice none 0 0)], .agg [.v (.int .i64 x), .v (.int .i64 y)]] => if x = 0 ∧ y = 0 then some (.tup [plN 1 (flatN [(1, (0, 0), 0)]), iP 1, iP 0]) else none
  | args => withNs args gAddR
theorem gAddQ_spec : ∀ args v, gAddQ args = some v → CallsP Tryz.prog 43 args v := by
  intro args v h
  unfold gAddQ at h
  split at h
  · rename_i x y
    split at h
    · rename_i hc
      obtain ⟨rfl, rfl⟩ := hc
      simp only [Option.some.injEq] at h
      subst h
      exact add0_calls
    · cases h
  · refine withNs_spec (fun ns r v h => ?_) _ _ h
    unfold gAddR at h
    split at h
    · rename_i x y
      split at h
      · rename_i hc
        obtain ⟨h1, h2, h3, h4⟩ := hc
        split at h
        · rename_i h5
          simp only [Option.some.injEq] at h
          subst h
          exact addMany_calls ns (x, y) h5 h2 (truthB_of h3) h4
        · split at h
          · rename_i h5 h6
            simp only [Option.some.injEq] at h
            subst h
            exact addAny_calls ns (x, y) h1 (by omega) (truthB_of h3) h4 h6
          · cases h
      · cases h
    · cases h
theorem gAddQ_0 : gAddQ [.agg [nilP, nilP], ptP (0, 0)] = some (.tup [plN 1 (flatN [(1, (0, 0), 0)]), iP 1, iP 0]) := rfl
theorem gAddQ_any {ns : List Nd} {p : P2} (h1 : 1 ≤ ns.length) (hl : ns.length < 200) (ho : okC p = bP true) (hf : hasN ns (nearP p) = false) (hr : riseC ns (newI ns) = true) : gAddQ [plN ns.length (flatN ns), ptP p] = some (.tup [plN (newN ns p).length (flatN (newN ns p)), iP (newI ns), iP 0]) := by
  show withNs (plN ns.length (flatN ns) :: [ptP p]) gAddR = _
  rw [withNs_ok]
  unfold ptP gAddR
  simp only
  rw [if_pos ⟨h1, by omega, by rw [ho]; rfl, hf⟩, if_neg (by omega), if_pos hr]
theorem gAddQ_many {ns : List Nd} {p : P2} (h1 : 200 ≤ ns.length) (hl : ns.length ≤ 1000) (ho : okC p = bP true) (hf : hasN ns (nearP p) = false) : gAddQ [plN ns.length (flatN ns), ptP p] = some (.tup [.agg [nilP, nilP], iP 0, iP 65]) := by
  show withNs (plN ns.length (flatN ns) :: [ptP p]) gAddR = _
  rw [withNs_ok]
  unfold ptP gAddR
  simp only
  rw [if_pos ⟨by omega, by omega, by rw [ho]; rfl, hf⟩, if_pos h1]
noncomputable def KQ3 : Lib Tryz.prog := KQ2.add 44 gRem (Vm.enters_of named_prog Tryz.func44 (by kernel_rfl)) gRem_spec
noncomputable def KQ4 : Lib Tryz.prog := KQ3.add 43 gAddQ (Vm.enters_of named_prog Tryz.func43 (by kernel_rfl)) gAddQ_spec
noncomputable def KQ5 : Lib Tryz.prog := KQ4.add 40 (g00 (bP true)) (Vm.enters_of named_prog Tryz.func40 (by kernel_rfl)) (g00_spec aw17_calls)
end Go.Proofs.YtkkgimhbliocoaaGreat
/- TopoFills: its rounds, and what is behind them. -/
namespace Go.Proofs.YtkkgimhbliocoaaGreat
open Go Vm M
set_option linter.unusedVariables false
set_option linter.unusedSimpArgs false
noncomputable def tfLv : List Nat := (lives.lookup 12).getD []
noncomputable abbrev tfK : Code := loopAt Tryz.f12 0
def tfT (n b i : Int) : List AVal := [iA n, iA b] ++ jk 3 ++ [.ptr 0 0 0, iA i] ++ jk 125
def tfA (n : Int) (b : Int) : AExit × List AVal × List AObj :=
  (bif decide (0 < n) then (AExit.normal, (([iA n, iA b, AVal.junk, AVal.junk, AVal.junk, AVal.ptr 0 0 0, iA (Int.ofNat 1)] ++ jk 125), ([AObj.box [AVal.list 1 [iP (Int.ofNat 1), iP (Int.ofNat 0), iP (Int.ofNat 0), iP (Int.ofNat 0)], AVal.v (Value.slice none 0 0)], AObj.box [AVal.list 1 [iP (Int.ofNat 1), iP (Int.ofNat 0), iP (Int.ofNat 0), iP (Int.ofNat 0)], AVal.v (Value.slice none 0 0)]]))) else (AExit.exit 0, (([iA n, iA b, AVal.junk, AVal.junk, AVal.junk, AVal.ptr 0 0 0, iA (Int.ofNat 0)] ++ jk 16 ++ [bA false] ++ jk 108), ([AObj.box [AVal.v (Value.slice none 0 0), AVal.v (Value.slice none 0 0)]]))))
theorem tfA_eq (n : Int) (b : Int) (e0 : (decide (0 < n)) = true → pureCall (cfM KQ5) (evalF (cfM KQ5) 60) 43 [PVal.agg [PVal.v (Value.slice none 0 0), PVal.v (Value.slice none 0 0)], PVal.agg [iP (Int.ofNat 0), iP (Int.ofNat 0)]] = some (PVal.tup [PVal.agg [PVal.list 1 [iP (Int.ofNat 1), iP (Int.ofNat 0), iP (Int.ofNat 0), iP (Int.ofNat 0)], PVal.v (Value.slice none 0 0)], iP (Int.ofNat 1), iP (Int.ofNat 0)])) : evalC (cfM KQ5) (evalF (cfM KQ5) 60) (tfLv) 0 0 60 (loopAt Tryz.f12 0) (tfT n b 0) ([AObj.box [nilA, nilA]]) = some (tfA n b) := by
  have key := fun (bs : List Bool) (r : AExit × List AVal × List AObj) (ob : List Prop) (h : pathP (cfM KQ5) (evalF (cfM KQ5) 60) (tfLv) 0 0 60 [(6, 6, Hint.pcall (PVal.tup [plN 1 (flatN [(1, (0, 0), 0)]), iP 1, iP 0]))] (loopAt Tryz.f12 0) (tfT n b 0) ([AObj.box [nilA, nilA]]) bs [] = .ok (r.1, r.2.1, r.2.2, ob)) (hp : allOb ob) => pathP_ok h hp
  unfold tfA
  exact bif_case (P := fun r => evalC (cfM KQ5) (evalF (cfM KQ5) 60) (tfLv) 0 0 60 (loopAt Tryz.f12 0) (tfT n b 0) ([AObj.box [nilA, nilA]]) = some r)
    (fun h0 => key [true, false, false, false, false] ((AExit.normal, (([iA n, iA b, AVal.junk, AVal.junk, AVal.junk, AVal.ptr 0 0 0, iA (Int.ofNat 1)] ++ jk 125), ([AObj.box [AVal.list 1 [iP (Int.ofNat 1), iP (Int.ofNat 0), iP (Int.ofNat 0), iP (Int.ofNat 0)], AVal.v (Value.slice none 0 0)], AObj.box [AVal.list 1 [iP (Int.ofNat 1), iP (Int.ofNat 0), iP (Int.ofNat 0), iP (Int.ofNat 0)], AVal.v (Value.slice none 0 0)]])))) _ (by kernel_rfl) (allOb_cons lit_f (allOb_cons lit_f (allOb_cons lit_f (allOb_cons lit_f (allOb_cons (by exact (e0 h0)) (allOb_cons h0 allOb_nil)))))))
    (fun h0 => key [false] ((AExit.exit 0, (([iA n, iA b, AVal.junk, AVal.junk, AVal.junk, AVal.ptr 0 0 0, iA (Int.ofNat 0)] ++ jk 16 ++ [bA false] ++ jk 108), ([AObj.box [AVal.v (Value.slice none 0 0), AVal.v (Value.slice none 0 0)]])))) _ (by kernel_rfl) (allOb_cons h0 allOb_nil))
def tfB (n : Int) (b : Int) (i : Int) (ns : List Nd) (m : Nat) (xs : List PVal) (id : Int) : AExit × List AVal × List AObj :=
  (bif decide (i < n) then (bif decide (i ≥ 200) then (AExit.ret, ((jk 4 ++ [bA false] ++ jk 127), ([AObj.box [AVal.list (List.length ns) (flatN ns), AVal.v (Value.slice none 0 0)], AObj.box [AVal.list m xs, AVal.v (Value.slice none 0 0)]]))) else (bif id != IntKind.i64.wrap (i + 1) then (AExit.ret, ((jk 4 ++ [bA false] ++ jk 127), ([AObj.box [AVal.list (List.length ns) (flatN ns), AVal.v (Value.slice none 0 0)], AObj.box [AVal.list m xs, AVal.v (Value.slice none 0 0)]]))) else (bif (↑m : Int) != IntKind.i64.wrap (i + 1) then (AExit.ret, ((jk 4 ++ [bA false] ++ jk 127), ([AObj.box [AVal.list (List.length ns) (flatN ns), AVal.v (Value.slice none 0 0)], AObj.box [AVal.list m xs, AVal.v (Value.slice none 0 0)]]))) else (AExit.normal, (([iA n, iA b, AVal.junk, AVal.junk, AVal.junk, AVal.ptr 0 0 0, iA (IntKind.i64.wrap (i + 1))] ++ jk 125), ([AObj.box [AVal.list m xs, AVal.v (Value.slice none 0 0)], AObj.box [AVal.list m xs, AVal.v (Value.slice none 0 0)]])))))) else (AExit.exit 0, (([iA n, iA b, AVal.junk, AVal.junk, AVal.junk, AVal.ptr 0 0 0, iA i] ++ jk 16 ++ [bA false] ++ jk 108), ([AObj.box [AVal.list (List.length ns) (flatN ns), AVal.v (Value.slice none 0 0)]]))))
theorem tfB_eq (n : Int) (b : Int) (i : Int) (ns : List Nd) (m : Nat) (xs : List PVal) (id : Int) (e0 : (decide (i < n)) = true → pureCall (cfM KQ5) (evalF (cfM KQ5) 60) 43 [PVal.agg [PVal.list (List.length ns) (flatN ns), PVal.v (Value.slice none 0 0)], PVal.agg [iP i, iP (IntKind.i64.wrap (i * i))]] = some (PVal.tup [PVal.agg [PVal.list m xs, PVal.v (Value.slice none 0 0)], iP id, iP (Int.ofNat 0)])) : evalC (cfM KQ5) (evalF (cfM KQ5) 60) (tfLv) 0 0 60 (loopAt Tryz.f12 0) (tfT n b i) ([AObj.box [nsA ns, nilA]]) = some (tfB n b i ns m xs id) := by
  have key := fun (bs : List Bool) (r : AExit × List AVal × List AObj) (ob : List Prop) (h : pathP (cfM KQ5) (evalF (cfM KQ5) 60) (tfLv) 0 0 60 [(6, 6, Hint.pcall (PVal.tup [plN m xs, iP id, iP 0]))] (loopAt Tryz.f12 0) (tfT n b i) ([AObj.box [nsA ns, nilA]]) bs [] = .ok (r.1, r.2.1, r.2.2, ob)) (hp : allOb ob) => pathP_ok h hp
  unfold tfB
  exact bif_case (P := fun r => evalC (cfM KQ5) (evalF (cfM KQ5) 60) (tfLv) 0 0 60 (loopAt Tryz.f12 0) (tfT n b i) ([AObj.box [nsA ns, nilA]]) = some r)
    (fun h0 => bif_case (P := fun r => evalC (cfM KQ5) (evalF (cfM KQ5) 60) (tfLv) 0 0 60 (loopAt Tryz.f12 0) (tfT n b i) ([AObj.box [nsA ns, nilA]]) = some r)
     (fun h1 => key [true, true, true, true, true] ((AExit.ret, ((jk 4 ++ [bA false] ++ jk 127), ([AObj.box [AVal.list (List.length ns) (flatN ns), AVal.v (Value.slice none 0 0)], AObj.box [AVal.list m xs, AVal.v (Value.slice none 0 0)]])))) _ (by kernel_rfl) (allOb_cons lit_t (allOb_cons lit_t (allOb_cons lit_t (allOb_cons h1 (allOb_cons (by exact (e0 h0)) (allOb_cons h0 allOb_nil)))))))
     (fun h1 => bif_case (P := fun r => evalC (cfM KQ5) (evalF (cfM KQ5) 60) (tfLv) 0 0 60 (loopAt Tryz.f12 0) (tfT n b i) ([AObj.box [nsA ns, nilA]]) = some r)
      (fun h2 => key [true, false, false, true, true] ((AExit.ret, ((jk 4 ++ [bA false] ++ jk 127), ([AObj.box [AVal.list (List.length ns) (flatN ns), AVal.v (Value.slice none 0 0)], AObj.box [AVal.list m xs, AVal.v (Value.slice none 0 0)]])))) _ (by kernel_rfl) (allOb_cons lit_t (allOb_cons h2 (allOb_cons lit_f (allOb_cons h1 (allOb_cons (by exact (e0 h0)) (allOb_cons h0 allOb_nil)))))))
      (fun h2 => bif_case (P := fun r => evalC (cfM KQ5) (evalF (cfM KQ5) 60) (tfLv) 0 0 60 (loopAt Tryz.f12 0) (tfT n b i) ([AObj.box [nsA ns, nilA]]) = some r)
       (fun h3 => key [true, false, false, false, true] ((AExit.ret, ((jk 4 ++ [bA false] ++ jk 127), ([AObj.box [AVal.list (List.length ns) (flatN ns), AVal.v (Value.slice none 0 0)], AObj.box [AVal.list m xs, AVal.v (Value.slice none 0 0)]])))) _ (by kernel_rfl) (allOb_cons h3 (allOb_cons h2 (allOb_cons lit_f (allOb_cons h1 (allOb_cons (by exact (e0 h0)) (allOb_cons h0 allOb_nil)))))))
       (fun h3 => key [true, false, false, false, false] ((AExit.normal, (([iA n, iA b, AVal.junk, AVal.junk, AVal.junk, AVal.ptr 0 0 0, iA (IntKind.i64.wrap (i + 1))] ++ jk 125), ([AObj.box [AVal.list m xs, AVal.v (Value.slice none 0 0)], AObj.box [AVal.list m xs, AVal.v (Value.slice none 0 0)]])))) _ (by kernel_rfl) (allOb_cons h3 (allOb_cons h2 (allOb_cons lit_f (allOb_cons h1 (allOb_cons (by exact (e0 h0)) (allOb_cons h0 allOb_nil))))))))))
    (fun h0 => key [false] ((AExit.exit 0, (([iA n, iA b, AVal.junk, AVal.junk, AVal.junk, AVal.ptr 0 0 0, iA i] ++ jk 16 ++ [bA false] ++ jk 108), ([AObj.box [AVal.list (List.length ns) (flatN ns), AVal.v (Value.slice none 0 0)]])))) _ (by kernel_rfl) (allOb_cons h0 allOb_nil))
def tfC (n : Int) (b : Int) (i : Int) (ns : List Nd) : AExit × List AVal × List AObj :=
  (bif decide (i < n) then (bif decide (i ≥ 200) then (AExit.normal, (([iA n, iA b, AVal.junk, AVal.junk, AVal.junk, AVal.ptr 0 0 0, iA (IntKind.i64.wrap (i + 1))] ++ jk 125), ([AObj.box [AVal.list (List.length ns) (flatN ns), AVal.v (Value.slice none 0 0)], AObj.box [AVal.v (Value.slice none 0 0), AVal.v (Value.slice none 0 0)]]))) else (AExit.ret, ((jk 4 ++ [bA false] ++ jk 127), ([AObj.box [AVal.list (List.length ns) (flatN ns), AVal.v (Value.slice none 0 0)], AObj.box [AVal.v (Value.slice none 0 0), AVal.v (Value.slice none 0 0)]])))) else (AExit.exit 0, (([iA n, iA b, AVal.junk, AVal.junk, AVal.junk, AVal.ptr 0 0 0, iA i] ++ jk 16 ++ [bA false] ++ jk 108), ([AObj.box [AVal.list (List.length ns) (flatN ns), AVal.v (Value.slice none 0 0)]]))))
theorem tfC_eq (n : Int) (b : Int) (i : Int) (ns : List Nd) (e0 : (decide (i < n)) = true → pureCall (cfM KQ5) (evalF (cfM KQ5) 60) 43 [PVal.agg [PVal.list (List.length ns) (flatN ns), PVal.v (Value.slice none 0 0)], PVal.agg [iP i, iP (IntKind.i64.wrap (i * i))]] = some (PVal.tup [PVal.agg [PVal.v (Value.slice none 0 0), PVal.v (Value.slice none 0 0)], iP (Int.ofNat 0), iP (Int.ofNat 65)])) : evalC (cfM KQ5) (evalF (cfM KQ5) 60) (tfLv) 0 0 60 (loopAt Tryz.f12 0) (tfT n b i) ([AObj.box [nsA ns, nilA]]) = some (tfC n b i ns) := by
  have key := fun (bs : List Bool) (r : AExit × List AVal × List AObj) (ob : List Prop) (h : pathP (cfM KQ5) (evalF (cfM KQ5) 60) (tfLv) 0 0 60 [(6, 6, Hint.pcall (PVal.tup [PVal.agg [nilP, nilP], iP 0, iP 65]))] (loopAt Tryz.f12 0) (tfT n b i) ([AObj.box [nsA ns, nilA]]) bs [] = .ok (r.1, r.2.1, r.2.2, ob)) (hp : allOb ob) => pathP_ok h hp
  unfold tfC
  exact bif_case (P := fun r => evalC (cfM KQ5) (evalF (cfM KQ5) 60) (tfLv) 0 0 60 (loopAt Tryz.f12 0) (tfT n b i) ([AObj.box [nsA ns, nilA]]) = some r)
    (fun h0 => bif_case (P := fun r => evalC (cfM KQ5) (evalF (cfM KQ5) 60) (tfLv) 0 0 60 (loopAt Tryz.f12 0) (tfT n b i) ([AObj.box [nsA ns, nilA]]) = some r)
     (fun h1 => key [true, true, false, false, false] ((AExit.normal, (([iA n, iA b, AVal.junk, AVal.junk, AVal.junk, AVal.ptr 0 0 0, iA (IntKind.i64.wrap (i + 1))] ++ jk 125), ([AObj.box [AVal.list (List.length ns) (flatN ns), AVal.v (Value.slice none 0 0)], AObj.box [AVal.v (Value.slice none 0 0), AVal.v (Value.slice none 0 0)]])))) _ (by kernel_rfl) (allOb_cons lit_f (allOb_cons lit_f (allOb_cons lit_f (allOb_cons h1 (allOb_cons (by exact (e0 h0)) (allOb_cons h0 allOb_nil)))))))
     (fun h1 => key [true, false, true, true, true] ((AExit.ret, ((jk 4 ++ [bA false] ++ jk 127), ([AObj.box [AVal.list (List.length ns) (flatN ns), AVal.v (Value.slice none 0 0)], AObj.box [AVal.v (Value.slice none 0 0), AVal.v (Value.slice none 0 0)]])))) _ (by kernel_rfl) (allOb_cons lit_t (allOb_cons lit_t (allOb_cons lit_t (allOb_cons h1 (allOb_cons (by exact (e0 h0)) (allOb_cons h0 allOb_nil))))))))
    (fun h0 => key [false] ((AExit.exit 0, (([iA n, iA b, AVal.junk, AVal.junk, AVal.junk, AVal.ptr 0 0 0, iA i] ++ jk 16 ++ [bA false] ++ jk 108), ([AObj.box [AVal.list (List.length ns) (flatN ns), AVal.v (Value.slice none 0 0)]])))) _ (by kernel_rfl) (allOb_cons h0 allOb_nil))
noncomputable def tfB0 : Code := Tryz.f12.body.getD .skip
noncomputable def tfR3 : Code := c1 (c1 (c2 (c2 (c2 tfB0))))
noncomputable def tfE : Code := c2 (c2 (c2 (c2 tfB0)))
theorem tf_body : tfB0 = .seq (c1 tfB0) (.seq (c1 (c2 tfB0)) (.seq (c1 (c2 (c2 tfB0))) (.seq (.seq tfR3 (.block 0 (.loop tfK))) tfE))) := by kernel_rfl
def tfX (n b i : Int) : List AVal := [iA n, iA b] ++ jk 3 ++ [.ptr 0 0 0, iA i] ++ jk 16 ++ [bA false] ++ jk 108
def tfZ (n : Int) (b : Int) (i : Int) (mn : Int) (kk : Int) (ns : List Nd) (ms : List Nd) (rs : List Nd) (id : Int) (q : Nd) : AExit × List AVal × List AObj :=
  (bif id == IntKind.i64.wrap (kk + 1) then (bif (↑(List.length rs) : Int) == (↑(List.length ns) : Int) then (bif Prod.fst q == IntKind.i64.wrap (kk + 1) then (bif Prod.fst (Prod.fst (Prod.snd q)) == -5 then (AExit.ret, ((jk 4 ++ [bA true] ++ jk 127), ([AObj.box [AVal.list (List.length ns) (flatN ns), AVal.v (Value.slice none 0 0)], AObj.box [AVal.list (List.length ms) (flatN ms), AVal.v (Value.slice none 0 0)], AObj.box [AVal.list (List.length rs) (flatN rs), AVal.v (Value.slice none 0 0)]]))) else (AExit.ret, ((jk 4 ++ [bA false] ++ jk 127), ([AObj.box [AVal.list (List.length ns) (flatN ns), AVal.v (Value.slice none 0 0)], AObj.box [AVal.list (List.length ms) (flatN ms), AVal.v (Value.slice none 0 0)], AObj.box [AVal.list (List.length rs) (flatN rs), AVal.v (Value.slice none 0 0)]])))) else (AExit.ret, ((jk 4 ++ [bA false] ++ jk 127), ([AObj.box [AVal.list (List.length ns) (flatN ns), AVal.v (Value.slice none 0 0)], AObj.box [AVal.list (List.length ms) (flatN ms), AVal.v (Value.slice none 0 0)], AObj.box [AVal.list (List.length rs) (flatN rs), AVal.v (Value.slice none 0 0)]])))) else (AExit.ret, ((jk 4 ++ [bA false] ++ jk 127), ([AObj.box [AVal.list (List.length ns) (flatN ns), AVal.v (Value.slice none 0 0)], AObj.box [AVal.list (List.length ms) (flatN ms), AVal.v (Value.slice none 0 0)], AObj.box [AVal.list (List.length rs) (flatN rs), AVal.v (Value.slice none 0 0)]])))) else (AExit.ret, ((jk 4 ++ [bA false] ++ jk 127), ([AObj.box [AVal.list (List.length ns) (flatN ns), AVal.v (Value.slice none 0 0)], AObj.box [AVal.list (List.length ms) (flatN ms), AVal.v (Value.slice none 0 0)], AObj.box [AVal.list (List.length rs) (flatN rs), AVal.v (Value.slice none 0 0)]]))))
theorem tfZ_eq (n : Int) (b : Int) (i : Int) (mn : Int) (kk : Int) (ns : List Nd) (ms : List Nd) (rs : List Nd) (id : Int) (q : Nd) (e0 : evalOp (Cfg.P (cfM KQ5)) (putT (putT (putT (tfX n b i) (Oper.dst { dst := some 68, op := Op.move (Operand.tmp 1), type := 3, pos := "law.go:72", after := #[], guard := none }) (opd (tfX n b i) (Operand.tmp 1))) (Oper.dst { dst := some 69, op := Op.binOp BinOp.and 3 (Operand.tmp 68) (Operand.const (Value.int IntKind.i64 255)) 3, type := 3, pos := "law.go:72", after := #[{ on := 0, ground := Ground.data }], guard := none }) (iA (IntKind.i64.wrap (↑(BitVec.toNat (BitVec.ofInt 64 b &&& BitVec.ofInt 64 255)) : Int)))) (Oper.dst { dst := some 70, op := Op.move (Operand.tmp 0), type := 3, pos := "law.go:72", after := #[], guard := none }) (opd (putT (putT (tfX n b i) (Oper.dst { dst := some 68, op := Op.move (Operand.tmp 1), type := 3, pos := "law.go:72", after := #[], guard := none }) (opd (tfX n b i) (Operand.tmp 1))) (Oper.dst { dst := some 69, op := Op.binOp BinOp.and 3 (Operand.tmp 68) (Operand.const (Value.int IntKind.i64 255)) 3, type := 3, pos := "law.go:72", after := #[{ on := 0, ground := Ground.data }], guard := none }) (iA (IntKind.i64.wrap (↑(BitVec.toNat (BitVec.ofInt 64 b &&& BitVec.ofInt 64 255)) : Int)))) (Operand.tmp 0))) (applyEff (applyEff (applyEff [AObj.box [nsA ns, nilA]] []) []) []) (slotOf 0 (applyEff (applyEff (applyEff [AObj.box [nsA ns, nilA]] []) []) [])) { dst := some 71, op := Op.call { callee := Callee.builtin Builtin.min, args := #[Operand.tmp 70, Operand.const (Value.int IntKind.i64 200)], argTypes := #[3, 3] }, type := 3, pos := "law.go:72", after := #[{ on := 2, ground := Ground.data }], guard := none } = some (iA mn, [])) (e1 : binA Tryz.prog BinOp.rem 3 (Operand.tmp 69) (Operand.tmp 71) (iA (IntKind.i64.wrap (↑(BitVec.toNat (BitVec.ofInt 64 b &&& BitVec.ofInt 64 255)) : Int))) (iA mn) = some (iA kk)) (e2 : pureCall (cfM KQ5) (evalF (cfM KQ5) 60) 44 [PVal.agg [PVal.list (List.length ns) (flatN ns), PVal.v (Value.slice none 0 0)], iP (IntKind.i64.wrap (kk + 1))] = some (PVal.tup [PVal.agg [PVal.list (List.length ms) (flatN ms), PVal.v (Value.slice none 0 0)], iP (Int.ofNat 0)])) (e3 : pureCall (cfM KQ5) (evalF (cfM KQ5) 60) 43 [PVal.agg [PVal.list (List.length ms) (flatN ms), PVal.v (Value.slice none 0 0)], PVal.agg [iP (Int.negSucc 4), iP (Int.negSucc 4)]] = some (PVal.tup [PVal.agg [PVal.list (List.length rs) (flatN rs), PVal.v (Value.slice none 0 0)], iP id, iP (Int.ofNat 0)])) (b0 : (id == IntKind.i64.wrap (kk + 1)) = true → ((↑(List.length rs) : Int) == (↑(List.length ns) : Int)) = true → (0 : Int) ≤ IntKind.i64.wrap (IntKind.i64.wrap (kk + 1) - 1) ∧ (IntKind.i64.wrap (IntKind.i64.wrap (kk + 1) - 1) : Int) < (↑(List.length rs) : Int)) (e4 : (id == IntKind.i64.wrap (kk + 1)) = true → ((↑(List.length rs) : Int) == (↑(List.length ns) : Int)) = true → partA (Cfg.P (cfM KQ5)) 3 (upL (List.drop 0 (List.drop (Int.toNat (IntKind.i64.wrap (IntKind.i64.wrap (kk + 1) - 1)) * 4) (flatN rs)))) 0 = some (iA (Prod.fst q))) (e5 : (id == IntKind.i64.wrap (kk + 1)) = true → ((↑(List.length rs) : Int) == (↑(List.length ns) : Int)) = true → (Prod.fst q == IntKind.i64.wrap (kk + 1)) = true → partA (Cfg.P (cfM KQ5)) 2 (upL (List.drop 0 (List.drop 1 (List.drop (Int.toNat (IntKind.i64.wrap (IntKind.i64.wrap (kk + 1) - 1)) * 4) (flatN rs))))) 0 = some (iA (Prod.fst (Prod.fst (Prod.snd q))))) (e6 : (id == IntKind.i64.wrap (kk + 1)) = true → ((↑(List.length rs) : Int) == (↑(List.length ns) : Int)) = true → (Prod.fst q == IntKind.i64.wrap (kk + 1)) = true → (Prod.fst (Prod.fst (Prod.snd q)) == -5) = true → pureCall (cfM KQ5) (evalF (cfM KQ5) 60) 40 [] = some (bP true)) : evalC (cfM KQ5) (evalF (cfM KQ5) 60) (tfLv) 0 0 60 (tfE) (tfX n b i) ([AObj.box [nsA ns, nilA]]) = some (tfZ n b i mn kk ns ms rs id q) := by
  have key := fun (bs : List Bool) (r : AExit × List AVal × List AObj) (ob : List Prop) (h : pathP (cfM KQ5) (evalF (cfM KQ5) 60) (tfLv) 0 0 60 [(13, 3, Hint.op (iA mn) []), (13, 4, Hint.val (Value.int IntKind.i64 kk)), (14, 2, Hint.pcall (PVal.tup [plN (List.length ms) (flatN ms), iP 0])), (15, 2, Hint.pcall (PVal.tup [plN (List.length rs) (flatN rs), iP id, iP 0])), (16, 25, Hint.idx), (16, 27, Hint.load (iA (Prod.fst q))), (16, 36, Hint.idx), (16, 39, Hint.load (iA (Prod.fst (Prod.fst (Prod.snd q))))), (16, 43, Hint.pcall (bP true))] (tfE) (tfX n b i) ([AObj.box [nsA ns, nilA]]) bs [] = .ok (r.1, r.2.1, r.2.2, ob)) (hp : allOb ob) => pathP_ok h hp
  unfold tfZ
  exact bif_case (P := fun r => evalC (cfM KQ5) (evalF (cfM KQ5) 60) (tfLv) 0 0 60 (tfE) (tfX n b i) ([AObj.box [nsA ns, nilA]]) = some r)
    (fun h0 => bif_case (P := fun r => evalC (cfM KQ5) (evalF (cfM KQ5) 60) (tfLv) 0 0 60 (tfE) (tfX n b i) ([AObj.box [nsA ns, nilA]]) = some r)
     (fun h1 => bif_case (P := fun r => evalC (cfM KQ5) (evalF (cfM KQ5) 60) (tfLv) 0 0 60 (tfE) (tfX n b i) ([AObj.box [nsA ns, nilA]]) = some r)
      (fun h2 => bif_case (P := fun r => evalC (cfM KQ5) (evalF (cfM KQ5) 60) (tfLv) 0 0 60 (tfE) (tfX n b i) ([AObj.box [nsA ns, nilA]]) = some r)
       (fun h3 => key [true, true, true, true, true, true] ((AExit.ret, ((jk 4 ++ [bA true] ++ jk 127), ([AObj.box [AVal.list (List.length ns) (flatN ns), AVal.v (Value.slice none 0 0)], AObj.box [AVal.list (List.length ms) (flatN ms), AVal.v (Value.slice none 0 0)], AObj.box [AVal.list (List.length rs) (flatN rs), AVal.v (Value.slice none 0 0)]])))) _ (by kernel_rfl) (allOb_cons (by exact (e6 h0 h1 h2 h3)) (allOb_cons h3 (allOb_cons (by exact (e5 h0 h1 h2)) (allOb_cons (idx_okN (b0 h0 h1)) (allOb_cons h2 (allOb_cons (by exact (e4 h0 h1)) (allOb_cons (idx_okN (b0 h0 h1)) (allOb_cons h1 (allOb_cons h0 (allOb_cons lit_t (allOb_cons lit_t (allOb_cons (by exact e3) (allOb_cons (by exact e2) (allOb_cons (by exact e1) (allOb_cons (by exact e0) allOb_nil))))))))))))))))
       (fun h3 => key [true, true, true, true, true, false] ((AExit.ret, ((jk 4 ++ [bA false] ++ jk 127), ([AObj.box [AVal.list (List.length ns) (flatN ns), AVal.v (Value.slice none 0 0)], AObj.box [AVal.list (List.length ms) (flatN ms), AVal.v (Value.slice none 0 0)], AObj.box [AVal.list (List.length rs) (flatN rs), AVal.v (Value.slice none 0 0)]])))) _ (by kernel_rfl) (allOb_cons h3 (allOb_cons (by exact (e5 h0 h1 h2)) (allOb_cons (idx_okN (b0 h0 h1)) (allOb_cons h2 (allOb_cons (by exact (e4 h0 h1)) (allOb_cons (idx_okN (b0 h0 h1)) (allOb_cons h1 (allOb_cons h0 (allOb_cons lit_t (allOb_cons lit_t (allOb_cons (by exact e3) (allOb_cons (by exact e2) (allOb_cons (by exact e1) (allOb_cons (by exact e0) allOb_nil))))))))))))))))
      (fun h2 => key [true, true, true, true, false, false] ((AExit.ret, ((jk 4 ++ [bA false] ++ jk 127), ([AObj.box [AVal.list (List.length ns) (flatN ns), AVal.v (Value.slice none 0 0)], AObj.box [AVal.list (List.length ms) (flatN ms), AVal.v (Value.slice none 0 0)], AObj.box [AVal.list (List.length rs) (flatN rs), AVal.v (Value.slice none 0 0)]])))) _ (by kernel_rfl) (allOb_cons lit_f (allOb_cons h2 (allOb_cons (by exact (e4 h0 h1)) (allOb_cons (idx_okN (b0 h0 h1)) (allOb_cons h1 (allOb_cons h0 (allOb_cons lit_t (allOb_cons lit_t (allOb_cons (by exact e3) (allOb_cons (by exact e2) (allOb_cons (by exact e1) (allOb_cons (by exact e0) allOb_nil))))))))))))))
     (fun h1 => key [true, true, true, false, false, false] ((AExit.ret, ((jk 4 ++ [bA false] ++ jk 127), ([AObj.box [AVal.list (List.length ns) (flatN ns), AVal.v (Value.slice none 0 0)], AObj.box [AVal.list (List.length ms) (flatN ms), AVal.v (Value.slice none 0 0)], AObj.box [AVal.list (List.length rs) (flatN rs), AVal.v (Value.slice none 0 0)]])))) _ (by kernel_rfl) (allOb_cons lit_f (allOb_cons lit_f (allOb_cons h1 (allOb_cons h0 (allOb_cons lit_t (allOb_cons lit_t (allOb_cons (by exact e3) (allOb_cons (by exact e2) (allOb_cons (by exact e1) (allOb_cons (by exact e0) allOb_nil))))))))))))
    (fun h0 => key [true, true, false, false, false, false] ((AExit.ret, ((jk 4 ++ [bA false] ++ jk 127), ([AObj.box [AVal.list (List.length ns) (flatN ns), AVal.v (Value.slice none 0 0)], AObj.box [AVal.list (List.length ms) (flatN ms), AVal.v (Value.slice none 0 0)], AObj.box [AVal.list (List.length rs) (flatN rs), AVal.v (Value.slice none 0 0)]])))) _ (by kernel_rfl) (allOb_cons lit_f (allOb_cons lit_f (allOb_cons lit_f (allOb_cons h0 (allOb_cons lit_t (allOb_cons lit_t (allOb_cons (by exact e3) (allOb_cons (by exact e2) (allOb_cons (by exact e1) (allOb_cons (by exact e0) allOb_nil)))))))))))
end Go.Proofs.YtkkgimhbliocoaaGreat
/- TopoFills: the plain law of what it makes, and the whole call. -/
namespace Go.Proofs.YtkkgimhbliocoaaGreat
open Go Vm M
set_option linter.unusedVariables false
set_option linter.unusedSectionVars false
set_option linter.unusedSimpArgs false
/-! ## numbers -/
def and255 (f : Int) : Int := IntKind.i64.wrap ((BitVec.ofInt IntKind.i64.bits f &&& BitVec.ofInt IntKind.i64.bits 255).toNat : Nat)
theorem and255_le (f : Int) : 0 ≤ and255 f ∧ and255 f ≤ 255 := by
  have h : (BitVec.ofInt IntKind.i64.bits f &&& BitVec.ofInt IntKind.i64.bits 255).toNat ≤ 255 := by
    rw [BitVec.toNat_and]
    exact Nat.le_trans Nat.and_le_right (by decide)
  unfold and255
  rw [IntWalk.i64_in _ (by omega)]
  omega
theorem binA_rem (a b : Int) (x y : Operand) (hb : b ≠ 0) : binA Tryz.prog BinOp.rem 3 x y (iA a) (iA b) = some (iA (a.tmod b)) := by
  cases b with
  | ofNat n =>
    cases n with
    | zero => exact absurd rfl hb
    | succ n => show binA _ _ _ _ _ _ _ = some (AVal.v (Value.int IntKind.i64 (a.tmod (Int.ofNat (n + 1))))); kernel_rfl
  | negSucc n => show binA _ _ _ _ _ _ _ = some (AVal.v (Value.int IntKind.i64 (a.tmod (Int.negSucc n)))); kernel_rfl
theorem min200 (n : Int) (h1 : 190 ≤ n) (h2 : n ≤ 205) : pureOf Tryz.prog (Builtin.min_ #[3, 3] 3 #[.int .i64 n, .int .i64 200]) = some (.int .i64 (min n 200)) := by
  have h : n = 190 ∨ n = 191 ∨ n = 192 ∨ n = 193 ∨ n = 194 ∨ n = 195 ∨ n = 196 ∨ n = 197 ∨ n = 198 ∨ n = 199 ∨ n = 200 ∨ n = 201 ∨ n = 202 ∨ n = 203 ∨ n = 204 ∨ n = 205 := by omega
  rcases h with rfl | rfl | rfl | rfl | rfl | rfl | rfl | rfl | rfl | rfl | rfl | rfl | rfl | rfl | rfl | rfl <;> (show pureOf _ _ = _; kernel_rfl)
/-! ## one node is taken out, and put again -/
theorem del_nAt {ms : List Nd} {k i : Nat} (hk : k < ms.length) (hi : i + 1 < ms.length) : nAt (delN ms k) i = if i < k then nAt ms i else nAt ms (i + 1) := by
  split
  · rename_i h
    unfold delN
    rw [nAt_q, nAt_q, List.getElem?_append_left (by rw [List.length_take]; omega), List.getElem?_take_of_lt h]
  · rename_i h
    rw [nAt_q, del_at (by omega) hi]
    rfl
section
variable {n k : Nat} (hk : k < n)
include hk
theorem dF_length : (delN (nsF n) k).length + 1 = n := by
  have := delN_length (ms := nsF n) (k := k) (by rw [nsF_length]; exact hk)
  rw [nsF_length] at this
  exact this
theorem dF_at {i : Nat} (hi : i + 1 < n) : nAt (delN (nsF n) k) i = nF (if i < k then i else i + 1) := by
  rw [del_nAt (by rw [nsF_length]; exact hk) (by rw [nsF_length]; exact hi)]
  split
  · rw [nsF_at (by omega)]
  · rw [nsF_at (by omega)]
theorem dF_first : firstAt (atI2 (nsF n) (k + 1 : Nat)) (nsF n).length 0 = some k := by
  refine firstAt_eq_some (by omega) (by rw [nsF_length]; omega) ?_ fun i _ hi => ?_
  · unfold atI2
    rw [nsF_at hk]
    exact beq_iff_eq.2 rfl
  · unfold atI2
    rw [nsF_at (by omega), beq_eq_false_iff_ne]
    simp only [nF]
    omega
theorem dF_uniq : uniqB (nsF n) (k + 1 : Nat) k = true := by
  unfold uniqB
  rw [List.all_eq_true]
  intro i hi
  have hi := List.mem_range.1 hi
  rw [nsF_length] at hi
  by_cases h : i ≤ k
  · rw [decide_eq_true h, Bool.true_or]
  · rw [decide_eq_false h, Bool.false_or, nsF_at hi, Bool.not_eq_true', beq_eq_false_iff_ne]
    simp only [nF]
    omega
theorem dF_mem {t : Int} : t ∈ idsI (delN (nsF n) k) ↔ 1 ≤ t ∧ t ≤ (n : Int) ∧ t ≠ (k + 1 : Nat) := by
  have hl := dF_length hk
  unfold idsI
  rw [List.mem_map]
  constructor
  · rintro ⟨m, hm, rfl⟩
    obtain ⟨i, hi, rfl⟩ := List.mem_iff_getElem.1 hm
    have e := dF_at hk (i := i) (by omega)
    rw [nAt_get (List.getElem?_eq_getElem hi)] at e
    rw [e]
    simp only [nF]
    split <;> omega
  · rintro ⟨h1, h2, h3⟩
    have key : ∀ i, i + 1 < n → t = ((if i < k then i else i + 1) + 1 : Nat) → ∃ a ∈ delN (nsF n) k, a.1 = t := by
      intro i hi ht
      have hil : i < (delN (nsF n) k).length := by omega
      refine ⟨_, List.getElem_mem hil, ?_⟩
      have e := dF_at hk (i := i) hi
      rw [nAt_get (List.getElem?_eq_getElem hil)] at e
      rw [e, ht]
      rfl
    by_cases h : t ≤ (k : Int)
    · exact key (t - 1).toNat (by omega) (by split <;> omega)
    · exact key (t - 2).toNat (by omega) (by split <;> omega)
theorem dF_new : newI (delN (nsF n) k) = (k + 1 : Nat) := by
  obtain ⟨h1, h2, h3⟩ := unuK_spec (idsI (delN (nsF n) k))
  have g1 : ¬ (((unuK (idsI (delN (nsF n) k)) + 1 : Nat) : Int) ∈ idsI (delN (nsF n) k)) := fun hm => by rw [hasI_iff.2 hm] at h1; cases h1
  rw [dF_mem hk] at g1
  unfold newI
  by_cases hlt : k < unuK (idsI (delN (nsF n) k))
  · have := hasI_iff.1 (h2 k hlt)
    rw [dF_mem hk] at this
    omega
  · omega
theorem dF_rise : riseB (delN (nsF n) k) (k + 1 : Nat) k := by
  have hl := dF_length hk
  refine ⟨by omega, fun i hi => ?_, fun i h1 h2 => ?_⟩
  · rw [dF_at hk (by omega), if_pos hi]
    simp only [nF]
    omega
  · rw [dF_at hk (by omega), if_neg (by omega)]
    simp only [nF]
    omega
theorem dF_has (p : P2) (hp : p.1 < 0) : hasN (delN (nsF n) k) p = false := by
  have hl := dF_length hk
  unfold hasN
  rw [firstAt_eq_none (c := atP (delN (nsF n) k) p) (d := (delN (nsF n) k).length) (k := 0) (fun i _ hi => ?_)]
  · rfl
  · unfold atP
    rw [dF_at hk (by omega)]
    cases hb : eqB (nF (if i < k then i else i + 1)).2.1 p with
    | false => rfl
    | true =>
      have := congrArg Prod.fst (eqB_iff.1 hb)
      simp only [nF] at this
      omega
theorem dF_newN (p : P2) : newN (delN (nsF n) k) p = midN (delN (nsF n) k) ((k + 1 : Nat), p, 0) k := by
  unfold newN
  rw [dF_new hk, (binM_eq (dF_rise hk)).1]
theorem dF_back (p : P2) : (newN (delN (nsF n) k) p).length = n ∧ nAt (newN (delN (nsF n) k) p) k = ((((k + 1 : Nat) : Int), p, 0) : Nd) := by
  have hl := dF_length hk
  rw [dF_newN hk]
  unfold midN
  constructor
  · simp only [List.length_append, List.length_take, List.length_drop, List.length_singleton]; omega
  · rw [nAt_q, List.append_assoc, List.getElem?_append_right (by rw [List.length_take]; omega), List.length_take, Nat.min_eq_left (by omega), Nat.sub_self]
    rfl
end
end Go.Proofs.YtkkgimhbliocoaaGreat
/- TopoFills: its loop, and the whole call. -/
namespace Go.Proofs.YtkkgimhbliocoaaGreat
open Go Vm M
set_option linter.unusedVariables false
set_option linter.unusedSectionVars false
set_option linter.unusedSimpArgs false
noncomputable abbrev cT : Cfg := cfM KQ5
theorem cT_ok : CfgOk cT := cfM_ok KQ5
noncomputable abbrev evT : Ev := evalF cT 60
theorem evT_ok : EvOk cT evT := evalF_ok cT_ok 60
theorem wr_id {x : Int} (h1 : -1000000 ≤ x) (h2 : x ≤ 1000000) : IntKind.i64.wrap x = x := IntWalk.i64_in _ (by omega)
theorem fill_new (i : Nat) (p : P2) (hp : p = ((i : Int), (i : Int) * (i : Int))) : newI (nsF i) = (i + 1 : Nat) ∧ newN (nsF i) p = nsF (i + 1) ∧ riseC (nsF i) (newI (nsF i)) = true := by
  have e : newI (nsF i) = (i + 1 : Nat) := by unfold newI; rw [unu_fill]
  obtain ⟨h1, h2⟩ := binM_eq (rise_end (end_fill i))
  refine ⟨e, ?_, by rw [e]; exact h2⟩
  unfold newN
  rw [e, h1, midN_end, hp]
  exact nsF_succ i
section
variable (N : Nat) (b : Int) (hN1 : 190 ≤ N) (hN2 : N ≤ 205)
def tfS (i : Nat) : List AObj := bif Nat.beq i 0 then [.box [nilA, nilA]] else [.box [nsA (nsF (min i 200)), nilA]]
theorem tfS_pos {i : Nat} (h : 1 ≤ i) : tfS i = [.box [nsA (nsF (min i 200)), nilA]] := by
  cases i with
  | zero => omega
  | succ i => rfl
include hN1 hN2
theorem tf_first : EV cT 0 tfK (tfT N b (0 : Nat)) (tfS 0) .normal (tfT N b (1 : Nat)) (tfS 1) := by
  have e := tfA_eq N b (fun _ => pure_given (g := gAddQ) (by kernel_rfl) gAddQ_0)
  unfold tfA at e
  rw [decide_eq_true (by omega : (0 : Int) < (N : Int)), cond_true] at e
  exact EV.tidy [] (EV.of cT_ok evT_ok e) (fun q hq y hy => by simp at hq) (by kernel_rfl)
theorem tf_put {i : Nat} (h1 : 1 ≤ i) (h2 : i < 200) (h3 : i < N) : EV cT 0 tfK (tfT N b i) (tfS i) .normal (tfT N b (i + 1 : Nat)) (tfS (i + 1)) := by
  obtain ⟨g1, g2, g3⟩ := fill_new i ((i : Int), (i : Int) * (i : Int)) rfl
  have hs := sq_le (i := i) (by omega)
  have hp : gAddQ [plN (nsF i).length (flatN (nsF i)), ptP ((i : Int), (i : Int) * (i : Int))] = _ := gAddQ_any (by rw [nsF_length]; exact h1) (by rw [nsF_length]; exact h2) (ok_fill (by omega)) (has_fill (by omega) i (Nat.le_refl _)) g3
  rw [g1, g2, nsF_length (i + 1)] at hp
  have e := tfB_eq N b i (nsF i) (i + 1) (flatN (nsF (i + 1))) (i + 1 : Nat) (fun _ => by
    rw [wr_id (x := (i : Int) * (i : Int)) (by omega) (by omega)]
    exact pure_given (g := gAddQ) (by kernel_rfl) hp)
  unfold tfB at e
  have w : IntKind.i64.wrap ((i : Int) + 1) = ((i + 1 : Nat) : Int) := wrS (by omega)
  rw [decide_eq_true (by omega : (i : Int) < (N : Int)), cond_true, decide_eq_false (by omega : ¬ ((i : Int) ≥ 200)), cond_false, w, show (((i + 1 : Nat) : Int) != ((i + 1 : Nat) : Int)) = false from bne_self_eq_false _, cond_false] at e
  have e2 := EV.tidy (T' := tfT N b (i + 1 : Nat)) (S' := [.box [.list (i + 1) (flatN (nsF (i + 1))), nilA]]) [] (EV.of cT_ok evT_ok e) (fun q hq y hy => by simp at hq) (by kernel_rfl)
  rw [tfS_pos h1, tfS_pos (by omega), Nat.min_eq_left (by omega), Nat.min_eq_left (by omega)]
  unfold nsA at e2 ⊢
  rw [nsF_length (i + 1)]
  exact e2
theorem tf_many {i : Nat} (h2 : 200 ≤ i) (h3 : i < N) : EV cT 0 tfK (tfT N b i) (tfS i) .normal (tfT N b (i + 1 : Nat)) (tfS (i + 1)) := by
  have hs := sq_le (i := i) (by omega)
  have hp : gAddQ [plN (nsF 200).length (flatN (nsF 200)), ptP ((i : Int), (i : Int) * (i : Int))] = _ := gAddQ_many (by rw [nsF_length]; exact Nat.le_refl _) (by rw [nsF_length]; omega) (ok_fill (by omega)) (has_fill (by omega) 200 h2)
  have e := tfC_eq N b i (nsF 200) (fun _ => by
    rw [wr_id (x := (i : Int) * (i : Int)) (by omega) (by omega)]
    exact pure_given (g := gAddQ) (by kernel_rfl) hp)
  unfold tfC at e
  have w : IntKind.i64.wrap ((i : Int) + 1) = ((i + 1 : Nat) : Int) := wrS (by omega)
  rw [decide_eq_true (by omega : (i : Int) < (N : Int)), cond_true, decide_eq_true (by omega : ((i : Int) ≥ 200)), cond_true, w] at e
  have e2 := EV.tidy (T' := tfT N b (i + 1 : Nat)) (S' := [.box [nsA (nsF 200), nilA]]) [] (EV.of cT_ok evT_ok e) (fun q hq y hy => by simp at hq) (by kernel_rfl)
  rw [tfS_pos (by omega), tfS_pos (by omega), Nat.min_eq_right h2, Nat.min_eq_right (by omega)]
  exact e2
theorem tf_end : EV cT 0 tfK (tfT N b N) (tfS N) (.exit 0) (tfX N b N) [.box [nsA (nsF (min N 200)), nilA]] := by
  have hd : decide ((N : Int) < (N : Int)) = false := decide_eq_false (by omega)
  have e := tfB_eq N b N (nsF (min N 200)) 0 [] 0 (fun h => by rw [hd] at h; cases h)
  unfold tfB at e
  rw [hd, cond_false] at e
  rw [tfS_pos (by omega)]
  exact EV.of cT_ok evT_ok e
theorem tf_loop : EV cT 0 (.loop tfK) (tfT N b (0 : Nat)) (tfS 0) (.exit 0) (tfX N b N) [.box [nsA (nsF (min N 200)), nilA]] := by
  refine EV.loop (n := N) (T := fun i => tfT N b i) (S := fun i => tfS i) (fun i hi => ?_) (tf_end N b hN1 hN2) (by simp)
  by_cases h0 : i = 0
  · subst h0; exact tf_first N b hN1 hN2
  · by_cases h2 : i < 200
    · exact tf_put N b hN1 hN2 (by omega) h2 hi
    · exact tf_many N b hN1 hN2 (by omega) hi
end
def tfM (N : Nat) : Nat := min N 200
def tfQ (N : Nat) (b : Int) : Nat := (and255 b).toNat % min N 200
def tfW (N : Nat) (b : Int) : List AObj := (tfZ N b N (min (N : Int) 200) ((and255 b).toNat % min N 200 : Nat) (nsF (min N 200)) (delN (nsF (min N 200)) ((and255 b).toNat % min N 200)) (newN (delN (nsF (min N 200)) ((and255 b).toNat % min N 200)) (-5, -5)) (((and255 b).toNat % min N 200 + 1 : Nat) : Int) ((((and255 b).toNat % min N 200 + 1 : Nat) : Int), (-5, -5), 0)).2.2
set_option maxRecDepth 100000 in
theorem partId {ns : List Nd} {k : Nat} (h : k < ns.length) : partA Tryz.prog 3 (upL (((flatN ns).drop (k * 4)).drop 0)) 0 = some (iA (nAt ns k).1) := by
  rw [drop_nAt h]
  rfl
set_option maxRecDepth 100000 in
theorem partNx {ns : List Nd} {k : Nat} (h : k < ns.length) : partA Tryz.prog 2 (upL ((((flatN ns).drop (k * 4)).drop 1).drop 0)) 0 = some (iA (nAt ns k).2.1.1) := by
  rw [drop_nAt h]
  rfl
theorem tf_tail (N : Nat) (b : Int) (hN1 : 190 ≤ N) (hN2 : N ≤ 205) : EV cT 0 tfE (tfX N b N) [.box [nsA (nsF (min N 200)), nilA]] .ret (jk 4 ++ [bA true] ++ jk 127) (tfW N b) := by
  unfold tfW
  obtain ⟨ha1, ha2⟩ := and255_le b
  generalize hM : min N 200 = M
  have hM1 : 190 ≤ M := by omega
  have hM2 : M ≤ 200 := by omega
  generalize hk : (and255 b).toNat % M = k
  have hkM : k < M := by rw [← hk]; exact Nat.mod_lt _ (by omega)
  have hl := dF_length hkM
  obtain ⟨hb1, hb2⟩ := dF_back hkM (-5, -5)
  have w1 : IntKind.i64.wrap ((k : Int) + 1) = ((k + 1 : Nat) : Int) := wrS (by omega)
  have w2 : IntKind.i64.wrap (((k + 1 : Nat) : Int) - 1) = (k : Int) := by rw [wr_id (by omega) (by omega)]; omega
  have h9 : IntKind.i64.wrap (IntKind.i64.wrap ((k : Int) + 1) - 1) = (k : Int) := by rw [w1, w2]
  have hpr : ∀ {ev : Ev}, pureCall cT ev 44 [plN (nsF M).length (flatN (nsF M)), iP (k + 1 : Nat)] = some (.tup [plN (delN (nsF M) k).length (flatN (delN (nsF M) k)), iP 0]) := pure_given (g := gRem) (by kernel_rfl) (gRem_ok (by rw [nsF_length]; omega) (dF_first hkM) (dF_uniq hkM))
  have hn : gAddQ [plN (delN (nsF M) k).length (flatN (delN (nsF M) k)), ptP (-5, -5)] = _ := gAddQ_any (by omega) (by omega) rfl (dF_has hkM _ (by decide)) (by rw [dF_new hkM]; exact (binM_eq (dF_rise hkM)).2)
  rw [dF_new hkM] at hn
  have hmn : (min (N : Int) 200) = (M : Int) := by omega
  have e := tfZ_eq N b N (min (N : Int) 200) (k : Int) (nsF M) (delN (nsF M) k) (newN (delN (nsF M) k) (-5, -5)) ((k + 1 : Nat) : Int) (((k + 1 : Nat) : Int), (-5, -5), 0)
    (Eq.trans (b := (pureOf Tryz.prog (Builtin.min_ #[3, 3] 3 #[.int .i64 N, .int .i64 200])).map fun r => (AVal.v r, ([] : Eff))) (by kernel_rfl) (by rw [min200 N (by omega) (by omega)]; rfl))
    (by
      rw [hmn]
      have := binA_rem (and255 b) (M : Int) (.tmp 69) (.tmp 71) (by omega)
      rw [show (and255 b).tmod (M : Int) = (k : Int) by rw [Int.tmod_eq_emod_of_nonneg ha1, ← hk]; first | rw [Int.natCast_emod, Int.toNat_of_nonneg ha1] | rw [Int.natCast_mod, Int.toNat_of_nonneg ha1]] at this
      exact this)
    (by rw [w1]; exact hpr)
    (pure_given (g := gAddQ) (by kernel_rfl) hn)
    (fun _ _ => by
      show (0 : Int) ≤ IntKind.i64.wrap (IntKind.i64.wrap ((k : Int) + 1) - 1) ∧ IntKind.i64.wrap (IntKind.i64.wrap ((k : Int) + 1) - 1) < ((newN (delN (nsF M) k) (-5, -5)).length : Int)
      rw [h9, hb1]
      omega)
    (fun _ _ => by
      have := partId (ns := newN (delN (nsF M) k) (-5, -5)) (k := k) (by rw [hb1]; exact hkM)
      rw [hb2] at this
      rw [h9, Int.toNat_natCast]
      exact this)
    (fun _ _ _ => by
      have := partNx (ns := newN (delN (nsF M) k) (-5, -5)) (k := k) (by rw [hb1]; exact hkM)
      rw [hb2] at this
      rw [h9, Int.toNat_natCast]
      exact this)
    (fun _ _ _ _ => pure_given (g := g00 (bP true)) (by kernel_rfl) rfl)
  have hc1 : (((k + 1 : Nat) : Int) == IntKind.i64.wrap ((k : Int) + 1)) = true := by rw [w1]; exact beq_iff_eq.2 rfl
  have hc2 : (((newN (delN (nsF M) k) (-5, -5)).length : Int) == ((nsF M).length : Int)) = true := by rw [hb1, nsF_length]; exact beq_iff_eq.2 rfl
  unfold tfZ at e ⊢
  rw [hc1, hc2] at e ⊢
  simp only [cond_true] at e ⊢
  exact EV.of cT_ok evT_ok e
theorem topoFills_calls (n b : Int) : CallsP Tryz.prog 12 [iP n, iP b] (bP true) := by
  obtain ⟨h1, h2⟩ := and255_le n
  obtain ⟨N, hN⟩ : ∃ N : Nat, IntKind.i64.wrap ((and255 n).tmod 16 + 190) = (N : Int) ∧ 190 ≤ N ∧ N ≤ 205 := by
    refine ⟨(and255 n).toNat % 16 + 190, ?_, by omega, by omega⟩
    rw [wr_id (by rw [Int.tmod_eq_emod_of_nonneg h1]; omega) (by rw [Int.tmod_eq_emod_of_nonneg h1]; omega), Int.tmod_eq_emod_of_nonneg h1]
    omega
  obtain ⟨hN, hN1, hN2⟩ := hN
  have hT : cT.tab 12 = some ((cT.tab 12).getD ⟨0, #[], .skip, []⟩) := by kernel_rfl
  refine callsP_of_A (r0 := bA true) (S := tfW N b) (callsA_of_EV cT_ok hT (x := .ret) (.inr rfl) (T' := jk 4 ++ [bA true] ++ jk 127) (by kernel_rfl) ?_) (by rfl)
  rw [show (((cT.tab 12).getD ⟨0, #[], .skip, []⟩).body) = tfB0 by kernel_rfl, tf_body]
  refine EV.seq (EV.of cT_ok evT_ok (lv := tfLv) (lo := 0) (n := 60) (T' := [iA n, iA b] ++ jk 130) (S' := []) (by kernel_rfl)) ?_
  refine EV.seq (T1 := [iA N, iA b] ++ jk 130) (S1 := []) ?_ ?_
  · have e : evalC cT evT tfLv 0 0 60 (c1 (c2 tfB0)) ([iA n, iA b] ++ jk 130) [] = some (.normal, [iA (IntKind.i64.wrap ((and255 n).tmod 16 + 190)), iA b] ++ jk 130, []) := by kernel_rfl
    rw [hN] at e
    exact EV.of cT_ok evT_ok e
  refine EV.seq (EV.of cT_ok evT_ok (lv := tfLv) (lo := 0) (n := 60) (T' := [iA N, iA b] ++ jk 3 ++ [.ptr 0 0 0] ++ jk 126) (S' := [.box [nilA, nilA]]) (by kernel_rfl)) ?_
  refine EV.seq (EV.seq (EV.of cT_ok evT_ok (lv := tfLv) (lo := 0) (n := 60) (T' := tfT N b (0 : Nat)) (S' := tfS 0) (by kernel_rfl)) (EV.block (tf_loop N b hN1 hN2))) (tf_tail N b hN1 hN2)
end Go.Proofs.YtkkgimhbliocoaaGreat
/- TopoFills: the row. Proved: whatever the input, the law answers true and leaves its arguments as they were. -/
namespace Go.Proofs.YtkkgimhbliocoaaGreat
open Go Vm M Go.ChangeShapes Go.WideShapes Go.ChangeAt Go.RowKit
set_option linter.unusedVariables false
set_option maxRecDepth 100000 in
theorem topoFills_lifted (os : Os) (started : os.Started) (H : Type) (enc : TypeId × Value → H) :
    ReturnsInHanded {} Tryz.checked os 12 .any (Rows.topoFillsSpec.pre6 enc Tryz.prog Tryz.f12 Rows.topoFillsRow.domain false) (Rows.topoFillsSpec.post enc Tryz.prog Tryz.f12 false true false false) := by
  refine returnsInHanded_of_change_sized (C := Tryz.checked) own started (by kernel_rfl) Tryz.func12
    (ChangeSpec.witness6 (enc := enc) (C := Tryz.checked) false ⟨#[], #[.int .i64 0, .int .i64 0], []⟩ 8 (by kernel_rfl) (by kernel_rfl) (by kernel_rfl) (by kernel_rfl)) ?_
  intro W base args ds gs before hval0 hW hcnd hsz0 _
  have hval : ∀ (j : Nat) t v, Tryz.f12.params[j]? = some t → args[j]? = some v → Value.okWide Tryz.prog W .any base t v := hval0
  have hW' := hW
  obtain ⟨p, q, hA0, hV, rfl, hfz, hnd⟩ := hW
  have hA : DataW.TrodAll enc Tryz.prog W 0 (fun _ => true) true Tryz.f12.params.toList args.toList ds p := hA0
  rw [Tryz.params12] at hA hval
  obtain ⟨v0, vs0, d0, ds0, p0, q0, hargs, rfl, rfl, h0, r0⟩ := trodAll_cons hA
  obtain ⟨v1, vs1, d1, ds1, p1, q1, rfl, rfl, rfl, h1, r1⟩ := trodAll_cons r0
  obtain ⟨rfl, rfl, rfl⟩ := trodAll_nil r1
  obtain rfl : args = #[v0, v1] := by cases args; simp_all
  obtain ⟨rfl, rfl⟩ := trodVars_none hV
  have lt : ∀ {t : TypeId} {v : Value} {d : DataW H} {ps : List MemPlace}, DataW.Trod enc Tryz.prog W 0 (fun _ => true) true t v d ps → ∀ x ∈ ps, x.block < W.heap.size := fun h => by obtain ⟨m, hm⟩ := h; exact DataW.trod_lt m _ _ _ hm
  obtain ⟨a0, rfl, rfl, rfl, w0⟩ := open_int Tryz.underlying3 (hval 0 3 v0 rfl rfl) h0
  obtain ⟨a1, rfl, rfl, rfl, w1⟩ := open_int Tryz.underlying3 (hval 1 3 v1 rfl rfl) h1
  refine (callsS (topoFills_calls a0 a1) (w := W) (vs := #[.int .i64 a0, .int .i64 a1]) rfl (Rps_cons rfl (Rp_int _ a0) (Rps_cons rfl (Rp_int _ a1) Rps_nil)) (u := .bool true) (fun L x h => Rp_bool h)).mono fun e W' ⟨he, bel⟩ => ?_
  subst he
  exact ⟨_, rfl, _, _, _, [], _, [], hW', trodAll_mk1 (shut_bool Tryz.underlying4 _), (trodAll_cons_mk (shut_int Tryz.underlying3 w0) (trodAll_cons_mk (shut_int Tryz.underlying3 w1) trodAll_mk0)), rfl, bel.frame _, fun h => by cases h⟩
theorem topoFills_over : Rows.topoFillsRow.holds Tryz.pinned (OpenSpec.ofChange Rows.topoFillsSpec) :=
  OpenClaim.holds_of_wide 12 Tryz.f12 rfl rfl rfl rfl rfl rfl rfl ⟨rfl, rfl, rfl, rfl, rfl⟩ rfl rfl rfl rfl rfl (by kernel_rfl) Tryz.func12 (by kernel_rfl)
    (of_decide_eq_true (by kernel_rfl)) (by unfold Func.isWrapper; first | (rw [if_pos (by decide +kernel)]; kernel_rfl) | (rw [if_neg (by decide +kernel)]; exact ⟨rfl, rfl⟩))
    (fun os started H enc _ => topoFills_lifted os started H enc)
theorem topoFills_holds : Rows.TopoFillsSaid := topoFills_over
#print axioms topoFills_holds
end Go.Proofs.YtkkgimhbliocoaaGreat
