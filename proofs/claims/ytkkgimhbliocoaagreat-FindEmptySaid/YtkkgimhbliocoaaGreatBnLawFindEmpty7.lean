/- Texts put together: VmRangeM, VmRangeR. What is proved stands at the head of each part. -/
import Derived.Test.YtkkgimhbliocoaaGreatBnLawFindEmpty6
import Derived.Maps.RangeRun
/- A range over a map, in whatever order: the rounds told for each entry by itself. -/
namespace Go.Proofs.YtkkgimhbliocoaaGreat.Vm
open Go Go.RowKit
open Go.ChangeMaps (setBlock)
set_option linter.unusedVariables false
set_option linter.unusedSimpArgs false
set_option linter.unnecessarySimpa false

/-- A block that no object is turns. -/
theorem loneSet_ok {C0 C : Ctx} (hS : St C) (hE : Ext C0 C) {r : Nat} {w1 : World} {ob : Obj} (hw : w1 = C.w ∨ w1 = C.w.drew) (h0 : C0.w.heap.size ≤ r) (hno : ∀ (q : Nat) (z : AObj) (e : Nat), C.S[q]? = some z → z.ep? = some e → (C.ρ q).b ≠ r) (hnok : ∀ j, ¬ C.ok r j) :
    St ⟨C.ρ, C.S, C.ok, setBlock w1 r ob⟩ ∧ Ext C0 ⟨C.ρ, C.S, C.ok, setBlock w1 r ob⟩ := by
  have hh : (setBlock w1 r ob).heap = C.w.heap.setIfInBounds r ob := by rcases hw with rfl | rfl <;> rfl
  have hoth : ∀ b, b ≠ r → (setBlock w1 r ob).heap[b]? = C.w.heap[b]? := fun b hb => by rw [hh, Array.getElem?_setIfInBounds, if_neg (Ne.symm hb)]
  have hsz : (setBlock w1 r ob).heap.size = C.w.heap.size := by rw [hh]; simp
  have g : Grows C ⟨C.ρ, C.S, C.ok, setBlock w1 r ob⟩ := by
    refine ⟨⟨fun a y ⟨h1, h2⟩ => ⟨h1, ?_⟩, fun b es ⟨h1, c, h2⟩ => ⟨h1, c, ?_⟩⟩, fun q y e hy he => ⟨y, e, hy, he, .inl ⟨rfl, rfl⟩⟩⟩
    · show (setBlock w1 r ob).cell? a = some y
      rw [← h2]
      exact World.cell?_of_block (hoth _ fun hb => hnok a.off (hb ▸ h1))
    · exact (hoth b fun hb => hnok 0 (hb ▸ h1)).trans h2
  refine ⟨⟨fun q y hy => (hS.obj q y hy).keep g (fun _ _ h => h) rfl fun e he => hoth _ (hno q y e hy he), hS.inj, fun b j hb => by rw [show (Ctx.w ⟨C.ρ, C.S, C.ok, setBlock w1 r ob⟩).heap.size = _ from hsz]; exact hS.okIn b j hb, hS.okRow⟩,
    ⟨hE.grows.trans g, ?_, ?_, ?_, ?_, hE.ok, fun b hb hn => ?_, hE.okNew, hE.blocks⟩⟩
  · rw [← hE.os]; rcases hw with rfl | rfl <;> rfl
  · rw [← hE.tape]; rcases hw with rfl | rfl <;> rfl
  · rw [← hE.output]; rcases hw with rfl | rfl <;> rfl
  · rw [show (Ctx.w ⟨C.ρ, C.S, C.ok, setBlock w1 r ob⟩).heap.size = _ from hsz]; exact hE.size
  · exact (hoth b (by omega)).trans (hE.frame b hb hn)
theorem born_hold {es : Array MapEntry} {c : Nat} (h : BornOk es c) : ∀ x ∈ es.toList, x.born < c := fun x hx => by
  obtain ⟨i, hi⟩ := List.getElem?_of_mem hx
  have hi' : es[i]? = some x := by simpa using hi
  have := h.2 i x hi'
  have := (Array.getElem?_eq_some_iff.1 hi').1
  have := h.1
  omega
theorem born_nodup {es : Array MapEntry} {c : Nat} (h : BornOk es c) : (es.toList.map (·.born)).Nodup := by
  have : es.toList.map (·.born) = List.range es.toList.length := by
    apply List.ext_getElem?
    intro i
    rw [List.getElem?_map]
    rcases Nat.lt_or_ge i es.toList.length with hi | hi
    · have h1 := List.getElem?_eq_getElem hi
      rw [h1, Option.map_some, List.getElem?_range hi, h.2 i _ (by rw [← Array.getElem?_toList]; exact h1)]
    · rw [List.getElem?_eq_none hi, List.getElem?_eq_none (by simpa using hi)]; rfl
  rw [this]
  exact List.nodup_range

theorem forgetRT {C : Ctx} {T : List AVal} {tmps : Array Value} (h : RT C T tmps) (m : Nat) : RT C (forget m T) tmps := ⟨by rw [forget_length]; exact h.1, forget_rel _ _ _ _ h.2⟩
theorem RT.eval {C : Ctx} {T : List AVal} {a : Act} (h : RT C T a.tmps) {t : Tmp} {u : Value} (ht : T[t]? = some (.v u)) : a.eval (.tmp t) = u := by
  have := h.get t
  rw [show T.getD t .junk = .v u by simp [List.getD, ht]] at this
  simpa [Rv, Act.eval] using this
variable {c : Cfg}
theorem EV.range (hc : CfgOk c) {ev : Ev} (he : EvOk c ev) {lo base bh : Nat} {ops ops2 eops : Array Oper} {id bid nid eb eid : Nat} {pre erest : List Oper} {rop nop xop eop : Oper} {t : TypeId} {m it q k d : Tmp} {o : Nat} {rest : Code} {z : AVal}
    {ks : List Int} {vA : (Nat → Bool) → List AVal} {SA : (Nat → Bool) → List AObj} {T T1 T' : List AVal} {S S' : List AObj} {mk mk' : Nat} {Th : Nat → List AVal} {T5 T4 : Nat → Nat → (Nat → Bool) → List AVal}
    (h1 : ops.toList = pre ++ [rop]) (h2 : rop.op = .range t (.tmp m) ∧ rop.guard = none ∧ rop.dst = some it) (h3 : ops2 = #[nop, xop]) (h4 : nop.op = .next (.tmp it) false ∧ nop.guard = none ∧ nop.dst = some q) (h5 : xop.op = .extract (.tmp q) 0 ∧ xop.guard = none ∧ xop.dst = some k)
    (h6 : eops.toList = eop :: erest) (h7 : eop.op = .entry (.tmp it) ∧ eop.guard = none ∧ eop.dst = some d)
    (hr : runOps c ev lo ops pre T S = some (T1, SA fun _ => false)) (hm : T1.getD m .junk = .mp o) (ho : ∀ A, (SA A)[o]? = some (.mapo false ks (vA A))) (hz : mapT c.P t = some z) (hl : it < T1.length ∧ q < T1.length ∧ k < T1.length ∧ d < T1.length)
    (hT1 : ∀ r, forget mk (putT T1 (some it) (.v (.pointer (some ⟨r, 0, none⟩)))) = Th r) (hit : ∀ r, (Th r)[it]? = some (.v (.pointer (some ⟨r, 0, none⟩)))) (hqk : q ≠ it ∧ k ≠ it ∧ q ≠ k)
    (hent : ∀ r i A key v S, i < ks.length → A i = false → ks[i]? = some key → (vA A)[i]? = some v → runOps c ev lo eops erest (putT (putT (putT (Th r) (some q) .junk) (some k) .junk) (some d) (.tup [.v (.int .i64 key), v])) S = some (T5 r i A, S))
    (hrest : ∀ r i A, i < ks.length → A i = false → EV c bh rest (T5 r i A) (SA A) .normal (T4 r i A) (SA (put1 A i))) (hT4 : ∀ r i A, i < ks.length → A i = false → forget mk (T4 r i A) = Th r) (hbh : ∀ A, (SA A).length ≤ bh)
    (hT' : ∀ r, forget mk' (putT (putT (Th r) (some q) .junk) (some k) .junk) = T') (hS' : ∀ A, (∀ j, j < ks.length → A j = true) → SA A = S') :
    EV c base (.seq (.region id ops false) (.block bid (.loop (.seq (.region nid ops2 false) (.seq (.cond (.tmp k) .skip (.exit bid)) (.block eb (.seq (.region eid eops false) rest))))))) T S .normal T' S' := by
  intro ro C0 C a d0 hro hb hS hE hT hd hCS
  subst hCS
  refine wpIn_seq (wpIn_region ?_)
  rw [List.range_eq_range']
  have hsz : ops.size = pre.length + 1 := by
    have := congrArg List.length h1
    simpa using this
  refine runOps_pre (C0 := C) (d0 := a.defers) hc he [rop] pre 0 T a C T1 (SA fun _ => false) (by simpa using h1) hS (Ext.refl C) hT rfl hr fun a1 C1 e1 k1 k2 k3 k4 => ?_
  have hrop : ops[0 + pre.length]? = some rop := by
    rw [← Array.getElem?_toList, h1, Nat.zero_add, List.getElem?_append_right (Nat.le_refl _), Nat.sub_self]; rfl
  rw [show ops.size - (0 + pre.length) = 0 + 1 by omega, List.range'_succ, List.range'_zero]
  simp only [wpOpsIn, hrop]
  have hmv := k3.get m
  rw [hm] at hmv
  simp only [Rv] at hmv
  obtain ⟨r0, hu, ob, e0, g1, g2, g3, g4⟩ := hmv
  have ho0 := ho fun _ => false
  rw [e1, ho0] at g1
  cases g1
  simp only [AObj.ep?, Option.some.injEq] at g2
  subst g2
  obtain ⟨es, cl, f1, f2, f3, f4, _, f5⟩ := k1.obj o _ (e1 ▸ ho0)
  have hcl : cl = ks.length := f5.1.trans f2.1
  subst hcl
  obtain ⟨kt, et, i, zv, ht, _, _, _, _⟩ := mapT_some hz
  have hwant : Region.wanted rop (yielded ops a1.tmps) = true := by simp [Region.wanted, h2.2.1]
  rw [if_pos hwant]
  have hev : a1.eval (.tmp m) = .map (some (C1.ρ o).b) := by
    show a1.tmps.getD m undef = _
    rw [hu, g4 rfl]
  have hx1 : (execOp a1.eval rop).run c.P C1.w = .ok (.value (.pointer (some ⟨C1.w.heap.size, 0, none⟩))) (C1.w.alloc (.mapIter (some (C1.ρ o).b) ks.length #[] ks.length)) := by
    simp [execOp, h2.1, hev, run_range_map C1.w t kt et (C1.ρ o).b es ks.length ht f1]
  refine opIn_of (fun d h => by rw [h2.1] at h; cases h) hx1 ?_
  rw [Oper.uponIn_value, h2.2.2]
  obtain ⟨s1, s2⟩ := lone_ok k1 (.mapIter (some (C1.ρ o).b) ks.length #[] ks.length)
  have z1 : a1.tmps.size = T1.length := k3.1
  have r1 : RT ⟨C1.ρ, C1.S, C1.ok, C1.w.alloc (.mapIter (some (C1.ρ o).b) ks.length #[] ks.length)⟩ (putT T1 (some it) (.v (.pointer (some ⟨C1.w.heap.size, 0, none⟩)))) (a1.put (some it) (.pointer (some ⟨C1.w.heap.size, 0, none⟩))).tmps := (k3.mono s2.grows).put (some it) (by simp [Rv])
  have d2 : (a1.put (some it) (.pointer (some ⟨C1.w.heap.size, 0, none⟩))).defers = a.defers := stepOp_defers.trans k4
  have r1' : RT ⟨C1.ρ, C1.S, C1.ok, C1.w.alloc (.mapIter (some (C1.ρ o).b) ks.length #[] ks.length)⟩ (Th C1.w.heap.size) (a1.put (some it) (.pointer (some ⟨C1.w.heap.size, 0, none⟩))).tmps := by
    rw [← hT1]
    exact forgetRT r1 mk
  have hThl : ∀ r, (Th r).length = T1.length := fun r => by rw [← hT1 r, forget_length]; simp [putT]
  have hheapr : (C1.w.alloc (.mapIter (some (C1.ρ o).b) ks.length #[] ks.length)).heap[C1.w.heap.size]? = some (.mapIter (some (C1.ρ o).b) ks.length #[] ks.length) := heap_alloc_new C1.w _
  have hr0 : C0.w.heap.size ≤ C1.w.heap.size := Nat.le_trans hE.size k2.size
  have hrno : ∀ (p : Nat) (y : AObj) (e : Nat), C1.S[p]? = some y → y.ep? = some e → (C1.ρ p).b ≠ C1.w.heap.size := fun p y e hy he hbb => by
    have := (k1.obj p y hy).lt he; omega
  have hrok : ∀ j, ¬ C1.ok C1.w.heap.size j := fun j hj => by have := k1.okIn _ _ hj; omega
  generalize C1.w.heap.size = r at *
  generalize a1.put (some it) (.pointer (some ⟨r, 0, none⟩)) = a2 at *
  have hEx := hE.trans (k2.trans s2)
  have hdx := hd.ext (k2.trans s2)
  rw [← d2] at hdx
  show (Code.block bid _).wpIn (fR ro) 0 c.P _ a2 _
  -- the rounds
  subst h3
  have hrg : List.range (#[nop, xop] : Array Oper).size = [0, 1] := rfl
  have gg0 : (#[nop, xop] : Array Oper)[0]? = some nop := rfl
  have gg1 : (#[nop, xop] : Array Oper)[1]? = some xop := rfl
  have w2 : ∀ a : Act, Region.wanted nop (yielded #[nop, xop] a.tmps) = true := fun a => by simp [Region.wanted, h4.2.1]
  have w3 : ∀ a : Act, Region.wanted xop (yielded #[nop, xop] a.tmps) = true := fun a => by simp [Region.wanted, h5.2.1]
  have w4 : ∀ a : Act, Region.wanted eop (yielded eops a.tmps) = true := fun a => by simp [Region.wanted, h7.2.1]
  have hesz : eops.size = erest.length + 1 := by
    have := congrArg List.length h6
    simpa using this
  have heop : eops[0]? = some eop := by rw [← Array.getElem?_toList, h6]; rfl
  have key : ∀ (n : Nat) (seen : Array Nat) (C : Ctx) (a : Act), C.S = SA (fun j => seen.contains j) → St C → Ext C0 C → RT C (Th r) a.tmps → MarksOk C0 d0 C a.defers → C.w.heap[r]? = some (.mapIter (some (C.ρ o).b) ks.length seen ks.length) →
      (∀ (p : Nat) (y : AObj) (e : Nat), C.S[p]? = some y → y.ep? = some e → (C.ρ p).b ≠ r) → (∀ j, ¬ C.ok r j) → ks.length ≤ (idx ks.length fun j => seen.contains j).length + n →
      Code.roundsIn (fR ro) 0 c.P (.seq (.region nid #[nop, xop] false) (.seq (.cond (.tmp k) .skip (.exit bid)) (.block eb (.seq (.region eid eops false) rest)))) (Exit.inBlock bid (Post C0 .normal T' S' d0)) (n + 1) a C.w := by
    intro n
    induction n using Nat.strongRecOn with
    | ind n ih =>
    intro seen C a hCS hS hE hT hd hh hno hnok hn
    rw [roundsIn_succ]
    refine wpIn_seq (wpIn_region ?_)
    rw [hrg]
    simp only [wpOpsIn, gg0, gg1]
    rw [if_pos (w2 _)]
    obtain ⟨es, cl, f1, f2, f3, f4, _, f5⟩ := hS.obj o _ (by rw [hCS]; exact ho (fun j => seen.contains j))
    have hcl : cl = ks.length := f5.1.trans f2.1
    subst hcl
    have evit := hT.eval (hit r)
    have za : a.tmps.size = T1.length := hT.1.trans (hThl r)
    rcases run_next_at (P := c.P) C.w nop.type r (C.ρ o).b ks.length ks.length seen es ks.length hh f1 (born_hold f5) (Nat.le_refl _) with ⟨hnone, hrun⟩ | ⟨e, hmem, w1, hw1, hrun⟩
    · have hx2 : (execOp a.eval nop).run c.P C.w = .ok (.value (.tuple #[.bool false])) C.w := by simp [execOp, h4.1, evit, hrun]
      refine opIn_of (fun d h => by rw [h4.1] at h; cases h) hx2 ?_
      rw [Oper.uponIn_value, h4.2.2]
      have ev2 : (a.put (some q) (.tuple #[.bool false])).eval (.tmp q) = .tuple #[.bool false] := get_put (by rw [za]; exact hl.2.1)
      have z3 : (a.put (some q) (.tuple #[.bool false])).tmps.size = T1.length := size_put.trans za
      have r2 := hT.put (u := .tuple #[.bool false]) (some q) (x := .junk) (by simp [Rv])
      have d3 : (a.put (some q) (.tuple #[.bool false])).defers = a.defers := stepOp_defers
      generalize a.put (some q) (.tuple #[.bool false]) = a3 at *
      rw [if_pos (w3 _)]
      have hx3 : (execOp a3.eval xop).run c.P C.w = .ok (.value (.bool false)) C.w := by simp [execOp, h5.1, ev2, Instr.extract]
      refine opIn_of (fun d h => by rw [h5.1] at h; cases h) hx3 ?_
      rw [Oper.uponIn_value, h5.2.2]
      have ev3 : (a3.put (some k) (.bool false)).eval (.tmp k) = .bool false := get_put (by rw [z3]; exact hl.2.2.1)
      have r3 := r2.put (u := .bool false) (some k) (x := .junk) (by simp [Rv])
      have d4 : (a3.put (some k) (.bool false)).defers = a.defers := stepOp_defers.trans d3
      generalize a3.put (some k) (.bool false) = a4 at *
      show (Code.seq _ _).wpIn (fR ro) 0 c.P _ a4 _
      refine wpIn_seq (wpIn_cond_false ev3 (wpIn_exit ?_))
      show (if bid = bid then _ else _)
      rw [if_pos rfl]
      refine ⟨C, rfl, ?_, hS, hE, ?_, by rw [d4]; exact hd, trivial⟩
      · rw [hCS]
        refine hS' _ fun j hj => ?_
        have hj' : j < es.size := by rw [f2.1]; exact hj
        have := all_seen es seen hnone es[j] (by simp)
        rwa [f5.2 j es[j] (Array.getElem?_eq_getElem hj')] at this
      · rw [← hT' r]
        exact forgetRT r3 mk'
    · obtain ⟨hem, hes⟩ := mem_left hmem
      obtain ⟨i, hi⟩ := List.getElem?_of_mem hem
      have hi' : es[i]? = some e := by simpa using hi
      have hborn := f5.2 i e hi'
      have hilt : i < ks.length := by rw [← f2.1]; exact (Array.getElem?_eq_some_iff.1 hi').1
      have hAi : (fun j => seen.contains j) i = false := by
        show seen.contains i = false
        rw [← hborn]; exact hes
      obtain ⟨e', he1, he2⟩ := f2.2 i ks[i] (List.getElem?_eq_getElem hilt)
      rw [hi'] at he1; cases he1
      have hvlt : i < (vA fun j => seen.contains j).length := by rw [← f3, f2.1]; exact hilt
      obtain ⟨u, ⟨e', he3, rfl⟩, hrv⟩ := Rvs_get f4 i _ (List.getElem?_eq_getElem hvlt)
      rw [Nat.zero_add, hi'] at he3; cases he3
      have hrlt : r < C.w.heap.size := (Array.getElem?_eq_some_iff.1 hh).1
      have hr0' : C0.w.heap.size ≤ r := hr0
      obtain ⟨s1, s2⟩ := loneSet_ok (ob := .mapIter (some (C.ρ o).b) ks.length (seen.push e.born) ks.length) hS hE hw1 hr0' hno hnok
      have hh1 : (setBlock w1 r (.mapIter (some (C.ρ o).b) ks.length (seen.push e.born) ks.length)).heap = C.w.heap.setIfInBounds r (.mapIter (some (C.ρ o).b) ks.length (seen.push e.born) ks.length) := by rcases hw1 with rfl | rfl <;> rfl
      have hx2 : (execOp a.eval nop).run c.P C.w = .ok (.value (.tuple #[.bool true, e.key, e.val])) (setBlock w1 r (.mapIter (some (C.ρ o).b) ks.length (seen.push e.born) ks.length)) := by simp [execOp, h4.1, evit, hrun]
      refine opIn_of (fun d h => by rw [h4.1] at h; cases h) hx2 ?_
      rw [Oper.uponIn_value, h4.2.2]
      have hgr : (setBlock w1 r (.mapIter (some (C.ρ o).b) ks.length (seen.push e.born) ks.length)).heap[r]? = some (.mapIter (some (C.ρ o).b) ks.length (seen.push e.born) ks.length) := by
        rw [hh1, Array.getElem?_setIfInBounds, if_pos rfl, if_pos hrlt]
      have hgm : (setBlock w1 r (.mapIter (some (C.ρ o).b) ks.length (seen.push e.born) ks.length)).heap[(C.ρ o).b]? = some (.map es ks.length) := by
        have hne : (C.ρ o).b ≠ r := hno o _ 0 (by rw [hCS]; exact ho _) rfl
        rw [hh1, Array.getElem?_setIfInBounds, if_neg (Ne.symm hne)]; exact f1
      have hgsz : (setBlock w1 r (.mapIter (some (C.ρ o).b) ks.length (seen.push e.born) ks.length)).heap.size = C.w.heap.size := by rw [hh1]; simp
      generalize hW : setBlock w1 r (.mapIter (some (C.ρ o).b) ks.length (seen.push e.born) ks.length) = W at *
      let C2 : Ctx := ⟨C.ρ, C.S, C.ok, W⟩
      have gC2 : Grows C C2 := by
        refine ⟨⟨fun b y hy => ?_, fun b es hy => ?_⟩, fun q y e hy he => ⟨y, e, hy, he, .inl ⟨rfl, rfl⟩⟩⟩
        · refine ⟨hy.1, ?_⟩
          have hne : b.block ≠ r := fun hb => hnok b.off (hb ▸ hy.1)
          rw [← hy.2]
          refine World.cell?_of_block ?_
          show W.heap[b.block]? = _
          rw [hh1, Array.getElem?_setIfInBounds, if_neg (Ne.symm hne)]
        · obtain ⟨hy1, c', hy2⟩ := hy
          refine ⟨hy1, c', ?_⟩
          have hne : b ≠ r := fun hb => hnok 0 (hb ▸ hy1)
          show W.heap[b]? = _
          rw [hh1, Array.getElem?_setIfInBounds, if_neg (Ne.symm hne)]; exact hy2
      have hd2 : MarksOk C0 d0 C2 a.defers := by
        obtain ⟨Ds, u1, u2, u3⟩ := hd
        refine ⟨Ds, u1, u2, fun D hD => ?_⟩
        obtain ⟨v1, v2, v3⟩ := u3 D hD
        have hne : D ≠ r := fun h => by subst h; rw [hh] at v1; cases v1
        refine ⟨?_, v2, v3⟩
        show W.heap[D]? = _
        rw [hh1, Array.getElem?_setIfInBounds, if_neg (Ne.symm hne)]
        exact v1
      have ev2 : (a.put (some q) (.tuple #[.bool true, e.key, e.val])).eval (.tmp q) = .tuple #[.bool true, e.key, e.val] := get_put (by rw [za]; exact hl.2.1)
      have ev2i : (a.put (some q) (.tuple #[.bool true, e.key, e.val])).eval (.tmp it) = .pointer (some ⟨r, 0, none⟩) := by
        rw [← evit]; simp [Act.put, Act.eval, Array.getD_eq_getD_getElem?, Array.getElem?_setIfInBounds, hqk.1]
      have z3 : (a.put (some q) (.tuple #[.bool true, e.key, e.val])).tmps.size = T1.length := size_put.trans za
      have r2 : RT C2 (putT (Th r) (some q) .junk) (a.put (some q) (.tuple #[.bool true, e.key, e.val])).tmps := (hT.mono gC2).put (some q) (x := .junk) (by simp [Rv])
      have d3 : (a.put (some q) (.tuple #[.bool true, e.key, e.val])).defers = a.defers := stepOp_defers
      generalize a.put (some q) (.tuple #[.bool true, e.key, e.val]) = a3 at *
      rw [if_pos (w3 _)]
      have hx3 : (execOp a3.eval xop).run c.P W = .ok (.value (.bool true)) W := by simp [execOp, h5.1, ev2, Instr.extract]
      refine opIn_of (fun d h => by rw [h5.1] at h; cases h) hx3 ?_
      rw [Oper.uponIn_value, h5.2.2]
      have ev3 : (a3.put (some k) (.bool true)).eval (.tmp k) = .bool true := get_put (by rw [z3]; exact hl.2.2.1)
      have ev3i : (a3.put (some k) (.bool true)).eval (.tmp it) = .pointer (some ⟨r, 0, none⟩) := by
        rw [← ev2i]; simp [Act.put, Act.eval, Array.getD_eq_getD_getElem?, Array.getElem?_setIfInBounds, hqk.2.1]
      have r3 := r2.put (u := .bool true) (some k) (x := .junk) (by simp [Rv])
      have z4 : (a3.put (some k) (.bool true)).tmps.size = T1.length := size_put.trans z3
      have d4 : (a3.put (some k) (.bool true)).defers = a.defers := stepOp_defers.trans d3
      generalize a3.put (some k) (.bool true) = a4 at *
      show (Code.seq _ _).wpIn (fR ro) 0 c.P _ a4 _
      refine wpIn_seq (wpIn_cond_true ev3 (wpIn_skip ?_))
      show (Code.block eb _).wpIn (fR ro) 0 c.P _ a4 _
      refine wpIn_block (wpIn_seq (wpIn_region ?_))
      rw [List.range_eq_range', hesz, List.range'_succ]
      simp only [wpOpsIn, heop]
      rw [if_pos (w4 _)]
      have hx4 : (execOp a4.eval eop).run c.P W = .ok (.value (.tuple #[e.key, e.val])) W := by
        simp [execOp, h7.1, ev3i, run_entry_at W r (C.ρ o).b ks.length seen es ks.length e hgr hgm hem (born_nodup f5)]
      refine opIn_of (fun d h => by rw [h7.1] at h; cases h) hx4 ?_
      rw [Oper.uponIn_value, h7.2.2]
      have r4 : RT C2 (putT (putT (putT (Th r) (some q) .junk) (some k) .junk) (some d) (.tup [.v (.int .i64 ks[i]), (vA fun j => seen.contains j)[i]])) (a4.put (some d) (.tuple #[e.key, e.val])).tmps := by
        refine r3.put (some d) ?_
        simp only [Rv]
        exact ⟨_, rfl, rfl, ⟨_, rfl, by rw [he2]; simp [Rv]⟩, ⟨_, rfl, Rv_mono gC2 _ _ hrv⟩, trivial⟩
      have d5 : (a4.put (some d) (.tuple #[e.key, e.val])).defers = a.defers := stepOp_defers.trans d4
      generalize a4.put (some d) (.tuple #[e.key, e.val]) = a5 at *
      have hE2 : Ext C2 C2 := Ext.refl C2
      have := runOps_pre (Q := Exit.then (rest.wpIn (fR ro) 0 c.P (Exit.inBlock eb (Exit.then (Code.roundsIn (fR ro) 0 c.P (.seq (.region nid #[nop, xop] false) (.seq (.cond (.tmp k) .skip (.exit bid)) (.block eb (.seq (.region eid eops false) rest)))) (Exit.inBlock bid (Post C0 .normal T' S' d0)) n) (Exit.inBlock bid (Post C0 .normal T' S' d0))))) (Exit.inBlock eb (Exit.then (Code.roundsIn (fR ro) 0 c.P (.seq (.region nid #[nop, xop] false) (.seq (.cond (.tmp k) .skip (.exit bid)) (.block eb (.seq (.region eid eops false) rest)))) (Exit.inBlock bid (Post C0 .normal T' S' d0)) n) (Exit.inBlock bid (Post C0 .normal T' S' d0)))))
        (ro := ro) (lo := lo) (ops := eops) (C0 := C2) (d0 := a.defers) hc he [] erest 1 _ a5 C2 _ _ (by rw [h6]; simp) s1 hE2 r4 d5 (hent r i _ _ _ _ hilt hAi (List.getElem?_eq_getElem hilt) (List.getElem?_eq_getElem hvlt)) (fun a6 C6 p1 p2 p3 p4 p5 => ?_)
      · rw [hesz, show erest.length + 1 - 1 = erest.length by omega] at this
        exact this
      rw [show eops.size - (1 + erest.length) = 0 by omega, List.range'_zero]
      simp only [wpOpsIn]
      show rest.wpIn (fR ro) 0 c.P _ a6 C6.w
      have hd6 : MarksOk C0 d0 C6 a6.defers := by
        rw [p5]
        exact hd2.ext p3
      obtain ⟨d1, hd7, hd8⟩ := hd6.nest (C2 := C2) (by show C0.w.heap.size ≤ W.heap.size; rw [hgsz]; exact hE.size)
      refine wpIn_mono (hrest r i _ hilt hAi ro C2 C6 a6 d1 (hro.seq.2.block.loop.seq.2.seq.2.block.seq.2) (by show C.S.length ≤ bh; rw [hCS]; exact hbh _) p2 p3 p4 hd7 (p1.trans hCS)) ?_
      rintro ex a7 w7 ⟨C7, rfl, y1, y2, y3, y4, y5, y6⟩
      cases ex <;> simp only [AExit.is] at y6
      show Code.roundsIn (fR ro) 0 c.P _ _ n a7 C7.w
      have hpush : (fun j => (seen.push e.born).contains j) = put1 (fun j => seen.contains j) i := by
        funext j
        rw [contains_push, hborn]
        simp [put1]
      have hidx := idx_put (L := fun j => seen.contains j) hAi ks.length
      rw [if_pos hilt] at hidx
      have hle : (idx ks.length (put1 (fun j => seen.contains j) i)).length ≤ ks.length := by
        have := List.length_filter_le (put1 (fun j => seen.contains j) i) (List.range ks.length)
        simpa [idx] using this
      obtain ⟨n', rfl⟩ : ∃ n', n = n' + 1 := ⟨n - 1, by omega⟩
      have hρo : C7.ρ o = C.ρ o := by
        obtain ⟨x', e2, t1, t2, t3⟩ := y3.grows.refs o _ 0 (show C2.S[o]? = _ by show C.S[o]? = _; rw [hCS]; exact ho _) rfl
        rw [y1, ho] at t1; cases t1
        simp only [AObj.ep?, Option.some.injEq] at t2
        subst t2
        rcases t3 with ⟨_, t3⟩ | t3
        · exact t3
        · omega
      refine ih n' (by omega) (seen.push e.born) C7 a7 (by rw [y1, hpush]) y2 (s2.trans y3) (by rw [← hT4 r i _ hilt hAi]; exact forgetRT y4 mk) (hd8 _ _ y5) ?_ (fun p y e2 hy he hbb => ?_) (fun j hj => ?_) (by rw [hpush]; omega)
      · rw [hρo]
        have := y3.frame r (by show r < W.heap.size; rw [hgsz]; exact hrlt) (fun p y e2 hy he => hno p y e2 hy he)
        exact this.trans hgr
      · rcases y3.blocks p y e2 hy he with h | ⟨p2, y2', e3, t1, t2, t3⟩
        · rw [hbb] at h
          have : W.heap.size ≤ r := h
          omega
        · exact hno p2 y2' e3 t1 t2 (t3.trans hbb)
      · rcases y3.okNew r j hj with h | h | ⟨p2, y2', e3, t1, t2, t3⟩
        · exact hnok j h
        · have : W.heap.size ≤ r := h
          omega
        · exact hno p2 y2' e3 t1 t2 t3
  have hn0 : (fun j => (#[] : Array Nat).contains j) = fun _ => false := by funext j; simp
  refine wpIn_block (wpIn_loop_rounds (ks.length + 1) (key ks.length #[] _ a2 (by rw [hn0]; exact e1) s1 hEx r1' hdx hheapr hrno hrok (by omega)))
end Go.Proofs.YtkkgimhbliocoaaGreat.Vm
/- A range over a map whose values are rows: each round turns its own row and its own entry. -/
namespace Go.Proofs.YtkkgimhbliocoaaGreat.Vm
open Go Go.RowKit
noncomputable section
set_option linter.unusedVariables false
set_option linter.unusedSimpArgs false
set_option linter.unnecessarySimpa false

/-- What is free may go, or come. -/
theorem EV.free {c : Cfg} {base : Nat} {code : Code} {T T' : List AVal} {S S1 S2 : List AObj} {x : AExit} (h : EV c base code T S x T' S1) (h1 : ∀ (q : Nat) (y : AObj), S1[q]? = some y → y = .free ∨ S2[q]? = some y) (h2 : ∀ (q : Nat) (y : AObj), S2[q]? = some y → y = .free ∨ S1[q]? = some y) : EV c base code T S x T' S2 := by
  intro ro C0 C a d0 hro hb hS hE hT hd hCS
  refine wpIn_mono (h ro C0 C a d0 hro hb hS hE hT hd hCS) ?_
  rintro e a1 w1 ⟨C1, rfl, e1, k1, k2, k3, k4, k5⟩
  have up : ∀ (q : Nat) (y : AObj) (e : Nat), C1.S[q]? = some y → y.ep? = some e → S2[q]? = some y := fun q y e hy he => by
    rw [e1] at hy
    rcases h1 q y hy with rfl | h
    · cases he
    · exact h
  have dn : ∀ (q : Nat) (y : AObj) (e : Nat), S2[q]? = some y → y.ep? = some e → C1.S[q]? = some y := fun q y e hy he => by
    rw [e1]
    rcases h2 q y hy with rfl | h
    · cases he
    · exact h
  have hk : ∀ (q : Nat) (y : AObj) (e : Nat), C1.S[q]? = some y → y.ep? = some e → ∃ y', (Ctx.S ⟨C1.ρ, S2, C1.ok, C1.w⟩)[q]? = some y' ∧ y'.ep? = some e := fun q y e hy he => ⟨y, up q y e hy he, he⟩
  have g : Grows C1 ⟨C1.ρ, S2, C1.ok, C1.w⟩ := ⟨Look.Le.refl _, fun q y e hy he => ⟨y, e, up q y e hy he, he, .inl ⟨rfl, rfl⟩⟩⟩
  have hmk : MarksOk C0 d0 ⟨C1.ρ, S2, C1.ok, C1.w⟩ a1.defers := by
    obtain ⟨Ds, m1, m2, m3⟩ := k4
    exact ⟨Ds, m1, m2, fun D hD => ⟨(m3 D hD).1, ⟨fun q y e hy he hbb => (m3 D hD).2.1.1 q y e (dn q y e hy he) he hbb, (m3 D hD).2.1.2⟩, (m3 D hD).2.2⟩⟩
  refine ⟨⟨C1.ρ, S2, C1.ok, C1.w⟩, rfl, rfl, ⟨fun q y hy => ?_, fun q q' y y' e e' hy hy' he he' => k1.inj q q' y y' e e' (dn q y e hy he) (dn q' y' e' hy' he') he he', k1.okIn, fun b j hj q y e hy he => k1.okRow b j hj q y e (dn q y e hy he) he⟩,
    ⟨k2.grows.trans g, k2.os, k2.tape, k2.output, k2.size, k2.ok, k2.frame, k2.okNew, fun q y e hy he => k2.blocks q y e (dn q y e hy he) he⟩, k3.mono g, hmk, k5⟩
  rcases h2 q y hy with rfl | h
  · trivial
  · exact (k1.obj q y (by rw [e1]; exact h)).keep g (fun _ _ h => h) rfl fun _ _ => rfl

def valsA (A : Nat → Bool) : Nat → List AVal → List AVal → List AVal
  | j, v :: vs, y :: ys => (bif A j then y else v) :: valsA A (j + 1) vs ys
  | _, vs, _ => vs
def setsA (A : Nat → Bool) : Nat → List Nat → List AObj → List AObj → List AObj
  | j, q :: qs, X :: Xs, S => setsA A (j + 1) qs Xs (bif A j then S.set q X else S)
  | _, _, _, S => S
theorem valsA_get {A : Nat → Bool} : ∀ (j : Nat) (vs ys : List AVal) (n : Nat), ys.length = vs.length → (valsA A j vs ys)[n]? = bif A (j + n) then ys[n]? else vs[n]?
  | j, [], [], n, _ => by simp [valsA]
  | j, v :: vs, y :: ys, 0, _ => by simp only [valsA, List.getElem?_cons_zero, Nat.add_zero]; cases A j <;> rfl
  | j, v :: vs, y :: ys, n + 1, h => by
    simp only [valsA, List.getElem?_cons_succ]
    rw [valsA_get (j + 1) vs ys n (by simpa using h), show j + 1 + n = j + (n + 1) by omega]
  | j, [], _ :: _, n, h => by simp at h
  | j, _ :: _, [], n, h => by simp at h
theorem setsA_length {A : Nat → Bool} : ∀ (j : Nat) (qs : List Nat) (Xs S : List AObj), (setsA A j qs Xs S).length = S.length
  | j, [], _, S => by simp [setsA]
  | j, _ :: _, [], S => by simp [setsA]
  | j, q :: qs, X :: Xs, S => by
    simp only [setsA]
    rw [setsA_length (j + 1) qs Xs]
    cases A j <;> simp
theorem setsA_other {A : Nat → Bool} {p : Nat} : ∀ (j : Nat) (qs : List Nat) (Xs S : List AObj), p ∉ qs → (setsA A j qs Xs S)[p]? = S[p]?
  | j, [], _, S, _ => by simp [setsA]
  | j, _ :: _, [], S, _ => by simp [setsA]
  | j, q :: qs, X :: Xs, S, h => by
    simp only [List.mem_cons, not_or] at h
    simp only [setsA]
    rw [setsA_other (j + 1) qs Xs _ h.2]
    cases A j with
    | false => rfl
    | true => simp only [cond_true]; rw [List.getElem?_set, if_neg (fun h' => h.1 h'.symm)]
theorem setsA_at {A : Nat → Bool} {p : Nat} {X : AObj} : ∀ (j : Nat) (qs : List Nat) (Xs S : List AObj) (n : Nat), qs.Nodup → qs[n]? = some p → Xs[n]? = some X → p < S.length → (setsA A j qs Xs S)[p]? = bif A (j + n) then some X else S[p]?
  | j, [], _, S, n, _, h, _, _ => by simp at h
  | j, _ :: _, [], S, n, _, _, h, _ => by simp at h
  | j, q :: qs, Y :: Xs, S, 0, hn, h, hX, hp => by
    simp only [List.getElem?_cons_zero, Option.some.injEq] at h hX
    subst h hX
    simp only [setsA]
    rw [setsA_other (j + 1) qs Xs _ (List.nodup_cons.1 hn).1, Nat.add_zero]
    cases A j with
    | false => rfl
    | true => simp only [cond_true]; rw [List.getElem?_set, if_pos rfl, if_pos hp]
  | j, q :: qs, Y :: Xs, S, n + 1, hn, h, hX, hp => by
    simp only [List.getElem?_cons_succ] at h hX
    simp only [setsA]
    rw [setsA_at (j + 1) qs Xs _ n (List.nodup_cons.1 hn).2 h hX (by cases A j <;> simpa using hp), show j + 1 + n = j + (n + 1) by omega]
    have hne : q ≠ p := fun h' => by subst h'; exact (List.nodup_cons.1 hn).1 (List.mem_of_getElem? h)
    cases A (j + (n + 1)) with
    | true => rfl
    | false =>
      cases A j with
      | false => rfl
      | true => simp only [cond_true, cond_false]; rw [List.getElem?_set, if_neg hne]
/-- The store when the entries A have been seen to. -/
def famA (S1 : List AObj) (o : Nat) (ks : List Int) (vs ys : List AVal) (qs : List Nat) (Xs : List AObj) (A : Nat → Bool) : List AObj := (setsA A 0 qs Xs S1).set o (.mapo false ks (valsA A 0 vs ys))
def others (qs : List Nat) (i : Nat) : List Nat := qs.eraseIdx i
def closedB (S : List AObj) (o : Nat) (H : List Nat) : Bool := H.all fun p => (List.range S.length).all fun q => H.contains q || Nat.beq q o || !mentX p (S.getD q .free)
/-- One round. -/
theorem EV.famRound {c : Cfg} {bh : Nat} {code : Code} {S1 : List AObj} {o i : Nat} {ks : List Int} {vs ys : List AVal} {qs : List Nat} {Xs : List AObj} {T T' : List AVal} {nf : Nat} {y : AVal} {X : AObj} {qi : Nat} {A : Nat → Bool}
    (hl : vs.length = ks.length ∧ ys.length = vs.length ∧ qs.length = vs.length ∧ Xs.length = vs.length) (hi : i < ks.length) (hA : A i = false) (hnd : qs.Nodup) (hlt : ∀ q ∈ qs, q < S1.length) (hoq : o ∉ qs) (ho : o < S1.length) (hbh : S1.length ≤ bh)
    (hy : ys[i]? = some y) (hX : Xs[i]? = some X) (hq : qs[i]? = some qi)
    (hcl : closedB S1 o (others qs i) = true) (hclT : ((others qs i).all fun p => !mentL p T && (match vs[i]? with | some v => !ment p v | none => true)) = true)
    (h : ∀ us : Nat → Value, EV c bh code T (hideAll (others qs i) (S1.set o (.mapo false ks (blur us i 0 vs)))) .normal T' (hideAll (others qs i) ((S1.set qi X).set o (.mapo false ks (blur us i 0 (vs.set i y)))) ++ List.replicate nf .free)) {base : Nat} :
    EV c base code T (famA S1 o ks vs ys qs Xs A) .normal T' (famA S1 o ks vs ys qs Xs (put1 A i)) := by
  have hmem : ∀ {p}, p ∈ others qs i → ∃ n, n ≠ i ∧ qs[n]? = some p := fun {p} hp => by
    obtain ⟨n, hn⟩ := List.getElem?_of_mem hp
    simp only [others, List.getElem?_eraseIdx] at hn
    split at hn
    · exact ⟨n, by omega, hn⟩
    · exact ⟨n + 1, by omega, hn⟩
  have hmem' : ∀ {p n}, n ≠ i → qs[n]? = some p → p ∈ others qs i := fun {p n} hni hn => by
    have : (others qs i)[if n < i then n else n - 1]? = some p := by
      simp only [others, List.getElem?_eraseIdx]
      by_cases hlt : n < i
      · rw [if_pos hlt, if_pos hlt]; exact hn
      · rw [if_neg hlt, if_neg (by omega), show n - 1 + 1 = n by omega]; exact hn
    exact List.mem_of_getElem? this
  have hqi : qi ∉ others qs i := fun h => by
    obtain ⟨n, h1, h2⟩ := hmem h
    exact h1 (nodup_get hnd h2 hq)
  have hoH : o ∉ others qs i := fun h => by
    obtain ⟨n, h1, h2⟩ := hmem h
    exact hoq (List.mem_of_getElem? h2)
  have hoi : qi ≠ o := fun h => hoq (h ▸ List.mem_of_getElem? hq)
  have flen : ∀ B, (famA S1 o ks vs ys qs Xs B).length = S1.length := fun B => by simp [famA, setsA_length]
  have fo : ∀ B, (famA S1 o ks vs ys qs Xs B)[o]? = some (.mapo false ks (valsA B 0 vs ys)) := fun B => by
    simp only [famA]; rw [List.getElem?_set, if_pos rfl, if_pos (by rw [setsA_length]; exact ho)]
  have fq : ∀ B n p Z, qs[n]? = some p → Xs[n]? = some Z → (famA S1 o ks vs ys qs Xs B)[p]? = bif B n then some Z else S1[p]? := fun B n p Z hp hZ => by
    simp only [famA]
    have hne : o ≠ p := fun h => hoq (h ▸ List.mem_of_getElem? hp)
    rw [List.getElem?_set, if_neg hne, setsA_at 0 qs Xs S1 n hnd hp hZ (hlt p (List.mem_of_getElem? hp)), Nat.zero_add]
  have fn : ∀ B p, p ∉ qs → p ≠ o → (famA S1 o ks vs ys qs Xs B)[p]? = S1[p]? := fun B p hp hpo => by
    simp only [famA]
    rw [List.getElem?_set, if_neg (Ne.symm hpo), setsA_other 0 qs Xs S1 hp]
  have hXn : ∀ {n p}, qs[n]? = some p → ∃ Z, Xs[n]? = some Z := fun {n p} hn => by
    have : n < Xs.length := by have := (List.getElem?_eq_some_iff.1 hn).1; omega
    exact ⟨_, List.getElem?_eq_getElem this⟩
  have hvi : (valsA A 0 vs ys)[i]? = vs[i]? := by rw [valsA_get 0 vs ys i hl.2.1, Nat.zero_add, hA]; rfl
  have fqi : (famA S1 o ks vs ys qs Xs A)[qi]? = S1[qi]? := by rw [fq A i qi X hq hX, hA]; rfl
  have hblur : ∀ us, blur us i 0 (valsA A 0 vs ys) = blur us i 0 vs := fun us => by
    apply List.ext_getElem?
    intro n
    rw [blur_get, blur_get, valsA_get 0 vs ys n hl.2.1, Nat.zero_add]
    by_cases hni : n = i
    · subst hni; rw [hA]; rfl
    · have hb : Nat.beq n i = false := by
        cases hb : Nat.beq n i with
        | true => exact absurd (Nat.eq_of_beq_eq_true hb) hni
        | false => rfl
      cases hAn : A n with
      | false => rfl
      | true =>
        simp only [cond_true, hb, cond_false]
        rcases Nat.lt_or_ge n vs.length with hn | hn
        · rw [List.getElem?_eq_getElem hn, List.getElem?_eq_getElem (by omega)]; rfl
        · rw [List.getElem?_eq_none hn, List.getElem?_eq_none (by omega)]
  have hin : ∀ us, hideAll (others qs i) ((famA S1 o ks vs ys qs Xs A).set o (.mapo false ks (blur us i 0 (valsA A 0 vs ys)))) = hideAll (others qs i) (S1.set o (.mapo false ks (blur us i 0 vs))) := fun us => by
    rw [hblur us]
    apply List.ext_getElem?
    intro p
    by_cases hp : p ∈ others qs i
    · have hpl : p < S1.length := by
        obtain ⟨n, _, h2⟩ := hmem hp
        exact hlt p (List.mem_of_getElem? h2)
      rw [hideAll_in _ _ hp (by rw [List.length_set, flen]; exact hpl), hideAll_in _ _ hp (by rw [List.length_set]; exact hpl)]
    · rw [hideAll_out _ _ hp, hideAll_out _ _ hp, List.getElem?_set, List.getElem?_set]
      by_cases hpo : o = p
      · rw [if_pos hpo, if_pos hpo, flen]
      · rw [if_neg hpo, if_neg hpo]
        by_cases hpq : p ∈ qs
        · obtain ⟨n, hn⟩ := List.getElem?_of_mem hpq
          by_cases hni : n = i
          · subst hni
            rw [hq] at hn; cases hn
            exact fqi
          · exact absurd (hmem' hni hn) hp
        · exact fn A p hpq (Ne.symm hpo)
  refine EV.hide (H := others qs i) (o := o) (i := i) (ks := ks) (vs := valsA A 0 vs ys) (y := y) (S1 := fun us => hideAll (others qs i) ((S1.set qi X).set o (.mapo false ks (blur us i 0 (vs.set i y))))) (bh := bh) (fun us => ?_) (by rw [flen]; exact hbh) (fo A) hoH (fun p hp => ⟨?_, fun v hv => ?_, fun q z hq' hqo hz => ?_⟩) (fun us q hqH => ?_) (fun us => ?_) (fun us => ?_)
  · rw [hin us]
    refine (h us).free (fun q z hz => ?_) (fun q z hz => ?_)
    · rw [List.getElem?_append] at hz
      split at hz
      · exact .inr hz
      · left
        rw [List.getElem?_replicate] at hz
        split at hz
        · exact (Option.some.inj hz).symm
        · cases hz
    · right
      rw [List.getElem?_append_left (List.getElem?_eq_some_iff.1 hz).1]
      exact hz
  · have := List.all_eq_true.1 hclT p hp
    simp only [Bool.and_eq_true, Bool.not_eq_true'] at this
    exact this.1
  · have := List.all_eq_true.1 hclT p hp
    simp only [Bool.and_eq_true, Bool.not_eq_true'] at this
    rw [hvi] at hv
    rw [hv] at this
    simpa using this.2
  · have hz1 : S1[q]? = some z := by
      by_cases hqq : q ∈ qs
      · obtain ⟨n, hn⟩ := List.getElem?_of_mem hqq
        by_cases hni : n = i
        · subst hni
          rw [hq] at hn; cases hn
          rw [← fqi]; exact hz
        · exact absurd (hmem' hni hn) hq'
      · rw [← fn A q hqq hqo]; exact hz
    have h1 := List.all_eq_true.1 (List.all_eq_true.1 hcl p hp) q (List.mem_range.2 (List.getElem?_eq_some_iff.1 hz1).1)
    have hb : Nat.beq q o = false := by
      cases hb : Nat.beq q o with
      | true => exact absurd (Nat.eq_of_beq_eq_true hb) hqo
      | false => rfl
    have hc : (others qs i).contains q = false := by simpa using hq'
    rw [hb, hc] at h1
    simpa [List.getD, hz1] using h1
  · have hpl : q < S1.length := by
      obtain ⟨n, _, h2⟩ := hmem hqH
      exact hlt q (List.mem_of_getElem? h2)
    exact hideAll_in _ _ hqH (by simpa using hpl)
  · have e1 : blur us i 0 ((valsA A 0 vs ys).set i y) = blur us i 0 (vs.set i y) := by
      apply List.ext_getElem?
      intro n
      rw [blur_get, blur_get, List.getElem?_set, List.getElem?_set]
      have hvl : (valsA A 0 vs ys).length = vs.length := by
        have h0 := valsA_get (A := A) 0 vs ys
        apply Nat.le_antisymm
        · rcases Nat.lt_or_ge vs.length (valsA A 0 vs ys).length with hh | hh
          · have := h0 vs.length hl.2.1
            rw [List.getElem?_eq_getElem hh, List.getElem?_eq_none (Nat.le_refl _), List.getElem?_eq_none (by omega)] at this
            cases hAA : A (0 + vs.length) <;> rw [hAA] at this <;> cases this
          · exact hh
        · rcases Nat.lt_or_ge (valsA A 0 vs ys).length vs.length with hh | hh
          · have := h0 (valsA A 0 vs ys).length hl.2.1
            rw [List.getElem?_eq_none (Nat.le_refl _), List.getElem?_eq_getElem hh, List.getElem?_eq_getElem (by omega)] at this
            cases hAA : A (0 + (valsA A 0 vs ys).length) <;> rw [hAA] at this <;> cases this
          · exact hh
      by_cases hni : i = n
      · subst hni
        simp only [if_true, hvl]
      · rw [if_neg hni, if_neg hni]
        have := congrArg (fun l => l[n]?) (hblur us)
        simp only [blur_get] at this
        exact this
    rw [e1, hideAll_out _ _ hoH, List.getElem?_set, if_pos rfl, if_pos (by simpa using ho)]
  · apply List.ext_getElem?
    intro p
    rw [restoreL_get, Nat.zero_add]
    by_cases hpl : p < S1.length
    · have hget : ∃ z, (hideAll (others qs i) ((S1.set qi X).set o (.mapo false ks (blur us i 0 (vs.set i y)))))[p]? = some z := ⟨_, List.getElem?_eq_getElem (by rw [hideAll_length]; simpa using hpl)⟩
      obtain ⟨z, hz⟩ := hget
      rw [hz, Option.map_some]
      by_cases hp : p ∈ others qs i
      · have hc : (others qs i).contains p = true := by simpa using hp
        rw [hc]
        simp only [cond_true]
        obtain ⟨n, hni, hn⟩ := hmem hp
        obtain ⟨Z, hZ⟩ := hXn hn
        rw [fq (put1 A i) n p Z hn hZ]
        have e1 : put1 A i n = A n := by
          have : (n == i) = false := by simpa using hni
          simp [put1, this]
        rw [e1, ← fq A n p Z hn hZ, List.getD]
        cases hcase : (famA S1 o ks vs ys qs Xs A)[p]? with
        | none => rw [List.getElem?_eq_none_iff, flen] at hcase; omega
        | some z' => rfl
      · have hc : (others qs i).contains p = false := by simpa using hp
        rw [hc]
        simp only [cond_false]
        by_cases hpo : p = o
        · subst hpo
          rw [show Nat.beq p p = true from Nat.beq_refl p, fo]
          simp only [cond_true]
          congr 2
          apply List.ext_getElem?
          intro n
          rw [List.getElem?_set, valsA_get (A := put1 A i) 0 vs ys n hl.2.1, Nat.zero_add]
          by_cases hni : i = n
          · subst hni
            have : put1 A i i = true := by simp [put1]
            rw [if_pos rfl, this]
            have hil : i < (valsA A 0 vs ys).length := by
              rcases Nat.lt_or_ge i (valsA A 0 vs ys).length with hh | hh
              · exact hh
              · have := hvi
                rw [List.getElem?_eq_none hh, List.getElem?_eq_getElem (by omega)] at this
                cases this
            rw [if_pos hil]
            exact hy.symm
          · rw [if_neg hni, valsA_get (A := A) 0 vs ys n hl.2.1, Nat.zero_add]
            have : (n == i) = false := by simpa using fun h => hni h.symm
            simp [put1, this]
        · have hb : Nat.beq p o = false := by
            cases hb : Nat.beq p o with
            | true => exact absurd (Nat.eq_of_beq_eq_true hb) hpo
            | false => rfl
          rw [hb]
          simp only [cond_false]
          rw [hideAll_out _ _ hp, List.getElem?_set, if_neg (Ne.symm hpo), List.getElem?_set] at hz
          rw [← hz]
          by_cases hpq : p ∈ qs
          · obtain ⟨n, hn⟩ := List.getElem?_of_mem hpq
            by_cases hni : n = i
            · subst hni
              rw [hq] at hn; cases hn
              rw [if_pos rfl, if_pos hpl, fq (put1 A n) n qi X hq hX]
              have : put1 A n n = true := by simp [put1]
              rw [this]; rfl
            · exact absurd (hmem' hni hn) hp
          · have hpi : qi ≠ p := fun h => hpq (h ▸ List.mem_of_getElem? hq)
            rw [if_neg hpi, fn _ p hpq hpo]
    · rw [List.getElem?_eq_none (by rw [hideAll_length]; simpa using hpl), List.getElem?_eq_none (by rw [flen]; omega)]; rfl
end
end Go.Proofs.YtkkgimhbliocoaaGreat.Vm
