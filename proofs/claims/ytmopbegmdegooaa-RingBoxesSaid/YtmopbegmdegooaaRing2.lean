/- Where a point lies to a ring: its function's answer. -/
import Derived.Test.YtmopbegmdegooaaRingMath
namespace Go.Proofs.Ytmopbegmdegooaa
open Go Go.RowKit Go.Shelf M
attribute [local go_sem] Oper.semAt_some
set_option linter.unusedVariables false
set_option linter.unusedSimpArgs false
theorem ray_in (a b p : P2) (W : World) : Calls Try.prog 55 #[ptV a, ptV b, ptV p] W fun e W' => e = .returned (.bool (ray a b p)) ∧ Below W.heap.size W W' :=
  (pure_in (ray_calls a b p) (vs := #[ptV a, ptV b, ptV p]) rfl (fun L => ⟨⟨_, rfl, pt_rp a⟩, ⟨_, rfl, pt_rp b⟩, ⟨_, rfl, pt_rp p⟩, trivial⟩) W).mono fun e W' ⟨⟨v, h1, L, h2⟩, h3⟩ => ⟨by rw [h1]; simp only [bP, Vm.Rp] at h2; rw [h2], h3⟩
def insV (p : P2) (xs : List SegP) : Int := if rayN p xs % 2 = 0 then -1 else 1
set_option maxRecDepth 100000 in
set_option maxHeartbeats 2000000 in
theorem inside_in (n : Nat) (hn : 8 ≤ n) (sv : Value) (ps : List P2) (hlen : ps.length < 4611686018427387904) (p : P2) (w : World) (hI : HoldsP w.heap.size w sv ps) :
    CallsIn Fence.wide n Try.prog 22 #[sv, ptV p] w fun e w' => e = .returned (.int .i64 (insideS (upto (segAt ps) ps.length) p)) ∧ Below w.heap.size w w' := by
  obtain ⟨A, cap, hsv, hl⟩ := id hI
  subst hsv
  refine callsIn_of_wp_marks Try.func22 rfl trivial ?_ rfl
  simp only [Try.ntmps22, List.size_toArray, List.length_cons, List.length_nil, Nat.reduceAdd, Nat.reduceSub, Array.replicate_succ, Array.replicate_zero, List.push_toArray, List.append_toArray, List.nil_append, List.cons_append]
  unfold ptV
  gi_wp2
  refine ⟨trivial, fun _ => by omega, (segments_in (n - 1) (by omega) _ _ _ _).mono ?_⟩
  rintro e w' ⟨rfl, rfl⟩
  gi_wp2
  have hB0 : Below w.heap.size w ((((w.alloc (.cells #[.int .i64 p.1, .int .i64 p.2] 23)).alloc (.cells #[.int .i64 0] 3)).alloc (.cells #[.int .i64 (-1)] 3)).alloc (.cells #[.slice A ps.length cap] 24)) := ((((Below.refl _ w).alloc (Nat.le_refl _) _).alloc (by simp) _).alloc (by simp; omega) _).alloc (by simp; omega) _
  have bP : Cells ((((w.alloc (.cells #[.int .i64 p.1, .int .i64 p.2] 23)).alloc (.cells #[.int .i64 0] 3)).alloc (.cells #[.int .i64 (-1)] 3)).alloc (.cells #[.slice A ps.length cap] 24)) w.heap.size 23 #[.int .i64 p.1, .int .i64 p.2] :=
    (Cells.new w 23 _).below ((((Below.refl (w.heap.size + 1) _).alloc (by simp) _).alloc (by simp) _).alloc (by simp <;> omega) _) (by omega)
  have bR : Cells ((((w.alloc (.cells #[.int .i64 p.1, .int .i64 p.2] 23)).alloc (.cells #[.int .i64 0] 3)).alloc (.cells #[.int .i64 (-1)] 3)).alloc (.cells #[.slice A ps.length cap] 24)) (w.heap.size + 1) 3 #[.int .i64 0] := by
    have := (Cells.new (w.alloc (.cells #[.int .i64 p.1, .int .i64 p.2] 23)) 3 #[.int .i64 0]).below (Y := (((w.alloc (.cells #[.int .i64 p.1, .int .i64 p.2] 23)).alloc (.cells #[.int .i64 0] 3)).alloc (.cells #[.int .i64 (-1)] 3)).alloc (.cells #[.slice A ps.length cap] 24)) (N := w.heap.size + 2) (((Below.refl (w.heap.size + 2) _).alloc (by simp) _).alloc (by simp) _) (by simp)
    rwa [World.size_alloc] at this
  have bK : Cells ((((w.alloc (.cells #[.int .i64 p.1, .int .i64 p.2] 23)).alloc (.cells #[.int .i64 0] 3)).alloc (.cells #[.int .i64 (-1)] 3)).alloc (.cells #[.slice A ps.length cap] 24)) (w.heap.size + 1 + 1) 3 #[.int .i64 (-1)] := by
    have := (Cells.new ((w.alloc (.cells #[.int .i64 p.1, .int .i64 p.2] 23)).alloc (.cells #[.int .i64 0] 3)) 3 #[.int .i64 (-1)]).below (Y := (((w.alloc (.cells #[.int .i64 p.1, .int .i64 p.2] 23)).alloc (.cells #[.int .i64 0] 3)).alloc (.cells #[.int .i64 (-1)] 3)).alloc (.cells #[.slice A ps.length cap] 24)) (N := w.heap.size + 3) ((Below.refl (w.heap.size + 3) _).alloc (by simp) _) (by simp)
    rwa [World.size_alloc, World.size_alloc] at this
  have bA : Cells ((((w.alloc (.cells #[.int .i64 p.1, .int .i64 p.2] 23)).alloc (.cells #[.int .i64 0] 3)).alloc (.cells #[.int .i64 (-1)] 3)).alloc (.cells #[.slice A ps.length cap] 24)) (w.heap.size + 1 + 1 + 1) 24 #[.slice A ps.length cap] := by
    have := Cells.new (((w.alloc (.cells #[.int .i64 p.1, .int .i64 p.2] 23)).alloc (.cells #[.int .i64 0] 3)).alloc (.cells #[.int .i64 (-1)] 3)) 24 #[.slice A ps.length cap]
    rwa [World.size_alloc, World.size_alloc, World.size_alloc] at this
  have hsz : ((((w.alloc (.cells #[.int .i64 p.1, .int .i64 p.2] 23)).alloc (.cells #[.int .i64 0] 3)).alloc (.cells #[.int .i64 (-1)] 3)).alloc (.cells #[.slice A ps.length cap] 24)).heap.size = w.heap.size + 4 := by simp
  obtain ⟨W0, hW0⟩ : ∃ W0, (((w.alloc (.cells #[.int .i64 p.1, .int .i64 p.2] 23)).alloc (.cells #[.int .i64 0] 3)).alloc (.cells #[.int .i64 (-1)] 3)).alloc (.cells #[.slice A ps.length cap] 24) = W0 := ⟨_, rfl⟩
  rw [hW0] at hB0 bP bR bK bA hsz ⊢
  clear hW0
  refine wpIn_rangeFunc_ownH rfl (by omega) (gf := 79) (lb := #[.pointer (some ⟨w.heap.size + 1 + 1 + 1, 0, none⟩)]) rfl trivial (enters_of Try.func79 (by kernel_rfl) rfl)
    (segs_stops (n - 1) (by omega) (w.heap.size + 1 + 1 + 1) w.heap.size _ ps hlen W0 (by omega) (by omega) (by have := bA.cell 0; simpa using this) (hI.below hB0)) (fun h k => h.trans k) (kpS_b (by omega) (by omega)) (Below.refl _ _) (fun _ => rfl)
    (fun pre W => (((Cells W w.heap.size 23 #[.int .i64 p.1, .int .i64 p.2] ∧ Cells W (w.heap.size + 1) 3 #[.int .i64 0]) ∧ Cells W (w.heap.size + 1 + 1) 3 #[.int .i64 (insV p pre)]) ∧ onAny p pre = false) ∧ Below w.heap.size W0 W)
    (fun c pre W => ((c = .ret ∧ onAny p pre = true) ∧ Cells W (w.heap.size + 1) 3 #[.int .i64 0]) ∧ Below w.heap.size W0 W)
    (OwnFrom.and (OwnFrom.and (OwnFrom.and (OwnFrom.and (Own.from (Cells.own _ _ fun _ => _) _) (Own.from (Cells.own _ _ fun _ => _) _)) (Own.from (Cells.own _ _ fun pre => #[.int .i64 (insV p pre)]) _)) (ownFrom_pure _ _)) (ownFrom_below (by omega) (by omega)))
    (fun c => OwnFrom.and (OwnFrom.and (ownFrom_pure _ _) (Own.from (Cells.own _ _ fun _ => _) _)) (ownFrom_below (by omega) (by omega)))
    ⟨⟨⟨⟨bP, bR⟩, bK⟩, rfl⟩, Below.refl _ _⟩
    (fun x a' W => ∃ Bx By, w.heap.size + 1 + 1 + 1 < Bx ∧ Bx < By ∧ Cells W Bx 23 #[.int .i64 x.1.1, .int .i64 x.1.2] ∧ Cells W By 23 #[.int .i64 x.2.1, .int .i64 x.2.2] ∧
      a' = { tmps := #[.slice A ps.length cap, .agg #[.int .i64 p.1, .int .i64 p.2], undef, .pointer (some ⟨w.heap.size, 0, none⟩), .pointer (some ⟨w.heap.size + 1, 0, none⟩), .pointer (some ⟨w.heap.size + 1 + 1, 0, none⟩), .pointer (some ⟨Bx, 0, none⟩), .pointer (some ⟨By, 0, none⟩), .slice A ps.length cap,
        .func (.func 79) #[] #[.pointer (some ⟨w.heap.size + 1 + 1 + 1, 0, none⟩)], ptV x.1, ptV x.2, undef, undef, undef, undef, undef, undef, undef, undef, undef, undef, undef], defers := [] })
    (fun x a' _ X Y row hs hg hr => by
      obtain ⟨Bx, By, e1, e2, e3, e4, e5⟩ := hs
      exact ⟨Bx, By, e1, e2, Cells.own Bx 23 (fun (_ : Unit) => #[.int .i64 x.1.1, .int .i64 x.1.2]) () X Y row e3 hg (fun r e => (hr r e).2), Cells.own By 23 (fun (_ : Unit) => #[.int .i64 x.2.1, .int .i64 x.2.2]) () X Y row e4 hg (fun r e => (hr r e).2), e5⟩)
    ?assign ?body ?done ?stop
  case assign =>
    rintro l pre x W K ⟨⟨⟨⟨hP, hR⟩, hK1⟩, hon⟩, hB⟩ hK
    unfold ptV
    gi_wp2
    have hb2 : Below W.heap.size W ((W.alloc (.cells #[.int .i64 x.1.1, .int .i64 x.1.2] 23)).alloc (.cells #[.int .i64 x.2.1, .int .i64 x.2.2] 23)) := ((Below.refl _ W).alloc (Nat.le_refl _) _).alloc (by simp) _
    have hsW := hB.size
    refine hK _ _ (((KeepsOthers.alloc _ _).trans (KeepsOthers.alloc _ _)).from _) (KpS.of_below hb2 (by omega) (by omega)) ⟨⟨⟨⟨hP.below hb2 hP.lt, hR.below hb2 hR.lt⟩, hK1.below hb2 hK1.lt⟩, hon⟩, hB.trans (hb2.mono (by omega))⟩ ⟨W.heap.size, W.heap.size + 1, by omega, by omega, ?_, ?_, by simp [ptV]⟩
    · exact (Cells.new W 23 _).below ((Below.refl (W.heap.size + 1) _).alloc (by simp) _) (by omega)
    · have := Cells.new (W.alloc (.cells #[.int .i64 x.1.1, .int .i64 x.1.2] 23)) 23 #[.int .i64 x.2.1, .int .i64 x.2.2]
      rwa [World.size_alloc] at this
  case body =>
    rintro l pre x a' W hl ⟨r, hr⟩ ⟨⟨⟨⟨hP, hR⟩, hK1⟩, hon⟩, hB⟩ ⟨Bx, By, h1, h2, hX, hY, rfl⟩ hlt
    have hsW := hB.size
    have x00 : W.cell? ⟨Bx, 0, none⟩ = some (.int .i64 x.1.1) := hX.cell 0
    have x01 : W.cell? ⟨Bx, 1, none⟩ = some (.int .i64 x.1.2) := hX.cell 1
    have y00 : W.cell? ⟨By, 0, none⟩ = some (.int .i64 x.2.1) := hY.cell 0
    have y01 : W.cell? ⟨By, 1, none⟩ = some (.int .i64 x.2.2) := hY.cell 1
    have p00 : W.cell? ⟨w.heap.size, 0, none⟩ = some (.int .i64 p.1) := hP.cell 0
    have p01 : W.cell? ⟨w.heap.size, 1, none⟩ = some (.int .i64 p.2) := hP.cell 1
    gi_wp2
    refine ⟨trivial, fun _ => by omega, (CallsIn.inRound l (callsIn_wide.2 (on_in x.1 x.2 p _))).mono ?_⟩
    rintro e W1 ⟨rfl, hb1⟩
    have hX1 := hX.after hb1
    have hY1 := hY.after hb1
    have hP1 := hP.after hb1
    have hR1 := hR.after hb1
    have hK2 := hK1.after hb1
    have x10 : W1.cell? ⟨Bx, 0, none⟩ = some (.int .i64 x.1.1) := hX1.cell 0
    have x11 : W1.cell? ⟨Bx, 1, none⟩ = some (.int .i64 x.1.2) := hX1.cell 1
    have y10 : W1.cell? ⟨By, 0, none⟩ = some (.int .i64 x.2.1) := hY1.cell 0
    have y11 : W1.cell? ⟨By, 1, none⟩ = some (.int .i64 x.2.2) := hY1.cell 1
    have p10 : W1.cell? ⟨w.heap.size, 0, none⟩ = some (.int .i64 p.1) := hP1.cell 0
    have p11 : W1.cell? ⟨w.heap.size, 1, none⟩ = some (.int .i64 p.2) := hP1.cell 1
    have r10 := hR1.frozen 0 (by simp)
    have r11 : W1.cell? ⟨w.heap.size + 1, 0, none⟩ = some (.int .i64 0) := hR1.cell 0
    have honA : onAny p (pre ++ [x]) = M.on x.1 x.2 p := by
      unfold onAny at hon ⊢
      rw [List.any_append, hon]
      simp
    cases ho : M.on x.1 x.2 p with
    | true =>
      gi_wp2
      refine ⟨(keepsFrom_below hb1).trans ((KeepsOthers.setCell _ _ _).from _), ⟨⟨rfl, honA.trans ho⟩, ?_⟩, hB.trans ((hb1.mono (B' := w.heap.size) (by omega)).setCell (p := ⟨w.heap.size + 1, 0, none⟩) (by simp) _)⟩
      exact hR1.set 0 _
    | false =>
      gi_wp2
      refine ⟨trivial, fun _ => by omega, (CallsIn.inRound l (callsIn_wide.2 (ray_in x.1 x.2 p _))).mono ?_⟩
      rintro e W2 ⟨rfl, hb2⟩
      have hP2 := hP1.after hb2
      have hR2 := hR1.after hb2
      have hK3 := hK2.after hb2
      have k20 : W2.cell? ⟨w.heap.size + 1 + 1, 0, none⟩ = some (.int .i64 (insV p pre)) := hK3.cell 0
      have k21 := hK3.frozen 0 (by simp)
      have hbW : Below W.heap.size W W2 := below_after hb2 hb1 (Nat.le_refl _)
      have hrn : rayN p (pre ++ [x]) = rayN p pre + (if ray x.1 x.2 p then 1 else 0) := by
        unfold rayN
        rw [List.countP_append, List.countP_singleton]
      cases hq : ray x.1 x.2 p with
      | true =>
        gi_wp2
        refine ⟨(keepsFrom_below hbW).trans ((KeepsOthers.setCell _ _ _).from _), ⟨(hbW.mono (B' := w.heap.size) (by omega)).setCell (p := ⟨w.heap.size + 1 + 1, 0, none⟩) (by simp only; omega) _, ?_⟩, ⟨⟨⟨hP2.other (by simp only; omega) _, hR2.other (by simp only; omega) _⟩, ?_⟩, honA.trans ho⟩, hB.trans ((hbW.mono (B' := w.heap.size) (by omega)).setCell (p := ⟨w.heap.size + 1 + 1, 0, none⟩) (by simp only; omega) _)⟩
        · rw [Below.heap_setCell _ _ _ _ (by simp)]
          exact hbW.block _ (by omega)
        · have e : insV p (pre ++ [x]) = wrap64 (-insV p pre) := by
            unfold insV
            rw [hrn, hq]
            by_cases h : rayN p pre % 2 = 0
            · rw [if_neg (by simp; omega), if_pos h]; simp [wrap64]
            · rw [if_pos (by simp; omega), if_neg h]; simp [wrap64]
          rw [e]
          exact hK3.set 0 _
      | false =>
        gi_wp2
        have e : insV p (pre ++ [x]) = insV p pre := by
          unfold insV
          rw [hrn, hq]
          simp
        refine ⟨keepsFrom_below hbW, KpS.of_below hbW (by omega) (by omega), ⟨⟨⟨hP2, hR2⟩, ?_⟩, honA.trans ho⟩, hB.trans (hbW.mono (B' := w.heap.size) (by omega))⟩
        rw [e]
        exact hK3
  case done =>
    rintro D ys W hD rfl ⟨⟨⟨⟨hP, hR⟩, hK1⟩, hon⟩, hB⟩ hK
    have c0 : W.cell? ⟨w.heap.size + 1 + 1, 0, none⟩ = some (.int .i64 (insV p (upto (segAt ps) ps.length))) := hK1.cell 0
    have r1 := hR.frozen 0 (by simp)
    have r2 : W.cell? ⟨w.heap.size + 1, 0, none⟩ = some (.int .i64 0) := hR.cell 0
    gi_wp2
    have hK' := (KeepsOthers.setCell W ⟨w.heap.size + 1, 0, none⟩ (.int .i64 (insV p (upto (segAt ps) ps.length)))).same D _ hK rfl
    refine ⟨by simp, .inl ⟨_, _, rfl, run_takeDeferred hK', ?_⟩⟩
    have hc4 : (W.setCell ⟨w.heap.size + 1, 0, none⟩ (.int .i64 (insV p (upto (segAt ps) ps.length)))).cell? ⟨w.heap.size + 1, 0, none⟩ = some (.int .i64 (insV p (upto (segAt ps) ps.length))) := (hR.set 0 (.int .i64 (insV p (upto (segAt ps) ps.length)))).cell 0
    have hc5 := cell_kept hc4 (grownBy_putObj' _ D (.deferred none)) (fun r e => by cases e; exact ⟨_, hK', rfl⟩)
    refine ⟨.int .i64 (insideS (upto (segAt ps) ps.length) p), ?_, rfl, ((hB0.trans hB).setCell (p := ⟨w.heap.size + 1, 0, none⟩) (by simp) _).trans (belowK_b (w := w) (Nat.le_refl _) _ D _ _ (by omega) hK' rfl rfl)⟩
    have e : insideS (upto (segAt ps) ps.length) p = insV p (upto (segAt ps) ps.length) := by
      unfold insideS insV
      rw [hon]
      rfl
    rw [e]
    simp [results, Try.f22, go_sem, hc5]
  case stop =>
    rintro D c pre W hD ⟨k, hk, rfl⟩ ⟨⟨⟨rfl, hon⟩, hR⟩, hB⟩ hK
    gi_wp2
    refine ⟨by simp, .inl ⟨_, _, rfl, run_takeDeferred hK, ?_⟩⟩
    have hc5 := cell_kept (hR.cell 0) (grownBy_putObj' _ D (.deferred none)) (fun r e => by cases e; exact ⟨_, hK, rfl⟩)
    refine ⟨.int .i64 (insideS (upto (segAt ps) ps.length) p), ?_, rfl, (hB0.trans hB).trans (belowK_b (w := w) (Nat.le_refl _) W D _ _ (by omega) hK rfl rfl)⟩
    have hall : onAny p (upto (segAt ps) ps.length) = true := by
      unfold onAny at hon ⊢
      rw [List.any_eq_true] at hon ⊢
      obtain ⟨x, hx, h⟩ := hon
      refine ⟨x, ?_, h⟩
      unfold upto at hx ⊢
      rw [List.mem_map] at hx ⊢
      obtain ⟨i, hi, e⟩ := hx
      exact ⟨i, by rw [List.mem_range] at hi ⊢; omega, e⟩
    unfold insideS
    rw [hall]
    simp [results, Try.f22, go_sem, hc5]
end Go.Proofs.Ytmopbegmdegooaa
