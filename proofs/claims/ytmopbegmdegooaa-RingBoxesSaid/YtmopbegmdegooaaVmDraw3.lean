/- Regions that draw their order, the end: any order comes out as the text's. -/
import Derived.Test.YtmopbegmdegooaaVmDraw2
namespace Go.Proofs.Ytmopbegmdegooaa.Vm
open Go Go.RowKit
set_option linter.unusedVariables false
set_option linter.unusedSimpArgs false
set_option linter.unnecessarySimpa false

theorem freezeAs_ok (lo : Nat) (S1 : List AObj) (C : Ctx) (hS : St C) : ∃ C', Marked lo C C' ∧ C'.S = freezeAs lo C.S S1 := by
  unfold freezeAs
  generalize List.range C.S.length = l
  induction l generalizing C with
  | nil => exact ⟨C, Marked.refl hS, rfl⟩
  | cons o l ih =>
    have : ∃ C1, Marked lo C C1 ∧ C1.S = freezeAt lo S1 C.S o := by
      unfold freezeAt
      split
      · rename_i sz ep zs _ _ _ _ hx _
        split
        · rename_i hlo
          obtain ⟨ok', h0, h1, h2⟩ := freeze1 hS hx
          refine ⟨_, ⟨h1, h2, rfl, rfl, h0, by simp, fun q hq => ?_⟩, rfl⟩
          simp only
          rw [List.getElem?_set, if_neg (by omega)]
        · exact ⟨C, Marked.refl hS, rfl⟩
      · exact ⟨C, Marked.refl hS, rfl⟩
    obtain ⟨C1, h1, h2⟩ := this
    obtain ⟨C2, h3, h4⟩ := ih C1 h1.st
    exact ⟨C2, h1.trans h3, by rw [h4, h2, List.foldl_cons]⟩
/-- Free slots put behind; one order drawn. -/
theorem pad_ok {C : Ctx} (hS : St C) (n d : Nat) : St ⟨C.ρ, C.S ++ List.replicate n .free, C.ok, { C.w with drawn := d }⟩ ∧ Ext C ⟨C.ρ, C.S ++ List.replicate n .free, C.ok, { C.w with drawn := d }⟩ := by
  have back : ∀ (o : Nat) (x : AObj) (e : Nat), (C.S ++ List.replicate n .free)[o]? = some x → x.ep? = some e → C.S[o]? = some x := by
    intro o x e hx he
    rw [List.getElem?_append] at hx
    split at hx
    · exact hx
    · have := List.mem_of_getElem? hx
      simp only [List.mem_replicate] at this
      rw [this.2] at he; cases he
  have g : Grows C ⟨C.ρ, C.S ++ List.replicate n .free, C.ok, { C.w with drawn := d }⟩ := by
    refine ⟨fun a x h => h, fun o x e hx he => ⟨x, e, ?_, he, .inl ⟨rfl, rfl⟩⟩⟩
    simp only
    rw [List.getElem?_append_left (List.getElem?_eq_some_iff.1 hx).1]; exact hx
  refine ⟨⟨fun o x hx => ?_, fun o o' x x' e e' hx hx' he he' hb => hS.inj o o' x x' e e' (back _ _ _ hx he) (back _ _ _ hx' he') he he' hb, hS.okIn, fun b j hb o x e hx he hbo => hS.okRow b j hb o x e (back _ _ _ hx he) he hbo⟩,
    ⟨g, rfl, rfl, rfl, Nat.le_refl _, fun _ _ h => h, fun _ _ _ => rfl, fun _ _ h => .inl h, fun o x e hx he => .inr ⟨o, x, e, back _ _ _ hx he, he, rfl⟩⟩⟩
  simp only at hx
  rw [List.getElem?_append] at hx
  split at hx
  · exact (hS.obj o x hx).keep g (fun _ _ h => h) rfl fun _ _ => rfl
  · have := List.mem_of_getElem? hx
    simp only [List.mem_replicate] at this
    rw [this.2]
    trivial
theorem hideAll_get : ∀ (U : List Nat) (S : List AObj) {q : Nat} {x : AObj}, (hideAll U S)[q]? = some x → x = .hidden ∨ (q ∉ U ∧ S[q]? = some x)
  | [], S, q, x, h => .inr ⟨by simp, h⟩
  | u :: U, S, q, x, h => by
    rcases hideAll_get U (S.set u .hidden) h with h | ⟨h1, h2⟩
    · exact .inl h
    · rw [List.getElem?_set] at h2
      by_cases hu : u = q
      · rw [if_pos hu] at h2
        split at h2
        · exact .inl (Option.some.inj h2).symm
        · cases h2
      · rw [if_neg hu] at h2
        exact .inr ⟨by simp [Ne.symm hu, h1], h2⟩
theorem listed_put {listed : Array Bool} {i : Nat} (h : i < listed.size) : (fun j => (listed.setIfInBounds i true).getD j false) = put1 (fun j => listed.getD j false) i := by
  funext j
  simp only [put1]
  by_cases hij : i = j
  · subst hij; simp [h]
  · rw [getD_set_ne false hij]
    have : (j == i) = false := by simpa using Ne.symm hij
    simp [this]

section
variable {c : Cfg} {ev : Ev} {lo n0 : Nat} {ops : Array Oper} {W : List (List Nat)} {D : Nat → AVal × Eff} {T0 : List AVal} {S0 : List AObj} {C0 : Ctx} {Q : Exit → Act → World → Prop} {d0 : List Deferred}
theorem draw_step (hc : CfgOk c) (he : EvOk c ev) (hap : apartT ops (predsAll ops.toList []) = true) (ha : aheadOk ops = true)
    (hD : ∀ j, j < ops.size → Good c ev lo ops (predsAll ops.toList []) W n0 D j (run (dstE ops D) (List.range j) T0) (run (effE D) (List.range j) S0))
    (hS0 : S0.length = n0 + ops.size) (hfree : ∀ j, j < ops.size → S0[n0 + j]? = some .free)
    {i : Nat} {L : Nat → Bool} {a : Act} {C : Ctx} (hL : Ahead ops.size (prB (predsAll ops.toList [])) L i)
    (hCS : C.S = run (effE D) (idx ops.size L) S0) (hS : St C) (hE : Ext C0 C) (hT : RT C (run (dstE ops D) (idx ops.size L) T0) a.tmps) {K : Act → World → Prop}
    (hK : ∀ u C', C'.S = run (effE D) (idx ops.size (put1 L i)) S0 → St C' → Ext C0 C' → RT C' (run (dstE ops D) (idx ops.size (put1 L i)) T0) (a.put (ops[i]?.bind (·.dst)) u).tmps → K (a.put (ops[i]?.bind (·.dst)) u) C'.w) :
    wpOp c.P ops Q i K a C.w := by
  have hi := hL.lt
  obtain ⟨o, ho, hg⟩ := hD i hi
  have hoi : ops[i] = o := by rw [Array.getElem?_eq_getElem hi] at ho; exact Option.some.inj ho
  have hfits : ∀ j, j < ops.size → fits ops (predsAll ops.toList []) W n0 j (D j).2 = true := by
    intro j hj
    obtain ⟨_, _, h⟩ := hD j hj
    rcases h with ⟨_, _, h⟩ | ⟨_, h⟩
    · exact h
    · rw [h]; rfl
  have hfit : ∀ j q, j < ops.size → touch (effE D) q j = true → q ∈ W.getD j [] ∧ q ∉ unordU ops (predsAll ops.toList []) W j ∧ (q < n0 ∨ q = n0 + j ∨ ∃ k, prB (predsAll ops.toList []) j k = true ∧ q = n0 + k) := by
    intro j q hj ht
    obtain ⟨p, hp, hpq⟩ := List.any_eq_true.1 ht
    have hpq' : p.1 = q := by simpa using hpq
    have := List.all_eq_true.1 (hfits j hj) p hp
    simp only [Bool.and_eq_true, Bool.or_eq_true, decide_eq_true_eq, beq_iff_eq, List.any_eq_true, hpq', Bool.not_eq_true'] at this
    refine ⟨by simpa using this.1.1, by simpa using this.1.2, ?_⟩
    rcases this.2 with (h1 | h1) | ⟨k, h1, h2⟩
    · exact .inl h1
    · exact .inr (.inl h1)
    · exact .inr (.inr ⟨k, by unfold prB; simpa using h1, h2⟩)
  have unord : ∀ j, j < ops.size → j ≠ i → (prB (predsAll ops.toList []) i j = true ∨ prB (predsAll ops.toList []) j i = true) ∨ ∀ q, touch (effE D) q j = true → q ∈ unordU ops (predsAll ops.toList []) W i := by
    intro j hj hji
    cases h1 : prB (predsAll ops.toList []) i j with
    | true => exact .inl (.inl rfl)
    | false =>
      cases h2 : prB (predsAll ops.toList []) j i with
      | true => exact .inl (.inr rfl)
      | false =>
        refine .inr fun q hq => ?_
        refine List.mem_flatMap.2 ⟨j, List.mem_filter.2 ⟨List.mem_range.2 hj, ?_⟩, (hfit j q hj hq).1⟩
        unfold prB at h1 h2
        have hb : (j != i) = true := by simpa using hji
        rw [hb, h1, h2]; rfl
  have aloneS : ∀ q, q ∉ unordU ops (predsAll ops.toList []) W i → Alone ops.size (prB (predsAll ops.toList [])) (effE D) i q := by
    intro q hq j hj hji ht
    rcases unord j hj hji with h | h
    · exact h
    · exact absurd (h q ht) hq
  have dstT : ∀ {j d}, touch (dstE ops D) d j = true → ∃ hj : j < ops.size, ops[j].dst = some d := by
    intro j d ht
    unfold touch dstE at ht
    split at ht
    · rename_i d' hd'
      simp only [List.any_cons, List.any_nil, Bool.or_false, beq_iff_eq] at ht
      subst ht
      rcases Nat.lt_or_ge j ops.size with hj | hj
      · exact ⟨hj, by rw [Array.getElem?_eq_getElem hj] at hd'; exact hd'⟩
      · rw [Array.getElem?_eq_none hj] at hd'; cases hd'
    · cases ht
  have aloneT : ∀ d, d ∈ opReads ops o ∨ o.dst = some d → Alone ops.size (prB (predsAll ops.toList [])) (dstE ops D) i d := by
    intro d hd j hj hji ht
    obtain ⟨_, hjd⟩ := dstT ht
    exact (apart_spec hap hj hi hji hjd (by rw [hoi]; exact hd)).symm
  have putTeq := hL.put (E := dstE ops D) (fun q hq => aloneT q (by obtain ⟨_, h⟩ := dstT hq; rw [hoi] at h; exact .inr h)) T0
  have putSeq := hL.put (E := effE D) (fun q hq => aloneS q (hfit i q hi hq).2.1) S0
  have hreads : ∀ t ∈ opReads ops o, (run (dstE ops D) (List.range i) T0)[t]? = (run (dstE ops D) (idx ops.size L) T0)[t]? := fun t ht => (hL.get (aloneT t (.inl ht)) T0).symm
  obtain ⟨hops, hwant⟩ := reads_spec hreads
  have hbind : (ops[i]?).bind (·.dst) = o.dst := by rw [ho]; rfl
  rw [hbind] at hK
  unfold wpOp
  simp only [ho]
  rcases hg with ⟨hw, hd, hf⟩ | ⟨hw, hd⟩
  · rw [hwant] at hw
    rw [wanted_ok hT hw, if_pos rfl]
    refine .inl ?_
    rw [drawOp_congr hops] at hd
    have hlen : C.S.length = n0 + ops.size := by rw [hCS, run_length, hS0]
    refine drawOp_ok hc he hS hT ?_ (fun q x hq => ?_) hd (fun u C' h1 h2 h3 h4 => ?_)
    · rw [hCS, ← hfree i hi]
      refine (run_congr (effE D) (l := idx ops.size L) (l' := []) S0 ?_)
      rw [List.filter_nil, List.filter_eq_nil_iff]
      intro j hj ht
      obtain ⟨hj1, hj2⟩ := List.mem_filter.1 hj
      have hjn := List.mem_range.1 hj1
      rcases (hfit j _ hjn ht).2.2 with h | h | ⟨k, hk, h⟩
      · omega
      · have : j = i := by omega
        subst this
        rw [hL.new] at hj2; cases hj2
      · have : k = i := by omega
        subst this
        have := hL.closed j k hjn hj2 hk
        rw [hL.new] at this; cases this
    · rcases hideAll_get _ _ hq with h | ⟨h1, h2⟩
      · exact .inl h
      · right
        rw [hCS, hL.get (aloneS q h1) S0]
        exact h2
    · refine hK u C' ?_ h2 (hE.trans h3) ?_
      · rw [h1, putSeq, ← hCS]
        exact applyEff_sets _ _ fun p hp => by rw [hlen]; exact fits_lt ha hi hf p hp
      · rw [putTeq, ← putT_sets ho]
        exact (hT.mono h3.grows).put _ h4
  · rw [hwant] at hw
    rw [wanted_ok hT hw, if_neg (by simp)]
    refine hK undef C ?_ hS hE ?_
    · rw [putSeq, ← hCS]
      simp [effE, hd, sets]
    · rw [putTeq, ← putT_sets ho, hd]
      exact hT.put _ (by simp [Rv])
theorem draw_walk (hc : CfgOk c) (he : EvOk c ev) (hap : apartT ops (predsAll ops.toList []) = true) (ha : aheadOk ops = true)
    (hD : ∀ j, j < ops.size → Good c ev lo ops (predsAll ops.toList []) W n0 D j (run (dstE ops D) (List.range j) T0) (run (effE D) (List.range j) S0))
    (hS0 : S0.length = n0 + ops.size) (hfree : ∀ j, j < ops.size → S0[n0 + j]? = some .free)
    (hQ : ∀ a C, C.S = run (effE D) (List.range ops.size) S0 → St C → Ext C0 C → RT C (run (dstE ops D) (List.range ops.size) T0) a.tmps → a.defers = d0 → Q .normal a C.w) :
    ∀ (fuel : Nat) (listed : Array Bool) (a : Act) (C : Ctx), listed.size = ops.size → ops.size ≤ (idx ops.size fun j => listed.getD j false).length + fuel →
      (∀ j k, j < ops.size → listed.getD j false = true → prB (predsAll ops.toList []) j k = true → listed.getD k false = true) →
      C.S = run (effE D) (idx ops.size fun j => listed.getD j false) S0 → St C → Ext C0 C → RT C (run (dstE ops D) (idx ops.size fun j => listed.getD j false) T0) a.tmps → a.defers = d0 →
      wpAny c.P .any ops Q fuel listed a C.w := by
  have fin : ∀ (listed : Array Bool) (a : Act) (C : Ctx), (∀ i, i < ops.size → listed.getD i false = true) → C.S = run (effE D) (idx ops.size fun j => listed.getD j false) S0 → St C → Ext C0 C →
      RT C (run (dstE ops D) (idx ops.size fun j => listed.getD j false) T0) a.tmps → a.defers = d0 → Q .normal a C.w := by
    intro listed a C hall h1 h2 h3 h4 h5
    rw [idx_all hall] at h1 h4
    exact hQ a C h1 h2 h3 h4 h5
  have noready : ∀ (listed : Array Bool), listed.size = ops.size → (∀ i, i < ops.size → listed.getD i false = true) → Region.ready .any ops listed = [] := by
    intro listed hl hall
    cases hr : Region.ready .any ops listed with
    | nil => rfl
    | cons i rest =>
      have hm : i ∈ Region.ready .any ops listed := by rw [hr]; simp
      obtain ⟨h1, o, ho, _⟩ := mem_ready.1 hm
      have hlt : i < ops.size := (Array.getElem?_eq_some_iff.1 ho).1
      have := hall i hlt
      simp [Array.getElem?_eq_getElem (show i < listed.size by omega)] at h1 this
      rw [h1] at this; cases this
  have allready : ∀ (listed : Array Bool), listed.size = ops.size → Region.ready .any ops listed = [] → ∀ i, i < ops.size → listed.getD i false = true := by
    intro listed hl hr i
    induction i using Nat.strongRecOn with
    | ind i ih =>
      intro hi
      cases h : listed.getD i false with
      | true => rfl
      | false =>
        have hm : i ∈ Region.ready .any ops listed := by
          refine mem_ready.2 ⟨?_, ops[i], Array.getElem?_eq_getElem hi, fun e hee hb => ?_⟩
          · simp [Array.getElem?_eq_getElem (show i < listed.size by omega)] at h ⊢
            exact h
          · have := ahead_spec ha hi hee hb
            exact ih e.on this (by omega)
        rw [hr] at hm; cases hm
  intro fuel
  induction fuel with
  | zero =>
    intro listed a C hl hcount hcl hCS hS hE hT hd
    have hall := idx_full (L := fun j => listed.getD j false) (n := ops.size) (by omega)
    exact ⟨noready listed hl hall, fin listed a C hall hCS hS hE hT hd⟩
  | succ fuel ih =>
    intro listed a C hl hcount hcl hCS hS hE hT hd
    refine ⟨fun hr => fin listed a C (allready listed hl hr) hCS hS hE hT hd, fun i hi => ?_⟩
    obtain ⟨h1, o, ho, h2⟩ := mem_ready.1 hi
    have hlt : i < ops.size := (Array.getElem?_eq_some_iff.1 ho).1
    have hnew : listed.getD i false = false := by
      simp [Array.getElem?_eq_getElem (show i < listed.size by omega)] at h1 ⊢
      exact h1
    have hoi : ops[i] = o := by rw [Array.getElem?_eq_getElem hlt] at ho; exact Option.some.inj ho
    have hready : ∀ k, prB (predsAll ops.toList []) i k = true → listed.getD k false = true := by
      intro k hk
      obtain ⟨e, hee, hb, hk'⟩ := prB_spec hlt hk
      rw [hoi] at hee
      have := h2 e hee hb
      rcases hk' with rfl | ⟨h3, h4⟩
      · exact this
      · exact hcl e.on k (by omega) this h4
    have hA : Ahead ops.size (prB (predsAll ops.toList [])) (fun j => listed.getD j false) i := ⟨hlt, fun j k hj => prB_less ha j k hj, hcl, hnew, hready⟩
    refine draw_step hc he hap ha hD hS0 hfree hA hCS hS hE hT (fun u C' k1 k2 k3 k4 => ?_)
    have hput := listed_put (listed := listed) (i := i) (by omega)
    refine ih (listed.setIfInBounds i true) _ C' (by simp [hl]) ?_ ?_ (by rw [hput]; exact k1) k2 k3 (by rw [hput]; exact k4) ?_
    · rw [hput, idx_put hnew, if_pos hlt]; omega
    · intro j k hj hj2 hjk
      have e1 := congrFun hput j
      have e2 := congrFun hput k
      simp only [put1] at e1 e2
      rw [e1] at hj2
      rw [e2]
      simp only [Bool.or_eq_true, beq_iff_eq] at hj2 ⊢
      rcases hj2 with hj2 | rfl
      · exact .inl (hcl j k hj hj2 hjk)
      · exact .inl (hready k hjk)
    · rw [← hd]
      cases (ops[i]?).bind (·.dst) <;> rfl
end

theorem runDraw_ok {c : Cfg} {ev : Ev} (hc : CfgOk c) (he : EvOk c ev) {lo id : Nat} {ops : Array Oper} {T T' : List AVal} {S' : List AObj} {a : Act} {C : Ctx} {Q : Exit → Act → World → Prop} (hS : St C) (hT : RT C T a.tmps)
    (h : runDraw c ev lo ops T C.S = some (T', S')) (hQ : ∀ a' C', C'.S = S' → St C' → Ext C C' → RT C' T' a'.tmps → a'.defers = a.defers → Q .normal a' C'.w) :
    (Code.region id ops true).wp c.P Q a C.w := by
  unfold runDraw at h
  dsimp only at h
  split at h
  · rename_i hok
    simp only [Bool.and_eq_true] at hok
    generalize pass1 c.P lo C.S.length 0 ops.toList T (C.S ++ List.replicate ops.size .free) = q at h
    obtain ⟨S1, W⟩ := q
    dsimp only at h
    · obtain ⟨C1, hm, hm2⟩ := freezeAs_ok lo S1 C hS
      obtain ⟨hs2, he2⟩ := pad_ok hm.st ops.size (C.w.drawn + 1)
      have hlen : C1.S.length = C.S.length := hm.len
      have e0 := Ext.trans hm.ext he2
      refine wp_region_any hc.mixed ?_
      rw [← hm2] at h
      obtain ⟨D, h1, h2, h3⟩ := pass2_trace hok.2 ops.toList 0 T (C1.S ++ List.replicate ops.size .free) T' S' rfl (by simp [hlen]) h
      rw [Nat.sub_zero, ← List.range_eq_range'] at h2 h3
      have hD : ∀ j, j < ops.size → Good c ev lo ops (predsAll ops.toList []) W C.S.length D j (run (dstE ops D) (List.range j) T) (run (effE D) (List.range j) (C1.S ++ List.replicate ops.size .free)) := by
        intro j hj
        have := h1 j (Nat.zero_le _) hj
        rwa [Nat.sub_zero, ← List.range_eq_range'] at this
      have hempty : (fun j => (Array.replicate ops.size false).getD j false) = fun _ => false := by
        funext j
        simp only [Array.getD_eq_getD_getElem?, Array.getElem?_replicate]
        split <;> rfl
      have hidx : (idx ops.size fun j => (Array.replicate ops.size false).getD j false) = [] := by
        rw [hempty]; simp [idx]
      have hw : ({ C.w with drawn := C.w.drawn + 1 } : World) = { C1.w with drawn := C.w.drawn + 1 } := by rw [hm.w]
      rw [hw]
      refine draw_walk (C0 := C) (d0 := a.defers) hc he hok.1 hok.2 hD (by simp [hlen]) (fun j hj => ?_) (fun a' C' k1 k2 k3 k4 k5 => hQ a' C' (k1.trans h3.symm) k2 k3 (by rw [h2]; exact k4) k5)
        ops.size (Array.replicate ops.size false) a ⟨C1.ρ, C1.S ++ List.replicate ops.size .free, C1.ok, { C1.w with drawn := C.w.drawn + 1 }⟩ (by simp) (by omega) (fun j k hj hl => ?_) (by rw [hidx]; rfl) hs2 e0 (by rw [hidx]; exact hT.mono e0.grows) rfl
      · rw [List.getElem?_append_right (by omega), hlen, Nat.add_sub_cancel_left]
        simp [hj]
      · have := congrFun hempty j
        rw [this] at hl; cases hl
  · cases h

/-! ## objects below lo stay -/
theorem freezeAs_stays (lo : Nat) (S1 S : List AObj) : (freezeAs lo S S1).length = S.length ∧ ∀ q, q < lo → (freezeAs lo S S1)[q]? = S[q]? := by
  unfold freezeAs
  generalize List.range S.length = l
  induction l generalizing S with
  | nil => exact ⟨rfl, fun _ _ => rfl⟩
  | cons o l ih =>
    simp only [List.foldl_cons]
    obtain ⟨h1, h2⟩ := ih (freezeAt lo S1 S o)
    have : (freezeAt lo S1 S o).length = S.length ∧ ∀ q, q < lo → (freezeAt lo S1 S o)[q]? = S[q]? := by
      unfold freezeAt
      split
      · split
        · refine ⟨by simp, fun q hq => ?_⟩
          rw [List.getElem?_set, if_neg (by omega)]
        · exact ⟨rfl, fun _ _ => rfl⟩
      · exact ⟨rfl, fun _ _ => rfl⟩
    exact ⟨h1.trans this.1, fun q hq => (h2 q hq).trans (this.2 q hq)⟩
theorem drawOp_eff {c : Cfg} {ev : Ev} {lo slot : Nat} {T : List AVal} {S : List AObj} {o : Oper} {x : AVal} {e : Eff} (h : drawOp c ev lo T S slot o = some (x, e)) : (e.all fun p => decide (lo ≤ p.1)) = true := by
  unfold drawOp at h
  split at h
  · split at h
    · simp only [Option.map_eq_some_iff, Prod.mk.injEq] at h
      obtain ⟨_, _, _, rfl⟩ := h
      rfl
    · cases h
  · split at h
    · split at h
      · rename_i hlo
        simp only [Option.some.injEq, Prod.mk.injEq] at h
        obtain ⟨rfl, rfl⟩ := h
        exact hlo
      · cases h
    · cases h
theorem pass2_stays {c : Cfg} {ev : Ev} {lo : Nat} {ops : Array Oper} {pr W : List (List Nat)} {n0 : Nat} : ∀ (rest : List Oper) (i : Nat) (T : List AVal) (S : List AObj) (T' : List AVal) (S' : List AObj), pass2 c ev lo ops pr W n0 i rest T S = some (T', S') → Stays lo S S'
  | [], i, T, S, T', S', h => by
    simp only [pass2, Option.some.injEq, Prod.mk.injEq] at h
    obtain ⟨rfl, rfl⟩ := h
    exact Stays.refl _ _
  | o :: rest, i, T, S, T', S', h => by
    simp only [pass2] at h
    split at h
    · split at h
      · rename_i x e hx
        split at h
        · exact (Stays.eff e S (drawOp_eff hx)).trans (pass2_stays rest _ _ _ _ _ h)
        · cases h
      · cases h
    · exact pass2_stays rest _ _ _ _ _ h
    · cases h
theorem runDraw_stays {c : Cfg} {ev : Ev} {lo : Nat} {ops : Array Oper} {T T' : List AVal} {S S' : List AObj} (h : runDraw c ev lo ops T S = some (T', S')) : Stays lo S S' := by
  unfold runDraw at h
  dsimp only at h
  split at h
  · generalize pass1 c.P lo S.length 0 ops.toList T (S ++ List.replicate ops.size .free) = q at h
    obtain ⟨S1, W⟩ := q
    dsimp only at h
    · have h1 := pass2_stays _ _ _ _ _ _ h
      obtain ⟨k1, k2⟩ := freezeAs_stays lo S1 S
      refine Stays.trans (B := freezeAs lo S S1 ++ List.replicate ops.size .free) ⟨by simp [k1], fun q hq hl => ?_⟩ h1
      rw [List.getElem?_append_left (by omega)]
      exact k2 q hq
  · cases h
end Go.Proofs.Ytmopbegmdegooaa.Vm
