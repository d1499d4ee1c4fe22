/- Texts put together: VmSort, Known. What is proved stands at the head of each part. -/
import Derived.Test.YtkkgimhbliocoaaGreatBnLawFindEmpty7
import Derived.Sort.Row
import Derived.Sort.Grow
/- Sorting in place: a row of numbers comes to be sorted. -/
namespace Go.Proofs.YtkkgimhbliocoaaGreat.Vm
open Go Go.RowKit Go.Sort
set_option linter.unusedVariables false
set_option linter.unusedSimpArgs false
/-- A later world in which all that was is as it was. -/
theorem later_ok {C : Ctx} (hS : St C) {w' : World} (h1 : w'.os = C.w.os ∧ w'.tape = C.w.tape ∧ w'.output = C.w.output) (hsz : C.w.heap.size ≤ w'.heap.size) (hb : ∀ b, b < C.w.heap.size → w'.heap[b]? = C.w.heap[b]?) :
    St ⟨C.ρ, C.S, C.ok, w'⟩ ∧ Ext C ⟨C.ρ, C.S, C.ok, w'⟩ := by
  have g : Grows C ⟨C.ρ, C.S, C.ok, w'⟩ := by
    refine ⟨⟨fun a y ⟨h1, h2⟩ => ⟨h1, ?_⟩, fun b es ⟨h1, c, h2⟩ => ⟨h1, c, (hb b (hS.okIn _ _ h1)).trans h2⟩⟩, fun q y e hy he => ⟨y, e, hy, he, .inl ⟨rfl, rfl⟩⟩⟩
    show w'.cell? a = some y
    rw [← h2]; exact World.cell?_of_block (hb _ (hS.okIn _ _ h1))
  refine ⟨⟨fun q y hy => (hS.obj q y hy).keep g (fun _ _ h => h) rfl fun e he => hb _ ((hS.obj q y hy).lt he), hS.inj, fun b j h => ?_, hS.okRow⟩,
    ⟨g, h1.1, h1.2.1, h1.2.2, hsz, fun _ _ h => h, fun b h _ => hb b h, fun _ _ h => .inl h, fun q y e hy he => .inr ⟨q, y, e, hy, he, rfl⟩⟩⟩
  have := hS.okIn b j h
  show b < w'.heap.size
  omega
def intA (zs : List Int) : List AVal := zs.map fun z => .v (.int .i64 z)
theorem intA_length (zs : List Int) : (intA zs).length = zs.length := by simp [intA]
theorem intA_one (zs : List Int) : (intA zs).all AVal.one = true := by
  unfold intA
  rw [List.all_eq_true]
  intro x hx
  simp only [List.mem_map] at hx
  obtain ⟨z, _, rfl⟩ := hx
  rfl
theorem putRow_setRow {w : World} {blk off : Nat} {zs : List Int} {old : Array Value} {t : TypeId} {fr : Nat × Nat} (h : w.heap[blk]? = some (.cells old t fr)) : putRow (Value.int .i64) w blk off zs.toArray = w.setRow blk (putCells (Value.int .i64) off zs.toArray old) := by
  unfold putRow mapBlock World.setRow
  congr 1
  apply Array.ext_getElem?
  intro k
  simp only [Array.getElem?_modify]
  by_cases hk : blk = k
  · subst hk
    simp only [if_true, h, Option.map_some, onCells]
  · simp [hk]
theorem getElem!_toArray {zs : List Int} {j : Nat} {z : Int} (h : zs[j]? = some z) : zs.toArray[j]! = z := by
  have hl := (List.getElem?_eq_some_iff.1 h).1
  rw [getElem!_pos _ j (by simpa using hl)]
  simpa using (List.getElem?_eq_some_iff.1 h).2
/-- What sorts a row of numbers in place, from its contract. -/
theorem sort_ok {P : Program} {f : FuncId} {srt : List Int → List Int} (hlen : ∀ zs, (srt zs).length = zs.length)
    (hK : ∀ (blk off cap : Nat) (zs : List Int) (w : World), Holds (Value.int .i64) w blk off zs.toArray → blk < w.heap.size → zs.length < 4611686018427387904 →
      Calls P f #[.slice (some ⟨blk, off, none⟩) zs.length cap] w fun e w' => e = .returned (.tuple #[]) ∧ ∃ n os, w' = grow (putRow (Value.int .i64) (Sort.ahead w n) blk off (srt zs).toArray) os)
    {o e : Nat} {zs : List Int} (hn : 0 < zs.length) (hb : zs.length < 4611686018427387904) {S : List AObj} (hx : S[o]? = some (.row 1 e none (intA zs))) :
    CallsA P f [.row o e 1 0 zs.length] S (.tup []) (S.set o (.row 1 e none (intA (srt zs)))) := by
  intro C vs hCS hS hs hr
  subst hCS
  simp only [Rvs] at hr
  obtain ⟨⟨v, hv, hrv⟩, _⟩ := hr
  simp only [Rv] at hrv
  obtain ⟨a, c, rfl, hc, ob, e0, g1, g2, g3, g4⟩ := hrv
  rw [hx] at g1; cases g1
  simp only [AObj.ep?, Option.some.injEq] at g2
  subst g2
  have g5 := g4 rfl
  obtain ⟨ha, hcap⟩ : a = ⟨(C.ρ o).b, (C.ρ o).off + 0 * 1, none⟩ ∧ 0 + c ≤ (C.ρ o).cap := by
    rcases g5 with h | ⟨h0, _⟩
    · exact h
    · omega
  subst ha
  obtain ⟨cs, t, k1, k2, k3, k4, k5, k6, k7⟩ := hS.obj o _ hx
  rw [intA_length] at k3
  simp only [Nat.mul_one] at k2 k3
  have hvs : vs = #[.slice (some ⟨(C.ρ o).b, (C.ρ o).off, none⟩) zs.length c] := by
    apply Array.ext
    · simpa using hs
    · intro i h1 h2
      have : i = 0 := by simp at h2; omega
      subst this
      rw [Array.getElem?_eq_getElem h1] at hv
      simpa using hv
  have hcell : ∀ j z, zs[j]? = some z → cs[(C.ρ o).off + j]? = some (.int .i64 z) := fun j z hz => by
    obtain ⟨y, hy, hry⟩ := Rvs_get k5 j (.v (.int .i64 z)) (by simp [intA, hz])
    simp only [Nat.zero_add, Rv] at hy hry
    rw [hry] at hy; exact hy
  have hH : Holds (Value.int .i64) C.w (C.ρ o).b (C.ρ o).off zs.toArray := fun j hj => by
    have hj' : j < zs.length := by simpa using hj
    have hz := List.getElem?_eq_getElem hj'
    rw [getElem!_toArray hz]
    constructor
    · simp only [World.cell?, k1]
      exact hcell j _ hz
    · simp [World.frozen?, k1]
  have hlt := (hS.obj o _ hx).lt (e := e) rfl
  rw [hvs]
  refine (hK _ _ c zs C.w hH hlt hb).mono ?_
  rintro en w' ⟨rfl, n, os, rfl⟩
  have hput := putRow_setRow (off := (C.ρ o).off) (zs := srt zs) k1
  have hcs' : ∀ j z, (srt zs)[j]? = some z → (putCells (Value.int .i64) (C.ρ o).off (srt zs).toArray cs)[(C.ρ o).off + j]? = some (.int .i64 z) := fun j z hz => by
    have hjl := (List.getElem?_eq_some_iff.1 hz).1
    have hjc : (C.ρ o).off + j < cs.size := by
      rw [hlen] at hjl
      omega
    unfold putCells
    rw [Array.getElem?_mapIdx, Array.getElem?_eq_getElem hjc, Option.map_some]
    rw [if_pos ⟨by omega, by simp only [List.size_toArray]; omega⟩, show (C.ρ o).off + j - (C.ρ o).off = j by omega, getElem!_toArray hz]
  have hsz : (putCells (Value.int .i64) (C.ρ o).off (srt zs).toArray cs).size = cs.size := by unfold putCells; simp
  obtain ⟨ρ', s1, x1, hρ⟩ := turned hS o _ (.row 1 e none (intA (srt zs))) e e hx rfl rfl (putCells (Value.int .i64) (C.ρ o).off (srt zs).toArray cs) (C.ρ o) rfl (.inl ⟨rfl, rfl⟩) ⟨cs, t, k1⟩
    (fun j hj => by
      rcases hS.okRow _ j hj o _ e hx rfl rfl with ⟨_, _, _, _, h, _⟩ | ⟨_, _, h⟩ <;> cases h)
    (fun C' g hw hρ hok => by
      refine ⟨putCells (Value.int .i64) (C.ρ o).off (srt zs).toArray cs, t, ?_, ?_, ?_, Nat.zero_lt_one, Rvs_mk fun j y hy => ?_, intA_one _, fun k hk => by cases hk⟩
      · rw [hw, hρ]
        exact setRow_heap _ _ _ _ _ _ k1
      · rw [hρ, hsz]; simpa using k2
      · rw [hρ, intA_length, hlen]; simpa using k3
      · simp only [intA, List.getElem?_map, Option.map_eq_some_iff] at hy
        obtain ⟨z, hz, rfl⟩ := hy
        refine ⟨.int .i64 z, ?_, by simp [Rv]⟩
        rw [hρ, Nat.zero_add]
        exact hcs' j z hz)
  obtain ⟨W, hW⟩ : ∃ W, W = grow (putRow (Value.int .i64) (Sort.ahead C.w n) (C.ρ o).b (C.ρ o).off (srt zs).toArray) os := ⟨_, rfl⟩
  have hWh : W.heap = (C.w.setRow (C.ρ o).b (putCells (Value.int .i64) (C.ρ o).off (srt zs).toArray cs)).heap ++ os := by
    rw [hW, ← hput]; rfl
  obtain ⟨s2, x2⟩ := later_ok s1 (w' := W) ⟨by rw [hW]; rfl, by rw [hW]; rfl, by rw [hW]; rfl⟩ (by rw [hWh]; simp) (fun b hbl => by
    rw [hWh, Array.getElem?_append_left hbl])
  rw [← hW]
  exact ⟨.tuple #[], _, rfl, rfl, rfl, s2, x1.trans x2, by simp only [Rv]; exact ⟨_, rfl, rfl, by simp [Rvs]⟩⟩
end Go.Proofs.YtkkgimhbliocoaaGreat.Vm
/- Known answers by a table. -/
namespace Go.Proofs.YtkkgimhbliocoaaGreat
open Go Vm
set_option linter.unusedVariables false
mutual
def eqP : PVal → PVal → Bool
  | .v (.int .i64 a), .v (.int .i64 b) => a == b
  | .v (.bool a), .v (.bool b) => a == b
  | .v (.slice none 0 0), .v (.slice none 0 0) => true
  | .agg xs, .agg ys => eqPs xs ys
  | .list n xs, .list m ys => Nat.beq n m && eqPs xs ys
  | .clip, .clip => true
  | _, _ => false
def eqPs : List PVal → List PVal → Bool
  | [], [] => true
  | x :: xs, y :: ys => eqP x y && eqPs xs ys
  | _, _ => false
end
mutual
theorem eqP_ok : ∀ (x y : PVal), eqP x y = true → x = y
  | x, y, h => by
    unfold eqP at h
    split at h
    · rw [show _ = _ from eq_of_beq h]
    · rw [show _ = _ from eq_of_beq h]
    · rfl
    · rename_i xs ys
      rw [eqPs_ok xs ys h]
    · rename_i n xs m ys
      simp only [Bool.and_eq_true] at h
      rw [Nat.eq_of_beq_eq_true h.1, eqPs_ok xs ys h.2]
    · rfl
    · cases h
theorem eqPs_ok : ∀ (xs ys : List PVal), eqPs xs ys = true → xs = ys
  | [], [], _ => rfl
  | x :: xs, y :: ys, h => by
    simp only [eqPs, Bool.and_eq_true] at h
    rw [eqP_ok x y h.1, eqPs_ok xs ys h.2]
  | [], _ :: _, h => by simp [eqPs] at h
  | _ :: _, [], h => by simp [eqPs] at h
end
/-- What is known of calls with these arguments. -/
def known : List (List PVal × PVal) → List PVal → Option PVal
  | [], _ => none
  | (ps, r) :: t, qs => bif eqPs qs ps then some r else known t qs
theorem known_ok {P : Program} {f : FuncId} : ∀ (t : List (List PVal × PVal)), (∀ x ∈ t, CallsP P f x.1 x.2) → ∀ ps r, known t ps = some r → CallsP P f ps r
  | [], _, ps, r, h => by cases h
  | (qs, w) :: t, ht, ps, r, h => by
    simp only [known] at h
    cases he : eqPs ps qs with
    | true =>
      rw [he] at h
      simp only [cond_true, Option.some.injEq] at h
      subst h
      rw [eqPs_ok ps qs he]
      exact ht (qs, w) (by simp)
    | false =>
      rw [he] at h
      exact known_ok t (fun x hx => ht x (by simp [hx])) ps r h
end Go.Proofs.YtkkgimhbliocoaaGreat
