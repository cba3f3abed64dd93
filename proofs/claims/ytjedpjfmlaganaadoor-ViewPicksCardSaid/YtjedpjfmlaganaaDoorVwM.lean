/-
  Rows with keys, together: view.Merge, walked.
-/
import Derived.Test.YtjedpjfmlaganaaDoorVwZ
import Derived.Test.YtjedpjfmlaganaaDoorVwConK
import Derived.Test.YtjedpjfmlaganaaDoorVwClo
namespace Go.Proofs.YtjedpjfmlaganaaDoor.vw
open Go.RowKit Go.Sort Go.Shelf Go.Lib
set_option linter.unusedVariables false

theorem first_map {β : Type} {key : Kd → Ke} {key' : β → Ke} {f : Kd → β} (hk : ∀ x, key' (f x) = key x) {l : List Kd} {z : β} : First key' (l.map f) z ↔ ∃ x, First key l x ∧ f x = z := by
  constructor
  · rintro ⟨i, hi, h1⟩
    rw [List.getElem?_map] at hi
    obtain ⟨x, hx, rfl⟩ := Option.map_eq_some_iff.1 hi
    refine ⟨x, ⟨i, hx, fun j y hj hy => ?_⟩, rfl⟩
    have := h1 j (f y) hj (by rw [List.getElem?_map, hy]; rfl)
    rwa [hk, hk] at this
  · rintro ⟨x, ⟨i, hi, h1⟩, rfl⟩
    refine ⟨i, by rw [List.getElem?_map, hi]; rfl, fun j y hj hy => ?_⟩
    rw [List.getElem?_map] at hy
    obtain ⟨u, hu, rfl⟩ := Option.map_eq_some_iff.1 hy
    rw [hk, hk]
    exact h1 j u hj hu
theorem firsts_map {β : Type} {key' : β → Ke} {f : Kd → β} (hk : ∀ x, key' (f x) = x.k) {l S : List Kd} (h : Firsts Kd.k l S) : Firsts key' (l.map f) (S.map f) := by
  refine ⟨?_, fun z => ?_⟩
  · unfold Rise
    rw [List.pairwise_map]
    refine List.Pairwise.imp ?_ h.1
    intro a b hab
    rw [hk, hk]; exact hab
  · rw [first_map hk, List.mem_map]
    constructor
    · rintro ⟨x, hx, rfl⟩
      exact ⟨x, (h.2 x).1 hx, rfl⟩
    · rintro ⟨x, hx, rfl⟩
      exact ⟨x, (h.2 x).2 hx, rfl⟩

/-- A row's values, outside a block. -/
def KOff (w : World) (g : Nat) (x : Kd) : Prop := x.vals.length = x.n ∧ x.n * 32 ≤ 140737488355328 ∧ (vcs x.vals ≠ [] → ∃ b o, x.A = some ⟨b, o, none⟩ ∧ b < w.heap.size ∧ b ≠ g ∧ ∀ j u, (vcs x.vals)[j]? = some u → w.cell? ⟨b, o + j, none⟩ = some u)
theorem KOff.has {w : World} {g : Nat} {x : Kd} (h : KOff w g x) : KHas w w.heap.size x := ⟨h.1, h.2.1, fun hn => by
  obtain ⟨b, o, h1, h2, h3, h4⟩ := h.2.2 hn
  exact ⟨b, o, h1, h2, h4⟩⟩
theorem KOff.grown {w w' : World} {g : Nat} {x : Kd} (h : KOff w g x) (hg : w.grownBy w' (some g)) : KOff w' g x := ⟨h.1, h.2.1, fun hn => by
  obtain ⟨b, o, h1, h2, h3, h4⟩ := h.2.2 hn
  exact ⟨b, o, h1, Nat.lt_of_lt_of_le h2 hg.size, h3, fun j u hu => (World.cell?_of_block (hg.block b h2 (fun e => h3 (Option.some.inj e)))).trans (h4 j u hu)⟩⟩
theorem KHas.off {w w' : World} {g : Nat} {x : Kd} (h : KHas w w.heap.size x) (hl : Le w w') (hg : w.heap.size ≤ g) : KOff w' g x := ⟨h.1, h.2.1, fun hn => by
  obtain ⟨b, o, h1, h2, h3⟩ := h.2.2 hn
  exact ⟨b, o, h1, Nat.lt_of_lt_of_le h2 hl.size, by omega, fun j u hu => (hl.cell (p := ⟨b, o + j, none⟩) h2).trans (h3 j u hu)⟩⟩
theorem vcs_len (l : List va.Val) : (vcs l).length = l.length * 3 := by
  induction l with
  | nil => rfl
  | cons a l ih => rw [vcs_cons]; simp only [List.length_cons]; rw [ih]; omega
theorem vcs_one {l : List va.Val} : ∀ u ∈ vcs l, u.oneCell' = true := by
  intro u hu
  obtain ⟨d, -, hd⟩ := List.mem_flatMap.1 hu
  simp only [List.mem_cons, List.not_mem_nil, or_false] at hd
  rcases hd with rfl | rfl | rfl <;> rfl
theorem compactv_any (w : World) (B n : Nat) (v : Value) (l : List Kd) (hl : l.length = n) (hn : n ≤ 1000) (hB : B ≤ w.heap.size) (hown : w.ownsRow B 37 4 v n (kcs l)) :
    Calls Tryd.prog 40 #[v, .func (.func 41) #[] #[]] w fun e w' => ∃ v', e = .returned v' ∧ w'.ownsRow B 37 4 v' (strike Kd.k l).length (kcs (strike Kd.k l)) ∧ w.grownBy w' v.ownBlock := by
  rcases hown.2 with ⟨rfl, rfl⟩ | ⟨g, cap, cur, rfl, a1, a2, a3, a4, a5, a6⟩
  · obtain rfl : l = [] := List.length_eq_zero_iff.1 hl
    clear hown
    go_enter Tryd.func40, Tryd.ntmps40
    go_wp2_with fail
    go_ret
    exact ⟨_, rfl, World.ownsRow_nil _ _ _ _, World.grownBy.refl _ _⟩
  · exact (compact_any w B g n cap l hl hn hB hown).mono fun e w' ⟨h1, h2, h3⟩ => ⟨_, h1, h2, h3⟩

theorem set_same {α : Type} {l : List α} {i : Nat} {x : α} (h : l[i]? = some x) : l.set i x = l := by
  refine List.ext_getElem? fun j => ?_
  rw [List.getElem?_set]
  split
  · rename_i e
    subst e
    rw [h]
    have := (List.getElem?_eq_some_iff.1 h).1
    simp [this]
  · rfl
/-- A row of rows: where it lies, and the rows. -/
structure Pc where
  A : Option Addr
  n : Nat
  c : Nat
  l : List Kd
def Pc.piece (p : Pc) : PieceK := ⟨p.A, p.n, p.c, kcs p.l⟩
def rowsOf (L : List Pc) : List Kd := L.flatMap (·.l)
theorem lens_rows {L : List Pc} (h : ∀ p ∈ L, p.l.length = p.n) : lensK (L.map Pc.piece) = (rowsOf L).length := by
  unfold lensK rowsOf
  induction L with
  | nil => rfl
  | cons p L ih =>
    rw [List.map_cons, List.map_cons, List.sum_cons, ih (fun q hq => h q (by simp [hq])), List.flatMap_cons, List.length_append]
    have := h p (by simp)
    unfold Pc.piece
    simp only
    omega
theorem all_rows (L : List Pc) : allK (L.map Pc.piece) = kcs (rowsOf L) := by
  unfold allK rowsOf
  induction L with
  | nil => rfl
  | cons p L ih =>
    rw [List.map_cons, List.flatMap_cons, ih, List.flatMap_cons, kcs_append]
    rfl

set_option maxRecDepth 100000 in
set_option maxHeartbeats 4000000 in
theorem merge_any (w : World) (T : Option Addr) (k0 c0 : Nat) (L : List Pc) (hk : L.length = k0) (hk2 : k0 ≤ 1000000) (hT : Row w w.heap.size T (L.map fun p => Value.slice p.A p.n p.c))
    (hL : ∀ p ∈ L, p.l.length = p.n ∧ Row w w.heap.size p.A (kcs p.l) ∧ ∀ x ∈ p.l, KHas w w.heap.size x) (hN : (rowsOf L).length ≤ 120) :
    Calls Tryd.prog 23 #[.slice T k0 c0] w fun e w' => ∃ (A : Option Addr) (n c : Nat) (S : List Kd), e = .returned (.slice A n c) ∧ S.length = n ∧ n ≤ 120 ∧ Firsts Prod.fst ((rowsOf L).map cont) (S.map cont) ∧ w'.ownsRow w.heap.size 37 4 (.slice A n c) n (kcs S) ∧ (∀ x ∈ S, KHas w' w'.heap.size x) ∧ Le w w' := by
  have hlen := lens_rows (L := L) fun p hp => (hL p hp).1
  have hcon := hide (concatK_any w T k0 c0 (L.map Pc.piece) (by rw [List.length_map]; exact hk) hk2 (by rw [List.map_map]; exact hT) (fun p hp => by
    obtain ⟨q, hq, rfl⟩ := List.mem_map.1 hp
    obtain ⟨h1, h2, h3⟩ := hL q hq
    exact ⟨by show (kcs q.l).length = q.n * 4; rw [kcs_len, h1], kcs_one, h2⟩) (by rw [hlen]; omega))
  rw [hlen, all_rows] at hcon
  have HK0 := hide (show ∀ x ∈ rowsOf L, KHas w w.heap.size x from fun x hx => by
    obtain ⟨p, hp, hx⟩ := List.mem_flatMap.1 hx
    exact (hL p hp).2.2 x hx)
  generalize rowsOf L = l at hcon HK0 hN ⊢
  obtain ⟨N, hN2⟩ : ∃ N, l.length = N := ⟨_, rfl⟩
  rw [hN2] at hcon hN
  have HN := hide hN2
  clear hlen hL hT hk hN2
  go_enter Tryd.func23, Tryd.ntmps23
  go_wp2_with fail
  refine hcon.out.mono ?_
  rintro e w1 ⟨v, rfl, hown, hb⟩
  have HB1 := hide (show Le w w1 from hb)
  have HO1 := hide hown
  obtain ⟨A1, c1, hv, hnc, hcm⟩ := own_form hown
  subst hv
  clear hb hown hcon
  have hgo : ∃ g, (N = 0 ∨ A1 = some ⟨g, 0, none⟩) ∧ w.heap.size ≤ g ∧ (∀ g', (Value.slice A1 N c1).ownBlock = some g' → g' = g) := by
    rcases HO1.out.2 with ⟨hv, h0⟩ | ⟨g, cap, cur, hv, hg, -⟩
    · simp only [Value.slice.injEq] at hv
      obtain ⟨rfl, rfl, rfl⟩ := hv
      exact ⟨w.heap.size, .inl rfl, Nat.le_refl _, fun g' h => by cases h⟩
    · simp only [Value.slice.injEq] at hv
      obtain ⟨rfl, -, rfl⟩ := hv
      exact ⟨g, .inr rfl, hg, fun g' h => (Option.some.inj h).symm⟩
  obtain ⟨g, hA1, hwg, hblk⟩ := hgo
  have HA1 := hide hA1
  have HBK := hide hblk
  have HKO := hide (show ∀ x ∈ l, KOff w1 g x from fun x hx => (HK0.out x hx).off HB1.out hwg)
  clear hA1 hblk
  go_wp2_with fail
  go_loopw [9] (fun s wr => ∃ (i : Nat) (m : List Kd), s = .int .i64 i ∧ i ≤ N ∧ m.length = N ∧ Hid (m.map cont = l.map cont) ∧ Hid (wr.ownsRow w.heap.size 37 4 (.slice A1 N c1) N (kcs m)) ∧ Hid (∀ x ∈ m, KOff wr g x) ∧ Hid (Le w wr)) (fun s _ => N - (intOf s).toNat)
  case atStart => exact ⟨0, l, rfl, Nat.zero_le _, HN.out, hide rfl, HO1, HKO, HB1⟩
  case round =>
    clear HO1 HKO
    obtain ⟨i, m, rfl, hi, hm, HM, HO, HK, HB⟩ := hrel
    by_cases hiN : i < N
    · obtain ⟨x, hx⟩ : ∃ x, m[i]? = some x := ⟨_, List.getElem?_eq_getElem (by rw [hm]; exact hiN)⟩
      obtain rfl : A1 = some ⟨g, 0, none⟩ := by
        rcases HA1.out with h | h
        · omega
        · exact h
      have hiI : (i : Int) < N := by omega
      obtain ⟨b', o', eA, hgV, x0, x1, x2, x3⟩ := row_kd (Row.of_own HO.out) hx
      simp only [Option.some.injEq, Addr.mk.injEq, and_true] at eA
      obtain ⟨rfl, rfl⟩ := eA
      rw [Nat.zero_add] at x0 x1 x2 x3
      have hkx := HK.out x (List.mem_of_getElem? hx)
      have HKX := hide hkx
      have hcl := hide (cloneR_any wr x.A x.n x.c (vcs x.vals) (by rw [vcs_len, hkx.1]) vcs_one hkx.2.1 hkx.has.2.2)
      have HX := hide hx
      clear x0 x1 x2 hkx hx
      go_wp2_with fail
      refine hcl.out.mono ?_
      rintro e w2 ⟨v, rfl, hown, hb⟩
      obtain ⟨A2, c2, rfl, -, -⟩ := own_form hown
      have HL2 := hide (show Le wr w2 from hb)
      have HO2 := hide (own_below HO.out hb)
      have HC2 := hide hown
      have hg2 := (HO2.out.lt g rfl).2
      have hg3 := (HO2.out.lt g rfl).1
      have y3 : w2.cell? ⟨g, i * 4 + 3, none⟩ = some (.slice x.A x.n x.c) := (HL2.out.cell (p := ⟨g, i * 4 + 3, none⟩) hgV).trans x3
      have f3 : w2.frozen? ⟨g, i * 4 + 3, none⟩ = false := by
        have h := own_there HO2.out (o := i * 4 + 3) (k := 1) (by omega) 0 (by omega)
        exact h.2
      clear hb hown x3 hcl
      go_wp2_with fail
      obtain ⟨Y, hY⟩ : ∃ Y, w2.setCell ⟨g, i * 4 + 3, none⟩ (.slice A2 x.n c2) = Y := ⟨_, rfl⟩
      have HOY := hide (show Y.ownsRow w.heap.size 37 4 (.slice (some ⟨g, 0, none⟩) N c1) N (kcs (m.set i ⟨x.k, A2, x.n, c2, x.vals⟩)) by
        rw [← hY]
        have h := (HO2.out.stored (i * 4 + 3) (.slice A2 x.n c2)).1
        have e : (kcs m).set (i * 4 + 3) (.slice A2 x.n c2) = kcs (m.set i ⟨x.k, A2, x.n, c2, x.vals⟩) := by
          rw [← kcs_set]
          obtain ⟨z0, z1, z2, z3⟩ := kcs_at HX.out
          have s0 : (kcs m).set (i * 4) (.int .i64 x.k.id) = kcs m := set_same z0
          have s1 : (kcs m).set (i * 4 + 1) (.int .i64 x.k.bk) = kcs m := set_same z1
          have s2 : (kcs m).set (i * 4 + 2) (.int .i64 x.k.rw) = kcs m := set_same z2
          rw [s0, s1, s2]
        rwa [e] at h)
      have hgr : w2.grownBy Y (some g) := by rw [← hY]; exact gb_setCell (World.grownBy.refl _ _)
      have HKY := hide (show ∀ z ∈ m.set i ⟨x.k, A2, x.n, c2, x.vals⟩, KOff Y g z from fun z hz => by
        rcases List.mem_or_eq_of_mem_set hz with hz | rfl
        · exact ((HK.out z hz).grown (gb_le HL2.out)).grown hgr
        · refine KOff.grown (w := w2) ⟨HKX.out.1, HKX.out.2.1, fun hn => ?_⟩ hgr
          obtain ⟨b, o, h1, h2, h3⟩ := (Row.of_own HC2.out) hn
          refine ⟨b, o, h1, h2, fun e => ?_, h3⟩
          have h4 := (HC2.out.lt b (by rw [h1]; rfl)).1
          have h5 := hgV
          omega)
      have HBY := hide (show Le w Y by rw [← hY]; exact (HB.out.trans HL2.out).setCell hwg _)
      have HMY := hide (show (m.set i ⟨x.k, A2, x.n, c2, x.vals⟩).map cont = l.map cont by
        rw [List.map_set, ← HM.out]
        have : (m.map cont)[i]? = some (cont x) := by rw [List.getElem?_map, HX.out]; rfl
        exact set_same this)
      rw [hY]
      clear hY hgr y3 f3
      exact ⟨⟨i + 1, m.set i ⟨x.k, A2, x.n, c2, x.vals⟩, by go_num, by omega, by simp [hm], HMY, HOY, HKY, HBY⟩, by simp [intOf]; omega⟩
    · obtain rfl : i = N := by omega
      have hle : ¬ (i : Int) < i := by omega
      obtain ⟨Z, rfl⟩ : ∃ Z, Z = wr := ⟨_, rfl⟩
      have hst := hide (sort_any Z w.heap.size (.slice A1 i c1) m i hm hN HO.out)
      go_wp2_with fail
      refine hst.out.mono ?_
      rintro e w2 ⟨rfl, T, hp, hs, hown, hgr⟩
      have HG2 := hide hgr
      have HO2 := hide hown
      have hlenT : (T.map (·.1)).length = i := by rw [List.length_map, hp.length_eq, List.length_zipIdx, hm]
      have HFS := hide (firsts_strike hp hs)
      have HMEM := hide (show ∀ x ∈ strike Kd.k (T.map (·.1)), x ∈ m from fun x hx => first_mem ((HFS.out.2 x).1 hx))
      have hz2 : w.heap.size ≤ w2.heap.size := Nat.le_trans HB.out.size hgr.size
      have hcm2 := hide (compactv_any w2 w.heap.size i (.slice A1 i c1) (T.map (·.1)) hlenT (by omega) hz2 hown)
      have hsl := strike_len (T.map (·.1))
      rw [hlenT] at hsl
      have HBL2 := hide (show Le w w2 from ((HB.out : Below w.heap.size w Z)).grown hgr HB.out.size (fun k hk => by rw [HBK.out k hk]; exact hwg))
      obtain ⟨S, hS⟩ : ∃ S, strike Kd.k (T.map (·.1)) = S := ⟨_, rfl⟩
      rw [hS] at hcm2 hsl HFS HMEM
      clear hown hgr hp hs hS hlenT hle
      go_wp2_with fail
      refine hcm2.out.mono ?_
      rintro e w3 ⟨v3, rfl, hown, hgr⟩
      have hkk : ∀ x ∈ S, KHas w3 w3.heap.size x := fun x hx => by
        have h0 := HK.out x (HMEM.out x hx)
        rcases hb0 : (Value.slice A1 i c1).ownBlock with _ | g'
        · have hA : A1 = none := by
            cases A1 with
            | none => rfl
            | some a => cases hb0
          have h1 : Le Z w2 := ⟨HG2.out.os, HG2.out.tape, HG2.out.output, HG2.out.size, fun k hk => HG2.out.block k hk (by rw [hb0]; exact fun e => by cases e)⟩
          have h2 : Le w2 w3 := ⟨hgr.os, hgr.tape, hgr.output, hgr.size, fun k hk => hgr.block k hk (by rw [hb0]; exact fun e => by cases e)⟩
          exact (h0.has.on (h1.trans h2) (Nat.le_refl _) (h1.trans h2).size)
        · have e := HBK.out g' hb0
          subst e
          have g1 := HG2.out
          rw [hb0] at g1 hgr
          exact ((h0.grown g1).grown hgr).has
      obtain ⟨A3, c3, rfl, -, -⟩ := own_form hown
      have HO3 := hide hown
      have HKK := hide hkk
      have HBL3 := hide (show Le w w3 from ((HBL2.out : Below w.heap.size w w2)).grown hgr HBL2.out.size (fun k hk => by rw [HBK.out k hk]; exact hwg))
      have HFF := hide (show Firsts Prod.fst (l.map cont) (S.map cont) by rw [← HM.out]; exact firsts_map (key' := Prod.fst) (f := cont) (fun _ => rfl) HFS.out)
      clear hown hgr hkk
      go_wp2_with fail
      go_ret
      exact ⟨A3, _, c3, S, rfl, rfl, by omega, HFF.out, HO3.out, HKK.out, HBL3.out⟩
#print axioms merge_any
end Go.Proofs.YtjedpjfmlaganaaDoor.vw
