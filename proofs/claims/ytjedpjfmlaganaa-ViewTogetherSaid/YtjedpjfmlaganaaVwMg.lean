/-
  What is gone, together: view.MergeGone, walked; and two rows of what is gone, the same (written by genVwMg.py).
-/
import Derived.Test.YtjedpjfmlaganaaVwGc
import Derived.Test.YtjedpjfmlaganaaVwConG
namespace Go.Proofs.Ytjedpjfmlaganaa.vw
open Go.RowKit Go.Sort Go.Shelf Go.Lib
set_option linter.unusedVariables false

theorem ltG_asymm {a b : Gn} (h : ltG a b = true) : ltG b a = false := by
  cases h2 : ltG b a with
  | false => rfl
  | true => rw [← ltG_irrefl a, ltG_trans h h2]
theorem riseG_one {l m : List Gn} (hl : l.Pairwise fun a b => ltG a b = true) (hm : m.Pairwise fun a b => ltG a b = true) (h : ∀ x, x ∈ l ↔ x ∈ m) : l = m := by
  induction l generalizing m with
  | nil =>
    cases m with
    | nil => rfl
    | cons b m => exact absurd ((h b).2 (by simp)) (by simp)
  | cons a l ih =>
    cases m with
    | nil => exact absurd ((h a).1 (by simp)) (by simp)
    | cons b m =>
      rw [List.pairwise_cons] at hl hm
      have hab : a = b := by
        rcases List.mem_cons.1 ((h a).1 (by simp)) with e | hma
        · exact e
        · rcases List.mem_cons.1 ((h b).2 (by simp)) with e | hlb
          · exact e.symm
          · have h1 := hm.1 a hma
            have h2 := ltG_asymm (hl.1 b hlb)
            rw [h1] at h2
            cases h2
      subst hab
      rw [ih hl.2 hm.2 fun x => ?_]
      constructor
      · intro hx
        rcases List.mem_cons.1 ((h x).1 (by simp [hx])) with rfl | hx'
        · have := hl.1 x hx; rw [ltG_irrefl] at this; cases this
        · exact hx'
      · intro hx
        rcases List.mem_cons.1 ((h x).2 (by simp [hx])) with rfl | hx'
        · have := hm.1 x hx; rw [ltG_irrefl] at this; cases this
        · exact hx'

theorem mem_strikeGB : ∀ {l : List Gn} {k z : Gn}, z ∈ k :: strikeGB k l ↔ z ∈ k :: l
  | [], k, z => by simp [strikeGB]
  | y :: l, k, z => by
    unfold strikeGB
    cases h : eqG y k with
    | true =>
      obtain rfl := eqG_iff.1 h
      rw [if_pos rfl, mem_strikeGB (l := l)]
      simp
    | false =>
      rw [if_neg (by simp), List.mem_cons, mem_strikeGB (l := l), List.mem_cons (a := z) (b := k)]
theorem rise_strikeGB : ∀ {l : List Gn} {k : Gn}, ((k :: l).Pairwise fun a b => ltG b a = false) → (k :: strikeGB k l).Pairwise fun a b => ltG a b = true
  | [], k, _ => by simp [strikeGB]
  | y :: l, k, h => by
    rw [List.pairwise_cons, List.pairwise_cons] at h
    unfold strikeGB
    cases he : eqG y k with
    | true =>
      obtain rfl := eqG_iff.1 he
      rw [if_pos rfl]
      exact rise_strikeGB (List.pairwise_cons.2 h.2)
    | false =>
      rw [if_neg (by simp)]
      have ih := rise_strikeGB (List.pairwise_cons.2 h.2)
      have hky : ltG k y = true := by
        rcases ltG_tri k y with h1 | h1 | h1
        · exact h1
        · rw [eqG_iff.2 h1.symm] at he; cases he
        · rw [h.1 y (by simp)] at h1; cases h1
      refine List.pairwise_cons.2 ⟨fun z hz => ?_, ih⟩
      rcases List.mem_cons.1 hz with rfl | hz
      · exact hky
      · exact ltG_trans hky ((List.pairwise_cons.1 ih).1 z hz)
theorem mem_strikeG {l : List Gn} {z : Gn} : z ∈ strikeG l ↔ z ∈ l := by
  cases l with
  | nil => exact Iff.rfl
  | cons k l => exact mem_strikeGB
theorem rise_strikeG {l : List Gn} (h : l.Pairwise fun a b => ltG b a = false) : (strikeG l).Pairwise fun a b => ltG a b = true := by
  cases l with
  | nil => exact List.Pairwise.nil
  | cons k l => exact rise_strikeGB h
/-- Put at its place, if it is not there. -/
def putG : List Gn → Gn → List Gn
  | [], x => [x]
  | y :: l, x => if ltG y x then y :: putG l x else if eqG y x then y :: l else x :: y :: l
theorem putG_same {x y : Gn} : ∀ {l : List Gn} {k : Nat}, l[k]? = some y → (∀ j z, j < k → l[j]? = some z → ltG z x = true) → eqG y x = true → putG l x = l
  | [], k, h, _, _ => by simp at h
  | z :: l, 0, h, _, he => by
    simp only [List.getElem?_cons_zero, Option.some.injEq] at h
    subst h
    have hl : ltG z x = false := by rw [eqG_iff.1 he]; exact ltG_irrefl _
    unfold putG
    rw [hl, he]
    simp
  | z :: l, k + 1, h, hb, he => by
    have h0 := hb 0 z (by omega) rfl
    unfold putG
    rw [h0, if_pos rfl]
    rw [putG_same (k := k) (by simpa using h) (fun j u hj hu => hb (j + 1) u (by omega) (by simpa using hu)) he]
theorem putG_new {x : Gn} : ∀ {l : List Gn} {k : Nat}, k ≤ l.length → (∀ j z, j < k → l[j]? = some z → ltG z x = true) → (∀ y, l[k]? = some y → ltG y x = false ∧ eqG y x = false) → putG l x = l.take k ++ [x] ++ l.drop k
  | [], k, h, _, _ => by simp at h; subst h; rfl
  | z :: l, 0, h, _, he => by
    obtain ⟨h1, h2⟩ := he z rfl
    unfold putG
    rw [h1, h2]
    simp
  | z :: l, k + 1, h, hb, he => by
    have h0 := hb 0 z (by omega) rfl
    unfold putG
    rw [h0, if_pos rfl]
    rw [putG_new (k := k) (by simpa using h) (fun j u hj hu => hb (j + 1) u (by omega) (by simpa using hu)) (fun y hy => he y (by simpa using hy))]
    simp
theorem mem_putG {x z : Gn} : ∀ {l : List Gn}, z ∈ putG l x ↔ z ∈ l ∨ z = x
  | [] => by simp [putG]
  | y :: l => by
    unfold putG
    cases h1 : ltG y x with
    | true =>
      rw [if_pos rfl, List.mem_cons, mem_putG (l := l), List.mem_cons, or_assoc]
    | false =>
      rw [if_neg (by simp)]
      cases h2 : eqG y x with
      | true =>
        obtain rfl := eqG_iff.1 h2
        rw [if_pos rfl]
        constructor
        · exact .inl
        · rintro (h | rfl)
          · exact h
          · simp
      | false =>
        rw [if_neg (by simp), List.mem_cons (a := z) (b := x), or_comm]
theorem rise_putG {x : Gn} : ∀ {l : List Gn}, (l.Pairwise fun a b => ltG a b = true) → (putG l x).Pairwise fun a b => ltG a b = true
  | [], _ => by simp [putG]
  | y :: l, h => by
    rw [List.pairwise_cons] at h
    unfold putG
    cases h1 : ltG y x with
    | true =>
      rw [if_pos rfl, List.pairwise_cons]
      refine ⟨fun z hz => ?_, rise_putG h.2⟩
      rcases mem_putG.1 hz with hz | rfl
      · exact h.1 z hz
      · exact h1
    | false =>
      rw [if_neg (by simp)]
      cases h2 : eqG y x with
      | true => rw [if_pos rfl]; exact List.pairwise_cons.2 h
      | false =>
        rw [if_neg (by simp)]
        have hxy : ltG x y = true := by
          rcases ltG_tri x y with h3 | h3 | h3
          · exact h3
          · rw [eqG_iff.2 h3.symm] at h2; cases h2
          · rw [h3] at h1; cases h1
        refine List.pairwise_cons.2 ⟨fun z hz => ?_, List.pairwise_cons.2 h⟩
        rcases List.mem_cons.1 hz with rfl | hz
        · exact hxy
        · exact ltG_trans hxy (h.1 z hz)
theorem fold_rise : ∀ (l m : List Gn), (m.Pairwise fun a b => ltG a b = true) → (l.foldl putG m).Pairwise fun a b => ltG a b = true
  | [], _, h => h
  | x :: l, m, h => fold_rise l (putG m x) (rise_putG h)
theorem fold_memG {z : Gn} : ∀ (l m : List Gn), z ∈ l.foldl putG m ↔ z ∈ m ∨ z ∈ l
  | [], _ => by simp
  | x :: l, m => by
    rw [List.foldl_cons, fold_memG l, mem_putG, List.mem_cons, or_assoc]
/-- What MergeGone gives is one list. -/
theorem gone_one {l S : List Gn} (h1 : S.Pairwise fun a b => ltG a b = true) (h2 : ∀ z, z ∈ S ↔ z ∈ l) : S = l.foldl putG [] :=
  riseG_one h1 (fold_rise l [] List.Pairwise.nil) fun z => by rw [h2, fold_memG]; simp

set_option maxRecDepth 100000 in
theorem ginsertion_nil (w : World) (c : Value) : Calls Try.prog 48 #[.slice none 0 0, .int .i64 0, .int .i64 0, c] w fun e w' => e = .returned (.tuple #[]) ∧ w' = w := by
  go_enter Try.func48, Try.ntmps48
  go_wp2_with fail
  go_loopw [8] (fun i wr => i = .int .i64 1 ∧ wr = w) (fun _ _ => 0)
  case atStart => exact ⟨by go_num, rfl⟩
  case round =>
    obtain ⟨rfl, rfl⟩ := hrel
    go_wp2_with fail
    go_end0
    exact ⟨rfl, rfl⟩
set_option maxRecDepth 100000 in
theorem gpdq_nil (w : World) (k : Int) (c : Value) : Calls Try.prog 41 #[.slice none 0 0, .int .i64 0, .int .i64 0, .int .i64 k, c] w fun e w' => e = .returned (.tuple #[]) ∧ w' = w := by
  have hin := hide (ginsertion_nil w c)
  go_enter Try.func41, Try.ntmps41
  go_wp2_with fail
  go_loopw [1, 2, 3, 10, 11] (fun a b l p q wr => a = .int .i64 0 ∧ b = .int .i64 0 ∧ l = .int .i64 k ∧ p = .bool true ∧ q = .bool true ∧ wr = w) (fun _ _ _ _ _ _ => 0)
  case atStart => exact ⟨rfl, rfl, rfl, rfl, rfl, rfl⟩
  case round =>
    obtain ⟨rfl, rfl, rfl, rfl, rfl, rfl⟩ := hrel
    go_wp2_with fail
    refine hin.out.mono ?_
    rintro e w' ⟨rfl, rfl⟩
    go_wp2_with fail
    refine bodyPost_ret (results_none rfl _ _ _) rfl ?_
    exact ⟨rfl, rfl⟩
set_option maxRecDepth 100000 in
theorem gsort_nil (w : World) (c : Value) : Calls Try.prog 30 #[.slice none 0 0, c] w fun e w' => e = .returned (.tuple #[]) ∧ w' = w := by
  have hl := Any.bits_Len (SlLaysF0.n15.bits (P := Try.prog) (ρ := gsort_ren) { gsort_lays with }) 0 w (by omega) (by omega)
  change Calls Try.prog 42 _ _ _ at hl
  generalize ((Lib.bitLen (0 : Int).toNat : Nat) : Int) = k at hl
  have HL := hide hl
  have hp := hide (gpdq_nil w k c)
  clear hl
  go_enter Try.func30, Try.ntmps30
  go_wp2_with fail
  refine HL.out.mono ?_
  rintro e w' ⟨rfl, rfl⟩
  go_wp2_with fail
  refine hp.out.mono ?_
  rintro e w' ⟨rfl, rfl⟩
  go_wp2_with fail
  go_end0
  exact ⟨rfl, rfl⟩

theorem gsort_any (w : World) (B : Nat) (v : Value) (o : List Gn) (n : Nat) (hn : o.length = n) (hn9 : n ≤ 1000000000) (hown : w.ownsRow B 52 4 v n (gcs o)) :
    Calls Try.prog 30 #[v, .func (.func 31) #[] #[]] w fun e w' =>
      e = .returned (.tuple #[]) ∧ ∃ o', o'.Perm o ∧ (o'.Pairwise fun a b => ltG b a = false) ∧ w'.ownsRow B 52 4 v n (gcs o') ∧ w.grownBy w' v.ownBlock := by
  rcases hown.2 with ⟨rfl, rfl⟩ | ⟨g, cap, cur, rfl, a1, a2, a3, a4, a5, a6⟩
  · obtain rfl : o = [] := List.length_eq_zero_iff.1 hn
    exact (gsort_nil w _).mono fun e w' ⟨h1, h2⟩ => ⟨h1, [], List.Perm.refl _, List.Pairwise.nil, by rw [h2]; exact hown, by rw [h2]; exact World.grownBy.refl _ _⟩
  · exact gsort_some w B g cap o n hn hn9 hown
theorem gcompactv_any (w : World) (B n : Nat) (v : Value) (l : List Gn) (hl : l.length = n) (hn : n ≤ 1000) (hB : B ≤ w.heap.size) (hown : w.ownsRow B 52 4 v n (gcs l)) :
    Calls Try.prog 34 #[v] w fun e w' => ∃ v', e = .returned v' ∧ w'.ownsRow B 52 4 v' (strikeG l).length (gcs (strikeG l)) ∧ w.grownBy w' v.ownBlock := by
  rcases hown.2 with ⟨rfl, rfl⟩ | ⟨g, cap, cur, rfl, a1, a2, a3, a4, a5, a6⟩
  · obtain rfl : l = [] := List.length_eq_zero_iff.1 hl
    clear hown
    go_enter Try.func34, Try.ntmps34
    go_wp2_with fail
    go_ret
    exact ⟨_, rfl, World.ownsRow_nil _ _ _ _, World.grownBy.refl _ _⟩
  · exact (gcompact_any w B g n cap l hl hn hB hown).mono fun e w' ⟨h1, h2, h3⟩ => ⟨_, h1, h2, h3⟩

/-- A row of what is gone: where it lies, and what it is. -/
structure Pg where
  A : Option Addr
  n : Nat
  c : Nat
  l : List Gn
def Pg.piece (p : Pg) : PieceG := ⟨p.A, p.n, p.c, gcs p.l⟩
def gonesOf (L : List Pg) : List Gn := L.flatMap (·.l)
theorem lens_gones {L : List Pg} (h : ∀ p ∈ L, p.l.length = p.n) : lensG (L.map Pg.piece) = (gonesOf L).length := by
  unfold lensG gonesOf
  induction L with
  | nil => rfl
  | cons p L ih =>
    rw [List.map_cons, List.map_cons, List.sum_cons, ih (fun q hq => h q (by simp [hq])), List.flatMap_cons, List.length_append]
    have := h p (by simp)
    unfold Pg.piece
    simp only
    omega
theorem all_gones (L : List Pg) : allG (L.map Pg.piece) = gcs (gonesOf L) := by
  unfold allG gonesOf
  induction L with
  | nil => rfl
  | cons p L ih =>
    rw [List.map_cons, List.flatMap_cons, ih, List.flatMap_cons, gcs_append]
    rfl
set_option maxRecDepth 100000 in
set_option maxHeartbeats 4000000 in
theorem mgone_any (w : World) (T : Option Addr) (k0 c0 : Nat) (L : List Pg) (hk : L.length = k0) (hk2 : k0 ≤ 1000000) (hT : Row w w.heap.size T (L.map fun p => Value.slice p.A p.n p.c))
    (hL : ∀ p ∈ L, p.l.length = p.n ∧ Row w w.heap.size p.A (gcs p.l)) (hN : (gonesOf L).length ≤ 1000) :
    Calls Try.prog 14 #[.slice T k0 c0] w fun e w' => ∃ (A : Option Addr) (n c : Nat), e = .returned (.slice A n c) ∧ ((gonesOf L).foldl putG []).length = n ∧ n ≤ (gonesOf L).length ∧ w'.ownsRow w.heap.size 52 4 (.slice A n c) n (gcs ((gonesOf L).foldl putG [])) ∧ Le w w' := by
  have hlen := lens_gones (L := L) fun p hp => (hL p hp).1
  have hcon := hide (concatG_any w T k0 c0 (L.map Pg.piece) (by rw [List.length_map]; exact hk) hk2 (by rw [List.map_map]; exact hT) (fun p hp => by
    obtain ⟨q, hq, rfl⟩ := List.mem_map.1 hp
    obtain ⟨h1, h2⟩ := hL q hq
    exact ⟨by show (gcs q.l).length = q.n * 4; rw [gcs_len, h1], gcs_one, h2⟩) (by rw [hlen]; omega))
  rw [hlen, all_gones] at hcon
  generalize gonesOf L = l at hcon hN ⊢
  obtain ⟨N, hN2⟩ : ∃ N, l.length = N := ⟨_, rfl⟩
  rw [hN2] at hcon hN
  have HN := hide hN2
  clear hlen hL hT hk hN2
  go_enter Try.func14, Try.ntmps14
  go_wp2_with fail
  refine hcon.out.mono ?_
  rintro e w1 ⟨v, rfl, hown, hb⟩
  have HB1 := hide (show Le w w1 from hb)
  have hge : ∀ g, v.ownBlock = some g → w.heap.size ≤ g := fun g hg => own_ge hown hg (Nat.le_refl _)
  have HGE := hide hge
  have hst := hide (gsort_any w1 w.heap.size v l N HN.out (by omega) hown)
  clear hb hown hcon hge
  go_wp2_with fail
  refine hst.out.mono ?_
  rintro e w2 ⟨rfl, o', hp, hs, hown, hgr⟩
  have HB2 := hide (show Le w w2 from ((HB1.out : Below w.heap.size w w1)).grown hgr HB1.out.size (fun k hk => HGE.out k hk))
  have hcm := hide (gcompactv_any w2 w.heap.size N v o' (by rw [hp.length_eq]; exact HN.out) (by omega) HB2.out.size hown)
  have hone := gone_one (l := l) (rise_strikeG hs) (fun z => by rw [mem_strikeG, hp.mem_iff])
  rw [hone] at hcm
  have hln := strikeG_len o'
  rw [hone, hp.length_eq, HN.out] at hln
  clear hown hgr hp hs hone
  go_wp2_with fail
  refine hcm.out.mono ?_
  rintro e w3 ⟨v3, rfl, hown, hgr⟩
  obtain ⟨A3, c3, rfl, -, -⟩ := own_form hown
  have HO3 := hide hown
  have HB3 := hide (show Le w w3 from ((HB2.out : Below w.heap.size w w2)).grown hgr HB2.out.size (fun k hk => HGE.out k hk))
  clear hown hgr
  go_wp2_with fail
  go_ret
  exact ⟨A3, _, c3, rfl, rfl, by rw [HN.out]; exact hln, HO3.out, HB3.out⟩
#print axioms mgone_any
set_option maxRecDepth 100000 in
set_option maxHeartbeats 2000000 in
theorem samegone_any (w : World) (A B : Option Addr) (n c d : Nat) (l : List Gn) (hl : l.length = n) (hn : n ≤ 1000000) (hr : Row w w.heap.size A (gcs l)) (hs : Row w w.heap.size B (gcs l)) :
    Calls Try.prog 13 #[.slice A n c, .slice B n d] w fun e w' => e = .returned (.bool true) ∧ Below w.heap.size w w' := by
  have HL := hide hl
  have HR := hide hr
  have HS := hide hs
  have hnn : ((n : Int) != n) = false := by simp
  clear hl hr hs
  go_enter Try.func13, Try.ntmps13
  go_wp2_with fail
  go_loopw [5] (fun i wr => ∃ j : Nat, i = .int .i64 j ∧ j ≤ n ∧ Hid (Le w wr)) (fun i _ => n - (intOf i).toNat)
  case atStart => exact ⟨0, rfl, Nat.zero_le _, hide (Le.refl _)⟩
  case round =>
    obtain ⟨j, rfl, hj, HB⟩ := hrel
    by_cases hjn : j < n
    · obtain ⟨u, hu⟩ : ∃ u, l[j]? = some u := ⟨_, List.getElem?_eq_getElem (by rw [HL.out]; exact hjn)⟩
      obtain ⟨bA, oA, rfl, hbA, r0, r1, r2, r3⟩ := row_gn HR.out hu
      obtain ⟨bB, oB, rfl, hbB, s0, s1, s2, s3⟩ := row_gn HS.out hu
      obtain ⟨V, hV⟩ : ∃ V, wr.drew = V := ⟨_, rfl⟩
      have HLV := hide (show Le w V by rw [← hV]; exact HB.out.drew)
      have HV := hide hV
      have e0 : ∀ W, Le V W → W.cell? ⟨bA, oA + j * 4, none⟩ = _ := fun W h => ((HLV.out.trans h).cell (p := ⟨bA, oA + j * 4, none⟩) hbA).trans r0
      have e1 : ∀ W, Le V W → W.cell? ⟨bA, oA + j * 4 + 1, none⟩ = _ := fun W h => ((HLV.out.trans h).cell (p := ⟨bA, oA + j * 4 + 1, none⟩) hbA).trans r1
      have e2 : ∀ W, Le V W → W.cell? ⟨bA, oA + j * 4 + 2, none⟩ = _ := fun W h => ((HLV.out.trans h).cell (p := ⟨bA, oA + j * 4 + 2, none⟩) hbA).trans r2
      have e3 : ∀ W, Le V W → W.cell? ⟨bA, oA + j * 4 + 3, none⟩ = _ := fun W h => ((HLV.out.trans h).cell (p := ⟨bA, oA + j * 4 + 3, none⟩) hbA).trans r3
      have f0 : ∀ W, Le V W → W.cell? ⟨bB, oB + j * 4, none⟩ = _ := fun W h => ((HLV.out.trans h).cell (p := ⟨bB, oB + j * 4, none⟩) hbB).trans s0
      have f1 : ∀ W, Le V W → W.cell? ⟨bB, oB + j * 4 + 1, none⟩ = _ := fun W h => ((HLV.out.trans h).cell (p := ⟨bB, oB + j * 4 + 1, none⟩) hbB).trans s1
      have f2 : ∀ W, Le V W → W.cell? ⟨bB, oB + j * 4 + 2, none⟩ = _ := fun W h => ((HLV.out.trans h).cell (p := ⟨bB, oB + j * 4 + 2, none⟩) hbB).trans s2
      have f3 : ∀ W, Le V W → W.cell? ⟨bB, oB + j * 4 + 3, none⟩ = _ := fun W h => ((HLV.out.trans h).cell (p := ⟨bB, oB + j * 4 + 3, none⟩) hbB).trans s3
      have hnj : (j : Int) < n := by omega
      have HEQ := hide (show (!(eqG u u)) = false by rw [eqG_iff.2 rfl]; rfl)
      clear r0 r1 r2 r3 s0 s1 s2 s3 hu hV
      go_upto_region 6 with fail
      refine region_pi [(0, true), (1, true), (2, true), (3, true), (4, true), (5, true), (6, true), (7, true), (8, true)] (by kernel_rfl) (by kernel_rfl) ?_
      simp only [opsPi, List.filterMap_cons, List.filterMap_nil, List.getElem?_toArray, List.getElem?_cons_zero, List.getElem?_cons_succ, Option.map_some]
      rw [HV.out]
      repeat (first | (refine pi_take (v := _) rfl (fun W hW => by go_simp <;> exact rfl) ?_; simp only [Act.put, List.setIfInBounds_toArray, List.set_cons_zero, List.set_cons_succ]) | (refine pi_skip rfl ?_; simp only [Act.put, List.setIfInBounds_toArray, List.set_cons_zero, List.set_cons_succ]))
      refine pi_done ?_
      clear e0 e1 e2 e3 f0 f1 f2 f3
      go_wp2_with fail
      exact ⟨⟨j + 1, by go_num, by omega, HLV⟩, by simp [intOf]; omega⟩
    · obtain rfl : j = n := by omega
      have hle : ¬ (j : Int) < j := by omega
      go_wp2_with fail
      go_ret
      exact ⟨rfl, HB.out⟩
#print axioms samegone_any
end Go.Proofs.Ytjedpjfmlaganaa.vw
