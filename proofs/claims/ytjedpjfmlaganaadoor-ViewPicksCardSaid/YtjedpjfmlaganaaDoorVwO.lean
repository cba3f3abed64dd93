/-
  What a list sees: view.Of, walked.
-/
import Derived.Test.YtjedpjfmlaganaaDoorVwD
namespace Go.Proofs.YtjedpjfmlaganaaDoor.vw
set_option maxRecDepth 100000
open Go.RowKit
set_option linter.unusedVariables false

/-- What is gone: its key, and who deleted it. -/
structure Gn where
  k : Ke
  who : Int
def gcs (l : List Gn) : List Value := l.flatMap fun x => [.int .i64 x.k.id, .int .i64 x.k.bk, .int .i64 x.k.rw, .int .i64 x.who]
theorem gcs_cons (x : Gn) (l : List Gn) : gcs (x :: l) = .int .i64 x.k.id :: .int .i64 x.k.bk :: .int .i64 x.k.rw :: .int .i64 x.who :: gcs l := rfl
theorem gcs_at : ∀ {l : List Gn} {k : Nat} {x : Gn}, l[k]? = some x → (gcs l)[k * 4]? = some (.int .i64 x.k.id) ∧ (gcs l)[k * 4 + 1]? = some (.int .i64 x.k.bk) ∧ (gcs l)[k * 4 + 2]? = some (.int .i64 x.k.rw) ∧ (gcs l)[k * 4 + 3]? = some (.int .i64 x.who)
  | [], k, v, h => by simp at h
  | u :: l, 0, v, h => by simp at h; subst h; exact ⟨rfl, rfl, rfl, rfl⟩
  | u :: l, k + 1, v, h => by
    rw [gcs_cons, show (k + 1) * 4 = k * 4 + 1 + 1 + 1 + 1 by omega]
    simp only [List.getElem?_cons_succ] at h ⊢
    exact gcs_at h
theorem gcs_append (l m : List Gn) : gcs (l ++ m) = gcs l ++ gcs m := by simp [gcs]
theorem gcs_len (l : List Gn) : (gcs l).length = l.length * 4 := by
  induction l with
  | nil => rfl
  | cons a l ih => rw [gcs_cons]; simp only [List.length_cons]; rw [ih]; omega
theorem gcs_take (l : List Gn) : ∀ k : Nat, (gcs l).take (k * 4) = gcs (l.take k) := by
  induction l with
  | nil => intro k; simp [gcs]
  | cons a l ih =>
    intro k
    cases k with
    | zero => simp [gcs]
    | succ k =>
      rw [gcs_cons, show (k + 1) * 4 = k * 4 + 1 + 1 + 1 + 1 by omega]
      simp only [List.take_succ_cons]
      rw [gcs_cons, ih k]
theorem gcs_one {l : List Gn} : ∀ u ∈ gcs l, u.oneCell' = true := by
  intro u hu
  obtain ⟨d, -, hd⟩ := List.mem_flatMap.1 hu
  simp only [List.mem_cons, List.not_mem_nil, or_false] at hd
  rcases hd with rfl | rfl | rfl | rfl <;> rfl
theorem row_gn {w : World} {B : Nat} {A : Option Addr} {l : List Gn} {k : Nat} {x : Gn} (hr : Row w B A (gcs l)) (hk : l[k]? = some x) : ∃ b o, A = some ⟨b, o, none⟩ ∧ b < B ∧ w.cell? ⟨b, o + k * 4, none⟩ = some (.int .i64 x.k.id) ∧ w.cell? ⟨b, o + k * 4 + 1, none⟩ = some (.int .i64 x.k.bk) ∧ w.cell? ⟨b, o + k * 4 + 2, none⟩ = some (.int .i64 x.k.rw) ∧ w.cell? ⟨b, o + k * 4 + 3, none⟩ = some (.int .i64 x.who) := by
  obtain ⟨h0, h1, h2, h3⟩ := gcs_at hk
  obtain ⟨b, o, rfl, hb, c0⟩ := hr.at_ h0
  obtain ⟨b', o', e, -, c1⟩ := hr.at_ h1
  simp only [Option.some.injEq, Addr.mk.injEq, and_true] at e
  obtain ⟨rfl, rfl⟩ := e
  obtain ⟨b', o', e, -, c2⟩ := hr.at_ h2
  simp only [Option.some.injEq, Addr.mk.injEq, and_true] at e
  obtain ⟨rfl, rfl⟩ := e
  obtain ⟨b', o', e, -, c3⟩ := hr.at_ h3
  simp only [Option.some.injEq, Addr.mk.injEq, and_true] at e
  obtain ⟨rfl, rfl⟩ := e
  exact ⟨b, o, rfl, hb, c0, by rw [Nat.add_assoc]; exact c1, by rw [Nat.add_assoc]; exact c2, by rw [Nat.add_assoc]; exact c3⟩
/-- The keys that a list sees as gone. -/
def goneK (H : Int) (ex : List Int) (gone : List Gn) : List Ke := (gone.filter fun g => has H ex g.who).map (·.k)
/-- Whether a list sees a row. -/
def seen (H : Int) (ex : List Int) (gone : List Gn) (x : Kd) : Bool := has H ex x.k.id && !((goneK H ex gone).any fun y => eqK y x.k)
theorem take_snoc {α : Type} {l : List α} {j : Nat} {u : α} (h : l[j]? = some u) : l.take (j + 1) = l.take j ++ [u] := by
  rw [List.take_add_one, h]; rfl
theorem gone_step {H : Int} {ex : List Int} {gone : List Gn} {j : Nat} {u : Gn} (h : gone[j]? = some u) : goneK H ex (gone.take (j + 1)) = if has H ex u.who then goneK H ex (gone.take j) ++ [u.k] else goneK H ex (gone.take j) := by
  unfold goneK
  rw [take_snoc h, List.filter_append]
  cases e : has H ex u.who
  · simp [e]
  · simp [e]
theorem seen_step {p : Kd → Bool} {l : List Kd} {j : Nat} {u : Kd} (h : l[j]? = some u) : (l.take (j + 1)).filter p = if p u then (l.take j).filter p ++ [u] else (l.take j).filter p := by
  rw [take_snoc h, List.filter_append]
  cases e : p u
  · simp [e]
  · simp [e]

set_option maxRecDepth 100000 in
set_option maxHeartbeats 8000000 in
theorem of_any (w : World) (H : Int) (A : Option Addr) (n c : Nat) (ex : List Int) (hl : ex.length = n) (hn : n ≤ 1000000000) (hr : Row w w.heap.size A (ints ex))
    (RA : Option Addr) (rn rc : Nat) (rows : List Kd) (hrl : rows.length = rn) (hrn : rn ≤ 120) (hrr : Row w w.heap.size RA (kcs rows)) (hrk : ∀ x ∈ rows, KHas w w.heap.size x ∧ KeWf x.k)
    (GA : Option Addr) (gn gc : Nat) (gone : List Gn) (hgl : gone.length = gn) (hgn : gn ≤ 1000) (hgr : Row w w.heap.size GA (gcs gone)) (hgk : ∀ g ∈ gone, KeWf g.k) :
    Calls Tryd.prog 11 #[.agg #[.int .i64 H, .slice A n c], .slice RA rn rc, .slice GA gn gc] w fun e w' => ∃ (A' : Option Addr) (n' c' : Nat) (S : List Kd), e = .returned (.slice A' n' c') ∧ S.length = n' ∧ n' ≤ 120 ∧ Firsts Prod.fst ((rows.filter (seen H ex gone)).map cont) (S.map cont) ∧ w'.ownsRow w.heap.size 37 4 (.slice A' n' c') n' (kcs S) ∧ (∀ x ∈ S, KHas w' w'.heap.size x) ∧ Le w w' := by
  obtain ⟨X1, hX1, b1, hl1⟩ : ∃ X, w.alloc (.cells #[.int .i64 H, .slice A n c] 51) = X ∧ Box X w.heap.size #[.int .i64 H, .slice A n c] 51 ∧ Le w X := ⟨_, rfl, box_new _ _ _, (Below.refl _ _).alloc (Nat.le_refl _) _⟩
  obtain ⟨X2, hX2, hd2, hl2⟩ : ∃ X, X1.alloc (.map #[] 0) = X ∧ Del X X1.heap.size 0 [] ∧ Le X1 X := ⟨_, rfl, del_new _, (Below.refl _ _).alloc (Nat.le_refl _) _⟩
  have hzz : X1.heap.size = w.heap.size + 1 := by rw [← hX1]; simp
  obtain ⟨bm, hbm⟩ : ∃ b, w.heap.size + 1 = b := ⟨_, rfl⟩
  rw [hzz, hbm] at hd2
  have HBM := hide hbm
  have HX1 := hide hX1
  have HX2 := hide hX2
  have HL2 := hide (hl1.trans hl2)
  have BX2 := hide (b1.below hl2 b1.lt)
  have HD2 := hide hd2
  have hwb : w.heap.size < bm := by omega
  have hb2 := hd2.lt
  have hha := hide (fun (X : World) (h : Le w X) (id : Int) => has_any X H A n c ex id hl hn ((h.row hr (Nat.le_refl _)).more h.size))
  have HRL := hide hrl
  have HRR := hide hrr
  have HRK := hide hrk
  have HGL := hide hgl
  have HGR := hide hgr
  have HGK := hide hgk
  have hmm := @run_makeMap Tryd.prog
  clear hX1 hX2 b1 hl1 hl2 hd2 hzz hl hr hrl hrr hrk hgl hgr hgk hbm
  go_enter Tryd.func11, Tryd.ntmps11
  go_upto_region 2 with fail
  rw [HX1.out, HX2.out, HBM.out]
  clear hmm
  go_wp2_with fail
  go_loopw [16] (fun s wr => ∃ q : Nat, s = .int .i64 q ∧ q ≤ gn ∧ Hid (Del wr bm (goneK H ex (gone.take q)).length (goneK H ex (gone.take q))) ∧ Hid (Box wr w.heap.size #[.int .i64 H, .slice A n c] 51) ∧ Hid (Le w wr)) (fun s _ => gn - (intOf s).toNat)
  case atStart => exact ⟨0, rfl, Nat.zero_le _, HD2, BX2, HL2⟩
  case round =>
    obtain ⟨q, rfl, hq, HD, HBX, HB⟩ := hrel
    by_cases hqn : q < gn
    · obtain ⟨u, hu⟩ : ∃ u, gone[q]? = some u := ⟨_, List.getElem?_eq_getElem (by rw [HGL.out]; exact hqn)⟩
      obtain ⟨bA, oA, rfl, hbA, r0, r1, r2, r3⟩ := row_gn HGR.out hu
      have hqI : (q : Int) < gn := by omega
      have HWF := hide (HGK.out u (List.mem_of_getElem? hu))
      have hgs := gone_step (H := H) (ex := ex) hu
      have hlen : (goneK H ex (gone.take q)).length ≤ q := by
        unfold goneK
        rw [List.length_map]
        exact Nat.le_trans (List.length_filter_le _ _) (by rw [List.length_take]; exact Nat.min_le_left _ _)
      obtain ⟨L, hL⟩ : ∃ L, goneK H ex (gone.take q) = L := ⟨_, rfl⟩
      rw [hL] at HD hlen hgs
      have e0 : wr.cell? ⟨bA, oA + q * 4, none⟩ = some (.int .i64 u.k.id) := (HB.out.cell (p := ⟨bA, oA + q * 4, none⟩) hbA).trans r0
      have e1 : wr.cell? ⟨bA, oA + q * 4 + 1, none⟩ = some (.int .i64 u.k.bk) := (HB.out.cell (p := ⟨bA, oA + q * 4 + 1, none⟩) hbA).trans r1
      have e2 : wr.cell? ⟨bA, oA + q * 4 + 2, none⟩ = some (.int .i64 u.k.rw) := (HB.out.cell (p := ⟨bA, oA + q * 4 + 2, none⟩) hbA).trans r2
      have e3 : wr.cell? ⟨bA, oA + q * 4 + 3, none⟩ = some (.int .i64 u.who) := (HB.out.cell (p := ⟨bA, oA + q * 4 + 3, none⟩) hbA).trans r3
      clear r0 r1 r2 r3 hu hL
      go_upto_region 5 with fail
      obtain ⟨X, hX, bX, hlX⟩ : ∃ X, wr.alloc (.cells #[.int .i64 u.k.id, .int .i64 u.k.bk, .int .i64 u.k.rw, .int .i64 u.who] 47) = X ∧ Box X wr.heap.size #[.int .i64 u.k.id, .int .i64 u.k.bk, .int .i64 u.k.rw, .int .i64 u.who] 47 ∧ Le wr X := ⟨_, rfl, box_new _ _ _, (Below.refl _ _).alloc (Nat.le_refl _) _⟩
      rw [hX]
      have HLX := hide hlX
      have BX := hide bX
      have HBX1 := hide (HBX.out.below hlX HBX.out.lt)
      have HD1 := hide (HD.out.on (hlX.block bm HD.out.lt))
      have HB1 := hide (HB.out.trans hlX)
      have f3 := bX.cell 3 (.int .i64 u.who) rfl
      have g0 := HBX1.out.cell 0 (.int .i64 H) rfl
      have g1 := HBX1.out.cell 1 (.slice A n c) rfl
      obtain ⟨hv, hhv⟩ : ∃ b, has H ex u.who = b := ⟨_, rfl⟩
      have hh := hide (hha.out X HB1.out u.who)
      rw [hhv] at hh hgs
      have HGS := hide hgs
      clear hX bX hlX e0 e1 e2 e3 hhv hgs
      go_wp2_with fail
      refine hh.out.mono ?_
      rintro e w2 ⟨rfl, hb⟩
      have HL2' := hide (show Le X w2 from hb)
      have BX2' := hide (BX.out.below hb BX.out.lt)
      have HBX2 := hide (HBX1.out.below hb HBX1.out.lt)
      have HDD := hide (HD1.out.on (hb.block bm HD1.out.lt))
      have HB2 := hide (HB1.out.trans hb)
      clear hb f3 g0 g1
      cases hv
      · go_wp2_with fail
        exact ⟨⟨q + 1, by go_num, by omega, by rw [HGS.out]; exact HDD, HBX2, HB2⟩, by simp [intOf]; omega⟩
      · have f0 := BX2'.out.cell 0 (.int .i64 u.k.id) rfl
        have f1 := BX2'.out.cell 1 (.int .i64 u.k.bk) rfl
        have f2 := BX2'.out.cell 2 (.int .i64 u.k.rw) rfl
        have had := hide (add_any w2 bm L.length L u.k HWF.out (by omega) HDD.out)
        go_wp2_with fail
        refine had.out.mono ?_
        rintro e w3 ⟨rfl, hd3, hg3⟩
        have HD3 := hide hd3
        have HBX3 := hide (show Box w3 w.heap.size #[.int .i64 H, .slice A n c] 51 from HBX2.out.grown hg3 (fun g hg => by cases hg; omega))
        have HB3 := hide (show Le w w3 from (HB2.out : Below w.heap.size w w2).grown hg3 HB2.out.size (fun g hg => by cases hg; omega))
        clear hd3 hg3 f0 f1 f2
        go_wp2_with fail
        exact ⟨⟨q + 1, by go_num, by omega, by rw [HGS.out]; simpa using HD3, HBX3, HB3⟩, by simp [intOf]; omega⟩
    · obtain rfl : q = gn := by omega
      have hall : gone.take q = gone := List.take_of_length_le (by rw [HGL.out]; exact Nat.le_refl _)
      rw [hall] at HD
      have hle : ¬ (q : Int) < q := by omega
      obtain ⟨Z, rfl⟩ : ∃ Z, Z = wr := ⟨_, rfl⟩
      have hzd := HD.out.lt
      have hzw := HB.out.size
      clear hall
      go_wp2_with fail
      go_loopw [10, 31] (fun s t wr => ∃ (i k cs : Nat) (As : Option Addr) (m : List Kd), s = .slice As k cs ∧ t = .int .i64 i ∧ i ≤ rn ∧ k ≤ i ∧ Hid (m = (rows.take i).filter (seen H ex gone)) ∧ Hid (k = m.length) ∧ Hid (wr.ownsRow Z.heap.size 37 4 (.slice As k cs) k (kcs m)) ∧ Hid (Le Z wr)) (fun _ t _ => rn - (intOf t).toNat)
      case atStart => exact ⟨0, 0, 0, none, [], rfl, rfl, Nat.zero_le _, Nat.le_refl _, hide rfl, hide rfl, hide (World.ownsRow_nil _ _ _ _), hide (Le.refl _)⟩
      case round =>
        clear hle
        obtain ⟨i, k, cs, As, m, rfl, rfl, hi, hki, HM, HK, HO, HLr⟩ := hrel
        have HBr := hide (HB.out.trans HLr.out)
        have BXr := hide (HBX.out.below HLr.out HBX.out.lt)
        have HDr := hide (HD.out.on (HLr.out.block bm hzd))
        by_cases hir : i < rn
        · obtain ⟨u, hu⟩ : ∃ u, rows[i]? = some u := ⟨_, List.getElem?_eq_getElem (by rw [HRL.out]; exact hir)⟩
          obtain ⟨bA, oA, rfl, hbA, r0, r1, r2, r3⟩ := row_kd HRR.out hu
          have hiI : (i : Int) < rn := by omega
          have HWF := hide (HRK.out u (List.mem_of_getElem? hu)).2
          have hss := seen_step (p := seen H ex gone) hu
          rw [← HM.out] at hss
          have e0 : wr.cell? ⟨bA, oA + i * 4, none⟩ = some (.int .i64 u.k.id) := (HBr.out.cell (p := ⟨bA, oA + i * 4, none⟩) hbA).trans r0
          have e1 : wr.cell? ⟨bA, oA + i * 4 + 1, none⟩ = some (.int .i64 u.k.bk) := (HBr.out.cell (p := ⟨bA, oA + i * 4 + 1, none⟩) hbA).trans r1
          have e2 : wr.cell? ⟨bA, oA + i * 4 + 2, none⟩ = some (.int .i64 u.k.rw) := (HBr.out.cell (p := ⟨bA, oA + i * 4 + 2, none⟩) hbA).trans r2
          have e3 : wr.cell? ⟨bA, oA + i * 4 + 3, none⟩ = some (.slice u.A u.n u.c) := (HBr.out.cell (p := ⟨bA, oA + i * 4 + 3, none⟩) hbA).trans r3
          clear r0 r1 r2 r3 hu
          go_upto_region 12 with fail
          obtain ⟨X, hX, bX, hlX⟩ : ∃ X, wr.alloc (.cells #[.int .i64 u.k.id, .int .i64 u.k.bk, .int .i64 u.k.rw, .slice u.A u.n u.c] 37) = X ∧ Box X wr.heap.size #[.int .i64 u.k.id, .int .i64 u.k.bk, .int .i64 u.k.rw, .slice u.A u.n u.c] 37 ∧ Le wr X := ⟨_, rfl, box_new _ _ _, (Below.refl _ _).alloc (Nat.le_refl _) _⟩
          rw [hX]
          have BX := hide bX
          have HLX := hide (HLr.out.trans hlX)
          have HBX1 := hide (HBX.out.below HLX.out HBX.out.lt)
          have HB1 := hide (HB.out.trans HLX.out)
          have HO1 := hide (own_below HO.out hlX)
          have f0 := bX.cell 0 (.int .i64 u.k.id) rfl
          have g0 := HBX1.out.cell 0 (.int .i64 H) rfl
          have g1 := HBX1.out.cell 1 (.slice A n c) rfl
          obtain ⟨hv, hhv⟩ : ∃ b, has H ex u.k.id = b := ⟨_, rfl⟩
          have hh := hide (hha.out X HB1.out u.k.id)
          obtain ⟨dv, hdv⟩ : ∃ b, ((goneK H ex gone).any fun y => eqK y u.k) = b := ⟨_, rfl⟩
          have hsv : seen H ex gone u = (hv && !dv) := by unfold seen; rw [hhv, hdv]
          rw [hhv] at hh
          rw [hsv] at hss
          have HSS := hide hss
          have HDV := hide hdv
          clear hX bX hlX e0 e1 e2 e3 hhv hdv hsv hss
          go_wp2_with fail
          refine hh.out.mono ?_
          rintro e w2 ⟨rfl, hb⟩
          have HL2' := hide (show Le Z w2 from HLX.out.trans hb)
          have BX2' := hide (BX.out.below hb BX.out.lt)
          have HO2 := hide (own_below HO1.out hb)
          have hlk := (HD.out.on (HL2'.out.block bm hzd)).look HWF.out
          rw [HDV.out] at hlk
          clear hb f0 g0 g1
          cases hv
          · have HSS2 := hide (show (rows.take (i + 1)).filter (seen H ex gone) = m from HSS.out)
            clear hlk
            go_wp2_with fail
            exact ⟨⟨i + 1, k, cs, As, m, rfl, by go_num, by omega, by omega, hide HSS2.out.symm, HK, HO2, HL2'⟩, by simp [intOf]; omega⟩
          · have f0 := BX2'.out.cell 0 (.int .i64 u.k.id) rfl
            have f1 := BX2'.out.cell 1 (.int .i64 u.k.bk) rfl
            have f2 := BX2'.out.cell 2 (.int .i64 u.k.rw) rfl
            have f3 := BX2'.out.cell 3 (.slice u.A u.n u.c) rfl
            have hz2 := HL2'.out.size
            cases dv
            · have HSS2 := hide (show (rows.take (i + 1)).filter (seen H ex gone) = m ++ [u] from HSS.out)
              go_wp2_with (at_builtin; refine wpList_append_row _ rfl (.tmp 47) (.tmp 49) 23 rfl Z.heap.size 37 infoK Tryd.underlying23 rfl (by omega) (.slice As k cs) k _ rfl (HO2.out.alloc _) _ (some ⟨w2.heap.size, 0, none⟩) 1 1 (kcs [u]) rfl rfl (row_new w2 #[.int .i64 u.k.id, .int .i64 u.k.bk, .int .i64 u.k.rw, .slice u.A u.n u.c] _ (0, 0)) kcs_one (by simp only [maxLen]; omega) (by omega) (by simp; omega) ?_; intro v' w' hown' hg hat; obtain ⟨A3, c3, rfl, -, -⟩ := own_form hown'; have HO' := hide hown'; have HGR := hide hg; clear hown' hg hat)
              have HL3 := hide (show Le Z w' from Below.trans HL2'.out (Below.trans ((Below.refl _ _).alloc hz2 _) (below_own HGR.out (Nat.le_refl _) (by simp; omega) (fun g h => own_ge HO2.out h (Nat.le_refl _)))))
              exact ⟨⟨i + 1, k + 1, c3, A3, m ++ [u], rfl, by go_num, by omega, by omega, hide HSS2.out.symm, hide (by simp [HK.out]), hide (by rw [kcs_append]; exact HO'.out), HL3⟩, by simp [intOf]; omega⟩
            · have HSS2 := hide (show (rows.take (i + 1)).filter (seen H ex gone) = m from HSS.out)
              go_wp2_with fail
              exact ⟨⟨i + 1, k, cs, As, m, rfl, by go_num, by omega, by omega, hide HSS2.out.symm, HK, HO2, HL2'⟩, by simp [intOf]; omega⟩
        · obtain rfl : i = rn := by omega
          have hle : ¬ (i : Int) < i := by omega
          have hall : rows.take i = rows := List.take_of_length_le (by rw [HRL.out]; exact Nat.le_refl _)
          rw [hall] at HM
          obtain ⟨X, hX, hlX⟩ : ∃ X, wr.alloc (.cells #[.slice As k cs] 23) = X ∧ Le wr X := ⟨_, rfl, (Below.refl _ _).alloc (Nat.le_refl _) _⟩
          have hrowT : Row X X.heap.size (some ⟨wr.heap.size, 0, none⟩) [Value.slice As k cs] := by rw [← hX]; exact (row_one wr (.slice As k cs) _ (0, 0)).more (by simp)
          have hme := hide (merge_any X (some ⟨wr.heap.size, 0, none⟩) 1 1 [⟨As, k, cs, m⟩] rfl (by omega) hrowT (fun p hp => by
            rw [List.mem_singleton.1 hp]
            refine ⟨HK.out.symm, (Le.row hlX (Row.of_own HO.out) (Nat.le_refl _)).more hlX.size, fun x hx => ?_⟩
            rw [HM.out] at hx
            exact (HRK.out x (List.mem_filter.1 hx).1).1.on (HBr.out.trans hlX) (Nat.le_refl _) (HBr.out.trans hlX).size) (by
            have : rowsOf [⟨As, k, cs, m⟩] = m := by simp [rowsOf]
            rw [this, ← HK.out]; omega))
          have hrw : rowsOf [⟨As, k, cs, m⟩] = m := by simp [rowsOf]
          rw [hrw] at hme
          have HX := hide hX
          have HLX := hide (HBr.out.trans hlX)
          clear hX hlX hrowT hall hrw
          go_wp2_with fail
          rw [HX.out]
          refine hme.out.mono ?_
          rintro e w3 ⟨A', n', c', S, rfl, h1, h2, h3, h4, h5, h6⟩
          have H1 := hide h1
          have H3 := hide h3
          have H4 := hide (own_more h4 HLX.out.size)
          have H5 := hide h5
          have H6 := hide (HLX.out.trans h6)
          clear h1 h3 h4 h5 h6
          go_wp2_with fail
          go_ret
          exact ⟨A', n', c', S, rfl, H1.out, h2, by rw [← HM.out]; exact H3.out, H4.out, H5.out, H6.out⟩
#print axioms of_any
end Go.Proofs.YtjedpjfmlaganaaDoor.vw
