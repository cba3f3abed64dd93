/-
  The law on rows and what is gone, together, walked.
-/
import Derived.Test.YtjedpjfmlaganaaVwRmg
import Derived.Test.YtjedpjfmlaganaaVwRme
import Derived.Test.YtjedpjfmlaganaaVwSame
import Derived.Test.YtjedpjfmlaganaaVwShape2
namespace Go.Proofs.Ytjedpjfmlaganaa.vw
open Go.RowKit
set_option linter.unusedVariables false

set_option maxRecDepth 100000 in
set_option maxHeartbeats 8000000 in
theorem merges_walk (w : World) (RA GA : Option Addr) (rn rc gn gc : Nat) (P : List Pc) (G : List Pg) (hP : P.length = rn) (hrr : Row w w.heap.size RA (P.map fun p => Value.slice p.A p.n p.c)) (hp : ∀ p ∈ P, PcHas w p)
    (hG : G.length = gn) (hgr : Row w w.heap.size GA (G.map fun p => Value.slice p.A p.n p.c)) (hg : ∀ p ∈ G, PgHas w p) :
    Calls Try.prog 3 #[.slice RA rn rc, .slice GA gn gc] w fun e w' => e = .returned (.bool true) ∧ Below w.heap.size w w' := by
  have hsh := hide (shown_any w)
  by_cases hr2 : rn < 2
  · have hd : decide ((rn : Int) < 2) = true := decide_eq_true (by omega)
    clear hP hrr hp hG hgr hg
    go_enter Try.func3, Try.ntmps3
    go_wp2_with fail
    refine hsh.out.mono ?_
    rintro e w1 ⟨rfl, hb⟩
    have HL1 := hide hb
    clear hb
    go_wp2_with fail
    go_ret
    exact ⟨rfl, HL1.out⟩
  · have hd : decide ((rn : Int) < 2) = false := decide_eq_false (by omega)
    by_cases hg2 : gn < 2
    · have hd2 : decide ((gn : Int) < 2) = true := decide_eq_true (by omega)
      clear hP hrr hp hG hgr hg
      go_enter Try.func3, Try.ntmps3
      go_wp2_with fail
      refine hsh.out.mono ?_
      rintro e w1 ⟨rfl, hb⟩
      have HL1 := hide hb
      clear hb
      go_wp2_with fail
      go_ret
      exact ⟨rfl, HL1.out⟩
    · have hd2 : decide ((gn : Int) < 2) = false := decide_eq_false (by omega)
      obtain ⟨p0, hp0⟩ : ∃ p, P[0]? = some p := ⟨_, List.getElem?_eq_getElem (by omega)⟩
      obtain ⟨p1, hp1⟩ : ∃ p, P[1]? = some p := ⟨_, List.getElem?_eq_getElem (by omega)⟩
      obtain ⟨q0, hq0⟩ : ∃ p, G[0]? = some p := ⟨_, List.getElem?_eq_getElem (by omega)⟩
      obtain ⟨q1, hq1⟩ : ∃ p, G[1]? = some p := ⟨_, List.getElem?_eq_getElem (by omega)⟩
      obtain ⟨bR, oR, rfl, hbR, r0⟩ := hrr.at_ (j := 0) (u := .slice p0.A p0.n p0.c) (by rw [List.getElem?_map, hp0]; rfl)
      obtain ⟨b', o', eR, -, r1⟩ := hrr.at_ (j := 1) (u := .slice p1.A p1.n p1.c) (by rw [List.getElem?_map, hp1]; rfl)
      simp only [Option.some.injEq, Addr.mk.injEq, and_true] at eR
      obtain ⟨rfl, rfl⟩ := eR
      obtain ⟨bG, oG, rfl, hbG, g0⟩ := hgr.at_ (j := 0) (u := .slice q0.A q0.n q0.c) (by rw [List.getElem?_map, hq0]; rfl)
      obtain ⟨b', o', eG, -, g1⟩ := hgr.at_ (j := 1) (u := .slice q1.A q1.n q1.c) (by rw [List.getElem?_map, hq1]; rfl)
      simp only [Option.some.injEq, Addr.mk.injEq, and_true] at eG
      obtain ⟨rfl, rfl⟩ := eG
      rw [Nat.add_zero] at r0 g0
      obtain ⟨a0, a1, a2, a3, a4⟩ := hp p0 (List.mem_of_getElem? hp0)
      obtain ⟨b0, b1, b2, b3, b4⟩ := hp p1 (List.mem_of_getElem? hp1)
      obtain ⟨c0, c1, c2, c3, c4⟩ := hg q0 (List.mem_of_getElem? hq0)
      obtain ⟨d0, d1, d2, d3, d4⟩ := hg q1 (List.mem_of_getElem? hq1)
      obtain ⟨k0, hk0⟩ : ∃ k, min p0.n 60 = k := ⟨_, rfl⟩
      obtain ⟨k1, hk1⟩ : ∃ k, min p1.n 60 = k := ⟨_, rfl⟩
      obtain ⟨m0, hm0⟩ : ∃ k, min q0.n 60 = k := ⟨_, rfl⟩
      obtain ⟨m1, hm1⟩ : ∃ k, min q1.n 60 = k := ⟨_, rfl⟩
      have HA := hide (show (p0.l.take 60).length = k0 by rw [List.length_take, a0, ← hk0]; omega)
      have HB := hide (show (p1.l.take 60).length = k1 by rw [List.length_take, b0, ← hk1]; omega)
      have HC := hide (show (q0.l.take 60).length = m0 by rw [List.length_take, c0, ← hm0]; omega)
      have HD := hide (show (q1.l.take 60).length = m1 by rw [List.length_take, d0, ← hm1]; omega)
      have ra := a3.take (60 * 4)
      have rb := b3.take (60 * 4)
      have rcx := c3.take (60 * 4)
      have rd := d3.take (60 * 4)
      rw [kcs_take] at ra rb
      rw [gcs_take] at rcx rd
      have HKA := hide (show ∀ x ∈ p0.l.take 60, KHas w w.heap.size x from fun x hx => (a4 x (List.mem_of_mem_take hx)).1)
      have HKB := hide (show ∀ x ∈ p1.l.take 60, KHas w w.heap.size x from fun x hx => (b4 x (List.mem_of_mem_take hx)).1)
      have hf0 := hide (fun (W : World) => few_any W p0.A p0.n p0.c a1 a2)
      have hf1 := hide (fun (W : World) => few_any W p1.A p1.n p1.c b1 b2)
      have hl0 := hide (fun (W : World) => less_any W q0.A q0.n q0.c c1 c2)
      have hl1 := hide (fun (W : World) => less_any W q1.A q1.n q1.c d1 d2)
      rw [hk0] at hf0
      rw [hk1] at hf1
      rw [hm0] at hl0
      rw [hm1] at hl1
      have hk0' : k0 ≤ 60 := by omega
      have hk1' : k1 ≤ 60 := by omega
      have hm0' : m0 ≤ 60 := by omega
      have hm1' : m1 ≤ 60 := by omega
      generalize p0.l.take 60 = la at HA ra HKA
      generalize p1.l.take 60 = lb at HB rb HKB
      generalize q0.l.take 60 = lc at HC rcx
      generalize q1.l.take 60 = ld at HD rd
      have HRA := hide ra
      have HRB := hide rb
      have HRC := hide rcx
      have HRD := hide rd
      have HR0 := hide r0
      have HR1 := hide r1
      have HG0 := hide g0
      have HG1 := hide g1
      have hrI0 : (0 : Int) < rn := by omega
      have hrI1 : (1 : Int) < rn := by omega
      have hgI0 : (0 : Int) < gn := by omega
      have hgI1 : (1 : Int) < gn := by omega
      have hn0 : 0 < rn := by omega
      have hn1 : 1 < rn := by omega
      have hn2 : 0 < gn := by omega
      have hn3 : 1 < gn := by omega
      clear hP hrr hp hG hgr hg hp0 hp1 hq0 hq1 a0 a1 a2 a3 a4 b0 b1 b2 b3 b4 c0 c1 c2 c3 c4 d0 d1 d2 d3 d4 hk0 hk1 hm0 hm1 ra rb rcx rd r0 r1 g0 g1
      go_enter Try.func3, Try.ntmps3
      go_wp2_with fail
      refine hsh.out.mono ?_
      rintro e w1 ⟨rfl, hb⟩
      have HL1 := hide hb
      have r0 : w1.cell? ⟨bR, oR, none⟩ = _ := (hb.cell (p := ⟨bR, oR, none⟩) hbR).trans HR0.out
      have r1 : w1.cell? ⟨bR, oR + 1, none⟩ = _ := (hb.cell (p := ⟨bR, oR + 1, none⟩) hbR).trans HR1.out
      have g0 : w1.cell? ⟨bG, oG, none⟩ = _ := (hb.cell (p := ⟨bG, oG, none⟩) hbG).trans HG0.out
      have g1 : w1.cell? ⟨bG, oG + 1, none⟩ = _ := (hb.cell (p := ⟨bG, oG + 1, none⟩) hbG).trans HG1.out
      clear hb hsh
      go_wp2_with fail
      refine (hf0.out _).mono ?_
      rintro e w' ⟨rfl, rfl⟩
      go_wp2_with fail
      refine (hf1.out _).mono ?_
      rintro e w' ⟨rfl, rfl⟩
      go_wp2_with fail
      refine (hl0.out _).mono ?_
      rintro e w' ⟨rfl, rfl⟩
      go_wp2_with fail
      refine (hl1.out _).mono ?_
      rintro e w' ⟨rfl, rfl⟩
      clear r0 r1 g0 g1
      go_wp2_with fail
      obtain ⟨X, hX, hrX, hlX⟩ : ∃ X, w1.alloc (.cells #[.slice p0.A k0 p0.c, .slice p1.A k1 p1.c] 25) = X ∧ Row X X.heap.size (some ⟨w1.heap.size, 0, none⟩) [Value.slice p0.A k0 p0.c, .slice p1.A k1 p1.c] ∧ Le w1 X := ⟨_, rfl, (row_new w1 #[.slice p0.A k0 p0.c, .slice p1.A k1 p1.c] _ (0, 0)).more (by simp), (Below.refl _ _).alloc (Nat.le_refl _) _⟩
      rw [hX]
      have HLX := hide (HL1.out.trans hlX)
      have hme := hide (merge_any X (some ⟨w1.heap.size, 0, none⟩) 2 2 [⟨p0.A, k0, p0.c, la⟩, ⟨p1.A, k1, p1.c, lb⟩] rfl (by omega) hrX (fun p hp => by
        rcases List.mem_cons.1 hp with rfl | hp
        · exact ⟨HA.out, (HLX.out.row HRA.out (Nat.le_refl _)).more HLX.out.size, fun x hx => (HKA.out x hx).on HLX.out (Nat.le_refl _) HLX.out.size⟩
        · rw [List.mem_singleton.1 hp]
          exact ⟨HB.out, (HLX.out.row HRB.out (Nat.le_refl _)).more HLX.out.size, fun x hx => (HKB.out x hx).on HLX.out (Nat.le_refl _) HLX.out.size⟩) (by
        have : rowsOf [⟨p0.A, k0, p0.c, la⟩, ⟨p1.A, k1, p1.c, lb⟩] = la ++ lb := by simp [rowsOf]
        rw [this, List.length_append, HA.out, HB.out]; omega))
      have hrw : rowsOf [⟨p0.A, k0, p0.c, la⟩, ⟨p1.A, k1, p1.c, lb⟩] = la ++ lb := by simp [rowsOf]
      rw [hrw] at hme
      clear hX hrX hlX hrw
      refine hme.out.mono ?_
      rintro e w2 ⟨A1, n1, c1, S, rfl, h1, h2, h3, h4, h5, h6⟩
      have H1 := hide h1
      have H3 := hide h3
      have H4 := hide h4
      have H5 := hide h5
      have HL2 := hide (HLX.out.trans h6)
      clear h1 h3 h4 h5 h6 hme
      have hrm := hide (rmerge_any w2 p0.A p1.A k0 k1 p0.c p1.c la lb HA.out HB.out hk0' hk1' ((HL2.out.row HRA.out (Nat.le_refl _)).more HL2.out.size) ((HL2.out.row HRB.out (Nat.le_refl _)).more HL2.out.size))
      go_wp2_with fail
      refine hrm.out.mono ?_
      rintro e w3 ⟨y1, y2, y3, rfl, j1, j2, j3, j4⟩
      have HL3 := hide (HL2.out.trans j4)
      have hsame := firsts_one H3.out (fold_firsts (la ++ lb))
      have hlen : y2 = n1 := by
        have := congrArg List.length hsame
        rw [List.length_map, List.length_map, H1.out, ← j1] at this
        exact this.symm
      subst hlen
      have hmem : ∀ x ∈ (la ++ lb).foldl (putK Kd.k) [], KHas w3 w3.heap.size x := fun x hx => by
        rcases List.mem_append.1 (fold_mem hx) with h | h
        · exact (HKA.out x h).on HL3.out (Nat.le_refl _) HL3.out.size
        · exact (HKB.out x h).on HL3.out (Nat.le_refl _) HL3.out.size
      have hsm := hide (same_any w3 A1 (some ⟨y1, 0, none⟩) y2 c1 y3 S _ H1.out (by omega) hsame ((j4.row (Row.of_own H4.out) (Nat.le_refl _)).more j4.size) (Row.of_own j3) (fun x hx => (H5.out x hx).on j4 (Nat.le_refl _) j4.size) hmem)
      clear j1 j3 j4 hsame hrm hmem
      go_wp2_with fail
      refine hsm.out.mono ?_
      rintro e w4 ⟨rfl, hb⟩
      have HL4 := hide (HL3.out.trans hb)
      clear hb hsm
      go_wp2_with fail
      obtain ⟨Y, hY, hrY, hlY⟩ : ∃ X, w4.alloc (.cells #[.slice q0.A m0 q0.c, .slice q1.A m1 q1.c] 27) = X ∧ Row X X.heap.size (some ⟨w4.heap.size, 0, none⟩) [Value.slice q0.A m0 q0.c, .slice q1.A m1 q1.c] ∧ Le w4 X := ⟨_, rfl, (row_new w4 #[.slice q0.A m0 q0.c, .slice q1.A m1 q1.c] _ (0, 0)).more (by simp), (Below.refl _ _).alloc (Nat.le_refl _) _⟩
      rw [hY]
      have HLY := hide (HL4.out.trans hlY)
      have hgw : gonesOf [⟨q0.A, m0, q0.c, lc⟩, ⟨q1.A, m1, q1.c, ld⟩] = lc ++ ld := by simp [gonesOf]
      have hmg := hide (mgone_any Y (some ⟨w4.heap.size, 0, none⟩) 2 2 [⟨q0.A, m0, q0.c, lc⟩, ⟨q1.A, m1, q1.c, ld⟩] rfl (by omega) hrY (fun p hp => by
        rcases List.mem_cons.1 hp with rfl | hp
        · exact ⟨HC.out, (HLY.out.row HRC.out (Nat.le_refl _)).more HLY.out.size⟩
        · rw [List.mem_singleton.1 hp]
          exact ⟨HD.out, (HLY.out.row HRD.out (Nat.le_refl _)).more HLY.out.size⟩) (by
        rw [hgw, List.length_append, HC.out, HD.out]; omega))
      rw [hgw] at hmg
      clear hY hrY hlY hgw
      refine hmg.out.mono ?_
      rintro e w5 ⟨A2, n2, c2, rfl, h1, h2, h3, h4⟩
      have hn22 : n2 ≤ 120 := by rw [List.length_append, HC.out, HD.out] at h2; omega
      have G1 := hide h1
      have G3 := hide h3
      have HL5 := hide (HLY.out.trans h4)
      clear h1 h2 h3 h4 hmg
      have hrg := hide (rmgone_any w5 q0.A q1.A m0 m1 q0.c q1.c lc ld HC.out HD.out hm0' hm1' ((HL5.out.row HRC.out (Nat.le_refl _)).more HL5.out.size) ((HL5.out.row HRD.out (Nat.le_refl _)).more HL5.out.size))
      go_wp2_with fail
      refine hrg.out.mono ?_
      rintro e w6 ⟨z1, z2, z3, rfl, j1, j3, j4⟩
      have HL6 := hide (HL5.out.trans j4)
      have hlen : z2 = n2 := by rw [j1, G1.out]
      subst hlen
      have hsg := hide (samegone_any w6 A2 (some ⟨z1, 0, none⟩) z2 c2 z3 _ G1.out (by omega) ((j4.row (Row.of_own G3.out) (Nat.le_refl _)).more j4.size) (Row.of_own j3))
      clear j1 j3 j4 hrg
      go_wp2_with fail
      refine hsg.out.mono ?_
      rintro e w7 ⟨rfl, hb⟩
      have HL7 := hide (HL6.out.trans hb)
      clear hb hsg
      go_wp2_with fail
      go_ret
      exact ⟨rfl, HL7.out⟩
#print axioms merges_walk
end Go.Proofs.Ytjedpjfmlaganaa.vw
