/-
  The law on what is seen of merged rows, walked (written by genVwTo.py).
-/
import Derived.Test.YtjedpjfmlaganaaVwTp
import Derived.Test.YtjedpjfmlaganaaVwMe
namespace Go.Proofs.Ytjedpjfmlaganaa.vw
open Go.RowKit
set_option linter.unusedVariables false

/-- Two rows of one's own that lie in two blocks. -/
def Apart (v u : Value) : Prop := ∀ g, v.ownBlock = some g → u.ownBlock ≠ some g
theorem Apart.symm {v u : Value} (h : Apart v u) : Apart u v := fun g hg hv => h g hv hg
theorem Apart.kept {w w' : World} {base size n : Nat} {e : TypeId} {u v : Value} {xs : List Value} (h : w.ownsRow base e size u n xs) (ha : Apart v u) (hg : w.grownBy w' v.ownBlock) : w'.ownsRow base e size u n xs := by
  refine h.kept hg ?_
  cases hu : u.ownBlock with
  | none => exact .inl rfl
  | some g => exact .inr fun e => ha g e.symm hu
theorem Apart.grown {w : World} {base size n : Nat} {e : TypeId} {u v v' : Value} {xs : List Value} (h : w.ownsRow base e size u n xs) (ha : Apart v u) (hat : v'.ownBlock = v.ownBlock ∨ v'.ownBlock = some w.heap.size) : Apart v' u := by
  intro g hg hu
  rcases hat with e | e
  · exact ha g (e ▸ hg) hu
  · rw [e] at hg
    injection hg with hg
    have := (h.lt g hu).2
    omega
theorem Apart.fresh {w : World} {base size n m c : Nat} {e : TypeId} {u : Value} {xs : List Value} (h : w.ownsRow base e size u n xs) : Apart (.slice (some ⟨w.heap.size, 0, none⟩) m c) u := by
  intro g hg hu
  have : w.heap.size = g := by simpa [Value.ownBlock] using hg
  have := (h.lt g hu).2
  omega
theorem Apart.out {w : World} {base size n : Nat} {e : TypeId} {u v : Value} {xs : List Value} (h : w.ownsRow base e size u n xs) (hv : ∀ g, v.ownBlock = some g → w.heap.size ≤ g) : Apart v u := by
  intro g hg hu
  have := hv g hg
  have := (h.lt g hu).2
  omega


theorem firsts_wf {w : World} {B : Nat} {l S : List Kd} (hw : ∀ x ∈ l, KHas w B x ∧ KeWf x.k) (h : Firsts Prod.fst (l.map cont) (S.map cont)) : ∀ x ∈ S, KeWf x.k := fun x hx => by
  have h1 := first_mem ((h.2 (cont x)).1 (List.mem_map_of_mem hx))
  obtain ⟨u, hu, e⟩ := List.mem_map.1 h1
  have e2 : u.k = x.k := congrArg Prod.fst e
  rw [← e2]
  exact (hw u hu).2
theorem gone_mem2 {g : Gn} {c d : List Gn} (h : g ∈ (d ++ c).foldl putG []) : g ∈ c ++ d := by
  rw [fold_memG] at h
  simp only [List.not_mem_nil, false_or, List.mem_append] at h ⊢
  exact h.symm
set_option maxRecDepth 100000 in
set_option maxHeartbeats 8000000 in
theorem together_walk (w : World) (H : Int) (A RA GA : Option Addr) (n c rn rc gn gc : Nat) (ex : List Int) (P : List Pc) (G : List Pg) (hl : ex.length = n) (hnc : n ≤ c) (hc : c ≤ maxLen) (hr : Row w w.heap.size A (ints ex)) (hP : P.length = rn) (hrr : Row w w.heap.size RA (P.map fun p => Value.slice p.A p.n p.c)) (hp : ∀ p ∈ P, PcHas w p)
    (hG : G.length = gn) (hgr : Row w w.heap.size GA (G.map fun p => Value.slice p.A p.n p.c)) (hg : ∀ p ∈ G, PgHas w p) :
    Calls Try.prog 4 #[.agg #[.int .i64 H, .slice A n c], .slice RA rn rc, .slice GA gn gc] w fun e w' => e = .returned (.bool true) ∧ Below w.heap.size w w' := by
  obtain ⟨m2, hm2⟩ : ∃ k, min n 30 = k := ⟨_, rfl⟩
  have HEL := hide (show (ex.take 30).length = m2 by rw [List.length_take, hl, ← hm2]; omega)
  have hr2' := hr.take 30
  rw [ints_take] at hr2'
  generalize ex.take 30 = E at HEL hr2'
  have HER := hide hr2'
  have hm30 : m2 ≤ 30 := by omega
  have hss := hide (fun (W : World) => short_any W H A n c hnc hc)
  rw [hm2] at hss
  clear hl hr hr2' hm2
  obtain ⟨X, hX, bX, hlX⟩ : ∃ X, w.alloc (.cells #[.int .i64 H, .slice A n c] 38) = X ∧ Box X w.heap.size #[.int .i64 H, .slice A n c] 38 ∧ Le w X := ⟨_, rfl, box_new _ _ _, (Below.refl _ _).alloc (Nat.le_refl _) _⟩
  have HX := hide hX
  have BX := hide bX
  have HLX := hide hlX
  have hsh := hide (shown_any X)
  clear hX bX hlX
  by_cases hr2 : rn < 2
  · have hd : decide ((rn : Int) < 2) = true := decide_eq_true (by omega)
    clear hP hrr hp hG hgr hg
    go_enter Try.func4, Try.ntmps4
    go_upto_region 1 with fail
    rw [HX.out]
    go_wp2_with fail
    refine hsh.out.mono ?_
    rintro e w1 ⟨rfl, hb⟩
    have HL1 := hide (HLX.out.trans hb)
    have BX1 := hide (BX.out.below hb BX.out.lt)
    clear hb hsh
    have s0 := BX1.out.cell 0 (.int .i64 H) rfl
    have s1 := BX1.out.cell 1 (.slice A n c) rfl
    go_wp2_with fail
    refine (hss.out w1).mono ?_
    rintro e w2 ⟨rfl, hb⟩
    have HL2 := hide (HL1.out.trans hb)
    have BX2 := hide (BX1.out.below hb BX1.out.lt)
    clear hb s0 s1 hss
    go_upto_region 3 with (refine wpList_store_row rfl 38 _ _ rfl w.heap.size #[.int .i64 H, .slice A m2 c] rfl rfl 38 _ BX2.out (by kernel_rfl) rfl (by simp [Value.oneCell']) ?_)
    obtain ⟨Z, hZ, bZ, hlZ⟩ : ∃ Z, w2.setRow w.heap.size #[.int .i64 H, .slice A m2 c] = Z ∧ Box Z w.heap.size #[.int .i64 H, .slice A m2 c] 38 ∧ Le w Z := ⟨_, rfl, setRow_heap _ _ _ _ _ _ BX2.out, below_setRow HL2.out (Nat.le_refl _) _⟩
    rw [hZ]
    have BZ := hide bZ
    have HLZ := hide hlZ
    clear hZ bZ hlZ
    go_wp2_with fail
    go_ret
    exact ⟨rfl, HLZ.out⟩
  · have hd : decide ((rn : Int) < 2) = false := decide_eq_false (by omega)
    by_cases hg2 : gn < 2
    · have hd2 : decide ((gn : Int) < 2) = true := decide_eq_true (by omega)
      clear hP hrr hp hG hgr hg
      go_enter Try.func4, Try.ntmps4
      go_upto_region 1 with fail
      rw [HX.out]
      go_wp2_with fail
      refine hsh.out.mono ?_
      rintro e w1 ⟨rfl, hb⟩
      have HL1 := hide (HLX.out.trans hb)
      have BX1 := hide (BX.out.below hb BX.out.lt)
      clear hb hsh
      have s0 := BX1.out.cell 0 (.int .i64 H) rfl
      have s1 := BX1.out.cell 1 (.slice A n c) rfl
      go_wp2_with fail
      refine (hss.out w1).mono ?_
      rintro e w2 ⟨rfl, hb⟩
      have HL2 := hide (HL1.out.trans hb)
      have BX2 := hide (BX1.out.below hb BX1.out.lt)
      clear hb s0 s1 hss
      go_upto_region 3 with (refine wpList_store_row rfl 38 _ _ rfl w.heap.size #[.int .i64 H, .slice A m2 c] rfl rfl 38 _ BX2.out (by kernel_rfl) rfl (by simp [Value.oneCell']) ?_)
      obtain ⟨Z, hZ, bZ, hlZ⟩ : ∃ Z, w2.setRow w.heap.size #[.int .i64 H, .slice A m2 c] = Z ∧ Box Z w.heap.size #[.int .i64 H, .slice A m2 c] 38 ∧ Le w Z := ⟨_, rfl, setRow_heap _ _ _ _ _ _ BX2.out, below_setRow HL2.out (Nat.le_refl _) _⟩
      rw [hZ]
      have BZ := hide bZ
      have HLZ := hide hlZ
      clear hZ bZ hlZ
      go_wp2_with fail
      go_ret
      exact ⟨rfl, HLZ.out⟩
    · have hd2 : decide ((gn : Int) < 2) = false := decide_eq_false (by omega)
      obtain ⟨p0, hp0⟩ : ∃ p, P[0]? = some p := ⟨_, List.getElem?_eq_getElem (by omega)⟩
      obtain ⟨p1, hp1⟩ : ∃ p, P[1]? = some p := ⟨_, List.getElem?_eq_getElem (by omega)⟩
      obtain ⟨q0, hq0⟩ : ∃ p, G[0]? = some p := ⟨_, List.getElem?_eq_getElem (by omega)⟩
      obtain ⟨q1, hq1⟩ : ∃ p, G[1]? = some p := ⟨_, List.getElem?_eq_getElem (by omega)⟩
      obtain ⟨bR, oR, rfl, hbR, r0⟩ := hrr.at_ (j := 0) (u := .slice p0.A p0.n p0.c) (by rw [List.getElem?_map, hp0]; rfl)
      obtain ⟨b', o', eR, -, r1⟩ := hrr.at_ (j := 1) (u := .slice p1.A p1.n p1.c) (by rw [List.getElem?_map, hp1]; rfl)
      simp only [Option.some.injEq, Addr.mk.injEq, and_true] at eR
      obtain ⟨rfl, rfl⟩ := eR
      obtain ⟨bG, oG, rfl, hbG, g0⟩ := hgr.at_ (j := 0) (u := .slice q0.A q0.n q0.c) (by rw [List.getElem?_map, hq0]; rfl)
      obtain ⟨b', o', eG, -, g1⟩ := hgr.at_ (j := 1) (u := .slice q1.A q1.n q1.c) (by rw [List.getElem?_map, hq1]; rfl)
      simp only [Option.some.injEq, Addr.mk.injEq, and_true] at eG
      obtain ⟨rfl, rfl⟩ := eG
      rw [Nat.add_zero] at r0 g0
      obtain ⟨a0, a1, a2, a3, a4⟩ := hp p0 (List.mem_of_getElem? hp0)
      obtain ⟨b0, b1, b2, b3, b4⟩ := hp p1 (List.mem_of_getElem? hp1)
      obtain ⟨c0, c1, c2, c3, c4⟩ := hg q0 (List.mem_of_getElem? hq0)
      obtain ⟨d0, d1, d2, d3, d4⟩ := hg q1 (List.mem_of_getElem? hq1)
      obtain ⟨k0, hk0⟩ : ∃ k, min p0.n 60 = k := ⟨_, rfl⟩
      obtain ⟨k1, hk1⟩ : ∃ k, min p1.n 60 = k := ⟨_, rfl⟩
      obtain ⟨m0, hm0⟩ : ∃ k, min q0.n 60 = k := ⟨_, rfl⟩
      obtain ⟨m1, hm1⟩ : ∃ k, min q1.n 60 = k := ⟨_, rfl⟩
      have HA := hide (show (p0.l.take 60).length = k0 by rw [List.length_take, a0, ← hk0]; omega)
      have HB := hide (show (p1.l.take 60).length = k1 by rw [List.length_take, b0, ← hk1]; omega)
      have HC := hide (show (q0.l.take 60).length = m0 by rw [List.length_take, c0, ← hm0]; omega)
      have HD := hide (show (q1.l.take 60).length = m1 by rw [List.length_take, d0, ← hm1]; omega)
      have ra := a3.take (60 * 4)
      have rb := b3.take (60 * 4)
      have rcx := c3.take (60 * 4)
      have rd := d3.take (60 * 4)
      rw [kcs_take] at ra rb
      rw [gcs_take] at rcx rd
      have HKA := hide (show ∀ x ∈ p0.l.take 60, KHas w w.heap.size x from fun x hx => (a4 x (List.mem_of_mem_take hx)).1)
      have HKB := hide (show ∀ x ∈ p1.l.take 60, KHas w w.heap.size x from fun x hx => (b4 x (List.mem_of_mem_take hx)).1)
      have hf0 := hide (fun (W : World) => few_any W p0.A p0.n p0.c a1 a2)
      have hf1 := hide (fun (W : World) => few_any W p1.A p1.n p1.c b1 b2)
      have hl0 := hide (fun (W : World) => less_any W q0.A q0.n q0.c c1 c2)
      have hl1 := hide (fun (W : World) => less_any W q1.A q1.n q1.c d1 d2)
      rw [hk0] at hf0
      rw [hk1] at hf1
      rw [hm0] at hl0
      rw [hm1] at hl1
      have hk0' : k0 ≤ 60 := by omega
      have hk1' : k1 ≤ 60 := by omega
      have hm0' : m0 ≤ 60 := by omega
      have hm1' : m1 ≤ 60 := by omega
      have HWAB : ∀ x ∈ p0.l.take 60 ++ p1.l.take 60, KHas w w.heap.size x ∧ KeWf x.k := fun x hx => by
        rcases List.mem_append.1 hx with h | h
        · exact a4 x (List.mem_of_mem_take h)
        · exact b4 x (List.mem_of_mem_take h)
      have HWCD : ∀ x ∈ q0.l.take 60 ++ q1.l.take 60, KeWf x.k := fun x hx => by
        rcases List.mem_append.1 hx with h | h
        · exact c4 x (List.mem_of_mem_take h)
        · exact d4 x (List.mem_of_mem_take h)
      generalize p0.l.take 60 = la at HA ra HKA HWAB
      generalize p1.l.take 60 = lb at HB rb HKB HWAB
      generalize q0.l.take 60 = lc at HC rcx HWCD
      generalize q1.l.take 60 = ld at HD rd HWCD
      have HWA := hide (show ∀ x ∈ la ++ lb, KHas w w.heap.size x ∧ KeWf x.k from HWAB)
      have HWC := hide (show ∀ x ∈ lc ++ ld, KeWf x.k from HWCD)
      have HRA := hide ra
      have HRB := hide rb
      have HRC := hide rcx
      have HRD := hide rd
      have HR0 := hide r0
      have HR1 := hide r1
      have HG0 := hide g0
      have HG1 := hide g1
      have hrI0 : (0 : Int) < rn := by omega
      have hrI1 : (1 : Int) < rn := by omega
      have hgI0 : (0 : Int) < gn := by omega
      have hgI1 : (1 : Int) < gn := by omega
      have hn0 : 0 < rn := by omega
      have hn1 : 1 < rn := by omega
      have hn2 : 0 < gn := by omega
      have hn3 : 1 < gn := by omega
      clear HWAB HWCD hP hrr hp hG hgr hg hp0 hp1 hq0 hq1 a0 a1 a2 a3 a4 b0 b1 b2 b3 b4 c0 c1 c2 c3 c4 d0 d1 d2 d3 d4 hk0 hk1 hm0 hm1 ra rb rcx rd r0 r1 g0 g1
      go_enter Try.func4, Try.ntmps4
      go_upto_region 1 with fail
      rw [HX.out]
      go_wp2_with fail
      refine hsh.out.mono ?_
      rintro e w1 ⟨rfl, hb⟩
      have HL1 := hide (HLX.out.trans hb)
      have BX1 := hide (BX.out.below hb BX.out.lt)
      clear hb hsh
      have s0 := BX1.out.cell 0 (.int .i64 H) rfl
      have s1 := BX1.out.cell 1 (.slice A n c) rfl
      go_wp2_with fail
      refine (hss.out w1).mono ?_
      rintro e w2 ⟨rfl, hb⟩
      have HL2 := hide (HL1.out.trans hb)
      have BX2 := hide (BX1.out.below hb BX1.out.lt)
      clear hb s0 s1 hss
      go_upto_region 3 with (refine wpList_store_row rfl 38 _ _ rfl w.heap.size #[.int .i64 H, .slice A m2 c] rfl rfl 38 _ BX2.out (by kernel_rfl) rfl (by simp [Value.oneCell']) ?_)
      obtain ⟨Z, hZ, bZ, hlZ⟩ : ∃ Z, w2.setRow w.heap.size #[.int .i64 H, .slice A m2 c] = Z ∧ Box Z w.heap.size #[.int .i64 H, .slice A m2 c] 38 ∧ Le w Z := ⟨_, rfl, setRow_heap _ _ _ _ _ _ BX2.out, below_setRow HL2.out (Nat.le_refl _) _⟩
      rw [hZ]
      have BZ := hide bZ
      have HLZ := hide hlZ
      clear hZ bZ hlZ
      have r0 : Z.cell? ⟨bR, oR, none⟩ = _ := (HLZ.out.cell (p := ⟨bR, oR, none⟩) hbR).trans HR0.out
      have r1 : Z.cell? ⟨bR, oR + 1, none⟩ = _ := (HLZ.out.cell (p := ⟨bR, oR + 1, none⟩) hbR).trans HR1.out
      have g0 : Z.cell? ⟨bG, oG, none⟩ = _ := (HLZ.out.cell (p := ⟨bG, oG, none⟩) hbG).trans HG0.out
      have g1 : Z.cell? ⟨bG, oG + 1, none⟩ = _ := (HLZ.out.cell (p := ⟨bG, oG + 1, none⟩) hbG).trans HG1.out
      go_wp2_with fail
      refine (hf0.out _).mono ?_
      rintro e w' ⟨rfl, rfl⟩
      go_wp2_with fail
      refine (hf1.out _).mono ?_
      rintro e w' ⟨rfl, rfl⟩
      go_wp2_with fail
      refine (hl0.out _).mono ?_
      rintro e w' ⟨rfl, rfl⟩
      go_wp2_with fail
      refine (hl1.out _).mono ?_
      rintro e w' ⟨rfl, rfl⟩
      clear r0 r1 g0 g1
      go_upto_region 9 with fail
      obtain ⟨V, hV⟩ : ∃ V, Z.drew = V := ⟨_, rfl⟩
      have HWV := hide (show Le w V by rw [← hV]; exact HLZ.out.drew)
      have HLVV := hide (Le.refl V)
      have BV := hide (show Box V w.heap.size #[.int .i64 H, .slice A m2 c] 38 by rw [← hV]; exact BZ.out.drew)
      have HV := hide hV
      have x0 : ∀ W, Le V W → W.cell? ⟨w.heap.size, 0, none⟩ = some (.int .i64 H) := fun W h => BV.out.later 0 _ rfl W h
      have x1 : ∀ W, Le V W → W.cell? ⟨w.heap.size, 1, none⟩ = some (.slice A m2 c) := fun W h => BV.out.later 1 _ rfl W h
      have HTA := hide (show (kcs la).length = k0 * 4 by rw [kcs_len, HA.out])
      have HTB := hide (show (kcs lb).length = k1 * 4 by rw [kcs_len, HB.out])
      have HTC := hide (show (gcs lc).length = m0 * 4 by rw [gcs_len, HC.out])
      have HTD := hide (show (gcs ld).length = m1 * 4 by rw [gcs_len, HD.out])
      have HXA := hide (fun (W : World) (h : Le V W) => (HWV.out.trans h).row HRA.out (Nat.le_refl _))
      have HXB := hide (fun (W : World) (h : Le V W) => (HWV.out.trans h).row HRB.out (Nat.le_refl _))
      have HXC := hide (fun (W : World) (h : Le V W) => (HWV.out.trans h).row HRC.out (Nat.le_refl _))
      have HXD := hide (fun (W : World) (h : Le V W) => (HWV.out.trans h).row HRD.out (Nat.le_refl _))
      have HOF := hide (fun (W : World) (h : Le w W) (A1 : Option Addr) (e1 : Nat) (hr : Row W W.heap.size A1 (kcs (la ++ lb))) (A2 : Option Addr) (e2 : Nat) (hg : Row W W.heap.size A2 (gcs (lc ++ ld))) => of_any W H A m2 c E HEL.out (by omega) ((h.row HER.out (Nat.le_refl _)).more h.size) A1 (k0 + k1) e1 (la ++ lb) (by rw [List.length_append, HA.out, HB.out]) (by omega) hr (fun x hx => ⟨((HWA.out x hx).1).on h (Nat.le_refl _) h.size, (HWA.out x hx).2⟩) A2 (m0 + m1) e2 (lc ++ ld) (by rw [List.length_append, HC.out, HD.out]) (by omega) hg HWC.out)
      clear hV
      go_cut [12] (fun s wx => ∃ (A5 : Option Addr) (n5 c5 : Nat) (S : List Kd), s = .slice A5 n5 c5 ∧ Hid (S.length = n5) ∧ n5 ≤ 120 ∧ Hid (Firsts Prod.fst (((la ++ lb).filter (seen H E (lc ++ ld))).map cont) (S.map cont)) ∧ Hid (wx.ownsRow V.heap.size 47 4 (.slice A5 n5 c5) n5 (kcs S)) ∧ Hid (∀ x ∈ S, KHas wx wx.heap.size x) ∧ Hid (Le V wx))
      case first =>
        refine region_at (Le V) 12 (by kernel_rfl) (by rw [HV.out]; exact Le.refl _) ?_
        rw [HV.out]
        refine at_seg [(0, 0), (2, 1), (4, 1), (7, 1), (9, 1)] 8 (by rfl) (by kernel_rfl) ?_
        simp only [opsPiG, List.filterMap_cons, List.filterMap_nil, List.getElem?_toArray, List.getElem?_cons_zero, List.getElem?_cons_succ, Option.map_some]
        repeat (first | (refine pig_any (v := _) rfl (fun W' => by go_simp <;> exact rfl) ?_; simp only [Act.put, List.setIfInBounds_toArray, List.set_cons_zero, List.set_cons_succ]) | (refine pig_take (v := _) rfl (fun W' hW' => by go_simp <;> exact rfl) ?_; simp only [Act.put, List.setIfInBounds_toArray, List.set_cons_zero, List.set_cons_succ]))
        refine pig_done ?_
        clear x0 x1
        show At _ _ _ (Le V) 12 8 _ _ V
        refine at_two (i := 1) (j := 6) (fuel := 7) (by rfl) (by rfl) (by kernel_rfl) ?_ ?_
        · go_wp2_with fail
          obtain ⟨U1, hW, hZ, hL⟩ : ∃ X, V.alloc (.cells #[] 47) = X ∧ X.ownsRow V.heap.size 47 4 (.slice (some ⟨V.heap.size, 0, none⟩) 0 0) 0 [] ∧ Le V X := ⟨_, rfl, own_zero V _ HLVV.out.size _ _, (Below.refl _ _).alloc (Nat.le_refl _) _⟩
          rw [hW]
          have HOK1 := hide hZ
          have HL1 := hide (HLVV.out.trans hL)
          clear hW hZ hL
          refine ⟨HL1.out, ?_⟩
          refine at_two (i := 3) (j := 6) (fuel := 6) (by rfl) (by rfl) (by kernel_rfl) ?_ ?_
          · show wpList _ _ _ ((Oper.mk (some 48) _ _ _ _ _) :: _) _ _
            go_wp2_with (at_builtin; refine wpList_append_row _ rfl (.tmp 46) (.tmp 47) 25 rfl V.heap.size 47 infoK Try.underlying25 rfl (by omega) (.slice (some ⟨V.heap.size, 0, none⟩) 0 0) 0 [] rfl HOK1.out _ p0.A k0 p0.c (kcs la) rfl HTA.out (HXA.out _ HL1.out) kcs_one (by simp only [maxLen]; omega) (by omega) HL1.out.size ?_; intro v' U2 hown' hg hat; obtain ⟨A2, e2, rfl, -, -⟩ := own_form hown'; have HOX2 := hide hown'; have HGX2 := hide hg; clear hown' hg hat)
            have HL2 := hide (show Le V U2 from Below.trans HL1.out (le_own HOK1.out HGX2.out HL1.out.size))
            have HOK2 := hide (show U2.ownsRow V.heap.size 47 4 (.slice A2 (k0) e2) (k0) (kcs la) by have := HOX2.out; simpa using this)
            clear HOX2 HGX2
            refine ⟨HL2.out, ?_⟩
            refine at_two (i := 5) (j := 6) (fuel := 5) (by rfl) (by rfl) (by kernel_rfl) ?_ ?_
            · show wpList _ _ _ ((Oper.mk (some 50) _ _ _ _ _) :: _) _ _
              go_wp2_with (at_builtin; refine wpList_append_row _ rfl (.tmp 48) (.tmp 49) 25 rfl V.heap.size 47 infoK Try.underlying25 rfl (by omega) (.slice A2 (k0) e2) k0 (kcs la) rfl HOK2.out _ p1.A k1 p1.c (kcs lb) rfl HTB.out (HXB.out _ HL2.out) kcs_one (by simp only [maxLen]; omega) (by omega) HL2.out.size ?_; intro v' U3 hown' hg hat; obtain ⟨A3, e3, rfl, -, -⟩ := own_form hown'; have HOX3 := hide hown'; have HGX3 := hide hg; clear hown' hg hat)
              have HL3 := hide (show Le V U3 from Below.trans HL2.out (le_own HOK2.out HGX3.out HL2.out.size))
              have HOK3 := hide (show U3.ownsRow V.heap.size 47 4 (.slice A3 ((k0 + k1)) e3) ((k0 + k1)) ((kcs la) ++ kcs lb) by have := HOX3.out; simpa using this)
              clear HOX3 HGX3
              refine ⟨HL3.out, ?_⟩
              refine at_seg [(6, 2), (8, 2), (10, 2), (11, 2), (12, 3)] 0 (by rfl) (by kernel_rfl) ?_
              simp only [opsPiG, List.filterMap_cons, List.filterMap_nil, List.getElem?_toArray, List.getElem?_cons_zero, List.getElem?_cons_succ, Option.map_some]
              refine pig_run ?_
              go_wp2_with fail
              obtain ⟨U4, hW, hZ, hL⟩ : ∃ X, U3.alloc (.cells #[] 52) = X ∧ X.ownsRow V.heap.size 52 4 (.slice (some ⟨U3.heap.size, 0, none⟩) 0 0) 0 [] ∧ Le U3 X := ⟨_, rfl, own_zero U3 _ HL3.out.size _ _, (Below.refl _ _).alloc (Nat.le_refl _) _⟩
              rw [hW]
              have HOG4 := hide hZ
              have HL4 := hide (HL3.out.trans hL)
              have HOK4 := hide (own_below HOK3.out hL)
              have HAP4 := hide (show Apart (.slice A3 ((k0 + k1)) e3) (.slice (some ⟨U3.heap.size, 0, none⟩) 0 0) from (Apart.fresh HOK3.out).symm)
              clear hW hZ hL
              refine ⟨HL4.out, ?_⟩
              refine pig_run ?_
              go_wp2_with (at_builtin; refine wpList_append_row _ rfl (.tmp 51) (.tmp 52) 27 rfl V.heap.size 52 infoG Try.underlying27 rfl (by omega) (.slice (some ⟨U3.heap.size, 0, none⟩) 0 0) 0 [] rfl HOG4.out _ q0.A m0 q0.c (gcs lc) rfl HTC.out (HXC.out _ HL4.out) gcs_one (by simp only [maxLen]; omega) (by omega) HL4.out.size ?_; intro v' U5 hown' hg hat; have hap := (Apart.grown HOK4.out HAP4.out.symm hat).symm; have HOK5 := hide (Apart.kept HOK4.out HAP4.out.symm hg); obtain ⟨A5, e5, rfl, -, -⟩ := own_form hown'; have HOX5 := hide hown'; have HGX5 := hide hg; clear hown' hg hat)
              have HL5 := hide (show Le V U5 from Below.trans HL4.out (le_own HOG4.out HGX5.out HL4.out.size))
              have HOG5 := hide (show U5.ownsRow V.heap.size 52 4 (.slice A5 (m0) e5) (m0) (gcs lc) by have := HOX5.out; simpa using this)
              have HAP5 := hide (show Apart (.slice A3 ((k0 + k1)) e3) (.slice A5 (m0) e5) by simpa using hap)
              clear hap
              clear HOX5 HGX5
              refine ⟨HL5.out, ?_⟩
              refine pig_run ?_
              go_wp2_with (at_builtin; refine wpList_append_row _ rfl (.tmp 53) (.tmp 54) 27 rfl V.heap.size 52 infoG Try.underlying27 rfl (by omega) (.slice A5 (m0) e5) m0 (gcs lc) rfl HOG5.out _ q1.A m1 q1.c (gcs ld) rfl HTD.out (HXD.out _ HL5.out) gcs_one (by simp only [maxLen]; omega) (by omega) HL5.out.size ?_; intro v' U6 hown' hg hat; have hap := (Apart.grown HOK5.out HAP5.out.symm hat).symm; have HOK6 := hide (Apart.kept HOK5.out HAP5.out.symm hg); obtain ⟨A6, e6, rfl, -, -⟩ := own_form hown'; have HOX6 := hide hown'; have HGX6 := hide hg; clear hown' hg hat)
              have HL6 := hide (show Le V U6 from Below.trans HL5.out (le_own HOG5.out HGX6.out HL5.out.size))
              have HOG6 := hide (show U6.ownsRow V.heap.size 52 4 (.slice A6 ((m0 + m1)) e6) ((m0 + m1)) ((gcs lc) ++ gcs ld) by have := HOX6.out; simpa using this)
              have HAP6 := hide (show Apart (.slice A3 ((k0 + k1)) e3) (.slice A6 ((m0 + m1)) e6) by simpa using hap)
              clear hap
              clear HOX6 HGX6
              refine ⟨HL6.out, ?_⟩
              refine pig_run ?_
              go_wp2_with fail
              refine (HOF.out U6 (HWV.out.trans HL6.out) A3 e3 (by rw [kcs_append]; exact Row.of_own HOK6.out) A6 e6 (by rw [gcs_append]; exact Row.of_own HOG6.out)).mono ?_
              rintro e w5 ⟨A5, n5, c5, S, rfl, h1, h2, h3, h4, h5, h6⟩
              have H1 := hide h1
              have H3 := hide h3
              have H4 := hide (own_more h4 HL6.out.size)
              have H5 := hide h5
              have HL5 := hide (HL6.out.trans h6)
              clear h1 h3 h4 h5 h6
              go_wp2_with fail
              refine ⟨HL5.out, ?_⟩
              refine pig_late ?_
              go_wp2_with fail
              refine pig_done ?_
              refine at_done (by kernel_rfl) ?_ 0
              go_wp2_with fail
              go_meet
              exact ⟨A5, n5, c5, S, rfl, H1, h2, H3, H4, H5, HL5⟩
            · go_wp2_with fail
              obtain ⟨U3, hW, hZ, hL⟩ : ∃ X, U2.alloc (.cells #[] 52) = X ∧ X.ownsRow V.heap.size 52 4 (.slice (some ⟨U2.heap.size, 0, none⟩) 0 0) 0 [] ∧ Le U2 X := ⟨_, rfl, own_zero U2 _ HL2.out.size _ _, (Below.refl _ _).alloc (Nat.le_refl _) _⟩
              rw [hW]
              have HOG3 := hide hZ
              have HL3 := hide (HL2.out.trans hL)
              have HOK3 := hide (own_below HOK2.out hL)
              have HAP3 := hide (show Apart (.slice A2 (k0) e2) (.slice (some ⟨U2.heap.size, 0, none⟩) 0 0) from (Apart.fresh HOK2.out).symm)
              clear hW hZ hL
              refine ⟨HL3.out, ?_⟩
              refine at_seg [(5, 2), (8, 2), (10, 2), (11, 2), (12, 3)] 0 (by rfl) (by kernel_rfl) ?_
              simp only [opsPiG, List.filterMap_cons, List.filterMap_nil, List.getElem?_toArray, List.getElem?_cons_zero, List.getElem?_cons_succ, Option.map_some]
              refine pig_run ?_
              go_wp2_with (at_builtin; refine wpList_append_row _ rfl (.tmp 48) (.tmp 49) 25 rfl V.heap.size 47 infoK Try.underlying25 rfl (by omega) (.slice A2 (k0) e2) k0 (kcs la) rfl HOK3.out _ p1.A k1 p1.c (kcs lb) rfl HTB.out (HXB.out _ HL3.out) kcs_one (by simp only [maxLen]; omega) (by omega) HL3.out.size ?_; intro v' U4 hown' hg hat; have hap := Apart.grown HOG3.out HAP3.out hat; have HOG4 := hide (Apart.kept HOG3.out HAP3.out hg); obtain ⟨A4, e4, rfl, -, -⟩ := own_form hown'; have HOX4 := hide hown'; have HGX4 := hide hg; clear hown' hg hat)
              have HL4 := hide (show Le V U4 from Below.trans HL3.out (le_own HOK3.out HGX4.out HL3.out.size))
              have HOK4 := hide (show U4.ownsRow V.heap.size 47 4 (.slice A4 ((k0 + k1)) e4) ((k0 + k1)) ((kcs la) ++ kcs lb) by have := HOX4.out; simpa using this)
              have HAP4 := hide (show Apart (.slice A4 ((k0 + k1)) e4) (.slice (some ⟨U2.heap.size, 0, none⟩) 0 0) by simpa using hap)
              clear hap
              clear HOX4 HGX4
              refine ⟨HL4.out, ?_⟩
              refine pig_run ?_
              go_wp2_with (at_builtin; refine wpList_append_row _ rfl (.tmp 51) (.tmp 52) 27 rfl V.heap.size 52 infoG Try.underlying27 rfl (by omega) (.slice (some ⟨U2.heap.size, 0, none⟩) 0 0) 0 [] rfl HOG4.out _ q0.A m0 q0.c (gcs lc) rfl HTC.out (HXC.out _ HL4.out) gcs_one (by simp only [maxLen]; omega) (by omega) HL4.out.size ?_; intro v' U5 hown' hg hat; have hap := (Apart.grown HOK4.out HAP4.out.symm hat).symm; have HOK5 := hide (Apart.kept HOK4.out HAP4.out.symm hg); obtain ⟨A5, e5, rfl, -, -⟩ := own_form hown'; have HOX5 := hide hown'; have HGX5 := hide hg; clear hown' hg hat)
              have HL5 := hide (show Le V U5 from Below.trans HL4.out (le_own HOG4.out HGX5.out HL4.out.size))
              have HOG5 := hide (show U5.ownsRow V.heap.size 52 4 (.slice A5 (m0) e5) (m0) (gcs lc) by have := HOX5.out; simpa using this)
              have HAP5 := hide (show Apart (.slice A4 ((k0 + k1)) e4) (.slice A5 (m0) e5) by simpa using hap)
              clear hap
              clear HOX5 HGX5
              refine ⟨HL5.out, ?_⟩
              refine pig_run ?_
              go_wp2_with (at_builtin; refine wpList_append_row _ rfl (.tmp 53) (.tmp 54) 27 rfl V.heap.size 52 infoG Try.underlying27 rfl (by omega) (.slice A5 (m0) e5) m0 (gcs lc) rfl HOG5.out _ q1.A m1 q1.c (gcs ld) rfl HTD.out (HXD.out _ HL5.out) gcs_one (by simp only [maxLen]; omega) (by omega) HL5.out.size ?_; intro v' U6 hown' hg hat; have hap := (Apart.grown HOK5.out HAP5.out.symm hat).symm; have HOK6 := hide (Apart.kept HOK5.out HAP5.out.symm hg); obtain ⟨A6, e6, rfl, -, -⟩ := own_form hown'; have HOX6 := hide hown'; have HGX6 := hide hg; clear hown' hg hat)
              have HL6 := hide (show Le V U6 from Below.trans HL5.out (le_own HOG5.out HGX6.out HL5.out.size))
              have HOG6 := hide (show U6.ownsRow V.heap.size 52 4 (.slice A6 ((m0 + m1)) e6) ((m0 + m1)) ((gcs lc) ++ gcs ld) by have := HOX6.out; simpa using this)
              have HAP6 := hide (show Apart (.slice A4 ((k0 + k1)) e4) (.slice A6 ((m0 + m1)) e6) by simpa using hap)
              clear hap
              clear HOX6 HGX6
              refine ⟨HL6.out, ?_⟩
              refine pig_run ?_
              go_wp2_with fail
              refine (HOF.out U6 (HWV.out.trans HL6.out) A4 e4 (by rw [kcs_append]; exact Row.of_own HOK6.out) A6 e6 (by rw [gcs_append]; exact Row.of_own HOG6.out)).mono ?_
              rintro e w5 ⟨A5, n5, c5, S, rfl, h1, h2, h3, h4, h5, h6⟩
              have H1 := hide h1
              have H3 := hide h3
              have H4 := hide (own_more h4 HL6.out.size)
              have H5 := hide h5
              have HL5 := hide (HL6.out.trans h6)
              clear h1 h3 h4 h5 h6
              go_wp2_with fail
              refine ⟨HL5.out, ?_⟩
              refine pig_late ?_
              go_wp2_with fail
              refine pig_done ?_
              refine at_done (by kernel_rfl) ?_ 0
              go_wp2_with fail
              go_meet
              exact ⟨A5, n5, c5, S, rfl, H1, h2, H3, H4, H5, HL5⟩
          · go_wp2_with fail
            obtain ⟨U2, hW, hZ, hL⟩ : ∃ X, U1.alloc (.cells #[] 52) = X ∧ X.ownsRow V.heap.size 52 4 (.slice (some ⟨U1.heap.size, 0, none⟩) 0 0) 0 [] ∧ Le U1 X := ⟨_, rfl, own_zero U1 _ HL1.out.size _ _, (Below.refl _ _).alloc (Nat.le_refl _) _⟩
            rw [hW]
            have HOG2 := hide hZ
            have HL2 := hide (HL1.out.trans hL)
            have HOK2 := hide (own_below HOK1.out hL)
            have HAP2 := hide (show Apart (.slice (some ⟨V.heap.size, 0, none⟩) 0 0) (.slice (some ⟨U1.heap.size, 0, none⟩) 0 0) from (Apart.fresh HOK1.out).symm)
            clear hW hZ hL
            refine ⟨HL2.out, ?_⟩
            refine at_seg [(3, 2), (5, 2), (8, 2), (10, 2), (11, 2), (12, 3)] 0 (by rfl) (by kernel_rfl) ?_
            simp only [opsPiG, List.filterMap_cons, List.filterMap_nil, List.getElem?_toArray, List.getElem?_cons_zero, List.getElem?_cons_succ, Option.map_some]
            refine pig_run ?_
            go_wp2_with (at_builtin; refine wpList_append_row _ rfl (.tmp 46) (.tmp 47) 25 rfl V.heap.size 47 infoK Try.underlying25 rfl (by omega) (.slice (some ⟨V.heap.size, 0, none⟩) 0 0) 0 [] rfl HOK2.out _ p0.A k0 p0.c (kcs la) rfl HTA.out (HXA.out _ HL2.out) kcs_one (by simp only [maxLen]; omega) (by omega) HL2.out.size ?_; intro v' U3 hown' hg hat; have hap := Apart.grown HOG2.out HAP2.out hat; have HOG3 := hide (Apart.kept HOG2.out HAP2.out hg); obtain ⟨A3, e3, rfl, -, -⟩ := own_form hown'; have HOX3 := hide hown'; have HGX3 := hide hg; clear hown' hg hat)
            have HL3 := hide (show Le V U3 from Below.trans HL2.out (le_own HOK2.out HGX3.out HL2.out.size))
            have HOK3 := hide (show U3.ownsRow V.heap.size 47 4 (.slice A3 (k0) e3) (k0) (kcs la) by have := HOX3.out; simpa using this)
            have HAP3 := hide (show Apart (.slice A3 (k0) e3) (.slice (some ⟨U1.heap.size, 0, none⟩) 0 0) by simpa using hap)
            clear hap
            clear HOX3 HGX3
            refine ⟨HL3.out, ?_⟩
            refine pig_run ?_
            go_wp2_with (at_builtin; refine wpList_append_row _ rfl (.tmp 48) (.tmp 49) 25 rfl V.heap.size 47 infoK Try.underlying25 rfl (by omega) (.slice A3 (k0) e3) k0 (kcs la) rfl HOK3.out _ p1.A k1 p1.c (kcs lb) rfl HTB.out (HXB.out _ HL3.out) kcs_one (by simp only [maxLen]; omega) (by omega) HL3.out.size ?_; intro v' U4 hown' hg hat; have hap := Apart.grown HOG3.out HAP3.out hat; have HOG4 := hide (Apart.kept HOG3.out HAP3.out hg); obtain ⟨A4, e4, rfl, -, -⟩ := own_form hown'; have HOX4 := hide hown'; have HGX4 := hide hg; clear hown' hg hat)
            have HL4 := hide (show Le V U4 from Below.trans HL3.out (le_own HOK3.out HGX4.out HL3.out.size))
            have HOK4 := hide (show U4.ownsRow V.heap.size 47 4 (.slice A4 ((k0 + k1)) e4) ((k0 + k1)) ((kcs la) ++ kcs lb) by have := HOX4.out; simpa using this)
            have HAP4 := hide (show Apart (.slice A4 ((k0 + k1)) e4) (.slice (some ⟨U1.heap.size, 0, none⟩) 0 0) by simpa using hap)
            clear hap
            clear HOX4 HGX4
            refine ⟨HL4.out, ?_⟩
            refine pig_run ?_
            go_wp2_with (at_builtin; refine wpList_append_row _ rfl (.tmp 51) (.tmp 52) 27 rfl V.heap.size 52 infoG Try.underlying27 rfl (by omega) (.slice (some ⟨U1.heap.size, 0, none⟩) 0 0) 0 [] rfl HOG4.out _ q0.A m0 q0.c (gcs lc) rfl HTC.out (HXC.out _ HL4.out) gcs_one (by simp only [maxLen]; omega) (by omega) HL4.out.size ?_; intro v' U5 hown' hg hat; have hap := (Apart.grown HOK4.out HAP4.out.symm hat).symm; have HOK5 := hide (Apart.kept HOK4.out HAP4.out.symm hg); obtain ⟨A5, e5, rfl, -, -⟩ := own_form hown'; have HOX5 := hide hown'; have HGX5 := hide hg; clear hown' hg hat)
            have HL5 := hide (show Le V U5 from Below.trans HL4.out (le_own HOG4.out HGX5.out HL4.out.size))
            have HOG5 := hide (show U5.ownsRow V.heap.size 52 4 (.slice A5 (m0) e5) (m0) (gcs lc) by have := HOX5.out; simpa using this)
            have HAP5 := hide (show Apart (.slice A4 ((k0 + k1)) e4) (.slice A5 (m0) e5) by simpa using hap)
            clear hap
            clear HOX5 HGX5
            refine ⟨HL5.out, ?_⟩
            refine pig_run ?_
            go_wp2_with (at_builtin; refine wpList_append_row _ rfl (.tmp 53) (.tmp 54) 27 rfl V.heap.size 52 infoG Try.underlying27 rfl (by omega) (.slice A5 (m0) e5) m0 (gcs lc) rfl HOG5.out _ q1.A m1 q1.c (gcs ld) rfl HTD.out (HXD.out _ HL5.out) gcs_one (by simp only [maxLen]; omega) (by omega) HL5.out.size ?_; intro v' U6 hown' hg hat; have hap := (Apart.grown HOK5.out HAP5.out.symm hat).symm; have HOK6 := hide (Apart.kept HOK5.out HAP5.out.symm hg); obtain ⟨A6, e6, rfl, -, -⟩ := own_form hown'; have HOX6 := hide hown'; have HGX6 := hide hg; clear hown' hg hat)
            have HL6 := hide (show Le V U6 from Below.trans HL5.out (le_own HOG5.out HGX6.out HL5.out.size))
            have HOG6 := hide (show U6.ownsRow V.heap.size 52 4 (.slice A6 ((m0 + m1)) e6) ((m0 + m1)) ((gcs lc) ++ gcs ld) by have := HOX6.out; simpa using this)
            have HAP6 := hide (show Apart (.slice A4 ((k0 + k1)) e4) (.slice A6 ((m0 + m1)) e6) by simpa using hap)
            clear hap
            clear HOX6 HGX6
            refine ⟨HL6.out, ?_⟩
            refine pig_run ?_
            go_wp2_with fail
            refine (HOF.out U6 (HWV.out.trans HL6.out) A4 e4 (by rw [kcs_append]; exact Row.of_own HOK6.out) A6 e6 (by rw [gcs_append]; exact Row.of_own HOG6.out)).mono ?_
            rintro e w5 ⟨A5, n5, c5, S, rfl, h1, h2, h3, h4, h5, h6⟩
            have H1 := hide h1
            have H3 := hide h3
            have H4 := hide (own_more h4 HL6.out.size)
            have H5 := hide h5
            have HL5 := hide (HL6.out.trans h6)
            clear h1 h3 h4 h5 h6
            go_wp2_with fail
            refine ⟨HL5.out, ?_⟩
            refine pig_late ?_
            go_wp2_with fail
            refine pig_done ?_
            refine at_done (by kernel_rfl) ?_ 0
            go_wp2_with fail
            go_meet
            exact ⟨A5, n5, c5, S, rfl, H1, h2, H3, H4, H5, HL5⟩
        · go_wp2_with fail
          obtain ⟨U1, hW, hZ, hL⟩ : ∃ X, V.alloc (.cells #[] 52) = X ∧ X.ownsRow V.heap.size 52 4 (.slice (some ⟨V.heap.size, 0, none⟩) 0 0) 0 [] ∧ Le V X := ⟨_, rfl, own_zero V _ HLVV.out.size _ _, (Below.refl _ _).alloc (Nat.le_refl _) _⟩
          rw [hW]
          have HOG1 := hide hZ
          have HL1 := hide (HLVV.out.trans hL)
          clear hW hZ hL
          refine ⟨HL1.out, ?_⟩
          refine at_seg [(1, 2), (3, 2), (5, 2), (8, 2), (10, 2), (11, 2), (12, 3)] 0 (by rfl) (by kernel_rfl) ?_
          simp only [opsPiG, List.filterMap_cons, List.filterMap_nil, List.getElem?_toArray, List.getElem?_cons_zero, List.getElem?_cons_succ, Option.map_some]
          refine pig_run ?_
          go_wp2_with fail
          obtain ⟨U2, hW, hZ, hL⟩ : ∃ X, U1.alloc (.cells #[] 47) = X ∧ X.ownsRow V.heap.size 47 4 (.slice (some ⟨U1.heap.size, 0, none⟩) 0 0) 0 [] ∧ Le U1 X := ⟨_, rfl, own_zero U1 _ HL1.out.size _ _, (Below.refl _ _).alloc (Nat.le_refl _) _⟩
          rw [hW]
          have HOK2 := hide hZ
          have HL2 := hide (HL1.out.trans hL)
          have HOG2 := hide (own_below HOG1.out hL)
          have HAP2 := hide (show Apart (.slice (some ⟨U1.heap.size, 0, none⟩) 0 0) (.slice (some ⟨V.heap.size, 0, none⟩) 0 0) from Apart.fresh HOG1.out)
          clear hW hZ hL
          refine ⟨HL2.out, ?_⟩
          refine pig_run ?_
          go_wp2_with (at_builtin; refine wpList_append_row _ rfl (.tmp 46) (.tmp 47) 25 rfl V.heap.size 47 infoK Try.underlying25 rfl (by omega) (.slice (some ⟨U1.heap.size, 0, none⟩) 0 0) 0 [] rfl HOK2.out _ p0.A k0 p0.c (kcs la) rfl HTA.out (HXA.out _ HL2.out) kcs_one (by simp only [maxLen]; omega) (by omega) HL2.out.size ?_; intro v' U3 hown' hg hat; have hap := Apart.grown HOG2.out HAP2.out hat; have HOG3 := hide (Apart.kept HOG2.out HAP2.out hg); obtain ⟨A3, e3, rfl, -, -⟩ := own_form hown'; have HOX3 := hide hown'; have HGX3 := hide hg; clear hown' hg hat)
          have HL3 := hide (show Le V U3 from Below.trans HL2.out (le_own HOK2.out HGX3.out HL2.out.size))
          have HOK3 := hide (show U3.ownsRow V.heap.size 47 4 (.slice A3 (k0) e3) (k0) (kcs la) by have := HOX3.out; simpa using this)
          have HAP3 := hide (show Apart (.slice A3 (k0) e3) (.slice (some ⟨V.heap.size, 0, none⟩) 0 0) by simpa using hap)
          clear hap
          clear HOX3 HGX3
          refine ⟨HL3.out, ?_⟩
          refine pig_run ?_
          go_wp2_with (at_builtin; refine wpList_append_row _ rfl (.tmp 48) (.tmp 49) 25 rfl V.heap.size 47 infoK Try.underlying25 rfl (by omega) (.slice A3 (k0) e3) k0 (kcs la) rfl HOK3.out _ p1.A k1 p1.c (kcs lb) rfl HTB.out (HXB.out _ HL3.out) kcs_one (by simp only [maxLen]; omega) (by omega) HL3.out.size ?_; intro v' U4 hown' hg hat; have hap := Apart.grown HOG3.out HAP3.out hat; have HOG4 := hide (Apart.kept HOG3.out HAP3.out hg); obtain ⟨A4, e4, rfl, -, -⟩ := own_form hown'; have HOX4 := hide hown'; have HGX4 := hide hg; clear hown' hg hat)
          have HL4 := hide (show Le V U4 from Below.trans HL3.out (le_own HOK3.out HGX4.out HL3.out.size))
          have HOK4 := hide (show U4.ownsRow V.heap.size 47 4 (.slice A4 ((k0 + k1)) e4) ((k0 + k1)) ((kcs la) ++ kcs lb) by have := HOX4.out; simpa using this)
          have HAP4 := hide (show Apart (.slice A4 ((k0 + k1)) e4) (.slice (some ⟨V.heap.size, 0, none⟩) 0 0) by simpa using hap)
          clear hap
          clear HOX4 HGX4
          refine ⟨HL4.out, ?_⟩
          refine pig_run ?_
          go_wp2_with (at_builtin; refine wpList_append_row _ rfl (.tmp 51) (.tmp 52) 27 rfl V.heap.size 52 infoG Try.underlying27 rfl (by omega) (.slice (some ⟨V.heap.size, 0, none⟩) 0 0) 0 [] rfl HOG4.out _ q0.A m0 q0.c (gcs lc) rfl HTC.out (HXC.out _ HL4.out) gcs_one (by simp only [maxLen]; omega) (by omega) HL4.out.size ?_; intro v' U5 hown' hg hat; have hap := (Apart.grown HOK4.out HAP4.out.symm hat).symm; have HOK5 := hide (Apart.kept HOK4.out HAP4.out.symm hg); obtain ⟨A5, e5, rfl, -, -⟩ := own_form hown'; have HOX5 := hide hown'; have HGX5 := hide hg; clear hown' hg hat)
          have HL5 := hide (show Le V U5 from Below.trans HL4.out (le_own HOG4.out HGX5.out HL4.out.size))
          have HOG5 := hide (show U5.ownsRow V.heap.size 52 4 (.slice A5 (m0) e5) (m0) (gcs lc) by have := HOX5.out; simpa using this)
          have HAP5 := hide (show Apart (.slice A4 ((k0 + k1)) e4) (.slice A5 (m0) e5) by simpa using hap)
          clear hap
          clear HOX5 HGX5
          refine ⟨HL5.out, ?_⟩
          refine pig_run ?_
          go_wp2_with (at_builtin; refine wpList_append_row _ rfl (.tmp 53) (.tmp 54) 27 rfl V.heap.size 52 infoG Try.underlying27 rfl (by omega) (.slice A5 (m0) e5) m0 (gcs lc) rfl HOG5.out _ q1.A m1 q1.c (gcs ld) rfl HTD.out (HXD.out _ HL5.out) gcs_one (by simp only [maxLen]; omega) (by omega) HL5.out.size ?_; intro v' U6 hown' hg hat; have hap := (Apart.grown HOK5.out HAP5.out.symm hat).symm; have HOK6 := hide (Apart.kept HOK5.out HAP5.out.symm hg); obtain ⟨A6, e6, rfl, -, -⟩ := own_form hown'; have HOX6 := hide hown'; have HGX6 := hide hg; clear hown' hg hat)
          have HL6 := hide (show Le V U6 from Below.trans HL5.out (le_own HOG5.out HGX6.out HL5.out.size))
          have HOG6 := hide (show U6.ownsRow V.heap.size 52 4 (.slice A6 ((m0 + m1)) e6) ((m0 + m1)) ((gcs lc) ++ gcs ld) by have := HOX6.out; simpa using this)
          have HAP6 := hide (show Apart (.slice A4 ((k0 + k1)) e4) (.slice A6 ((m0 + m1)) e6) by simpa using hap)
          clear hap
          clear HOX6 HGX6
          refine ⟨HL6.out, ?_⟩
          refine pig_run ?_
          go_wp2_with fail
          refine (HOF.out U6 (HWV.out.trans HL6.out) A4 e4 (by rw [kcs_append]; exact Row.of_own HOK6.out) A6 e6 (by rw [gcs_append]; exact Row.of_own HOG6.out)).mono ?_
          rintro e w5 ⟨A5, n5, c5, S, rfl, h1, h2, h3, h4, h5, h6⟩
          have H1 := hide h1
          have H3 := hide h3
          have H4 := hide (own_more h4 HL6.out.size)
          have H5 := hide h5
          have HL5 := hide (HL6.out.trans h6)
          clear h1 h3 h4 h5 h6
          go_wp2_with fail
          refine ⟨HL5.out, ?_⟩
          refine pig_late ?_
          go_wp2_with fail
          refine pig_done ?_
          refine at_done (by kernel_rfl) ?_ 0
          go_wp2_with fail
          go_meet
          exact ⟨A5, n5, c5, S, rfl, H1, h2, H3, H4, H5, HL5⟩
      case rest =>
        obtain ⟨A5, n5, c5, S, rfl, H1, hn5, H3, H4, H5, HL5⟩ := hcut
        obtain ⟨Y, rfl⟩ : ∃ Y, Y = wc := ⟨_, rfl⟩
        go_upto_region 10 with fail
        obtain ⟨V2, hV2⟩ : ∃ V, Y.drew = V := ⟨_, rfl⟩
        have HYV := hide (show Le Y V2 by rw [← hV2]; exact (Le.refl Y).drew)
        have HV2 := hide hV2
        have HLV2 := hide (Le.refl V2)
        have HWV2 := hide ((HWV.out.trans HL5.out).trans HYV.out)
        have x0 : ∀ W, Le V2 W → W.cell? ⟨w.heap.size, 0, none⟩ = some (.int .i64 H) := fun W h => BV.out.later 0 _ rfl W ((HL5.out.trans HYV.out).trans h)
        have x1 : ∀ W, Le V2 W → W.cell? ⟨w.heap.size, 1, none⟩ = some (.slice A m2 c) := fun W h => BV.out.later 1 _ rfl W ((HL5.out.trans HYV.out).trans h)
        have hrw : rowsOf [⟨p0.A, k0, p0.c, la⟩, ⟨p1.A, k1, p1.c, lb⟩] = la ++ lb := by simp [rowsOf]
        have hgw : gonesOf [⟨q1.A, m1, q1.c, ld⟩, ⟨q0.A, m0, q0.c, lc⟩] = ld ++ lc := by simp [gonesOf]
        have HME := hide (fun (W : World) (h : Le w W) (bT : Nat) (hT : Row W W.heap.size (some ⟨bT, 0, none⟩) [Value.slice p0.A k0 p0.c, .slice p1.A k1 p1.c]) => merge_any W (some ⟨bT, 0, none⟩) 2 2 [⟨p0.A, k0, p0.c, la⟩, ⟨p1.A, k1, p1.c, lb⟩] rfl (by omega) hT (fun p hp => by
          rcases List.mem_cons.1 hp with rfl | hp
          · exact ⟨HA.out, (h.row HRA.out (Nat.le_refl _)).more h.size, fun x hx => (HKA.out x hx).on h (Nat.le_refl _) h.size⟩
          · rw [List.mem_singleton.1 hp]
            exact ⟨HB.out, (h.row HRB.out (Nat.le_refl _)).more h.size, fun x hx => (HKB.out x hx).on h (Nat.le_refl _) h.size⟩) (by rw [hrw, List.length_append, HA.out, HB.out]; omega))
        have HMG := hide (fun (W : World) (h : Le w W) (bT : Nat) (hT : Row W W.heap.size (some ⟨bT, 0, none⟩) [Value.slice q1.A m1 q1.c, .slice q0.A m0 q0.c]) => mgone_any W (some ⟨bT, 0, none⟩) 2 2 [⟨q1.A, m1, q1.c, ld⟩, ⟨q0.A, m0, q0.c, lc⟩] rfl (by omega) hT (fun p hp => by
          rcases List.mem_cons.1 hp with rfl | hp
          · exact ⟨HD.out, (h.row HRD.out (Nat.le_refl _)).more h.size⟩
          · rw [List.mem_singleton.1 hp]
            exact ⟨HC.out, (h.row HRC.out (Nat.le_refl _)).more h.size⟩) (by rw [hgw, List.length_append, HC.out, HD.out]; omega))
        rw [hrw] at HME
        rw [hgw] at HMG
        have HOF2 := hide (fun (W : World) (h : Le w W) (A1 : Option Addr) (n1 e1 : Nat) (S1 : List Kd) (hl : S1.length = n1) (hn : n1 ≤ 120) (hr : Row W W.heap.size A1 (kcs S1)) (hk : ∀ x ∈ S1, KHas W W.heap.size x) (hwf : ∀ x ∈ S1, KeWf x.k) (A2 : Option Addr) (n2 e2 : Nat) (gl : List Gn) (hgl : gl.length = n2) (hgn : n2 ≤ (ld ++ lc).length) (hg : Row W W.heap.size A2 (gcs gl)) (hgk : ∀ g ∈ gl, KeWf g.k) => of_any W H A m2 c E HEL.out (by omega) ((h.row HER.out (Nat.le_refl _)).more h.size) A1 n1 e1 S1 hl hn hr (fun x hx => ⟨hk x hx, hwf x hx⟩) A2 n2 e2 gl hgl (by rw [List.length_append, HC.out, HD.out] at hgn; omega) hg hgk)
        clear hrw hgw hV2 HOF
        go_cut [13] (fun s wx => ∃ (A8 : Option Addr) (n8 c8 : Nat) (S3 : List Kd), s = .slice A8 n8 c8 ∧ Hid (S3.length = n8) ∧ n8 ≤ 120 ∧ Hid (S.map cont = S3.map cont) ∧ Hid (wx.ownsRow V2.heap.size 47 4 (.slice A8 n8 c8) n8 (kcs S3)) ∧ Hid (∀ x ∈ S3, KHas wx wx.heap.size x) ∧ Hid (Le V2 wx))
        case first =>
          refine region_at (Le V2) 10 (by kernel_rfl) (by rw [HV2.out]; exact Le.refl _) ?_
          rw [HV2.out]
          refine at_seg [(0, 0), (1, 1), (2, 1), (5, 1), (6, 1)] 6 (by rfl) (by kernel_rfl) ?_
          simp only [opsPiG, List.filterMap_cons, List.filterMap_nil, List.getElem?_toArray, List.getElem?_cons_zero, List.getElem?_cons_succ, Option.map_some]
          repeat (first | (refine pig_any (v := _) rfl (fun W' => by go_simp <;> exact rfl) ?_; simp only [Act.put, List.setIfInBounds_toArray, List.set_cons_zero, List.set_cons_succ]) | (refine pig_take (v := _) rfl (fun W' hW' => by go_simp <;> exact rfl) ?_; simp only [Act.put, List.setIfInBounds_toArray, List.set_cons_zero, List.set_cons_succ]))
          refine pig_done ?_
          clear x0 x1
          show At _ _ _ (Le V2) 10 6 _ _ V2
          refine at_two (i := 3) (j := 7) (fuel := 5) (by rfl) (by rfl) (by kernel_rfl) ?_ ?_
          · go_wp2_with fail
            obtain ⟨Q1, hW, hR, hL⟩ : ∃ X, V2.alloc (.cells #[Value.slice p0.A k0 p0.c, .slice p1.A k1 p1.c] 25) = X ∧ Row X X.heap.size (some ⟨V2.heap.size, 0, none⟩) [Value.slice p0.A k0 p0.c, .slice p1.A k1 p1.c] ∧ Le V2 X := ⟨_, rfl, (row_new V2 #[Value.slice p0.A k0 p0.c, .slice p1.A k1 p1.c] _ (0, 0)).more (by simp), (Below.refl _ _).alloc (Nat.le_refl _) _⟩
            rw [hW]
            have HLx1 := hide (HLV2.out.trans hL)
            have R3y1 := hide hR
            clear hW hR hL
            refine ⟨HLx1.out, ?_⟩
            refine at_two (i := 4) (j := 7) (fuel := 4) (by rfl) (by rfl) (by kernel_rfl) ?_ ?_
            · go_wp2_with fail
              refine (HME.out Q1 (HWV2.out.trans HLx1.out) _ R3y1.out).mono ?_
              rintro e Q2 ⟨A6, n6, c6, S2, rfl, j1, j2, j3, j4, j5, hL⟩
              have HLx2 := hide (HLx1.out.trans hL)
              have J1 := hide j1
              have J3 := hide j3
              have O4y := hide j4
              have K4y := hide j5
              clear j1 j3 j4 j5
              go_wp2_with fail
              clear hL
              refine ⟨HLx2.out, ?_⟩
              refine at_seg [(7, 2), (8, 2), (9, 2), (10, 3)] 0 (by rfl) (by kernel_rfl) ?_
              simp only [opsPiG, List.filterMap_cons, List.filterMap_nil, List.getElem?_toArray, List.getElem?_cons_zero, List.getElem?_cons_succ, Option.map_some]
              refine pig_run ?_
              go_wp2_with fail
              obtain ⟨Q3, hW, hR, hL⟩ : ∃ X, Q2.alloc (.cells #[Value.slice q1.A m1 q1.c, .slice q0.A m0 q0.c] 27) = X ∧ Row X X.heap.size (some ⟨Q2.heap.size, 0, none⟩) [Value.slice q1.A m1 q1.c, .slice q0.A m0 q0.c] ∧ Le Q2 X := ⟨_, rfl, (row_new Q2 #[Value.slice q1.A m1 q1.c, .slice q0.A m0 q0.c] _ (0, 0)).more (by simp), (Below.refl _ _).alloc (Nat.le_refl _) _⟩
              rw [hW]
              have HLx3 := hide (HLx2.out.trans hL)
              have O4x3 := hide (own_below O4y.out hL)
              have K4x3 := hide (show ∀ x ∈ S2, KHas Q3 Q3.heap.size x from fun x hx => (K4y.out x hx).on hL (Nat.le_refl _) hL.size)
              have R7y3 := hide hR
              clear hW hR hL
              refine ⟨HLx3.out, ?_⟩
              refine pig_run ?_
              go_wp2_with fail
              refine (HMG.out Q3 (HWV2.out.trans HLx3.out) _ R7y3.out).mono ?_
              rintro e Q4 ⟨A7, n7, c7, rfl, j1, j2, j3, hL⟩
              have HLx4 := hide (HLx3.out.trans hL)
              have O4x4 := hide (own_below O4x3.out hL)
              have K4x4 := hide (show ∀ x ∈ S2, KHas Q4 Q4.heap.size x from fun x hx => (K4x3.out x hx).on hL (Nat.le_refl _) hL.size)
              have L1 := hide j1
              have L2 := j2
              have O8y := hide j3
              clear j1 j2 j3
              go_wp2_with fail
              clear hL
              refine ⟨HLx4.out, ?_⟩
              refine pig_run ?_
              go_wp2_with fail
              refine (HOF2.out Q4 (HWV2.out.trans HLx4.out) A6 n6 c6 S2 J1.out j2 (Row.of_own O4x4.out) K4x4.out (firsts_wf HWA.out J3.out) A7 n7 c7 _ L1.out L2 (Row.of_own O8y.out) (fun g hg => HWC.out g (gone_mem2 hg))).mono ?_
              rintro e w5 ⟨A8, n8, c8, S3, rfl, h1, h2, h3, h4, h5, h6⟩
              have G1 := hide h1
              have G3 := hide (together J3.out H3.out h3)
              have G4 := hide (own_more h4 HLx4.out.size)
              have G5 := hide h5
              have HLf := hide (HLx4.out.trans h6)
              clear h1 h3 h4 h5 h6
              go_wp2_with fail
              refine ⟨HLf.out, ?_⟩
              refine pig_late ?_
              go_wp2_with fail
              refine pig_done ?_
              refine at_done (by kernel_rfl) ?_ 0
              go_wp2_with fail
              go_meet
              exact ⟨A8, n8, c8, S3, rfl, G1, h2, G3, G4, G5, HLf⟩
            · go_wp2_with fail
              obtain ⟨Q2, hW, hR, hL⟩ : ∃ X, Q1.alloc (.cells #[Value.slice q1.A m1 q1.c, .slice q0.A m0 q0.c] 27) = X ∧ Row X X.heap.size (some ⟨Q1.heap.size, 0, none⟩) [Value.slice q1.A m1 q1.c, .slice q0.A m0 q0.c] ∧ Le Q1 X := ⟨_, rfl, (row_new Q1 #[Value.slice q1.A m1 q1.c, .slice q0.A m0 q0.c] _ (0, 0)).more (by simp), (Below.refl _ _).alloc (Nat.le_refl _) _⟩
              rw [hW]
              have HLx2 := hide (HLx1.out.trans hL)
              have R3x2 := hide ((hL.row R3y1.out (Nat.le_refl _)).more hL.size)
              have R7y2 := hide hR
              clear hW hR hL
              refine ⟨HLx2.out, ?_⟩
              refine at_seg [(4, 2), (8, 2), (9, 2), (10, 3)] 0 (by rfl) (by kernel_rfl) ?_
              simp only [opsPiG, List.filterMap_cons, List.filterMap_nil, List.getElem?_toArray, List.getElem?_cons_zero, List.getElem?_cons_succ, Option.map_some]
              refine pig_run ?_
              go_wp2_with fail
              refine (HME.out Q2 (HWV2.out.trans HLx2.out) _ R3x2.out).mono ?_
              rintro e Q3 ⟨A6, n6, c6, S2, rfl, j1, j2, j3, j4, j5, hL⟩
              have HLx3 := hide (HLx2.out.trans hL)
              have R7x3 := hide ((hL.row R7y2.out (Nat.le_refl _)).more hL.size)
              have J1 := hide j1
              have J3 := hide j3
              have O4y := hide j4
              have K4y := hide j5
              clear j1 j3 j4 j5
              go_wp2_with fail
              clear hL
              refine ⟨HLx3.out, ?_⟩
              refine pig_run ?_
              go_wp2_with fail
              refine (HMG.out Q3 (HWV2.out.trans HLx3.out) _ R7x3.out).mono ?_
              rintro e Q4 ⟨A7, n7, c7, rfl, j1, j2, j3, hL⟩
              have HLx4 := hide (HLx3.out.trans hL)
              have O4x4 := hide (own_below O4y.out hL)
              have K4x4 := hide (show ∀ x ∈ S2, KHas Q4 Q4.heap.size x from fun x hx => (K4y.out x hx).on hL (Nat.le_refl _) hL.size)
              have L1 := hide j1
              have L2 := j2
              have O8y := hide j3
              clear j1 j2 j3
              go_wp2_with fail
              clear hL
              refine ⟨HLx4.out, ?_⟩
              refine pig_run ?_
              go_wp2_with fail
              refine (HOF2.out Q4 (HWV2.out.trans HLx4.out) A6 n6 c6 S2 J1.out j2 (Row.of_own O4x4.out) K4x4.out (firsts_wf HWA.out J3.out) A7 n7 c7 _ L1.out L2 (Row.of_own O8y.out) (fun g hg => HWC.out g (gone_mem2 hg))).mono ?_
              rintro e w5 ⟨A8, n8, c8, S3, rfl, h1, h2, h3, h4, h5, h6⟩
              have G1 := hide h1
              have G3 := hide (together J3.out H3.out h3)
              have G4 := hide (own_more h4 HLx4.out.size)
              have G5 := hide h5
              have HLf := hide (HLx4.out.trans h6)
              clear h1 h3 h4 h5 h6
              go_wp2_with fail
              refine ⟨HLf.out, ?_⟩
              refine pig_late ?_
              go_wp2_with fail
              refine pig_done ?_
              refine at_done (by kernel_rfl) ?_ 0
              go_wp2_with fail
              go_meet
              exact ⟨A8, n8, c8, S3, rfl, G1, h2, G3, G4, G5, HLf⟩
          · go_wp2_with fail
            obtain ⟨Q1, hW, hR, hL⟩ : ∃ X, V2.alloc (.cells #[Value.slice q1.A m1 q1.c, .slice q0.A m0 q0.c] 27) = X ∧ Row X X.heap.size (some ⟨V2.heap.size, 0, none⟩) [Value.slice q1.A m1 q1.c, .slice q0.A m0 q0.c] ∧ Le V2 X := ⟨_, rfl, (row_new V2 #[Value.slice q1.A m1 q1.c, .slice q0.A m0 q0.c] _ (0, 0)).more (by simp), (Below.refl _ _).alloc (Nat.le_refl _) _⟩
            rw [hW]
            have HLx1 := hide (HLV2.out.trans hL)
            have R7y1 := hide hR
            clear hW hR hL
            refine ⟨HLx1.out, ?_⟩
            refine at_seg [(3, 2), (4, 2), (8, 2), (9, 2), (10, 3)] 0 (by rfl) (by kernel_rfl) ?_
            simp only [opsPiG, List.filterMap_cons, List.filterMap_nil, List.getElem?_toArray, List.getElem?_cons_zero, List.getElem?_cons_succ, Option.map_some]
            refine pig_run ?_
            go_wp2_with fail
            obtain ⟨Q2, hW, hR, hL⟩ : ∃ X, Q1.alloc (.cells #[Value.slice p0.A k0 p0.c, .slice p1.A k1 p1.c] 25) = X ∧ Row X X.heap.size (some ⟨Q1.heap.size, 0, none⟩) [Value.slice p0.A k0 p0.c, .slice p1.A k1 p1.c] ∧ Le Q1 X := ⟨_, rfl, (row_new Q1 #[Value.slice p0.A k0 p0.c, .slice p1.A k1 p1.c] _ (0, 0)).more (by simp), (Below.refl _ _).alloc (Nat.le_refl _) _⟩
            rw [hW]
            have HLx2 := hide (HLx1.out.trans hL)
            have R7x2 := hide ((hL.row R7y1.out (Nat.le_refl _)).more hL.size)
            have R3y2 := hide hR
            clear hW hR hL
            refine ⟨HLx2.out, ?_⟩
            refine pig_run ?_
            go_wp2_with fail
            refine (HME.out Q2 (HWV2.out.trans HLx2.out) _ R3y2.out).mono ?_
            rintro e Q3 ⟨A6, n6, c6, S2, rfl, j1, j2, j3, j4, j5, hL⟩
            have HLx3 := hide (HLx2.out.trans hL)
            have R7x3 := hide ((hL.row R7x2.out (Nat.le_refl _)).more hL.size)
            have J1 := hide j1
            have J3 := hide j3
            have O4y := hide j4
            have K4y := hide j5
            clear j1 j3 j4 j5
            go_wp2_with fail
            clear hL
            refine ⟨HLx3.out, ?_⟩
            refine pig_run ?_
            go_wp2_with fail
            refine (HMG.out Q3 (HWV2.out.trans HLx3.out) _ R7x3.out).mono ?_
            rintro e Q4 ⟨A7, n7, c7, rfl, j1, j2, j3, hL⟩
            have HLx4 := hide (HLx3.out.trans hL)
            have O4x4 := hide (own_below O4y.out hL)
            have K4x4 := hide (show ∀ x ∈ S2, KHas Q4 Q4.heap.size x from fun x hx => (K4y.out x hx).on hL (Nat.le_refl _) hL.size)
            have L1 := hide j1
            have L2 := j2
            have O8y := hide j3
            clear j1 j2 j3
            go_wp2_with fail
            clear hL
            refine ⟨HLx4.out, ?_⟩
            refine pig_run ?_
            go_wp2_with fail
            refine (HOF2.out Q4 (HWV2.out.trans HLx4.out) A6 n6 c6 S2 J1.out j2 (Row.of_own O4x4.out) K4x4.out (firsts_wf HWA.out J3.out) A7 n7 c7 _ L1.out L2 (Row.of_own O8y.out) (fun g hg => HWC.out g (gone_mem2 hg))).mono ?_
            rintro e w5 ⟨A8, n8, c8, S3, rfl, h1, h2, h3, h4, h5, h6⟩
            have G1 := hide h1
            have G3 := hide (together J3.out H3.out h3)
            have G4 := hide (own_more h4 HLx4.out.size)
            have G5 := hide h5
            have HLf := hide (HLx4.out.trans h6)
            clear h1 h3 h4 h5 h6
            go_wp2_with fail
            refine ⟨HLf.out, ?_⟩
            refine pig_late ?_
            go_wp2_with fail
            refine pig_done ?_
            refine at_done (by kernel_rfl) ?_ 0
            go_wp2_with fail
            go_meet
            exact ⟨A8, n8, c8, S3, rfl, G1, h2, G3, G4, G5, HLf⟩
        case rest =>
          obtain ⟨A8, n8, c8, S3, rfl, G1, hn8, G3, G4, G5, HL8⟩ := hcut
          have hlen : n5 = n8 := by
            have := congrArg List.length G3.out
            rw [List.length_map, List.length_map, H1.out, G1.out] at this
            exact this
          subst hlen
          obtain ⟨Y3, rfl⟩ : ∃ Y, Y = wc := ⟨_, rfl⟩
          have HYZ := hide (HYV.out.trans HL8.out)
          have HL3 := hide (HWV2.out.trans HL8.out)
          have HSO := hide (own_below H4.out HYZ.out)
          have hsm := hide (same_any Y3 A5 A8 n5 c5 c8 S S3 H1.out (by omega) G3.out (Row.of_own HSO.out) (Row.of_own G4.out) (fun x hx => (H5.out x hx).on HYZ.out (Nat.le_refl _) HYZ.out.size) G5.out)
          have BY3 := hide (BV.out.below ((HL5.out.trans HYZ.out)) BV.out.lt)
          clear G1 G3 G4 G5 H4 H5 x0 x1 HME HMG HOF2
          go_wp2_with fail
          refine hsm.out.mono ?_
          rintro e w4 ⟨rfl, hb⟩
          have HL4 := hide (HL3.out.trans hb)
          have HSR := hide (Row.of_own (own_below HSO.out hb))
          have BY4 := hide (BY3.out.below hb BY3.out.lt)
          clear hb hsm
          go_wp2_with fail
          go_loopw [15] (fun s wr => ∃ i : Nat, s = .int .i64 i ∧ i ≤ n5 ∧ Hid (Le w4 wr)) (fun s _ => n5 - (intOf s).toNat)
          case atStart => exact ⟨0, rfl, Nat.zero_le _, hide (Le.refl _)⟩
          case round =>
            obtain ⟨i, rfl, hi, HLr⟩ := hrel
            by_cases hin : i < n5
            · obtain ⟨x, hx⟩ : ∃ x, S[i]? = some x := ⟨_, List.getElem?_eq_getElem (by rw [H1.out]; exact hin)⟩
              obtain ⟨bX, oX, rfl, hbX, x0, x1, x2, -⟩ := row_kd HSR.out hx
              have hiI : (i : Int) < n5 := by omega
              have HX := hide (And.intro x0 (And.intro x1 x2))
              have HHAS := hide (seen_of H3.out (List.mem_of_getElem? hx))
              go_upto_region 15 with fail
              obtain ⟨U, hU⟩ : ∃ U, wr.drew = U := ⟨_, rfl⟩
              have HLU := hide (show Le w4 U by rw [← hU]; exact HLr.out.drew)
              have HU := hide hU
              have hh := hide (refhas_any U H A m2 c E x.k.id HEL.out (by omega) (((HL4.out.trans HLU.out).row HER.out (Nat.le_refl _)).more (HL4.out.trans HLU.out).size))
              rw [HHAS.out] at hh
              have e0 : ∀ W, Le U W → W.cell? ⟨bX, oX + i * 4, none⟩ = some (.int .i64 x.k.id) := fun W h => ((HLU.out.trans h).cell (p := ⟨bX, oX + i * 4, none⟩) hbX).trans x0
              have b0 : ∀ W, Le U W → W.cell? ⟨w.heap.size, 0, none⟩ = some (.int .i64 H) := fun W h => BY4.out.later 0 _ rfl W (HLU.out.trans h)
              have b1 : ∀ W, Le U W → W.cell? ⟨w.heap.size, 1, none⟩ = some (.slice A m2 c) := fun W h => BY4.out.later 1 _ rfl W (HLU.out.trans h)
              clear x0 x1 x2 hU
              refine region_pi [(0, true), (1, true), (2, true), (3, true), (4, true), (5, true), (6, true), (7, false), (8, true)] (by kernel_rfl) (by kernel_rfl) ?_
              simp only [opsPi, List.filterMap_cons, List.filterMap_nil, List.getElem?_toArray, List.getElem?_cons_zero, List.getElem?_cons_succ, Option.map_some]
              rw [HU.out]
              repeat (first | (refine pi_take (v := _) rfl (fun W hW => by go_simp <;> exact rfl) ?_; simp only [Act.put, List.setIfInBounds_toArray, List.set_cons_zero, List.set_cons_succ]) | (refine pi_skip rfl ?_; simp only [Act.put, List.setIfInBounds_toArray, List.set_cons_zero, List.set_cons_succ]))
              clear e0 b0 b1
              refine pi_run ?_
              go_wp2_with fail
              refine hh.out.mono ?_
              rintro e w5 ⟨rfl, hb⟩
              have HB5 := hide (show Le U w5 from hb)
              clear hb
              go_wp2_with fail
              refine ⟨HB5.out, ?_⟩
              repeat (first | (refine pi_take (v := _) rfl (fun W hW => by go_simp <;> exact rfl) ?_; simp only [Act.put, List.setIfInBounds_toArray, List.set_cons_zero, List.set_cons_succ]) | (refine pi_skip rfl ?_; simp only [Act.put, List.setIfInBounds_toArray, List.set_cons_zero, List.set_cons_succ]))
              refine pi_done ?_
              clear hh
              have HL5b := hide (HLU.out.trans HB5.out)
              go_upto_region 16 with fail
              obtain ⟨V3, hV3⟩ : ∃ U, w5.drew = U := ⟨_, rfl⟩
              have HLV3 := hide (show Le w4 V3 by rw [← hV3]; exact HL5b.out.drew)
              have HV3 := hide hV3
              clear hV3
              go_cut [104] (fun s wx => s = .bool false ∧ Hid (Le w4 wx))
              case first =>
                by_cases hi0 : i = 0
                · subst hi0
                  clear hx
                  refine region_pi [(0, true), (1, true), (2, true), (3, true), (4, true), (5, true), (6, true), (7, true), (8, true), (9, true), (10, true), (11, true), (12, true), (13, true), (14, true), (15, true), (16, true), (17, true), (18, true), (19, true), (20, true)] (by kernel_rfl) (by kernel_rfl) ?_
                  simp only [opsPi, List.filterMap_cons, List.filterMap_nil, List.getElem?_toArray, List.getElem?_cons_zero, List.getElem?_cons_succ, Option.map_some]
                  rw [HV3.out]
                  repeat (first | (refine pi_take (v := _) rfl (fun W hW => by go_simp <;> exact rfl) ?_; simp only [Act.put, List.setIfInBounds_toArray, List.set_cons_zero, List.set_cons_succ]) | (refine pi_skip rfl ?_; simp only [Act.put, List.setIfInBounds_toArray, List.set_cons_zero, List.set_cons_succ]))
                  refine pi_done ?_
                  go_wp2_with fail
                  go_meet
                  exact ⟨rfl, HLV3⟩
                · obtain ⟨j, hij⟩ : ∃ j, i = j + 1 := ⟨i - 1, by omega⟩
                  obtain ⟨y, hy⟩ : ∃ y, S[j]? = some y := ⟨_, List.getElem?_eq_getElem (by rw [H1.out]; omega)⟩
                  obtain ⟨bY, oY, eY, hbY, y0, y1, y2, -⟩ := row_kd HSR.out hy
                  simp only [Option.some.injEq, Addr.mk.injEq, and_true] at eY
                  obtain ⟨rfl, rfl⟩ := eY
                  have hsub : IntKind.i64.wrap ((i : Int) - 1) = (j : Int) := by rw [IntWalk.i64_in _ (by omega)]; omega
                  have hjI : (j : Int) < n5 := by omega
                  have hpos : (0 : Int) < (i : Int) := by omega
                  have hposn : 0 < i := by omega
                  have hposd : decide ((0 : Int) < (i : Int)) = true := decide_eq_true hpos
                  have hposb : decide (0 < i) = true := decide_eq_true hposn
                  have hle := hide (rless_any V3 y.k x.k)
                  rw [rise_of H3.out hy (hij ▸ hx)] at hle
                  have yc0 : ∀ W, Le V3 W → W.cell? ⟨bX, oX + j * 4, none⟩ = _ := fun W h => ((HLV3.out.trans h).cell (p := ⟨bX, oX + j * 4, none⟩) hbX).trans y0
                  have yc1 : ∀ W, Le V3 W → W.cell? ⟨bX, oX + j * 4 + 1, none⟩ = _ := fun W h => ((HLV3.out.trans h).cell (p := ⟨bX, oX + j * 4 + 1, none⟩) hbX).trans y1
                  have yc2 : ∀ W, Le V3 W → W.cell? ⟨bX, oX + j * 4 + 2, none⟩ = _ := fun W h => ((HLV3.out.trans h).cell (p := ⟨bX, oX + j * 4 + 2, none⟩) hbX).trans y2
                  have xc0 : ∀ W, Le V3 W → W.cell? ⟨bX, oX + i * 4, none⟩ = _ := fun W h => ((HLV3.out.trans h).cell (p := ⟨bX, oX + i * 4, none⟩) hbX).trans HX.out.1
                  have xc1 : ∀ W, Le V3 W → W.cell? ⟨bX, oX + i * 4 + 1, none⟩ = _ := fun W h => ((HLV3.out.trans h).cell (p := ⟨bX, oX + i * 4 + 1, none⟩) hbX).trans HX.out.2.1
                  have xc2 : ∀ W, Le V3 W → W.cell? ⟨bX, oX + i * 4 + 2, none⟩ = _ := fun W h => ((HLV3.out.trans h).cell (p := ⟨bX, oX + i * 4 + 2, none⟩) hbX).trans HX.out.2.2
                  clear hx hy y0 y1 y2 hij hi0
                  refine region_pi [(0, true), (1, true), (2, true), (3, true), (4, true), (5, true), (6, true), (7, true), (8, true), (9, true), (10, true), (11, true), (12, true), (13, true), (14, true), (15, true), (16, true), (17, false), (18, true), (19, true), (20, true)] (by kernel_rfl) (by kernel_rfl) ?_
                  simp only [opsPi, List.filterMap_cons, List.filterMap_nil, List.getElem?_toArray, List.getElem?_cons_zero, List.getElem?_cons_succ, Option.map_some]
                  rw [HV3.out]
                  repeat (first | (refine pi_take (v := _) rfl (fun W hW => by go_simp <;> exact rfl) ?_; simp only [Act.put, List.setIfInBounds_toArray, List.set_cons_zero, List.set_cons_succ]) | (refine pi_skip rfl ?_; simp only [Act.put, List.setIfInBounds_toArray, List.set_cons_zero, List.set_cons_succ]))
                  clear yc0 yc1 yc2 xc0 xc1 xc2
                  refine pi_run ?_
                  go_wp2_with fail
                  refine hle.out.mono ?_
                  rintro e w6 ⟨rfl, hg⟩
                  have HG6 := hide hg.le
                  clear hg
                  go_wp2_with fail
                  refine ⟨HG6.out, ?_⟩
                  repeat (first | (refine pi_take (v := _) rfl (fun W hW => by go_simp <;> exact rfl) ?_; simp only [Act.put, List.setIfInBounds_toArray, List.set_cons_zero, List.set_cons_succ]) | (refine pi_skip rfl ?_; simp only [Act.put, List.setIfInBounds_toArray, List.set_cons_zero, List.set_cons_succ]))
                  refine pi_done ?_
                  go_wp2_with fail
                  go_meet
                  exact ⟨rfl, hide (HLV3.out.trans HG6.out)⟩
              case rest =>
                obtain ⟨rfl, HLc⟩ := hcut
                go_wp2_with fail
                exact ⟨⟨i + 1, by go_num, by omega, HLc⟩, by simp [intOf]; omega⟩
            · obtain rfl : i = n5 := by omega
              have hle : ¬ (i : Int) < i := by omega
              go_wp2_with fail
              go_ret
              exact ⟨rfl, HL4.out.trans HLr.out⟩
#print axioms together_walk
end Go.Proofs.Ytjedpjfmlaganaa.vw
