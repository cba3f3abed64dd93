/-
  Records, walked: the one that bytes begin with, by the program.
-/
import Derived.Test.YtocpeiocgppkfaaTyA2
namespace Go.Proofs.Ytocpeiocgppkfaa
open Go.RowKit
set_option linter.unusedVariables false

/-- A variable's cells are handed back, and a value. -/
theorem box_results1 {P : Program} {fn : Func} {p u : Tmp} {ty : TypeId} (h : fn.results = #[.cell p ty, .tmp u]) (tmps : Array Value) {w : World} {g : Nat} {t : TypeId} {cs : Array Value} {d : TypeDesc} (hg : Box w g cs t)
    (hp : tmps.getD p undef = .pointer (some ⟨g, 0, none⟩)) (hu : P.underlying ty = some d) (hd : (match d with | .struct _ | .array _ _ => true | _ => false) = true) (hi : (P.info? ty).map (·.size) = some cs.size) :
    (results fn tmps).run P w = .ok (.tuple #[.agg cs, tmps.getD u undef]) w := by
  have hp' : tmps[p]?.getD undef = .pointer (some ⟨g, 0, none⟩) := by simpa using hp
  simp only [results, h]
  simp [Result.andThen, hp', asAddr, run_loadVar_row w g t ty cs (0, 0) d hg hu hd hi]
/-- What is handed back: a record and its length; with 0, any. -/
def TxR (l : List Nat) (w : World) (e : Ending) (w' : World) : Prop :=
  Le w w' ∧ ((ty.one l = none ∧ ∃ op id : Int, e = .returned (.tuple #[.agg #[.int .i64 op, .int .i64 id], .int .i64 0])) ∨
    ∃ (op id : Int) (k : Nat), ty.one l = some ((op, id), k) ∧ e = .returned (.tuple #[.agg #[.int .i64 op, .int .i64 id], .int .i64 (k : Int)]))

theorem opens_len {l y : List Nat} (h : opens l = some y) : y.length ≤ l.length := by
  unfold opens at h
  split at h
  · injection h with h
    subst h
    rw [List.length_take]
    omega
  · cases h
theorem op_none {l : List Nat} (h : opens l = none) : opened l = [] ∧ openErr l = 2 := by simp [opened, openErr, h]
theorem op_some {l y : List Nat} (h : opens l = some y) : opened l = y ∧ openErr l = 0 := by simp [opened, openErr, h]
theorem may_wrap {m n : Nat} (hm : var.S64 m) (hn : var.S64 n) : ty.May (IntKind.i64.wrap (m : Int)) (IntKind.i64.wrap (n : Int)) ↔ ty.May (m : Int) (n : Int) := by
  unfold var.S64 at hm hn
  rw [IntKind.wrap_i64, IntKind.wrap_i64]
  unfold ty.May
  omega
theorem may_wrap_eq {m n : Nat} (h : ty.May (m : Int) (n : Int)) : IntKind.i64.wrap (m : Int) = m ∧ IntKind.i64.wrap (n : Int) = n := by
  unfold ty.May at h
  rw [IntKind.wrap_i64, IntKind.wrap_i64]
  omega

set_option maxRecDepth 100000 in
set_option maxHeartbeats 4000000 in
theorem txone_any (w : World) (b : Nat) (A : Option Addr) (n c : Nat) (l : List Nat) (hl : l.length = n) (hn : n ≤ 1000000) (hnc : n ≤ c) (hc : c ≤ maxLen) (h8 : ∀ x ∈ l, x < 256) (hb : b < w.heap.size) (ht : HasTab w b) (hr : Row w w.heap.size A (u8s l)) :
    Calls Try.prog 32 #[.pointer (some ⟨b, 0, none⟩), .slice A n c] w (TxR l w) := by
  have HL := hide hl
  have H8 := hide h8
  have HTB := hide ht
  have hcm : c ≤ 9223372036854775807 := hc
  clear hl h8 ht
  obtain ⟨W, hW, hbx, hle, hzW⟩ := recbox w 0 0 35
  have b0 := hbx.cell 0 (.int .i64 0) rfl
  have b1 := hbx.cell 1 (.int .i64 0) rfl
  have f0 := hbx.frozen 0
  have f1 := hbx.frozen 1
  have HBX := hide hbx
  have HW := hide hW
  have HLE := hide hle
  clear hW hle hbx
  rcases l with _ | ⟨x, r⟩
  · obtain rfl : n = 0 := by have := HL.out; simpa using this.symm
    go_enter Try.func32, Try.ntmps32
    go_wp2_with fail
    rw [HW.out]
    go_wp2_with fail
    refine bodyPost_ret (box_results1 rfl _ HBX.out rfl Try.underlying35 rfl rfl) rfl ?_
    exact ⟨HLE.out, .inl ⟨ty.one_nil, 0, 0, rfl⟩⟩
  · have hnr : n = r.length + 1 := by have := HL.out; simpa using this.symm
    have hx : x < 256 := H8.out x (by simp)
    obtain ⟨bA, oA, rfl, hbA, hc0⟩ := hr.at_ (u8s_at (l := x :: r) (k := 0) rfl)
    rw [Nat.add_zero] at hc0
    have hc0 : w.cell? ⟨bA, oA, none⟩ = some (.int .u8 (x : Int)) := hc0
    have g0 : W.cell? ⟨bA, oA, none⟩ = some (.int .u8 (x : Int)) := (HLE.out.cell (p := ⟨bA, oA, none⟩) hbA).trans hc0
    have hpos : 0 < n := by omega
    have HNR := hide hnr
    clear hnr
    by_cases hs : n ≤ x
    · have H1 := hide (ty.one_short (x := x) (r := r) (by have := HNR.out; omega))
      go_enter Try.func32, Try.ntmps32
      go_wp2_with fail
      rw [HW.out]
      go_wp2_with fail
      refine bodyPost_ret (box_results1 rfl _ HBX.out rfl Try.underlying35 rfl rfl) rfl ?_
      exact ⟨HLE.out, .inl ⟨H1.out, 0, 0, rfl⟩⟩
    · have HSUB := hide (show Row W W.heap.size (some ⟨bA, oA + 1, none⟩) (u8s (r.take x)) by
        have := ((hr.le HLE.out).drop 1 (A' := some ⟨bA, oA + 1, none⟩) (fun _ => by rw [Option.map_some, add_eq])).take x
        rwa [u8s_drop, u8s_take, List.drop_one, List.tail_cons] at this)
      have HSL := hide (show (r.take x).length = x by rw [List.length_take]; have := HNR.out; omega)
      have HS8 := hide (take8 (fun y hy => H8.out y (List.mem_cons_of_mem _ hy)) x)
      have HTW := hide (hasTab_below HTB.out HLE.out hb)
      have hbW : b < W.heap.size := by omega
      by_cases hc1 : c = 1
      · obtain rfl : x = 0 := by omega
        have H1 := hide (ty.one_zero r)
        subst hc1
        go_enter Try.func32, Try.ntmps32
        go_wp2_with fail
        rw [HW.out]
        go_wp2_with fail
        refine (copen_any W b _ 0 0 [] rfl (by omega) (by omega) (by unfold maxLen; omega) (by simp) hbW HTW.out Row.none_).mono ?_
        rintro e w1 ⟨v1, rfl, hown1, hb1⟩
        rw [(op_none opens_nil).1] at hown1
        rw [(op_none opens_nil).2]
        have HL1 := hide (show Le w w1 from HLE.out.trans hb1)
        have bx1 := HBX.out.below hb1 HBX.out.lt
        have d0 := bx1.cell 0 (.int .i64 0) rfl
        have d1 := bx1.cell 1 (.int .i64 0) rfl
        have k0 := bx1.frozen 0
        have k1 := bx1.frozen 1
        have HBX1 := hide bx1
        obtain ⟨A1, c1, rfl, -, -⟩ := own_form hown1
        clear hb1 hown1 bx1 b0 b1 f0 f1
        go_wp2_with fail
        refine bodyPost_ret (box_results1 rfl _ ((HBX1.out.set 0 _).set 1 _) rfl Try.underlying35 rfl rfl) rfl ?_
        exact ⟨(HL1.out.setCell (Nat.le_refl _) _).setCell (Nat.le_refl _) _, .inl ⟨H1.out, 0, 0, rfl⟩⟩
      · go_enter Try.func32, Try.ntmps32
        go_wp2_with fail
        rw [HW.out]
        go_wp2_with fail
        refine (copen_any W b _ x _ (r.take x) HSL.out (by omega) (by omega) (by unfold maxLen at hc ⊢; omega) HS8.out hbW HTW.out HSUB.out).mono ?_
        rintro e w1 ⟨v1, rfl, hown1, hb1⟩
        have HL1 := hide (show Le w w1 from HLE.out.trans hb1)
        have hz1 := HL1.out.size
        have bx1 := HBX.out.below hb1 HBX.out.lt
        have d0 := bx1.cell 0 (.int .i64 0) rfl
        have d1 := bx1.cell 1 (.int .i64 0) rfl
        have k0 := bx1.frozen 0
        have k1 := bx1.frozen 1
        have HBX1 := hide bx1
        clear hb1 bx1 b0 b1 f0 f1
        cases ho : opens (r.take x) with
        | none =>
          rw [(op_none ho).1] at hown1
          rw [(op_none ho).2]
          have H1 := hide (ty.one_unsealed ho)
          obtain ⟨A1, c1, rfl, -, -⟩ := own_form hown1
          clear hown1
          go_wp2_with fail
          refine bodyPost_ret (box_results1 rfl _ ((HBX1.out.set 0 _).set 1 _) rfl Try.underlying35 rfl rfl) rfl ?_
          exact ⟨(HL1.out.setCell (Nat.le_refl _) _).setCell (Nat.le_refl _) _, .inl ⟨H1.out, 0, 0, rfl⟩⟩
        | some y =>
          rw [(op_some ho).1] at hown1
          rw [(op_some ho).2]
          have hyl := opens_len ho
          rw [HSL.out] at hyl
          have hy8 := opened8 HS8.out
          rw [(op_some ho).1] at hy8
          have HY8 := hide hy8
          have HO := hide ho
          obtain ⟨Y, hY⟩ : ∃ Y, y.length = Y := ⟨_, rfl⟩
          rw [hY] at hown1 hyl
          obtain ⟨A1, c1, rfl, hYc, hc1m⟩ := own_form hown1
          have HR1 := hide (Row.of_own hown1)
          have HY := hide hY
          clear hown1 hY hy8 ho
          go_wp2_with fail
          refine (wtake_any w1 A1 Y c1 y HY.out (by omega) hYc hc1m HY8.out HR1.out).mono ?_
          rintro e w2 ht
          rcases ht with ⟨hwt, rfl, hb2⟩ | ⟨o, A2, K, c2, hwt, hK, hKy, rfl, hr2, hh2, -, hb2⟩
          · have H1 := hide (ty.one_unwired HO.out hwt)
            have HL2 := hide (show Le w w2 from HL1.out.trans hb2)
            have bx2 := HBX1.out.below hb2 HBX1.out.lt
            have m0 := bx2.cell 0 (.int .i64 0) rfl
            have m1 := bx2.cell 1 (.int .i64 0) rfl
            have q0 := bx2.frozen 0
            have q1 := bx2.frozen 1
            have HBX2 := hide bx2
            clear hb2 bx2 d0 d1 k0 k1 hwt
            go_wp2_with fail
            refine bodyPost_ret (box_results1 rfl _ ((HBX2.out.set 0 _).set 1 _) rfl Try.underlying35 rfl rfl) rfl ?_
            exact ⟨(HL2.out.setCell (Nat.le_refl _) _).setCell (Nat.le_refl _) _, .inl ⟨H1.out, 0, 0, rfl⟩⟩
          · have hw1 := ty.one_wired (x := x) (r := r) (by have := HNR.out; omega) HO.out hwt
            have HL2 := hide (show Le w w2 from HL1.out.trans hb2)
            have bx2 := HBX1.out.below hb2 HBX1.out.lt
            have m0 := bx2.cell 0 (.int .i64 0) rfl
            have m1 := bx2.cell 1 (.int .i64 0) rfl
            have q0 := bx2.frozen 0
            have q1 := bx2.frozen 1
            have HBX2 := hide bx2
            have hz2 := HL2.out.size
            clear hb2 bx2 d0 d1 k0 k1
            by_cases hK2 : K = 2
            · subst hK2
              obtain ⟨p, q, rfl⟩ : ∃ p q, o = [p, q] := by
                match o, hK with
                | [p, q], _ => exact ⟨p, q, rfl⟩
              have hs64 := ty.wtake_s64 y.length y _ (Nat.le_refl _) HY8.out hwt
              have HSp := hide (hs64 p.1 (by simp))
              have HSq := hide (hs64 q.1 (by simp))
              simp only [List.map_cons, List.map_nil] at hw1
              rw [ty.two_pair] at hw1
              have H1 := hide hw1
              obtain ⟨bF, oF, rfl, hbF, hp⟩ := hr2.at_ (fcs_at (l := [p, q]) (k := 0) rfl).2.2.1
              obtain ⟨bG, oG, eG, hbG, hq⟩ := hr2.at_ (fcs_at (l := [p, q]) (k := 1) rfl).2.2.1
              injection eG with eG
              injection eG with e1 e2 e3
              subst e1
              subst e2
              have hne : bF ≠ w.heap.size := by
                intro e
                subst e
                obtain ⟨_, _, e9, _, ht⟩ := hr2.at_ (fcs_at (l := [p, q]) (k := 0) rfl).2.1
                injection e9 with e9
                injection e9 with e7 e8 e9
                subst e7
                subst e8
                have := cell_of_row w2 w.heap.size (oF + (0 * 4 + 1)) _ _ _ HBX2.out
                rw [ht] at this
                rcases oF with _ | oF
                · simp at this
                · simp at this
              obtain ⟨op, hop⟩ : ∃ op, IntKind.i64.wrap (p.1.n : Int) = op := ⟨_, rfl⟩
              obtain ⟨id, hid⟩ : ∃ id, IntKind.i64.wrap (q.1.n : Int) = id := ⟨_, rfl⟩
              have HM := hide (show ty.May op id ↔ ty.May (p.1.n : Int) (q.1.n : Int) by rw [← hop, ← hid]; exact may_wrap HSp.out HSq.out)
              have HE := hide (show ty.May (p.1.n : Int) (q.1.n : Int) → op = p.1.n ∧ id = q.1.n from fun h => by rw [← hop, ← hid]; exact may_wrap_eq h)
              obtain ⟨V, hV⟩ : ∃ V, w2.drew = V := ⟨_, rfl⟩
              have bxV : Box V w.heap.size #[.int .i64 0, .int .i64 0] 35 := by rw [← hV]; exact HBX2.out.drew
              have HLV := hide (show Le w V by rw [← hV]; exact HL2.out.drew)
              have p2 : V.cell? ⟨bF, oF + 2, none⟩ = some (.int .u64 (p.1.n : Int)) := by rw [← hV]; exact hp
              have q2 : V.cell? ⟨bF, oF + 4 + 2, none⟩ = some (.int .u64 (q.1.n : Int)) := by rw [← hV]; exact hq
              obtain ⟨SS, hSS⟩ : ∃ SS : World → Prop, SS = fun W' => W'.cell? ⟨bF, oF + 2, none⟩ = some (.int .u64 (p.1.n : Int)) ∧ W'.cell? ⟨bF, oF + 4 + 2, none⟩ = some (.int .u64 (q.1.n : Int)) := ⟨_, rfl⟩
              have s0 : ∀ W', SS W' → W'.cell? ⟨bF, oF + 2, none⟩ = some (.int .u64 (p.1.n : Int)) := fun W' h => by rw [hSS] at h; exact h.1
              have s1 : ∀ W', SS W' → W'.cell? ⟨bF, oF + 4 + 2, none⟩ = some (.int .u64 (q.1.n : Int)) := fun W' h => by rw [hSS] at h; exact h.2
              have v0 := bxV.cell 0 (.int .i64 0) rfl
              have v1 := bxV.cell 1 (.int .i64 0) rfl
              have z0 := bxV.frozen 0
              have z1 := bxV.frozen 1
              have HBV := hide bxV
              have HV := hide hV
              have HSS := hide hSS
              have HP2 := hide p2
              have HQ2 := hide q2
              have HR2 := hide hr2
              clear hw1 hs64 hwt hK hh2 e3 hV hSS bxV p2 q2 m0 m1 q0 q1 hp hq hr2
              go_wp2_with fail
              refine region_pis SS [(0, true), (1, true), (2, true), (3, true), (4, true), (5, true), (6, true), (7, true), (8, true), (9, true), (10, true), (11, false)] (by kernel_rfl) (by kernel_rfl) ?_ ?_
              · rw [HV.out, HSS.out]
                exact ⟨HP2.out, HQ2.out⟩
              simp only [opsPi, List.filterMap_cons, List.filterMap_nil, List.getElem?_toArray, List.getElem?_cons_zero, List.getElem?_cons_succ, Option.map_some]
              rw [HV.out]
              repeat (first | (refine pis_take (v := _) rfl (fun W hW => by go_simp <;> exact rfl) ?_; simp only [Act.put, List.setIfInBounds_toArray, List.set_cons_zero, List.set_cons_succ]) | (refine pis_skip rfl ?_; simp only [Act.put, List.setIfInBounds_toArray, List.set_cons_zero, List.set_cons_succ]))
              refine pis_take (v := .int .u64 (p.1.n : Int)) rfl (fun W' hW' => ?_) ?_
              · have q0 := s0 W' hW'
                clear s0 s1
                go_simp
              simp only [Act.put, List.setIfInBounds_toArray, List.set_cons_zero, List.set_cons_succ]
              repeat (first | (refine pis_take (v := _) rfl (fun W hW => by go_simp <;> exact rfl) ?_; simp only [Act.put, List.setIfInBounds_toArray, List.set_cons_zero, List.set_cons_succ]) | (refine pis_skip rfl ?_; simp only [Act.put, List.setIfInBounds_toArray, List.set_cons_zero, List.set_cons_succ]))
              refine pis_take (v := .int .u64 (q.1.n : Int)) rfl (fun W' hW' => ?_) ?_
              · have q0 := s1 W' hW'
                clear s0 s1
                go_simp
              simp only [Act.put, List.setIfInBounds_toArray, List.set_cons_zero, List.set_cons_succ]
              repeat (first | (refine pis_take (v := _) rfl (fun W hW => by go_simp <;> exact rfl) ?_; simp only [Act.put, List.setIfInBounds_toArray, List.set_cons_zero, List.set_cons_succ]) | (refine pis_skip rfl ?_; simp only [Act.put, List.setIfInBounds_toArray, List.set_cons_zero, List.set_cons_succ]))
              clear s0 s1
              refine pis_run ?_
              go_wp2_with fail
              refine ⟨by rw [HSS.out]; exact ⟨by rw [World.cell?_setCell_far _ _ _ _ (fun e => hne e.symm), World.cell?_setCell_far _ _ _ _ (fun e => hne e.symm)]; exact HP2.out, by rw [World.cell?_setCell_far _ _ _ _ (fun e => hne e.symm), World.cell?_setCell_far _ _ _ _ (fun e => hne e.symm)]; exact HQ2.out⟩, ?_⟩
              refine pis_done ?_
              obtain ⟨X, hX⟩ : ∃ X, ((V.setCell ⟨w.heap.size, 0, none⟩ (.int .i64 op)).setCell ⟨w.heap.size, 1, none⟩ (.int .i64 id)) = X := ⟨_, rfl⟩
              rw [hX]
              have bxX : Box X w.heap.size #[.int .i64 op, .int .i64 id] 35 := by rw [← hX]; exact (HBV.out.set 0 _).set 1 _
              have HLX := hide (show Le w X by rw [← hX]; exact (HLV.out.setCell (Nat.le_refl _) _).setCell (Nat.le_refl _) _)
              have hzX := HLX.out.size
              have x0 := bxX.cell 0 (.int .i64 op) rfl
              have x1 := bxX.cell 1 (.int .i64 id) rfl
              have HBX3 := hide bxX
              clear hX bxX v0 v1 z0 z1 hop hid
              go_wp2_with fail
              refine (txput_any X b op id (by omega) (hasTab_below HTB.out HLX.out hb)).mono ?_
              rintro e w3 ⟨v3, rfl, hown3, hb3⟩
              have HL3 := hide (show Le w w3 from HLX.out.trans hb3)
              have bx3 := HBX3.out.below hb3 HBX3.out.lt
              have y0 := bx3.cell 0 (.int .i64 op) rfl
              have y1 := bx3.cell 1 (.int .i64 id) rfl
              have u0 := bx3.frozen 0
              have u1 := bx3.frozen 1
              have HBX4 := hide bx3
              have hz3 := HL3.out.size
              clear bx3 hb3 x0 x1
              by_cases hm : ty.May op id
              · rw [ty.put_may hm] at hown3 ⊢
                have hm2 := HM.out.1 hm
                have hlen : (ty.lay op.toNat id.toNat).length ≤ 45 := by
                  have := ty.body_len (ty.may_s64 hm).1 (ty.may_s64 hm).2
                  have h2 := ty.sealed_len op.toNat id.toNat
                  show (ty.sealed op.toNat id.toNat).length + 1 ≤ 45
                  omega
                obtain ⟨e1, e2⟩ := HE.out hm2
                have e3 : op.toNat = p.1.n := by omega
                have e4 : id.toNat = q.1.n := by omega
                rw [e3, e4] at hown3 hlen ⊢
                obtain ⟨D, hD⟩ : ∃ D, ty.lay p.1.n q.1.n = D := ⟨_, rfl⟩
                have H1' := H1.out
                rw [hD] at hown3 hlen H1' ⊢
                obtain ⟨m, hm'⟩ : ∃ m, D.length = m := ⟨_, rfl⟩
                simp only at hown3
                rw [hm'] at hown3 hlen
                obtain ⟨A3, c3, rfl, -, -⟩ := own_form hown3
                have HR3 := hide (Row.of_own hown3)
                have HD := hide hm'
                have HE12 := hide (show (p.1.n : Int) = op ∧ (q.1.n : Int) = id from ⟨e1.symm, e2.symm⟩)
                have HX1 := hide H1'
                have HM2 := hide hm2
                have HRB := hide (show Row w3 w3.heap.size (some ⟨bA, oA, none⟩) (u8s ((x :: r).take (1 + x))) by rw [← u8s_take]; exact (hr.le HL3.out).take _)
                have HTL := hide (show ((x :: r).take (1 + x)).length = 1 + x by rw [List.length_take, HL.out]; omega)
                clear hm hm2 hown3 e1 e2 e3 e4 hD H1' hm' H1
                go_wp2_with fail
                refine (equal8_any w3 A3 m c3 D _ (1 + x) _ ((x :: r).take (1 + x)) HD.out HTL.out (by omega) (by omega) HR3.out HRB.out).mono ?_
                rintro e w4 ⟨q4, rfl, rfl⟩
                have t0 : (w3.drewN q4).cell? ⟨w.heap.size, 0, none⟩ = some (.int .i64 op) := y0
                have t1 : (w3.drewN q4).cell? ⟨w.heap.size, 1, none⟩ = some (.int .i64 id) := y1
                by_cases hd : D = (x :: r).take (1 + x)
                · rw [decide_eq_true hd]
                  have HDD := hide hd
                  clear hd
                  go_wp2_with fail
                  refine bodyPost_ret (box_results1 rfl _ (((HBX4.out.drewN q4).set 0 _).set 1 _) rfl Try.underlying35 rfl rfl) rfl ?_
                  exact ⟨((below_drewN HL3.out q4).setCell (Nat.le_refl _) _).setCell (Nat.le_refl _) _, .inr ⟨op, id, 1 + x, by rw [HX1.out, if_pos ⟨HM2.out, HDD.out⟩, HE12.out.1, HE12.out.2], rfl⟩⟩
                · rw [decide_eq_false hd]
                  have HDD := hide hd
                  clear hd
                  go_wp2_with fail
                  refine bodyPost_ret (box_results1 rfl _ (((HBX4.out.drewN q4).set 0 _).set 1 _) rfl Try.underlying35 rfl rfl) rfl ?_
                  exact ⟨((below_drewN HL3.out q4).setCell (Nat.le_refl _) _).setCell (Nat.le_refl _) _, .inl ⟨by rw [HX1.out, if_neg (fun h => HDD.out h.2)], op, id, rfl⟩⟩
              · rw [ty.put_not hm] at hown3 ⊢
                obtain ⟨A3, c3, rfl, -, -⟩ := own_form hown3
                have HX1 := hide (show ty.one (x :: r) = none by rw [H1.out, if_neg (fun h => hm (HM.out.2 h.1))])
                clear hm hown3 H1
                go_wp2_with fail
                refine bodyPost_ret (box_results1 rfl _ ((HBX4.out.set 0 _).set 1 _) rfl Try.underlying35 rfl rfl) rfl ?_
                exact ⟨(HL3.out.setCell (Nat.le_refl _) _).setCell (Nat.le_refl _) _, .inl ⟨HX1.out, op, id, rfl⟩⟩
            · have hK2' : decide (K = 2) = false := decide_eq_false hK2
              rw [ty.two_len (by simpa using (fun e => hK2 (hK.symm.trans e)))] at hw1
              have H1 := hide hw1
              clear hw1 hwt
              go_wp2_with fail
              refine bodyPost_ret (box_results1 rfl _ ((HBX2.out.set 0 _).set 1 _) rfl Try.underlying35 rfl rfl) rfl ?_
              exact ⟨(HL2.out.setCell (Nat.le_refl _) _).setCell (Nat.le_refl _) _, .inl ⟨H1.out, 0, 0, rfl⟩⟩
#print axioms txone_any
end Go.Proofs.Ytocpeiocgppkfaa
