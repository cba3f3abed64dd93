/-
  What is known, taken from bytes, walked: by the program.
-/
import Derived.Test.YtjliocbdidiemaaDoorQV
import Derived.Test.YtjliocbdidiemaaDoorQW
import Derived.Test.YtjliocbdidiemaaDoorQSt
namespace Go.Proofs.YtjliocbdidiemaaDoor
open Go.RowKit
set_option linter.unusedVariables false

theorem fb_le {fs : List Fld} {f : Fld} (hf : f ∈ fs) (hB : f.isB = true) : f.b.length ≤ (wi.enc fs).length := by
  obtain ⟨a, b, rfl⟩ := List.append_of_mem hf
  rw [wi.enc_append]
  have e : wi.enc (f :: b) = wi.encF f ++ wi.enc b := rfl
  rw [e, wi.encF_bytes hB]
  simp only [List.length_append]
  omega
theorem tv_good {l : List Nat} {v : va.Val} (hl : l.length ≤ 2000) (h8 : ∀ c ∈ l, c < 256) (h : tv l = some v) : I64 v.n ∧ v.s.size ≤ l.length := by
  cases ht : wi.take l with
  | none => rw [tv_none ht] at h; cases h
  | some fs =>
    cases hs : wi.shp 1 fs [false, false, true] with
    | false => rw [tv_shape ht hs] at h; cases h
    | true =>
      obtain ⟨f, g, k, rfl, -, -, hk⟩ := wi.shp3 hs
      rw [tv_some ht hs] at h
      split at h
      · injection h with h
        subst h
        have hsame := tv_same hl h8 ht hs
        have hc := wi.take_canon l.length l _ (Nat.le_refl _) hl h8 ht
        have hb := fb_le (fs := [f, g, k]) (f := k) (by simp) hk.2
        rw [hc.1] at hb
        exact ⟨zag_i64 hsame.2.2.1, by simp only [str_size]; exact hb⟩
      · cases h
theorem fv6 {o : List FV} {K : Nat} (hK : o.length = K) {f0 f1 f2 f3 f4 f5 : Fld} (h : o.map (·.1) = [f0, f1, f2, f3, f4, f5]) : ∃ p0 p1 p2 p3 p4 p5 : FV, o = [p0, p1, p2, p3, p4, p5] ∧ p0.1 = f0 ∧ p1.1 = f1 ∧ p2.1 = f2 ∧ p3.1 = f3 ∧ p4.1 = f4 ∧ p5.1 = f5 ∧ K = 6 := by
  match o, h with
  | [p0, p1, p2, p3, p4, p5], h =>
    simp only [List.map_cons, List.map_nil, List.cons.injEq, and_true] at h
    exact ⟨p0, p1, p2, p3, p4, p5, rfl, h.1, h.2.1, h.2.2.1, h.2.2.2.1, h.2.2.2.2.1, h.2.2.2.2.2, hK.symm⟩
def zeroS : st.St := ⟨0, false, zeroV, zeroV, 0, false⟩
def tsV : Option st.St → st.St
  | some s => s
  | none => zeroS
theorem st_one (s : st.St) : (st.cells s).all (·.oneCell') = true := by simp [st.cells, Value.oneCell']
/-- What TakeStats hands back. -/
def TsR (k : Int) (l : List Nat) (w : World) (e : Ending) (w' : World) : Prop := e = .returned (.tuple #[.agg (st.cells (tsV (ts k l))), .int .i64 (tkE' (ts k l))]) ∧ Le w w'
theorem sbox2 (w : World) (s : st.St) (t : TypeId) : ∃ X, (w.alloc (.cells (st.cells zeroS) t)).setRow w.heap.size (st.cells s) = X ∧ Box X w.heap.size (st.cells s) t ∧ Le w X :=
  ⟨_, rfl, setRow_heap _ _ _ _ _ _ (box_new _ _ _), below_setRow ((Below.refl _ _).alloc (Nat.le_refl _) _) (Nat.le_refl _) _⟩
theorem wf_of_i64 {n : Int} (h : I64 n) : (Lit.int .i64 n).wf = true := by
  unfold Lit.wf
  rw [Bool.and_eq_true, decide_eq_true_eq, decide_eq_true_eq]
  exact h
/-- What six fields say. -/
theorem six_facts {l : List Nat} {f0 f1 f2 f3 f4 f5 : Fld} (hl : l.length ≤ 1000) (h8 : ∀ c ∈ l, c < 256) (h : wi.take l = some [f0, f1, f2, f3, f4, f5]) (hs : wi.shp 1 [f0, f1, f2, f3, f4, f5] [false, false, true, true, false, false] = true) :
    var.S64 f0.n ∧ var.S64 f1.n ∧ ((∀ c ∈ f2.b, c < 256) ∧ f2.b.length ≤ 1000) ∧ ((∀ c ∈ f3.b, c < 256) ∧ f3.b.length ≤ 1000) ∧ var.S64 f4.n ∧ var.S64 f5.n := by
  obtain ⟨e, hf⟩ := wi.take_canon l.length l _ (Nat.le_refl _) (by omega) h8 h
  obtain ⟨_, _, g2, g3, _, _, e', -, -, t2, t3, -, -⟩ := wi.shp6 hs
  simp only [List.cons.injEq, and_true] at e'
  obtain ⟨-, -, rfl, rfl, -, -⟩ := e'
  have b2 := fb_le (fs := [f0, f1, f2, f3, f4, f5]) (f := f2) (by simp) t2.2
  have b3 := fb_le (fs := [f0, f1, f2, f3, f4, f5]) (f := f3) (by simp) t3.2
  rw [e] at b2 b3
  exact ⟨(hf f0 (by simp)).1.1, (hf f1 (by simp)).1.1, ⟨(hf f2 (by simp)).1.2.1, by omega⟩, ⟨(hf f3 (by simp)).1.2.1, by omega⟩, (hf f4 (by simp)).1.1, (hf f5 (by simp)).1.1⟩
theorem wrap_i64 (n : Int) : I64 (wrap64 n) := by unfold I64 wrap64; omega
theorem good_of {l2 l3 : List Nat} {f0 f1 f4 f5 : Fld} {mn mx : va.Val} (h4 : var.S64 f4.n) (k2 : l2.length ≤ 1000) (k28 : ∀ c ∈ l2, c < 256) (k3 : l3.length ≤ 1000) (k38 : ∀ c ∈ l3, c < 256) (h2 : tv l2 = some mn) (h3 : tv l3 = some mx) : GoodS (statOf f0 f1 f4 f5 mn mx) := by
  have a := tv_good (by omega) k28 h2
  have b := tv_good (by omega) k38 h3
  exact ⟨wrap_i64 _, a.1, by show mn.s.size ≤ 1500; omega, b.1, by show mx.s.size ≤ 1500; omega, zag_i64 h4⟩
theorem statE8 {s : st.St} (h : GoodS s) : ∀ c ∈ statE s, c < 256 := wi.enc8 fun f hf => (statF_good h f hf).1

set_option maxRecDepth 100000 in
set_option maxHeartbeats 8000000 in
theorem takestats_any (w : World) (kd : Int) (A : Option Addr) (n c : Nat) (l : List Nat) (hl : l.length = n) (hn : n ≤ 1000) (hnc : n ≤ c) (hc : c ≤ maxLen) (h8 : ∀ x ∈ l, x < 256) (hr : Row w w.heap.size A (u8s l)) (hT : Tabs8 w) :
    Calls Tryd.prog 10 #[.int .i64 kd, .slice A n c] w (TsR kd l w) := by
  obtain ⟨W0, hW0⟩ : ∃ W0, w.alloc (.cells (st.cells zeroS) 36) = W0 := ⟨_, rfl⟩
  have BX := hide (show Box W0 w.heap.size (st.cells zeroS) 36 by rw [← hW0]; exact box_new _ _ _)
  have HLW := hide (show Le w W0 by rw [← hW0]; exact (Below.refl _ _).alloc (Nat.le_refl _) _)
  have HRL := hide (hr.le HLW.out)
  have hsh := hide (shaped_any W0 A n c l ⟨#[110, 110, 98, 98, 110, 110]⟩ [false, false, true, true, false, false] hl (by omega) hnc hc h8 (hr.le HLW.out) pat6 (by simp))
  have HW0 := hide hW0
  have H8 := hide h8
  have HL := hide hl
  have HT := hide hT
  clear hW0 hr h8 hl hT
  go_enter Tryd.func10, Tryd.ntmps10
  go_upto_region 1 with fail
  have hW0' : w.alloc (.cells #[.int .i64 0, .bool false, .bool false, .int .i64 0, .string ⟨#[]⟩, .bool false, .int .i64 0, .string ⟨#[]⟩, .int .i64 0, .bool false] 36) = W0 := HW0.out
  rw [hW0']
  clear hW0'
  go_wp2_with fail
  refine hsh.out.mono ?_
  rintro e w1 h
  rcases h with ⟨h1, rfl, hb⟩ | ⟨o, A1, K, c1, h1, hK, hs, rfl, hr1, hh1, h81, hb⟩
  · as_aux_lemma =>
    have hnone : ts kd l = none := by
      rcases h1 with h1 | ⟨fs, h1, h2⟩
      · exact ts_none h1
      · exact ts_shape h1 h2
    have BX1 := hide (BX.out.below hb BX.out.lt)
    have HB := hide (HLW.out.trans hb)
    clear h1 hb
    go_wp2_with (refine wpList_store_row rfl 36 _ _ rfl w.heap.size (st.cells zeroS) rfl rfl 36 _ BX1.out (by kernel_rfl) rfl (st_one zeroS) ?_)
    refine bodyPost_ret (box_results1 rfl _ (setRow_heap _ _ _ _ _ _ BX1.out) rfl Tryd.underlying36 rfl rfl) rfl ?_
    exact ⟨by rw [hnone]; rfl, below_setRow HB.out (Nat.le_refl _) _⟩
  · obtain ⟨f0, f1, f2, f3, f4, f5, hfgk, -, -, -, -, -, -⟩ := wi.shp6 hs
    rw [hfgk] at h1 hs
    obtain ⟨⟨f0', a0, k0⟩, ⟨f1', a1, k1⟩, ⟨f2', a2, k2⟩, ⟨f3', a3, k3⟩, ⟨f4', a4, k4⟩, ⟨f5', a5, k5⟩, rfl, e0, e1, e2, e3, e4, e5, rfl⟩ := fv6 hK hfgk
    simp only at e0 e1 e2 e3 e4 e5
    subst e0
    subst e1
    subst e2
    subst e3
    subst e4
    subst e5
    obtain ⟨-, -, h2b, h3b, h64, -⟩ := six_facts (by rw [HL.out]; exact hn) H8.out h1 hs
    have HSN := hide (fun (h : tv f2'.b = none ∨ tv f3'.b = none) => ts_none2 (k := kd) h1 hs h)
    have HSS := hide (fun (mn mx : va.Val) (h2 : tv f2'.b = some mn) (h3 : tv f3'.b = some mx) => ts_some (k := kd) h1 hs h2 h3)
    have HGO := hide (fun (mn mx : va.Val) (h2 : tv f2'.b = some mn) (h3 : tv f3'.b = some mx) => good_of (f0 := f0') (f1 := f1') (f5 := f5') h64 h2b.2 h2b.1 h3b.2 h3b.1 h2 h3)
    obtain ⟨bF, oF, rfl, hbF, D0⟩ := hr1.at_ (j := 2) rfl
    obtain ⟨b', o', e', -, D1⟩ := hr1.at_ (j := 6) rfl
    simp only [Option.some.injEq, Addr.mk.injEq, and_true] at e'
    obtain ⟨rfl, rfl⟩ := e'
    obtain ⟨b', o', e', -, D2⟩ := hr1.at_ (j := 11) rfl
    simp only [Option.some.injEq, Addr.mk.injEq, and_true] at e'
    obtain ⟨rfl, rfl⟩ := e'
    obtain ⟨b', o', e', -, D3⟩ := hr1.at_ (j := 15) rfl
    simp only [Option.some.injEq, Addr.mk.injEq, and_true] at e'
    obtain ⟨rfl, rfl⟩ := e'
    obtain ⟨b', o', e', -, D4⟩ := hr1.at_ (j := 18) rfl
    simp only [Option.some.injEq, Addr.mk.injEq, and_true] at e'
    obtain ⟨rfl, rfl⟩ := e'
    obtain ⟨b', o', e', -, D5⟩ := hr1.at_ (j := 22) rfl
    simp only [Option.some.injEq, Addr.mk.injEq, and_true] at e'
    obtain ⟨rfl, rfl⟩ := e'
    obtain ⟨hc2a, hc2b, hr2⟩ := hh1 (f2', a2, k2) (by simp)
    obtain ⟨hc3a, hc3b, hr3⟩ := hh1 (f3', a3, k3) (by simp)
    simp only at hc2a hc2b hr2 hc3a hc3b hr3
    have BX1 := hide (BX.out.below hb BX.out.lt)
    have HB := hide (HLW.out.trans hb)
    have HRL1 := hide (HRL.out.le hb)
    have htk2 := hide (fun (W : World) (hW : Le w1 W) => takevalue_any W a2 f2'.b.length k2 f2'.b rfl (by omega) hc2a hc2b h2b.1 (hr2.le hW))
    have htk3 := hide (fun (W : World) (hW : Le w1 W) => takevalue_any W a3 f3'.b.length k3 f3'.b rfl (by omega) hc3a hc3b h3b.1 (hr3.le hW))
    have H64 := hide h64
    obtain ⟨l2, hl2⟩ : ∃ x, f2'.b.length = x := ⟨_, rfl⟩
    obtain ⟨l3, hl3⟩ : ∃ x, f3'.b.length = x := ⟨_, rfl⟩
    rw [hl2] at htk2
    rw [hl3] at htk3
    have d2 : w1.cell? ⟨bF, oF + 8 + 3, none⟩ = some (.slice a2 l2 k2) := by rw [Nat.add_assoc, D2, hl2]
    have HD := hide (show ∀ W, Le w1 W → W.cell? ⟨bF, oF + 2, none⟩ = some (.int .u64 (f0'.n : Int)) ∧ W.cell? ⟨bF, oF + 4 + 2, none⟩ = some (.int .u64 (f1'.n : Int)) ∧ W.cell? ⟨bF, oF + 12 + 3, none⟩ = some (.slice a3 l3 k3) ∧ W.cell? ⟨bF, oF + 16 + 2, none⟩ = some (.int .u64 (f4'.n : Int)) ∧ W.cell? ⟨bF, oF + 20 + 2, none⟩ = some (.int .u64 (f5'.n : Int)) from fun W h =>
      ⟨(h.cell (p := ⟨bF, oF + 2, none⟩) hbF).trans D0, (h.cell (p := ⟨bF, oF + 4 + 2, none⟩) hbF).trans (by rw [Nat.add_assoc, D1]), (h.cell (p := ⟨bF, oF + 12 + 3, none⟩) hbF).trans (by rw [Nat.add_assoc, D3, hl3]), (h.cell (p := ⟨bF, oF + 16 + 2, none⟩) hbF).trans (by rw [Nat.add_assoc, D4]), (h.cell (p := ⟨bF, oF + 20 + 2, none⟩) hbF).trans (by rw [Nat.add_assoc, D5])⟩)
    obtain ⟨m2, hm2⟩ : ∃ x, tv f2'.b = x := ⟨_, rfl⟩
    obtain ⟨m3, hm3⟩ : ∃ x, tv f3'.b = x := ⟨_, rfl⟩
    have HM2 := hide hm2
    have HM3 := hide hm3
    unfold TvR at htk2 htk3
    rw [hm2] at htk2
    rw [hm3] at htk3
    obtain ⟨E2, hE2⟩ : ∃ x, tkE' m2 = x := ⟨_, rfl⟩
    obtain ⟨E3, hE3⟩ : ∃ x, tkE' m3 = x := ⟨_, rfl⟩
    rw [hE2] at htk2
    rw [hE3] at htk3
    have HE2 := hide hE2
    have HE3 := hide hE3
    clear hE2 hE3
    clear D0 D1 D2 D3 D4 D5 h1 hK hs hr1 hh1 h81 hb hfgk hl2 hl3 h2b h3b h64 hc2a hc2b hr2 hc3a hc3b hr3 hm2 hm3
    obtain ⟨⟨vn, vi, vs⟩, hv2⟩ : ∃ v, tvV m2 = v := ⟨_, rfl⟩
    obtain ⟨⟨un, ui, us⟩, hv3⟩ : ∃ v, tvV m3 = v := ⟨_, rfl⟩
    rw [hv2] at htk2
    rw [hv3] at htk3
    simp only [vcell] at htk2 htk3
    have HV2 := hide hv2
    have HV3 := hide hv3
    clear hv2 hv3
    go_wp2_with fail
    refine (htk2.out w1 (Le.refl _)).mono ?_
    rintro e w2 ⟨rfl, hb⟩
    have HB2 := hide (show Le w1 w2 from hb)
    clear hb d2
    go_upto_region 5 with fail
    obtain ⟨X2, hX2, b2, hl2⟩ : ∃ X, w2.alloc (.cells #[.bool vn, .int .i64 vi, .string vs] 32) = X ∧ Box X w2.heap.size #[.bool vn, .int .i64 vi, .string vs] 32 ∧ Le w2 X := ⟨_, rfl, box_new _ _ _, (Below.refl _ _).alloc (Nat.le_refl _) _⟩
    rw [hX2]
    have HX2 := hide (HB2.out.trans hl2)
    have B2 := hide b2
    clear hX2 b2 hl2
    have d3 := (HD.out X2 HX2.out).2.2.1
    go_wp2_with fail
    refine (htk3.out X2 HX2.out).mono ?_
    rintro e w3 ⟨rfl, hb⟩
    have HB3 := hide (show Le X2 w3 from hb)
    clear hb d3
    go_upto_region 6 with fail
    obtain ⟨X3, hX3, b3, hl3⟩ : ∃ X, w3.alloc (.cells #[.bool un, .int .i64 ui, .string us] 32) = X ∧ Box X w3.heap.size #[.bool un, .int .i64 ui, .string us] 32 ∧ Le w3 X := ⟨_, rfl, box_new _ _ _, (Below.refl _ _).alloc (Nat.le_refl _) _⟩
    rw [hX3]
    obtain ⟨V, hV⟩ : ∃ V, X3.drew = V := ⟨_, rfl⟩
    have HLV := hide (show Le w1 V by rw [← hV]; exact ((HX2.out.trans HB3.out).trans hl3).drew)
    have B3 := hide (show Box V w3.heap.size #[.bool un, .int .i64 ui, .string us] 32 by rw [← hV]; exact b3.drew)
    have B2V := hide (show Box V w2.heap.size #[.bool vn, .int .i64 vi, .string vs] 32 by rw [← hV]; exact (B2.out.below (HB3.out.trans hl3).drew B2.out.lt))
    have HV := hide hV
    clear hX3 b3 hl3 hV B2
    have t0 : ∀ W, Le V W → W.cell? ⟨bF, oF + 2, none⟩ = some (.int .u64 (f0'.n : Int)) := fun W h => (HD.out W (HLV.out.trans h)).1
    have t1 : ∀ W, Le V W → W.cell? ⟨bF, oF + 4 + 2, none⟩ = some (.int .u64 (f1'.n : Int)) := fun W h => (HD.out W (HLV.out.trans h)).2.1
    have t2 : ∀ W, Le V W → W.cell? ⟨bF, oF + 16 + 2, none⟩ = some (.int .u64 (f4'.n : Int)) := fun W h => (HD.out W (HLV.out.trans h)).2.2.2.1
    have t3 : ∀ W, Le V W → W.cell? ⟨bF, oF + 20 + 2, none⟩ = some (.int .u64 (f5'.n : Int)) := fun W h => (HD.out W (HLV.out.trans h)).2.2.2.2
    have t4 := B2V.out.later 0 (.bool vn) rfl
    have t5 := B2V.out.later 1 (.int .i64 vi) rfl
    have t6 := B2V.out.later 2 (.string vs) rfl
    have t7 := B3.out.later 0 (.bool un) rfl
    have t8 := B3.out.later 1 (.int .i64 ui) rfl
    have t9 := B3.out.later 2 (.string us) rfl
    obtain ⟨qh, hqh⟩ : ∃ q, decide (f1'.n = 1) = q := ⟨_, rfl⟩
    have hq1 : ((f1'.n : Int) == 1) = qh := by
      rw [← hqh, Bool.eq_iff_iff]; simp; omega
    obtain ⟨qo, hqo⟩ : ∃ q, decide (f5'.n = 1) = q := ⟨_, rfl⟩
    have hq2 : ((f5'.n : Int) == 1) = qo := by
      rw [← hqo, Bool.eq_iff_iff]; simp; omega
    obtain ⟨z0, hz0⟩ : ∃ z, wrap64 f0'.n = z := ⟨_, rfl⟩
    obtain ⟨z4, hz4⟩ : ∃ z, zag f4'.n = z := ⟨_, rfl⟩
    obtain ⟨S, hS⟩ : ∃ S : st.St, S = ⟨z0, qh, ⟨vn, vi, vs⟩, ⟨un, ui, us⟩, z4, qo⟩ := ⟨_, rfl⟩
    have HSO := hide (show statOf f0' f1' f4' f5' ⟨vn, vi, vs⟩ ⟨un, ui, us⟩ = S by rw [hS, ← hqh, ← hqo, ← hz0, ← hz4]; rfl)
    have hSc : st.cells S = #[.int .i64 z0, .bool qh, .bool vn, .int .i64 vi, .string vs, .bool un, .int .i64 ui, .string us, .int .i64 z4, .bool qo] := by rw [hS]; rfl
    have HSC := hide hSc
    clear hqh hqo hSc hS
    go_cut [12] (fun s wx => ∃ g, s = .pointer (some ⟨g, 0, none⟩) ∧ Box wx g (st.cells S) 36 ∧ Le V wx)
    case first =>
      obtain ⟨F, hF, BF, hLF⟩ := sbox2 V S 36
      have bS := st_one S
      rw [HSC.out] at hF BF bS
      have hF' : (V.alloc (.cells #[.int .i64 0, .bool false, .bool false, .int .i64 0, .string ⟨#[]⟩, .bool false, .int .i64 0, .string ⟨#[]⟩, .int .i64 0, .bool false] 36)).setRow V.heap.size #[.int .i64 z0, .bool qh, .bool vn, .int .i64 vi, .string vs, .bool un, .int .i64 ui, .string us, .int .i64 z4, .bool qo] = F := hF
      refine region_at (Le V) 24 (by kernel_rfl) (by rw [HV.out]; exact Le.refl _) ?_
      rw [HV.out]
      refine at_seg [(0, 1), (1, 1), (2, 1), (3, 0), (4, 1), (5, 1), (6, 1), (7, 1), (8, 0), (9, 1), (10, 0), (11, 0), (12, 1), (13, 1), (14, 1), (15, 0), (17, 1), (18, 1), (19, 1), (20, 0), (21, 1)] 4 (by rfl) (by kernel_rfl) ?_
      simp only [opsPiG, List.filterMap_cons, List.filterMap_nil, List.getElem?_toArray, List.getElem?_cons_zero, List.getElem?_cons_succ, Option.map_some]
      repeat (first | (refine pig_any (v := _) rfl (fun W' => by go_simp <;> exact rfl) ?_; simp only [Act.put, List.setIfInBounds_toArray, List.set_cons_zero, List.set_cons_succ]) | (refine pig_take (v := _) rfl (fun W' hW' => by go_simp <;> exact rfl) ?_; simp only [Act.put, List.setIfInBounds_toArray, List.set_cons_zero, List.set_cons_succ]))
      refine pig_done ?_
      clear t0 t1 t2 t3 t4 t5 t6 t7 t8 t9
      show At _ _ _ (Le V) 24 4 _ _ V
      refine at_two (i := 16) (j := 23) (fuel := 3) (by rfl) (by rfl) (by kernel_rfl) ?_ ?_
      · go_wp2_with fail
        refine (zag_any V f4'.n H64.out).mono ?_
        rintro e w' ⟨rfl, rfl⟩
        rw [hz4]
        go_wp2_with fail
        refine ⟨Le.refl _, ?_⟩
        refine at_seg [(22, 1), (23, 2), (24, 3)] 0 (by rfl) (by kernel_rfl) ?_
        simp only [opsPiG, List.filterMap_cons, List.filterMap_nil, List.getElem?_toArray, List.getElem?_cons_zero, List.getElem?_cons_succ, Option.map_some]
        refine pig_any (v := _) rfl (fun W' => by go_simp <;> exact rfl) ?_
        simp only [Act.put, List.setIfInBounds_toArray, List.set_cons_zero, List.set_cons_succ]
        refine pig_run ?_
        go_wp2_with fail
        refine ⟨(Below.refl _ _).alloc (Nat.le_refl _) _, ?_⟩
        refine pig_late ?_
        go_wp2_with (refine wpList_store_row rfl 36 _ _ rfl V.heap.size #[.int .i64 z0, .bool qh, .bool vn, .int .i64 vi, .string vs, .bool un, .int .i64 ui, .string us, .int .i64 z4, .bool qo] rfl rfl 36 _ (box_new _ _ _) (by kernel_rfl) rfl bS ?_)
        refine pig_done ?_
        refine at_done (by kernel_rfl) ?_ 0
        try rw [hF']
        go_wp2_with fail
        go_meet
        exact ⟨_, rfl, by rw [HSC.out]; exact BF, hLF⟩
      · go_wp2_with fail
        refine ⟨(Below.refl _ _).alloc (Nat.le_refl _) _, ?_⟩
        refine at_seg [(16, 2), (22, 1), (24, 3)] 0 (by rfl) (by kernel_rfl) ?_
        simp only [opsPiG, List.filterMap_cons, List.filterMap_nil, List.getElem?_toArray, List.getElem?_cons_zero, List.getElem?_cons_succ, Option.map_some]
        refine pig_run ?_
        go_wp2_with fail
        refine (zag_any _ f4'.n H64.out).mono ?_
        rintro e w' ⟨rfl, rfl⟩
        rw [hz4]
        go_wp2_with fail
        refine ⟨(Below.refl _ _).alloc (Nat.le_refl _) _, ?_⟩
        refine pig_any (v := _) rfl (fun W' => by go_simp <;> exact rfl) ?_
        simp only [Act.put, List.setIfInBounds_toArray, List.set_cons_zero, List.set_cons_succ]
        refine pig_late ?_
        go_wp2_with (refine wpList_store_row rfl 36 _ _ rfl V.heap.size #[.int .i64 z0, .bool qh, .bool vn, .int .i64 vi, .string vs, .bool un, .int .i64 ui, .string us, .int .i64 z4, .bool qo] rfl rfl 36 _ (box_new _ _ _) (by kernel_rfl) rfl bS ?_)
        refine pig_done ?_
        refine at_done (by kernel_rfl) ?_ 0
        try rw [hF']
        go_wp2_with fail
        go_meet
        exact ⟨_, rfl, by rw [HSC.out]; exact BF, hLF⟩
    case rest =>
      obtain ⟨g, rfl, bG, hL2⟩ := hcut
      clear t0 t1 t2 t3 t4 t5 t6 t7 t8 t9 hq1 hq2 hz0 hz4
      have HL1 := hide (show Le w1 wc from HLV.out.trans hL2)
      have BG := hide bG
      have BXX := hide (BX1.out.below HL1.out BX1.out.lt)
      have HLL := hide (HB.out.trans HL1.out)
      have HRL2 := hide (HRL1.out.le HL1.out)
      clear bG hL2
      cases m2 with
      | none =>
        obtain rfl : E2 = 2 := HE2.out.symm
        have HNONE := hide (HSN.out (.inl HM2.out))
        go_wp2_with (refine wpList_store_row rfl 36 _ _ rfl w.heap.size (st.cells zeroS) rfl rfl 36 _ BXX.out (by kernel_rfl) rfl (st_one zeroS) ?_)
        refine bodyPost_ret (box_results1 rfl _ (setRow_heap _ _ _ _ _ _ BXX.out) rfl Tryd.underlying36 rfl rfl) rfl ?_
        exact ⟨by rw [HNONE.out]; rfl, below_setRow HLL.out (Nat.le_refl _) _⟩
      | some mn =>
        obtain rfl : E2 = 0 := HE2.out.symm
        cases m3 with
        | none =>
          obtain rfl : E3 = 2 := HE3.out.symm
          have HNONE := hide (HSN.out (.inr HM3.out))
          go_wp2_with (refine wpList_store_row rfl 36 _ _ rfl w.heap.size (st.cells zeroS) rfl rfl 36 _ BXX.out (by kernel_rfl) rfl (st_one zeroS) ?_)
          refine bodyPost_ret (box_results1 rfl _ (setRow_heap _ _ _ _ _ _ BXX.out) rfl Tryd.underlying36 rfl rfl) rfl ?_
          exact ⟨by rw [HNONE.out]; rfl, below_setRow HLL.out (Nat.le_refl _) _⟩
        | some mx =>
          obtain rfl : E3 = 0 := HE3.out.symm
          have GS := hide (show GoodS S by
            rw [← HSO.out]
            have e2 : mn = ⟨vn, vi, vs⟩ := HV2.out
            have e3 : mx = ⟨un, ui, us⟩ := HV3.out
            rw [← e2, ← e3]
            exact HGO.out mn mx HM2.out HM3.out)
          have HTS := hide (show ts kd l = if statE S = l ∧ st.mayS kd S = true then some S else none by
            have h := HSS.out mn mx HM2.out HM3.out
            have e2 : mn = ⟨vn, vi, vs⟩ := HV2.out
            have e3 : mx = ⟨un, ui, us⟩ := HV3.out
            rw [e2, e3, HSO.out] at h
            exact h)
          clear HSN HSS HGO HM2 HM3 HV2 HV3 HE2 HE3
          obtain ⟨E, hE⟩ : ∃ E, statE S = E := ⟨_, rfl⟩
          have H8E := hide (show ∀ x ∈ E, x < 256 by rw [← hE]; exact statE8 GS.out)
          have hps := hide (show Calls Tryd.prog 14 #[.agg #[.int .i64 z0, .bool qh, .bool vn, .int .i64 vi, .string vs, .bool un, .int .i64 ui, .string us, .int .i64 z4, .bool qo]] wc (Gives wc.heap.size 5 1 E.length (u8s E) wc) by
            have h := putstats_any wc S GS.out
            rw [hE, HSC.out] at h
            exact h)
          rw [hE] at HTS
          obtain ⟨mb, hmb⟩ : ∃ b, st.mayS kd S = b := ⟨_, rfl⟩
          rw [hmb] at HTS
          have hmy := hide (show ∀ W, Le wc W → Calls Tryd.prog 26 #[.int .i64 kd, .agg #[.int .i64 z0, .bool qh, .bool vn, .int .i64 vi, .string vs, .bool un, .int .i64 ui, .string us, .int .i64 z4, .bool qo]] W (fun e w' => e = .returned (.bool mb) ∧ Below W.heap.size W w') from fun W h => by
            obtain ⟨-, i1, z1, i2, z2, -⟩ := GS.out
            have h := stmay_any W kd S (wf_of_i64 i1) (wf_of_i64 i2) (by omega) (by omega) (HT.out.le (HLL.out.trans h))
            rw [hmb, HSC.out] at h
            exact h)
          rw [HSC.out] at BG
          obtain ⟨eb, heb⟩ : ∃ b, decide (E = l) = b := ⟨_, rfl⟩
          have HTS2 := hide (show ts kd l = if eb && mb then some S else none by
            rw [HTS.out, ← heb]
            by_cases h : E = l <;> cases mb <;> simp [h])
          have heq := hide (show ∀ W A5 c5, Le wc W → Row W W.heap.size A5 (u8s E) → Calls Tryd.prog 25 #[.slice A5 E.length c5, .slice A n c] W (fun e w' => e = .returned (.bool eb) ∧ W = w') from fun W A5 c5 h hr5 => heb ▸ equal_any W A5 A E.length c5 n c E l rfl HL.out H8E.out H8.out hr5 (HRL2.out.le h))
          obtain ⟨EL, hEL⟩ : ∃ x, E.length = x := ⟨_, rfl⟩
          rw [hEL] at hps heq
          clear hE hmb heb HTS hEL HSO
          have q0 := BG.out.cell 0 (.int .i64 z0) rfl
          have q1 := BG.out.cell 1 (.bool qh) rfl
          have q2 := BG.out.cell 2 (.bool vn) rfl
          have q3 := BG.out.cell 3 (.int .i64 vi) rfl
          have q4 := BG.out.cell 4 (.string vs) rfl
          have q5 := BG.out.cell 5 (.bool un) rfl
          have q6 := BG.out.cell 6 (.int .i64 ui) rfl
          have q7 := BG.out.cell 7 (.string us) rfl
          have q8 := BG.out.cell 8 (.int .i64 z4) rfl
          have q9 := BG.out.cell 9 (.bool qo) rfl
          go_wp2_with fail
          refine hps.out.mono ?_
          rintro e w5 ⟨v5, rfl, hown, hb5⟩
          obtain ⟨A5, c5, rfl, -, -⟩ := own_form hown
          have HB5 := hide (show Le wc w5 from hb5)
          have HR5 := hide (Row.of_own hown)
          clear hown hb5 q0 q1 q2 q3 q4 q5 q6 q7 q8 q9
          have BG5 := hide (BG.out.below HB5.out BG.out.lt)
          have BXX2 := hide (BXX.out.below HB5.out BXX.out.lt)
          have HLL2 := hide (HLL.out.trans HB5.out)
          clear BXX HLL
          have BXX := BXX2
          have HLL := HLL2
          clear BXX2 HLL2
          go_wp2_with fail
          refine (heq.out w5 A5 c5 HB5.out HR5.out).mono ?_
          rintro e w' ⟨rfl, rfl⟩
          cases eb
          · have HNONE := hide (show ts kd l = none from HTS2.out)
            go_wp2_with (refine wpList_store_row rfl 36 _ _ rfl w.heap.size (st.cells zeroS) rfl rfl 36 _ BXX.out (by kernel_rfl) rfl (st_one zeroS) ?_)
            refine bodyPost_ret (box_results1 rfl _ (setRow_heap _ _ _ _ _ _ BXX.out) rfl Tryd.underlying36 rfl rfl) rfl ?_
            exact ⟨by rw [HNONE.out]; rfl, below_setRow HLL.out (Nat.le_refl _) _⟩
          · have q0 := BG5.out.cell 0 (.int .i64 z0) rfl
            have q1 := BG5.out.cell 1 (.bool qh) rfl
            have q2 := BG5.out.cell 2 (.bool vn) rfl
            have q3 := BG5.out.cell 3 (.int .i64 vi) rfl
            have q4 := BG5.out.cell 4 (.string vs) rfl
            have q5 := BG5.out.cell 5 (.bool un) rfl
            have q6 := BG5.out.cell 6 (.int .i64 ui) rfl
            have q7 := BG5.out.cell 7 (.string us) rfl
            have q8 := BG5.out.cell 8 (.int .i64 z4) rfl
            have q9 := BG5.out.cell 9 (.bool qo) rfl
            go_wp2_with fail
            refine (hmy.out w5 HB5.out).mono ?_
            rintro e w6 ⟨rfl, hb6⟩
            have HB6 := hide (show Le w5 w6 from hb6)
            have BG6 := hide (BG5.out.below HB6.out BG5.out.lt)
            clear hb6 q0 q1 q2 q3 q4 q5 q6 q7 q8 q9
            have q0 := BG6.out.cell 0 (.int .i64 z0) rfl
            have q1 := BG6.out.cell 1 (.bool qh) rfl
            have q2 := BG6.out.cell 2 (.bool vn) rfl
            have q3 := BG6.out.cell 3 (.int .i64 vi) rfl
            have q4 := BG6.out.cell 4 (.string vs) rfl
            have q5 := BG6.out.cell 5 (.bool un) rfl
            have q6 := BG6.out.cell 6 (.int .i64 ui) rfl
            have q7 := BG6.out.cell 7 (.string us) rfl
            have q8 := BG6.out.cell 8 (.int .i64 z4) rfl
            have q9 := BG6.out.cell 9 (.bool qo) rfl
            have BXX2 := hide (BXX.out.below HB6.out BXX.out.lt)
            have HLL2 := hide (HLL.out.trans HB6.out)
            clear BXX HLL
            have BXX := BXX2
            have HLL := HLL2
            cases mb
            · have HNONE := hide (show ts kd l = none from HTS2.out)
              go_wp2_with (refine wpList_store_row rfl 36 _ _ rfl w.heap.size (st.cells zeroS) rfl rfl 36 _ BXX.out (by kernel_rfl) rfl (st_one zeroS) ?_)
              refine bodyPost_ret (box_results1 rfl _ (setRow_heap _ _ _ _ _ _ BXX.out) rfl Tryd.underlying36 rfl rfl) rfl ?_
              exact ⟨by rw [HNONE.out]; rfl, below_setRow HLL.out (Nat.le_refl _) _⟩
            · have HSOME := hide (show ts kd l = some S from HTS2.out)
              have bS := st_one S
              rw [HSC.out] at bS
              go_wp2_with (refine wpList_store_row rfl 36 _ _ rfl w.heap.size #[.int .i64 z0, .bool qh, .bool vn, .int .i64 vi, .string vs, .bool un, .int .i64 ui, .string us, .int .i64 z4, .bool qo] rfl rfl 36 _ BXX.out (by kernel_rfl) rfl bS ?_)
              refine bodyPost_ret (box_results1 rfl _ (setRow_heap _ _ _ _ _ _ BXX.out) rfl Tryd.underlying36 rfl rfl) rfl ?_
              exact ⟨by rw [HSOME.out, tsV, HSC.out]; rfl, below_setRow HLL.out (Nat.le_refl _) _⟩
#print axioms takestats_any
end Go.Proofs.YtjliocbdidiemaaDoor
