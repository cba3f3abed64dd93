/-
  Rows with keys, sorted: the sort's small functions, walked (written by genVwT.py).
-/
import Derived.Test.YtjedpjfmlaganaaDoorVwA
import Derived.Test.YtjedpjfmlaganaaDoorVwS
import Derived.Test.YtjedpjfmlaganaaDoorRegionG
import Derived.Shelf.SlSortCmp.KitK
namespace Go.Proofs.YtjedpjfmlaganaaDoor.vw
open Go.RowKit Go.Sort Go.Shelf Go.Lib
set_option linter.unusedVariables false

/-- A row with its key, as its cells. -/
def encK (t : Kd × Nat) : List Value := [.int .i64 t.1.k.id, .int .i64 t.1.k.bk, .int .i64 t.1.k.rw, .slice t.1.A t.1.n t.1.c]
theorem encK_len (t : Kd × Nat) : (encK t).length = 4 := rfl
theorem encK_one (t : Kd × Nat) : ∀ v ∈ encK t, v.oneCell' = true := by
  intro v hv
  simp [encK] at hv
  rcases hv with rfl | rfl | rfl | rfl <;> rfl
theorem st_cells {w0 W : World} {blk off : Nat} {d0 d : Array (Kd × Nat)} (R : RowK encK 4 w0 blk off d0) (hs : d.size = d0.size) (S : SWK encK 4 w0 blk off d W) {i : Nat} (hi : i < d.size) {x : Kd × Nat} (hx : d[i]! = x) :
    W.cell? ⟨blk, off + i * 4, none⟩ = some (.int .i64 x.1.k.id) ∧ W.cell? ⟨blk, off + i * 4 + 1, none⟩ = some (.int .i64 x.1.k.bk) ∧ W.cell? ⟨blk, off + i * 4 + 2, none⟩ = some (.int .i64 x.1.k.rw) ∧ W.cell? ⟨blk, off + i * 4 + 3, none⟩ = some (.slice x.1.A x.1.n x.1.c) := by
  have h := HoldsK.cells (S.holds R.hblk R.hH hs) R.hk hi
  rw [hx] at h
  have h0 := h 0 _ rfl
  have h1 := h 1 _ rfl
  have h2 := h 2 _ rfl
  have h3 := h 3 _ rfl
  rw [add_eq] at h0 h1 h2 h3
  exact ⟨h0, h1, h2, h3⟩
theorem st_there {w0 W : World} {blk off : Nat} {d0 d : Array (Kd × Nat)} (R : RowK encK 4 w0 blk off d0) (hs : d.size = d0.size) (S : SWK encK 4 w0 blk off d W) {i : Nat} (hi : i < d.size) : W.there blk (off + i * 4) 4 := by
  intro j hj
  have h := (S.holds R.hblk R.hH hs) (i * 4 + j) (by rw [size_flatK]; omega)
  rw [← Nat.add_assoc] at h
  exact ⟨by rw [h.1]; rfl, h.2⟩
theorem there_set {W : World} {b o o' n : Nat} {vs : List Value} (h : W.there b o n) : (W.setCells b o' vs).there b o n := by
  induction vs generalizing W o' with
  | nil => exact h
  | cons v vs ih =>
    refine ih fun j hj => ?_
    have hj' := h j hj
    refine ⟨?_, by rw [World.frozen?_setCell]; exact hj'.2⟩
    by_cases e : o + j = o'
    · subst e
      rw [World.cell?_setCell_same' _ _ _ hj'.1]
      rfl
    · rw [World.cell?_setCell_other _ _ _ _ (fun h => e (by injection h with h1 h2; exact h2.symm))]
      exact hj'.1
theorem kd_one (x : Kd × Nat) : (#[.int .i64 x.1.k.id, .int .i64 x.1.k.bk, .int .i64 x.1.k.rw, .slice x.1.A x.1.n x.1.c] : Array Value).all (·.oneCell') = true := by simp [Value.oneCell']
theorem gr_swk {w0 w W : World} {blk off : Nat} {d : Array (Kd × Nat)} (S : SWK encK 4 w0 blk off d w) (h : Gr w W) : SWK encK 4 w0 blk off d W := by
  obtain ⟨q, os, rfl⟩ := h
  exact S.grown q os
/-- The order of two rows with keys, as the sort asks it. -/
theorem cmp_lays (blk off size : Nat) (w : World) : CmpLays Tryd.prog 39 #[] encK 4 (fun x y => ordK x.1.k y.1.k) blk off size w := fun m os dk _ x y =>
  (vorder_any (sortWorldK encK 4 w blk off m dk os) x.1.k y.1.k x.1.A y.1.A x.1.n y.1.n x.1.c y.1.c).mono fun e w' ⟨h1, h2⟩ => ⟨h1, h2⟩
theorem infoK : (Tryd.prog.info? 37).map (fun i => (i.zero, i.size, i.bytes)) = some (some (.agg #[.int .i64 0, .int .i64 0, .int .i64 0, .slice none 0 0]), 4, 48) := by kernel_rfl
theorem sizeK : (Tryd.prog.info? 37).map (·.size) = some 4 := by kernel_rfl

set_option maxRecDepth 100000 in
set_option maxHeartbeats 4000000 in
theorem swapRange_any (blk off cap a b n N : Nat) (d0 d : Array (Kd × Nat)) (w0 w : World) (g : Value) (R : RowK encK 4 w0 blk off d0) (hs : d.size = d0.size) (hN : d.size = N) (S : SWK encK 4 w0 blk off d w) (ha : a + n ≤ b) (hb : b + n ≤ N) (hsz : N ≤ 1000000) :
    Calls Tryd.prog 70 #[.slice (some ⟨blk, off, none⟩) N cap, .int .i64 a, .int .i64 b, .int .i64 n, g] w fun e w' => e = .returned (.tuple #[]) ∧ SWK encK 4 w0 blk off (swr d a b n) w' := by
  have HR := hide R
  have HS0 := hide S
  have HN := hide hN
  have HS00 := hide hs
  clear R S hN hs
  go_enter Tryd.func70, Tryd.ntmps70
  go_wp2_with fail
  go_loopw [10] (fun i wr => ∃ j : Nat, i = .int .i64 j ∧ j ≤ n ∧ Hid (SWK encK 4 w0 blk off (swr d a b j) wr)) (fun i _ => n - (intOf i).toNat)
  case atStart => exact ⟨0, rfl, Nat.zero_le _, HS0⟩
  case round =>
    obtain ⟨j, rfl, hj, HS⟩ := hrel
    by_cases hjn : j < n
    · obtain ⟨dk, hdk⟩ : ∃ dk, swr d a b j = dk := ⟨_, rfl⟩
      have hsk : dk.size = N := by rw [← hdk, swr_size]; exact HN.out
      have HZ : dk.size = d0.size := by rw [hsk, ← HN.out]; exact HS00.out
      rw [hdk] at HS
      have HDK := hide hdk
      obtain ⟨p, hp⟩ : ∃ p, a + j = p := ⟨_, rfl⟩
      obtain ⟨q, hq⟩ : ∃ q, b + j = q := ⟨_, rfl⟩
      have wp : IntKind.i64.wrap ((a : Int) + (j : Int)) = (p : Int) := by rw [IntWalk.i64_in _ (by omega)]; omega
      have wq : IntKind.i64.wrap ((b : Int) + (j : Int)) = (q : Int) := by rw [IntWalk.i64_in _ (by omega)]; omega
      have hpN : (p : Int) < N := by omega
      have hqN : (q : Int) < N := by omega
      have hpn : p < N := by omega
      have hqn : q < N := by omega
      have HP := hide hp
      have HQ := hide hq
      have HZ := HZ
      clear hdk hp hq
      go_upto_region 3 with fail
      obtain ⟨x, hx⟩ : ∃ x, dk[p]! = x := ⟨_, rfl⟩
      obtain ⟨y, hy⟩ : ∃ y, dk[q]! = y := ⟨_, rfl⟩
      obtain ⟨V, hV⟩ : ∃ V, wr.drew = V := ⟨_, rfl⟩
      have SV := hide (show SWK encK 4 w0 blk off dk V by rw [← hV]; exact HS.out.drew)
      obtain ⟨TT, hTT⟩ : ∃ TT : World → Prop, TT = SWK encK 4 w0 blk off dk := ⟨_, rfl⟩
      have cx : ∀ W, TT W → _ := fun W h => st_cells HR.out HZ (by rw [hTT] at h; exact h) (i := p) (by omega) hx
      have cy : ∀ W, TT W → _ := fun W h => st_cells HR.out HZ (by rw [hTT] at h; exact h) (i := q) (by omega) hy
      have CX := hide cx
      have CY := hide cy
      have HT1 := hide (st_there HR.out HZ SV.out (i := p) (by omega))
      have HT2 := hide (st_there HR.out HZ SV.out (i := q) (by omega))
      have HSW := hide (show SWK encK 4 w0 blk off (swp dk p q) ((V.setCells blk (off + p * 4) (encK y)).setCells blk (off + q * 4) (encK x)) by rw [← hx, ← hy]; exact SV.out.swap encK_len HR.out.hblk p q (by omega) (by omega))
      have HTT := hide hTT
      have HV := hide hV
      clear hx hy hV hTT cx cy
      refine region_pig TT 21 [(0, 1), (1, 1), (2, 1), (3, 1), (4, 1), (5, 1), (6, 1), (7, 1), (8, 1), (9, 1), (10, 1), (11, 1), (12, 1), (13, 0), (14, 1), (15, 1), (16, 1), (17, 1), (18, 1), (19, 0), (20, 1), (21, 3), (22, 1), (23, 3)] (by kernel_rfl) (by kernel_rfl) (by rw [HV.out, HTT.out]; exact SV.out) ?_
      simp only [opsPiG, List.filterMap_cons, List.filterMap_nil, List.getElem?_toArray, List.getElem?_cons_zero, List.getElem?_cons_succ, Option.map_some]
      rw [HV.out]
      repeat (refine pig_any (v := _) rfl (fun W' => by go_simp <;> exact rfl) ?_; simp only [Act.put, List.setIfInBounds_toArray, List.set_cons_zero, List.set_cons_succ])
      refine pig_take (v := .agg #[.int .i64 y.1.k.id, .int .i64 y.1.k.bk, .int .i64 y.1.k.rw, .slice y.1.A y.1.n y.1.c]) rfl (fun W' hW' => ?_) ?_
      · obtain ⟨q0, q1, q2, q3⟩ := CY.out W' hW'
        go_simp
      simp only [Act.put, List.setIfInBounds_toArray, List.set_cons_zero, List.set_cons_succ]
      repeat (refine pig_any (v := _) rfl (fun W' => by go_simp <;> exact rfl) ?_; simp only [Act.put, List.setIfInBounds_toArray, List.set_cons_zero, List.set_cons_succ])
      refine pig_take (v := .agg #[.int .i64 x.1.k.id, .int .i64 x.1.k.bk, .int .i64 x.1.k.rw, .slice x.1.A x.1.n x.1.c]) rfl (fun W' hW' => ?_) ?_
      · obtain ⟨q0, q1, q2, q3⟩ := CX.out W' hW'
        go_simp
      simp only [Act.put, List.setIfInBounds_toArray, List.set_cons_zero, List.set_cons_succ]
      repeat (refine pig_any (v := _) rfl (fun W' => by go_simp <;> exact rfl) ?_; simp only [Act.put, List.setIfInBounds_toArray, List.set_cons_zero, List.set_cons_succ])
      refine pig_late ?_
      go_wp2_with (refine wpList_store_mid rfl 37 _ _ rfl blk (off + p * 4) #[.int .i64 y.1.k.id, .int .i64 y.1.k.bk, .int .i64 y.1.k.rw, .slice y.1.A y.1.n y.1.c] rfl rfl HT1.out sizeK (kd_one y) ?_)
      repeat (refine pig_any (v := _) rfl (fun W' => by go_simp <;> exact rfl) ?_; simp only [Act.put, List.setIfInBounds_toArray, List.set_cons_zero, List.set_cons_succ])
      refine pig_late ?_
      go_wp2_with (refine wpList_store_mid rfl 37 _ _ rfl blk (off + q * 4) #[.int .i64 x.1.k.id, .int .i64 x.1.k.bk, .int .i64 x.1.k.rw, .slice x.1.A x.1.n x.1.c] rfl rfl (there_set HT2.out) sizeK (kd_one x) ?_)
      repeat (refine pig_any (v := _) rfl (fun W' => by go_simp <;> exact rfl) ?_; simp only [Act.put, List.setIfInBounds_toArray, List.set_cons_zero, List.set_cons_succ])
      refine pig_done ?_
      obtain ⟨X, hX⟩ : ∃ X, (V.setCells blk (off + p * 4) #[.int .i64 y.1.k.id, .int .i64 y.1.k.bk, .int .i64 y.1.k.rw, .slice y.1.A y.1.n y.1.c].toList).setCells blk (off + q * 4) #[.int .i64 x.1.k.id, .int .i64 x.1.k.bk, .int .i64 x.1.k.rw, .slice x.1.A x.1.n x.1.c].toList = X := ⟨_, rfl⟩
      have HS2 := hide (show SWK encK 4 w0 blk off (swp dk p q) X by rw [← hX]; exact HSW.out)
      rw [hX]
      clear hX
      go_wp2_with fail
      exact ⟨⟨j + 1, by go_num, by omega, by rw [swr, HDK.out, HP.out, HQ.out]; exact HS2⟩, by simp [intOf]; omega⟩
    · obtain rfl : j = n := by omega
      go_wp2_with fail
      go_end0
      exact ⟨rfl, HS.out⟩
#print axioms swapRange_any

set_option maxRecDepth 100000 in
set_option maxHeartbeats 4000000 in
theorem rotate_any (blk off cap a m b N : Nat) (d0 d : Array (Kd × Nat)) (w0 w : World) (g : Value) (R : RowK encK 4 w0 blk off d0) (hs : d.size = d0.size) (hN : d.size = N) (S : SWK encK 4 w0 blk off d w) (ham : a < m) (hmb : m < b) (hb : b ≤ N) (hsz : N ≤ 1000000) :
    Calls Tryd.prog 68 #[.slice (some ⟨blk, off, none⟩) N cap, .int .i64 a, .int .i64 m, .int .i64 b, g] w fun e w' => e = .returned (.tuple #[]) ∧ ∃ d', SWK encK 4 w0 blk off d' w' ∧ PermIn a b d d' ∧ ∀ x, d'[x]! = rotAt d a m b x := by
  have hsw := hide (fun (dk : Array (Kd × Nat)) (W : World) (x y n : Nat) (h : dk.size = N) (S : SWK encK 4 w0 blk off dk W) (h1 : x + n ≤ y) (h2 : y + n ≤ N) => swapRange_any blk off cap x y n N d0 dk w0 W g R (by rw [h, ← hN]; exact hs) h S h1 h2 hsz)
  have HS0 := hide S
  have HN := hide hN
  have HRS := hide (rot_start d a m b (by omega) (by omega))
  clear R S hN hs
  have w1 : IntKind.i64.wrap ((m : Int) - (a : Int)) = ((m - a : Nat) : Int) := by rw [IntWalk.i64_in _ (by omega)]; omega
  have w2 : IntKind.i64.wrap ((b : Int) - (m : Int)) = ((b - m : Nat) : Int) := by rw [IntWalk.i64_in _ (by omega)]; omega
  go_enter Tryd.func68, Tryd.ntmps68
  go_wp2_with fail
  go_loopw [10, 11] (fun s t wr => ∃ (i j : Nat) (dk : Array (Kd × Nat)), s = .int .i64 i ∧ t = .int .i64 j ∧ 0 < i ∧ 0 < j ∧ Hid (RotW d dk a m b i j) ∧ Hid (SWK encK 4 w0 blk off dk wr)) (fun s t _ => (intOf s).toNat + (intOf t).toNat)
  case atStart => exact ⟨m - a, b - m, d, by go_num, by go_num, by omega, by omega, HRS, HS0⟩
  case round =>
    clear w1 w2
    obtain ⟨i, j, dk, rfl, rfl, hi, hj, HW, HS⟩ := hrel
    have hi2 := HW.out.1
    have hj2 := HW.out.2.1
    have hz := HW.out.2.2.1.trans HN.out
    by_cases hij : i = j
    · subst hij
      have hne : ((i : Int) != i) = false := by simp
      have hl := hide (rot_last (show a ≤ m by omega) (by omega) (by rw [HN.out]; exact hb) HW.out)
      have hs1 := hide (hsw.out dk wr (m - i) m i hz HS.out (by omega) (by omega))
      have w1 : IntKind.i64.wrap ((m : Int) - (i : Int)) = ((m - i : Nat) : Int) := by rw [IntWalk.i64_in _ (by omega)]; omega
      obtain ⟨p, hp⟩ : ∃ p, m - i = p := ⟨_, rfl⟩
      rw [hp] at hl hs1 w1
      clear hp hz
      go_wp2_with fail
      refine hs1.out.mono ?_
      rintro e w' ⟨rfl, S'⟩
      have HS' := hide S'
      clear S'
      go_wp2_with fail
      go_end0
      exact ⟨rfl, _, HS'.out, hl.out.1, hl.out.2⟩
    · have hne : ((i : Int) != j) = true := by simp; omega
      by_cases hlt : j < i
      · have hle : decide ((j : Int) < i) = true := decide_eq_true (by omega)
        have HN2 := hide (rot_left (show a ≤ m by omega) (by omega) (by rw [HN.out]; exact hb) HW.out hlt)
        have hs1 := hide (hsw.out dk wr (m - i) m j hz HS.out (by omega) (by omega))
        have w1 : IntKind.i64.wrap ((m : Int) - (i : Int)) = ((m - i : Nat) : Int) := by rw [IntWalk.i64_in _ (by omega)]; omega
        have w2 : IntKind.i64.wrap ((i : Int) - (j : Int)) = ((i - j : Nat) : Int) := by rw [IntWalk.i64_in _ (by omega)]; omega
        obtain ⟨p, hp⟩ : ∃ p, m - i = p := ⟨_, rfl⟩
        obtain ⟨q, hq⟩ : ∃ q, i - j = q := ⟨_, rfl⟩
        rw [hp] at HN2 hs1 w1
        rw [hq] at HN2 w2
        have hq0 : 0 < q := by omega
        have hqi : q < i := by omega
        clear hp hz hq
        go_wp2_with fail
        refine hs1.out.mono ?_
        rintro e w' ⟨rfl, S'⟩
        have HS' := hide S'
        clear S'
        go_wp2_with fail
        exact ⟨⟨q, j, _, rfl, rfl, hq0, hj, HN2, HS'⟩, by simp [intOf]; omega⟩
      · have hle : decide ((j : Int) < i) = false := decide_eq_false (by omega)
        have HN2 := hide (rot_right (show a ≤ m by omega) (by omega) (by rw [HN.out]; exact hb) HW.out (by omega))
        have hs1 := hide (hsw.out dk wr (m - i) (m + j - i) i hz HS.out (by omega) (by omega))
        have w1 : IntKind.i64.wrap ((m : Int) - (i : Int)) = ((m - i : Nat) : Int) := by rw [IntWalk.i64_in _ (by omega)]; omega
        obtain ⟨r, hr⟩ : ∃ r, m + j = r := ⟨_, rfl⟩
        have w2 : IntKind.i64.wrap ((m : Int) + (j : Int)) = ((r : Nat) : Int) := by rw [IntWalk.i64_in _ (by omega)]; omega
        have w3 : IntKind.i64.wrap ((r : Int) - (i : Int)) = ((r - i : Nat) : Int) := by rw [IntWalk.i64_in _ (by omega)]; omega
        have w4 : IntKind.i64.wrap ((j : Int) - (i : Int)) = ((j - i : Nat) : Int) := by rw [IntWalk.i64_in _ (by omega)]; omega
        obtain ⟨p, hp⟩ : ∃ p, m - i = p := ⟨_, rfl⟩
        obtain ⟨q, hq⟩ : ∃ q, j - i = q := ⟨_, rfl⟩
        obtain ⟨t, ht⟩ : ∃ t, r - i = t := ⟨_, rfl⟩
        rw [hr] at HN2 hs1
        rw [hp] at HN2 hs1 w1
        rw [hq] at HN2 w4
        rw [ht] at HN2 hs1 w3
        have hq0 : 0 < q := by omega
        have hqi : q < j := by omega
        clear hp hz hq hr ht
        go_wp2_with fail
        refine hs1.out.mono ?_
        rintro e w' ⟨rfl, S'⟩
        have HS' := hide S'
        clear S'
        go_wp2_with fail
        exact ⟨⟨i, q, _, rfl, rfl, hi, hq0, HN2, HS'⟩, by simp [intOf]; omega⟩
#print axioms rotate_any
end Go.Proofs.YtjedpjfmlaganaaDoor.vw
