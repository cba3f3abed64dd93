/-
  Fields, walked: as the program has them, with bytes of their own.
-/
import Derived.Test.YtjliocbdidiemaaWireA
namespace Go.Proofs.Ytjliocbdidiemaa
open Go.RowKit
set_option linter.unusedVariables false

theorem Row.grown_ne {w w' : World} {A : Option Addr} {xs : List Value} {row : Option Nat} (h : Row w w.heap.size A xs) (hg : w.grownBy w' row) (hne : xs ≠ [] → ∀ a, A = some a → row ≠ some a.block) : Row w' w'.heap.size A xs := fun hn => by
  obtain ⟨b, o, hA, hb, hc⟩ := h hn
  exact ⟨b, o, hA, Nat.lt_of_lt_of_le hb hg.size, fun j u hu => (World.cell?_of_block (hg.block b hb (fun e => hne hn _ hA e.symm))).trans (hc j u hu)⟩
/-- Their bytes lie there, apart from the row v. -/
def Sep (w : World) (v : Value) (l : List FV) : Prop := ∀ p ∈ l, p.1.b.length ≤ p.2.2 ∧ p.2.2 ≤ maxLen ∧ Row w w.heap.size p.2.1 (u8s p.1.b) ∧ (u8s p.1.b ≠ [] → ∀ a, p.2.1 = some a → v.ownBlock ≠ some a.block)
theorem Sep.nil (w : World) (v : Value) : Sep w v [] := fun p hp => by cases hp
theorem Sep.held {w : World} {v : Value} {l : List FV} (h : Sep w v l) : Held w w.heap.size l := fun p hp => ⟨(h p hp).1, (h p hp).2.1, (h p hp).2.2.1⟩
theorem Sep.le {w w' : World} {v : Value} {l : List FV} (h : Sep w v l) (hb : Le w w') : Sep w' v l := fun p hp => ⟨(h p hp).1, (h p hp).2.1, (h p hp).2.2.1.le hb, (h p hp).2.2.2⟩
theorem Sep.grown {w w' : World} {v v' : Value} {l : List FV} (h : Sep w v l) (hg : w.grownBy w' v.ownBlock) (hv : v'.ownBlock = v.ownBlock ∨ v'.ownBlock = some w.heap.size) : Sep w' v' l := fun p hp => by
  obtain ⟨h1, h2, h3, h4⟩ := h p hp
  refine ⟨h1, h2, h3.grown_ne hg h4, fun hn a ha => ?_⟩
  rcases hv with hv | hv
  · rw [hv]; exact h4 hn a ha
  · rw [hv]
    obtain ⟨b, o, hA, hb, -⟩ := h3 hn
    rw [hA] at ha
    injection ha with ha
    subst ha
    intro e
    injection e with e
    simp only at e
    omega
theorem Sep.append {w : World} {v : Value} {l m : List FV} (h : Sep w v l) (k : Sep w v m) : Sep w v (l ++ m) := fun p hp => (List.mem_append.1 hp).elim (h p) (k p)
theorem Sep.one {w : World} {v : Value} {p : FV} (h1 : p.1.b.length ≤ p.2.2) (h2 : p.2.2 ≤ maxLen) (h3 : Row w w.heap.size p.2.1 (u8s p.1.b)) (h4 : u8s p.1.b ≠ [] → ∀ a, p.2.1 = some a → v.ownBlock ≠ some a.block) : Sep w v [p] := fun q hq => by
  rw [List.mem_singleton.1 hq]
  exact ⟨h1, h2, h3, h4⟩

/-- Their bytes lie in blocks from B on. -/
def Fresh (B : Nat) (l : List FV) : Prop := ∀ p ∈ l, u8s p.1.b ≠ [] → ∀ a, p.2.1 = some a → B ≤ a.block
theorem Sep.other {w : World} {v v' : Value} {l : List FV} {B : Nat} (h : Sep w v l) (hf : Fresh B l) (hv : ∀ g, v'.ownBlock = some g → g < B) : Sep w v' l := fun p hp =>
  ⟨(h p hp).1, (h p hp).2.1, (h p hp).2.2.1, fun hn a ha he => by have h1 := hf p hp hn a ha; have h2 := hv _ he; omega⟩
/-- It hands back these fields, in memory of the call's own. -/
def GivesF (B : Nat) (fs : List Fld) (n : Nat) (w : World) (e : Ending) (w' : World) : Prop :=
  ∃ (A' : Option Addr) (c' : Nat) (l' : List FV), e = .returned (.slice A' n c') ∧ l'.map (·.1) = fs ∧ w'.ownsRow B 41 4 (.slice A' n c') n (fcs l') ∧ (Sep w' (.slice A' n c') l' ∧ Fresh B l') ∧ Below B w w'
set_option maxRecDepth 100000 in
set_option maxHeartbeats 8000000 in
theorem own_any (w : World) (A : Option Addr) (n c : Nat) (l : List FV) (hl : l.length = n) (hn : n ≤ 1000000) (hfit : ∀ p ∈ l, p.1.b.length ≤ 1000000000) (hr : Row w w.heap.size A (fcs l)) (hh : Held w w.heap.size l) :
    Calls Try.prog 9 #[.slice A n c] w (GivesF w.heap.size (l.map (·.1)) n w) := by
  have HL := hide hl
  have HH := hide hh
  have HF := hide hfit
  clear hl hh hfit
  go_enter Try.func9, Try.ntmps9
  go_wp2_with fail
  obtain ⟨W0, hW0⟩ : ∃ W0, w.alloc (.cells #[] 41) = W0 := ⟨_, rfl⟩
  rw [hW0]
  have hs1 : W0.ownsRow w.heap.size 41 4 (.slice (some ⟨w.heap.size, 0, none⟩) 0 0) 0 (fcs []) := by rw [← hW0]; exact World.ownsRow_lit _ #[] 0 (Nat.le_refl _) (by simp) rfl
  have hs2 : Below w.heap.size w W0 := by rw [← hW0]; exact (Below.refl _ _).alloc (Nat.le_refl _) _
  clear hW0
  go_loopw [3, 4] (fun v i wr => ∃ (k c3 : Nat) (A3 : Option Addr) (l' : List FV), k ≤ n ∧ i = .int .i64 k ∧ v = .slice A3 k c3 ∧ Hid (l'.map (·.1) = (l.take k).map (·.1)) ∧ Hid (wr.ownsRow w.heap.size 41 4 (.slice A3 k c3) k (fcs l')) ∧ Hid (Sep wr (.slice A3 k c3) l') ∧ Hid (Fresh w.heap.size l') ∧ Hid (Below w.heap.size w wr)) (fun _ i _ => n - (intOf i).toNat)
  case atStart => exact ⟨0, 0, _, [], Nat.zero_le _, rfl, rfl, hide rfl, hide hs1, hide (Sep.nil _ _), hide (fun p hp => by cases hp), hide hs2⟩
  case round =>
    obtain ⟨k, c3, A3, l', hk, rfl, rfl, HM, HO, HS, HFR, HB⟩ := hrel
    have hz := HB.out.size
    by_cases hkn : k < n
    · obtain ⟨p, hx⟩ : ∃ x, l[k]? = some x := ⟨_, List.getElem?_eq_getElem (by rw [HL.out]; omega)⟩
      obtain ⟨V, hV⟩ : ∃ V, wr.drew = V := ⟨_, rfl⟩
      have HB1 := hide (show Below w.heap.size w V by rw [← hV]; exact HB.out.drew)
      have HO1 := hide (show V.ownsRow w.heap.size 41 4 (.slice A3 k c3) k (fcs l') by rw [← hV]; exact HO.out)
      have HS1 := hide (show Sep V (.slice A3 k c3) l' by rw [← hV]; exact HS.out)
      obtain ⟨bA, oA, rfl, hbA, -⟩ := elem_cells hr hx HB1.out (Nat.le_refl _)
      obtain ⟨hlc, hcm, hrb⟩ := HH.out.at_ hx
      have hfb := HF.out p (List.mem_of_getElem? hx)
      have HMS := hide (show l'.map (·.1) ++ [p.1] = (l.take (k + 1)).map (·.1) by rw [List.take_add_one, hx, HM.out]; simp)
      obtain ⟨⟨tag, isB, m, b⟩, Ab, cb⟩ := p
      have g0 : ∀ W', Below w.heap.size V W' → W'.cell? ⟨bA, oA + k * 4, none⟩ = some (.int .i64 tag) := fun W' h => by
        obtain ⟨_, _, hA, -, hd, -, -, -⟩ := elem_cells hr hx (HB1.out.trans h) (Nat.le_refl _); injection hA with hA; injection hA with h1 h2; subst h1; subst h2; exact hd
      have g1 : ∀ W', Below w.heap.size V W' → W'.cell? ⟨bA, oA + k * 4 + 1, none⟩ = some (.bool isB) := fun W' h => by
        obtain ⟨_, _, hA, -, -, hd, -, -⟩ := elem_cells hr hx (HB1.out.trans h) (Nat.le_refl _); injection hA with hA; injection hA with h1 h2; subst h1; subst h2; exact hd
      have g2 : ∀ W', Below w.heap.size V W' → W'.cell? ⟨bA, oA + k * 4 + 2, none⟩ = some (.int .u64 (m : Int)) := fun W' h => by
        obtain ⟨_, _, hA, -, -, -, hd, -⟩ := elem_cells hr hx (HB1.out.trans h) (Nat.le_refl _); injection hA with hA; injection hA with h1 h2; subst h1; subst h2; exact hd
      have g3 : ∀ W', Below w.heap.size V W' → W'.cell? ⟨bA, oA + k * 4 + 3, none⟩ = some (.slice Ab b.length cb) := fun W' h => by
        obtain ⟨_, _, hA, -, -, -, -, hd⟩ := elem_cells hr hx (HB1.out.trans h) (Nat.le_refl _); injection hA with hA; injection hA with h1 h2; subst h1; subst h2; exact hd
      have HV := hide hV
      have hzV : w.heap.size ≤ V.heap.size := HB1.out.size
      simp only at hlc hrb hfb
      unfold maxLen at hcm
      simp only at hcm
      obtain ⟨nb, hnb⟩ : ∃ nb, b.length = nb := ⟨_, rfl⟩
      rw [hnb] at g3 hlc hfb
      have HNB := hide hnb
      have HRB := hide (hrb.below HB1.out (Nat.le_refl _))
      clear hx hV hnb hrb HO HS HB HM
      go_wp2_with fail
      refine region_pib (B := w.heap.size) [(0, true), (1, true), (2, true), (3, true), (4, true), (5, true), (6, true), (7, true), (8, true), (9, true), (10, true), (11, true), (12, true), (13, true), (14, true), (15, true), (17, true), (18, true), (19, true), (20, true), (21, true), (16, false), (22, false), (23, true), (24, false), (25, false), (26, true)] (by kernel_rfl) (by kernel_rfl) ?_
      simp only [opsPi, List.filterMap_cons, List.filterMap_nil, List.getElem?_toArray, List.getElem?_cons_zero, List.getElem?_cons_succ, Option.map_some]
      rw [HV.out]
      repeat (first | (refine pib_take (v := _) rfl (fun W hW => by go_simp <;> exact rfl) ?_; simp only [Act.put, List.setIfInBounds_toArray, List.set_cons_zero, List.set_cons_succ]) | (refine pib_skip rfl ?_; simp only [Act.put, List.setIfInBounds_toArray, List.set_cons_zero, List.set_cons_succ]))
      refine pib_run ?_
      go_wp2_with fail
      refine ⟨(Below.refl _ _).alloc hzV _, ?_⟩
      refine pib_run ?_
      refine wpList_append_row _ rfl (.tmp 28) (.tmp 33) 25 rfl V.heap.size 5 info8 Try.underlying25 rfl (by omega) _ 0 [] rfl (World.ownsRow_lit V #[] 0 (Nat.le_refl _) (by simp) rfl) w.heap.size Ab nb cb (u8s b) rfl (by rw [u8s_len, HNB.out, Nat.mul_one]) (HRB.out.alloc hzV _) u8s_one (by simp only [maxLen]; omega) (by omega) (by simp) ?_
      intro v2 w2 hown2 hg2 hat2
      rw [Nat.zero_add, List.nil_append] at hown2
      have hle2 : Le V w2 := ((Below.refl _ _).alloc (Nat.le_refl _) _).grown hg2 (by simp) (fun g hg => blk_ge hg (Nat.le_refl _))
      have hbb2 : Below w.heap.size (V.alloc (.cells #[] 5)) w2 := below_own hg2 (Nat.le_refl _) (by simp; omega) (fun g hg => by have := blk_ge hg (Nat.le_refl V.heap.size); omega)
      have HLE2 := hide hle2
      have HBB2 := hide hbb2
      obtain ⟨A2, c2, rfl, hc2, hc2'⟩ := own_form hown2
      have HOB := hide hown2
      clear hown2 hg2 hat2 hle2 hbb2
      go_wp2_with fail
      refine ⟨HBB2.out, ?_⟩
      repeat (first | (refine pib_take (v := _) rfl (fun W hW => by go_simp <;> exact rfl) ?_; simp only [Act.put, List.setIfInBounds_toArray, List.set_cons_zero, List.set_cons_succ]) | (refine pib_skip rfl ?_; simp only [Act.put, List.setIfInBounds_toArray, List.set_cons_zero, List.set_cons_succ]))
      refine pib_run ?_
      go_wp2_with fail
      have hz2 : V.heap.size ≤ w2.heap.size := HLE2.out.size
      refine ⟨(Below.refl _ _).alloc (by omega) _, ?_⟩
      refine pib_run ?_
      have HO2 := hide (own_below HO1.out HLE2.out)
      have HS2 := hide (HS1.out.le HLE2.out)
      refine wpList_append_row _ rfl (.tmp 12) (.tmp 36) 29 rfl w.heap.size 41 infoF Try.underlying29 rfl (by omega) (.slice A3 k c3) k _ rfl (HO2.out.alloc _) _ (some ⟨w2.heap.size, 0, none⟩) 1 1 [.int .i64 tag, .bool isB, .int .u64 (m : Int), .slice A2 nb c2] rfl rfl (row_cells4 w2 _ _ _ _ _) (by intro u hu; simp at hu; rcases hu with rfl | rfl | rfl | rfl <;> rfl) (by simp only [maxLen]; omega) (by omega) (by simp; omega) ?_
      intro v' w' hown' hg hat
      have hbb : Below w.heap.size (w2.alloc (.cells #[.int .i64 tag, .bool isB, .int .u64 (m : Int), .slice A2 nb c2] 41)) w' := below_own hg (Nat.le_refl _) (by simp; omega) (fun g h => own_ge HO2.out h (Nat.le_refl _))
      have HB' := hide (show Below w.heap.size w w' from (((HB1.out.trans (HLE2.out.mono hzV)).alloc (by omega) _).trans hbb))
      have hsnew : Sep (w2.alloc (.cells #[.int .i64 tag, .bool isB, .int .u64 (m : Int), .slice A2 nb c2] 41)) (.slice A3 k c3) [(⟨tag, isB, m, b⟩, A2, c2)] := Sep.one (by simp only; rw [HNB.out]; exact hc2) hc2' (((Row.of_own HOB.out).alloc (Nat.le_refl _) _).more (by simp)) (fun hne a ha he => by
        have hnz : 0 < nb := by
          rcases Nat.eq_zero_or_pos nb with h0 | h0
          · exact absurd (by have := HNB.out; rw [h0] at this; rw [List.length_eq_zero_iff.1 this]; rfl) hne
          · exact h0
        obtain ⟨gg, cap, hv, hge, -⟩ := HOB.out.form hnz
        injection hv with hv
        simp only at ha
        rw [ha] at hv
        injection hv with hv
        have h1 := (HO1.out.lt _ he).2
        rw [hv] at h1
        simp only at h1
        omega)
      have HFR' := hide (show Fresh w.heap.size (l' ++ [(⟨tag, isB, m, b⟩, A2, c2)]) from fun p hp hne a ha => by
        rcases List.mem_append.1 hp with hp | hp
        · exact HFR.out p hp hne a ha
        · rw [List.mem_singleton.1 hp] at ha hne
          simp only at ha hne
          have hnz : 0 < nb := by
            rcases Nat.eq_zero_or_pos nb with h0 | h0
            · exact absurd (by have := HNB.out; rw [h0] at this; rw [List.length_eq_zero_iff.1 this]; rfl) hne
            · exact h0
          obtain ⟨gg, cap, hv, hge, -⟩ := HOB.out.form hnz
          injection hv with hv
          rw [ha] at hv
          injection hv with hv
          rw [hv]
          simp only
          omega)
      have HS' := hide (((HS2.out.le ((Below.refl _ _).alloc (Nat.le_refl _) _)).append hsnew).grown hg hat)
      obtain ⟨A', c', rfl, -, -⟩ := own_form hown'
      have HO' := hide hown'
      have HBB := hide hbb
      clear hown' hg hat hbb hsnew
      go_wp2_with fail
      refine ⟨HBB.out, ?_⟩
      repeat (first | (refine pib_take (v := _) rfl (fun W hW => by go_simp <;> exact rfl) ?_; simp only [Act.put, List.setIfInBounds_toArray, List.set_cons_zero, List.set_cons_succ]) | (refine pib_skip rfl ?_; simp only [Act.put, List.setIfInBounds_toArray, List.set_cons_zero, List.set_cons_succ]))
      refine pib_done ?_
      have HO'' := hide (show w'.ownsRow w.heap.size 41 4 (.slice A' (k + 1) c') (k + 1) (fcs (l' ++ [(⟨tag, isB, m, b⟩, A2, c2)])) by rw [fcs_append]; simp only [fcs, List.flatMap_cons, List.flatMap_nil, cellsF, List.append_nil, HNB.out]; exact HO'.out)
      go_wp2_with fail
      exact ⟨⟨k + 1, c', A', l' ++ [(⟨tag, isB, m, b⟩, A2, c2)], by omega, by go_num, rfl, hide (by rw [List.map_append]; exact HMS.out), HO'', HS', HFR', HB'⟩, by simp [intOf]; omega⟩
    · obtain rfl : k = n := by omega
      have HT := hide (show l.take k = l from List.take_of_length_le (by rw [HL.out]; exact Nat.le_refl _))
      go_wp2_with fail
      go_ret
      exact ⟨A3, c3, l', rfl, by rw [HM.out, HT.out], HO.out, ⟨HS.out, HFR.out⟩, HB.out⟩
#print axioms own_any
end Go.Proofs.Ytjliocbdidiemaa
