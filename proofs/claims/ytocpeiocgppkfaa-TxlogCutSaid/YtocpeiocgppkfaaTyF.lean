/-
  Records, walked: the law on a log that is cut.
-/
import Derived.Test.YtocpeiocgppkfaaTyE
namespace Go.Proofs.Ytocpeiocgppkfaa.ty
/-- Those of records that may be. -/
def ok (l : List (Int × Int)) : List (Int × Int) := l.filter fun r => decide (May r.1 r.2)
theorem ok_may (l : List (Int × Int)) : ∀ r ∈ ok l, May r.1 r.2 := fun r hr => by simpa using (List.mem_filter.1 hr).2
theorem ok_yes {l : List (Int × Int)} {k : Nat} {op id : Int} (h : l[k]? = some (op, id)) (hm : May op id) : ok (l.take (k + 1)) = ok (l.take k) ++ [(op, id)] := by
  rw [List.take_add_one, h]
  simp [ok, hm]
theorem ok_no {l : List (Int × Int)} {k : Nat} {op id : Int} (h : l[k]? = some (op, id)) (hm : ¬ May op id) : ok (l.take (k + 1)) = ok (l.take k) := by
  rw [List.take_add_one, h]
  simp [ok, hm]
theorem lays8 : ∀ (l : List (Int × Int)), (∀ r ∈ l, May r.1 r.2) → ∀ x ∈ lays l, x < 256
  | [], _ => by simp [lays]
  | r :: l, h => by
    rw [lays_cons]
    intro x hx
    have hs := may_s64 (h r (by simp))
    rcases List.mem_append.1 hx with hx | hx
    · exact lay8 hs.1 hs.2 x hx
    · exact lays8 l (fun q hq => h q (by simp [hq])) x hx
end Go.Proofs.Ytocpeiocgppkfaa.ty
namespace Go.Proofs.Ytocpeiocgppkfaa
open Go.RowKit
set_option linter.unusedVariables false

/-- Two rows of one's own that lie in two blocks. -/
def Apart (v u : Value) : Prop := ∀ g, v.ownBlock = some g → u.ownBlock ≠ some g
theorem Apart.symm {v u : Value} (h : Apart v u) : Apart u v := fun g hg hv => h g hv hg
theorem Apart.kept {w w' : World} {base size n : Nat} {e : TypeId} {u v : Value} {xs : List Value} (h : w.ownsRow base e size u n xs) (ha : Apart v u) (hg : w.grownBy w' v.ownBlock) : w'.ownsRow base e size u n xs := by
  refine h.kept hg ?_
  cases hu : u.ownBlock with
  | none => exact .inl rfl
  | some g => exact .inr fun e => ha g e.symm hu
theorem Apart.grown {w : World} {base size n : Nat} {e : TypeId} {u v v' : Value} {xs : List Value} (h : w.ownsRow base e size u n xs) (ha : Apart v u) (hat : v'.ownBlock = v.ownBlock ∨ v'.ownBlock = some w.heap.size) : Apart v' u := by
  intro g hg hu
  rcases hat with e | e
  · exact ha g (e ▸ hg) hu
  · rw [e] at hg
    injection hg with hg
    have := (h.lt g hu).2
    omega
theorem Apart.fresh {w : World} {base size n m c : Nat} {e : TypeId} {u : Value} {xs : List Value} (h : w.ownsRow base e size u n xs) : Apart (.slice (some ⟨w.heap.size, 0, none⟩) m c) u := by
  intro g hg hu
  have : w.heap.size = g := by simpa [Value.ownBlock] using hg
  have := (h.lt g hu).2
  omega
theorem Apart.out {w : World} {base size n : Nat} {e : TypeId} {u v : Value} {xs : List Value} (h : w.ownsRow base e size u n xs) (hv : ∀ g, v.ownBlock = some g → w.heap.size ≤ g) : Apart v u := by
  intro g hg hu
  have := hv g hg
  have := (h.lt g hu).2
  omega

theorem zero_u8s (t : List Nat) : [Value.int .u8 0] ++ u8s t = u8s (0 :: t) := rfl

set_option maxRecDepth 100000 in
set_option maxHeartbeats 8000000 in
theorem cut_walk (w : World) (A : Option Addr) (n c : Nat) (l : List (Int × Int)) (cut : Int) (B : Option Addr) (m d : Nat) (t : List Nat) (hl : l.length = n) (hn : n ≤ 9223372036854775807) (hr : Row w w.heap.size A (rcs l))
    (htl : t.length = m) (hmd : m ≤ d) (hd : d ≤ maxLen) (h8 : ∀ x ∈ t, x < 256) (hrt : Row w w.heap.size B (u8s t)) :
    Calls Try.prog 6 #[.slice A n c, .int .i64 cut, .slice B m d] w fun e w' => e = .returned (.bool true) ∧ Below w.heap.size w w' := by
  have HL := hide hl
  have hN60 : min n 60 ≤ 60 := by omega
  have HL2 := hide (show (l.take 60).length = min n 60 by rw [List.length_take, hl]; omega)
  have HRT := hide hrt
  have HTL := hide htl
  have H8 := hide h8
  have hz := zero_tab
  have hdm : d ≤ 9223372036854775807 := hd
  clear hl hrt htl h8
  go_enter Try.func6, Try.ntmps6
  go_wp2_with fail
  refine (shown_any w).mono ?_
  rintro e w1 ⟨rfl, hb1⟩
  have HB1 := hide hb1
  clear hb1
  go_wp2_with (first
      | (go_at_call 17; refine (new_any _).mono ?_; rintro e w2 ⟨rfl, hb2⟩)
      | (refine wpList_store_row rfl 44 _ _ rfl w2.heap.size (u32s tab).toArray rfl rfl 44 zeros (heap_alloc_new _ _) info_tab (by simp [u32s, tab, zeros, part]) u32s_one ?_; obtain ⟨W2, hW2, ht1, hb3, hs2, hs3⟩ := tab_world (HB1.out.trans (hb2.mono HB1.out.size)); rw [hW2]; obtain ⟨b, hb⟩ : ∃ b, b = w2.heap.size := ⟨_, rfl⟩; rw [← hb] at ht1 hs2 ⊢; clear hb hW2 hb2 hs3; have HT := hide ht1; have HL02 := hide (show Le w W2 from hb3); clear ht1 hb3))
  clear hz
  obtain ⟨W3, hW3⟩ : ∃ W3, W2.alloc (.cells #[] 5) = W3 := ⟨_, rfl⟩
  have HOB := hide (show W3.ownsRow W2.heap.size 5 1 (.slice (some ⟨W2.heap.size, 0, none⟩) 0 0) 0 (u8s []) by rw [← hW3]; exact World.ownsRow_lit _ #[] 0 (Nat.le_refl _) (by simp) rfl)
  have HL23 := hide (show Le W2 W3 by rw [← hW3]; exact (Below.refl _ _).alloc (Nat.le_refl _) _)
  have hz3 : W3.heap.size = W2.heap.size + 1 := by rw [← hW3]; simp
  rw [hW3]
  clear hW3
  refine (ours_any W3 A n c l HL.out hn (((hr.le HL02.out).le HL23.out))).mono ?_
  rintro e w4 ⟨v4, rfl, hown4, hb4⟩
  generalize l.take 60 = l2 at HL2 hown4
  generalize min n 60 = N at HL2 hown4 hN60
  have HOB4 := hide (own_below HOB.out hb4)
  have HL24 := hide (show Le W2 w4 from HL23.out.trans hb4)
  have HA4 := hide (show Apart (.slice (some ⟨W2.heap.size, 0, none⟩) 0 0) v4 from (Apart.out HOB.out (fun g hg => (hown4.lt g hg).1)).symm)
  obtain ⟨A4, c4, rfl, -, -⟩ := own_form hown4
  have HO4 := hide (own_more hown4 HL23.out.size)
  clear hown4 hb4 HL hr HOB
  go_wp2_with fail
  obtain ⟨W5, hW5⟩ : ∃ W5, w4.alloc (.cells #[] 35) = W5 := ⟨_, rfl⟩
  have HOI := hide (show W5.ownsRow W2.heap.size 35 2 (.slice (some ⟨w4.heap.size, 0, none⟩) 0 0) 0 (rcs []) by rw [← hW5]; exact own_more (World.ownsRow_lit _ #[] 0 (Nat.le_refl _) (by simp) rfl) HL24.out.size)
  have HL45 := hide (show Le w4 W5 by rw [← hW5]; exact (Below.refl _ _).alloc (Nat.le_refl _) _)
  have HOB5 := hide (own_below HOB4.out HL45.out)
  have HO5 := hide (own_below HO4.out HL45.out)
  have HAI := hide (show Apart (.slice (some ⟨w4.heap.size, 0, none⟩) 0 0) (.slice (some ⟨W2.heap.size, 0, none⟩) 0 0) from Apart.fresh HOB4.out)
  have HAI4 := hide (show Apart (.slice (some ⟨w4.heap.size, 0, none⟩) 0 0) (.slice A4 N c4) from Apart.fresh HO4.out)
  have HL25 := hide (show Le W2 W5 from HL24.out.trans HL45.out)
  rw [hW5]
  clear hW5 HOB4 HO4 HL23 hz3 HL24 HL45
  go_wp2_with fail
  go_loopw [9, 11, 12] (fun vb vi i wr => ∃ (k q cb f cf : Nat) (Ab Af : Option Addr) (F : List (Int × Int)), k ≤ N ∧ i = .int .i64 k ∧ vb = .slice Ab q cb ∧ vi = .slice Af f cf ∧ f ≤ k ∧ q ≤ 45 * k ∧ Hid (F = ty.ok (l2.take k)) ∧ Hid (F.length = f) ∧ Hid ((ty.lays F).length = q) ∧
    Hid (wr.ownsRow W2.heap.size 5 1 (.slice Ab q cb) q (u8s (ty.lays F))) ∧ Hid (wr.ownsRow W2.heap.size 35 2 (.slice Af f cf) f (rcs F)) ∧ Hid (wr.ownsRow W2.heap.size 35 2 (.slice A4 N c4) N (rcs l2)) ∧
    Hid (Apart (.slice Af f cf) (.slice Ab q cb)) ∧ Hid (Apart (.slice Af f cf) (.slice A4 N c4)) ∧ Hid (Apart (.slice Ab q cb) (.slice A4 N c4)) ∧ Hid (Le W2 wr)) (fun _ _ i _ => N - (intOf i).toNat)
  case atStart => exact ⟨0, 0, 0, 0, 0, _, _, [], Nat.zero_le _, rfl, rfl, rfl, Nat.le_refl _, Nat.zero_le _, hide (by simp [ty.ok]), hide rfl, hide rfl, HOB5, HOI, HO5, HAI, HAI4, HA4, HL25⟩
  case round =>
    obtain ⟨k, q, cb, f, cf, Ab, Af, F, hk, rfl, rfl, rfl, hf, hq, HF, HFL, HBL, HOb, HOf, HOo, HA1, HA2, HA3, HB⟩ := hrel
    have hzr := HB.out.size
    have hbr : b < wr.heap.size := by omega
    by_cases hkn : k < N
    · obtain ⟨⟨op, id⟩, hx⟩ : ∃ x, l2[k]? = some x := ⟨_, List.getElem?_eq_getElem (by rw [HL2.out]; exact hkn)⟩
      obtain ⟨bA, oA, rfl, hbA, hc0⟩ := (Row.of_own HOo.out).at_ (rcs_at hx).1
      obtain ⟨bB, oB, e2, hbB, hc1⟩ := (Row.of_own HOo.out).at_ (rcs_at hx).2
      injection e2 with e2
      injection e2 with e2 e3 e4
      subst e2
      subst e3
      have hd0 : wr.cell? ⟨bA, oA + k * 2, none⟩ = some (.int .i64 op) := hc0
      have hd1 : wr.cell? ⟨bA, oA + k * 2 + 1, none⟩ = some (.int .i64 id) := hc1
      have HX := hide hx
      clear hx hc0 hc1 e4
      go_wp2_with fail
      refine (txput_any wr b op id hbr (hasTab_below HT.out HB.out hs2)).mono ?_
      rintro e w6 ⟨v6, rfl, hown6, hb6⟩
      have HOb6 := hide (own_below HOb.out hb6)
      have HOf6 := hide (own_below HOf.out hb6)
      have HOo6 := hide (own_below HOo.out hb6)
      have HB6 := hide (show Le W2 w6 from HB.out.trans hb6)
      have hz6 := HB6.out.size
      by_cases hm : ty.May op id
      · have hpl := put_len op id
        rw [ty.put_may hm] at hown6 hpl ⊢
        have HF' := hide (show F ++ [(op, id)] = ty.ok (l2.take (k + 1)) by rw [ty.ok_yes HX.out hm, ← HF.out])
        obtain ⟨D, hD⟩ : ∃ D, ty.lay op.toNat id.toNat = D := ⟨_, rfl⟩
        have HLAY := hide (show ty.lays (F ++ [(op, id)]) = ty.lays F ++ D by rw [ty.lays_snoc]; unfold ty.layI; rw [hD])
        rw [hD] at hown6 hpl
        obtain ⟨dl, hdl⟩ : ∃ dl, D.length = dl := ⟨_, rfl⟩
        simp only at hown6 hpl
        rw [hdl] at hown6 hpl
        obtain ⟨A6, c6, rfl, -, -⟩ := own_form hown6
        have HR6 := hide (Row.of_own hown6)
        have HDL := hide (show (u8s D).length = dl * 1 by rw [u8s_len, hdl, Nat.mul_one])
        have HDL2 := hide hdl
        clear hown6 hb6 hd0 hd1 hm hD hdl
        go_wp2_with (first
          | (at_builtin; refine wpList_append_row _ rfl (.tmp 43) (.tmp 44) 41 rfl W2.heap.size 5 info8 Try.underlying41 rfl (by omega) (.slice Ab q cb) q (u8s (ty.lays F)) rfl HOb6.out w6.heap.size A6 dl c6 (u8s D) rfl HDL.out HR6.out u8s_one (by simp only [maxLen]; omega) (by omega) (by omega) ?_; intro v7 w7 hown7 hg7 hat7; have HOf7 := hide (Apart.kept HOf6.out HA1.out.symm hg7); have HOo7 := hide (Apart.kept HOo6.out HA3.out hg7); have HA17 := hide (Apart.grown HOf6.out HA1.out.symm hat7); have HA37 := hide (Apart.grown HOo6.out HA3.out hat7); have HB7 := hide (show Le W2 w7 from Below.trans HB6.out (below_own hg7 (Nat.le_refl _) hz6 (fun g h => own_ge HOb6.out h (Nat.le_refl _)))); obtain ⟨A7, c7, rfl, -, -⟩ := own_form hown7; have HO7 := hide hown7; obtain ⟨_, _, e7, -, hd0⟩ := (Row.of_own HOo7.out).at_ (rcs_at HX.out).1; injection e7 with e7; injection e7 with e8 e9 e10; subst e8; subst e9; obtain ⟨_, _, e7, -, hd1⟩ := (Row.of_own HOo7.out).at_ (rcs_at HX.out).2; injection e7 with e7; injection e7 with e8 e9 e10; subst e8; subst e9; have hd1 : w7.cell? ⟨bA, oA + k * 2 + 1, none⟩ = some (.int .i64 id) := hd1; have hz7 := HB7.out.size; clear hown7 hg7 hat7)
          | (at_builtin; refine wpList_append_row _ rfl (.tmp 46) (.tmp 51) 31 rfl W2.heap.size 35 infoR Try.underlying31 rfl (by omega) (.slice Af f cf) f (rcs F) rfl (HOf7.out.alloc _) _ (some ⟨w7.heap.size, 0, none⟩) 1 1 [.int .i64 op, .int .i64 id] rfl rfl (rec_row w7 op id _) (by intro u hu; simp at hu; rcases hu with rfl | rfl <;> rfl) (by simp only [maxLen]; omega) (by omega) (by simp; omega) ?_; intro v8 w8 hown8 hg8 hat8; have HOb8 := hide (Apart.kept (HO7.out.alloc (.cells #[.int .i64 op, .int .i64 id] 35)) HA17.out.symm hg8); have HOo8 := hide (Apart.kept (HOo7.out.alloc (.cells #[.int .i64 op, .int .i64 id] 35)) HA2.out hg8); have HA18 := hide (Apart.grown (HO7.out.alloc (.cells #[.int .i64 op, .int .i64 id] 35)) HA17.out.symm hat8); have HA28 := hide (Apart.grown (HOo7.out.alloc (.cells #[.int .i64 op, .int .i64 id] 35)) HA2.out hat8); have HB8 := hide (show Le W2 w8 from Below.trans (HB7.out.alloc hz7 _) (below_own hg8 (Nat.le_refl _) (by simp; omega) (fun g h => own_ge HOf7.out h (Nat.le_refl _)))); obtain ⟨A8, c8, rfl, -, -⟩ := own_form hown8; have HO8 := hide hown8; clear hown8 hg8 hat8))
        refine ⟨⟨k + 1, q + dl, c7, f + 1, c8, A7, A8, F ++ [(op, id)], by omega, by go_num, rfl, rfl, by omega, by omega, HF', hide (by simp [HFL.out]), hide (by rw [HLAY.out, List.length_append, HBL.out, HDL2.out]), hide (by rw [HLAY.out, ← u8s_append]; exact HOb8.out), hide (by rw [rcs_append]; exact HO8.out), HOo8, HA18, HA28, HA37, HB8⟩, by simp [intOf]; omega⟩
      · rw [ty.put_not hm] at hown6 ⊢
        obtain ⟨A6, c6, rfl, -, -⟩ := own_form hown6
        have HF' := hide (show F = ty.ok (l2.take (k + 1)) by rw [ty.ok_no HX.out hm, ← HF.out])
        clear hown6 hb6 hd0 hd1 hm
        go_wp2_with fail
        exact ⟨⟨k + 1, q, cb, f, cf, Ab, Af, F, by omega, by go_num, rfl, rfl, by omega, by omega, HF', HFL, HBL, HOb6, HOf6, HOo6, HA1, HA2, HA3, HB6⟩, by simp [intOf]; omega⟩
    · obtain rfl : k = N := by omega
      have HF' := hide (show F = ty.ok l2 by rw [HF.out, List.take_of_length_le (by rw [HL2.out]; exact Nat.le_refl _)])
      have HMAY := hide (show ∀ r ∈ F, ty.May r.1 r.2 by rw [HF'.out]; exact ty.ok_may l2)
      have HF8 := hide (ty.lays8 F HMAY.out)
      have HBBL := hide (show (u8s (ty.lays F)).length = q * 1 by rw [u8s_len, HBL.out, Nat.mul_one])
      obtain ⟨M, hM⟩ : ∃ M, min m 50 = M := ⟨_, rfl⟩
      have HTL2 := hide (show (t.take 50).length = M by rw [List.length_take, HTL.out, ← hM]; omega)
      have HT8 := hide (take8 H8.out 50)
      have hrt2 := HRT.out.take 50
      rw [u8s_take] at hrt2
      generalize t.take 50 = t2 at HTL2 HT8 hrt2
      have HL0r := hide (show Le w wr from HL02.out.trans HB.out)
      have HRT2 := hide (hrt2.le HL0r.out)
      have HTTL := hide (show (u8s t2).length = M * 1 by rw [u8s_len, HTL2.out, Nat.mul_one])
      have hM50 : M ≤ 50 := by omega
      have hMm : M ≤ m := by omega
      have hqcb : q ≤ cb ∧ cb ≤ 9223372036854775807 := by
        obtain ⟨A', c', e, h1, h2⟩ := own_form HOb.out
        injection e with e1 e2 e3
        subst e3
        exact ⟨h1, h2⟩
      have hqc := hqcb.1
      have hqm := hqcb.2
      clear hqcb
      have hcase : (50 < m ∧ M = 50) ∨ (¬ 50 < m ∧ m = M) := by omega
      clear hM hrt2
      rcases hcase with ⟨h50, rfl⟩ | ⟨h50, rfl⟩
      all_goals
        go_wp2_with (first
          | (at_builtin; refine wpList_append_row _ rfl (.tmp 59) (.tmp 60) 41 rfl wr.heap.size 5 info8 Try.underlying41 rfl (by omega) _ 0 [] rfl (World.ownsRow_lit _ #[] 0 (Nat.le_refl _) (by simp) rfl) wr.heap.size Ab q cb (u8s (ty.lays F)) rfl HBBL.out ((Row.of_own HOb.out).alloc (Nat.le_refl _) _) u8s_one (by simp only [maxLen]; omega) (by omega) (by simp) ?_; intro v7 w7 hown7 hg7 hat7; rw [Nat.zero_add, List.nil_append] at hown7; have HL7 := hide (show Le wr w7 from ((Below.refl _ _).alloc (Nat.le_refl _) _).grown hg7 (by simp) (fun g hg => blk_ge hg (Nat.le_refl _))); obtain ⟨A7, c7, rfl, -, -⟩ := own_form hown7; have HO7 := hide hown7; have hz7 := HL7.out.size; clear hown7 hg7 hat7)
          | (at_builtin; refine wpList_append_row _ rfl (.tmp 62) (.tmp 63) 41 rfl w7.heap.size 5 info8 Try.underlying41 rfl (by omega) _ 1 [.int .u8 0] rfl (World.ownsRow_lit _ #[.int .u8 0] 1 (Nat.le_refl _) (by decide) rfl) wr.heap.size B _ d (u8s t2) rfl HTTL.out ((HRT2.out.below HL7.out (Nat.le_refl _)).alloc hz7 _) u8s_one (by simp only [maxLen]; omega) (by omega) (by simp) ?_; intro v8 w8 hown8 hg8 hat8; rw [zero_u8s] at hown8; have HO78 := hide (Apart.kept (HO7.out.alloc (.cells #[.int .u8 0] 5)) (Apart.fresh HO7.out) hg8); have HL8 := hide (show Le w7 w8 from ((Below.refl _ _).alloc (Nat.le_refl _) _).grown hg8 (by simp) (fun g hg => blk_ge hg (Nat.le_refl _))); obtain ⟨A8, c8, rfl, -, -⟩ := own_form hown8; have HR8 := hide (Row.of_own hown8); have hz8 := HL8.out.size; clear hown8 hg8 hat8)
          | (at_builtin; refine wpList_append_row _ rfl (.tmp 61) (.tmp 64) 41 rfl wr.heap.size 5 info8 Try.underlying41 rfl (by omega) (.slice A7 q c7) q (u8s (ty.lays F)) rfl HO78.out w8.heap.size A8 _ c8 (u8s (0 :: t2)) rfl (by have := HTL2.out; simp only [u8s_len, List.length_cons]; omega) HR8.out u8s_one (by simp only [maxLen]; omega) (by omega) (by omega) ?_; intro v9 w9 hown9 hg9 hat9; have HL9 := hide (show Le wr w9 from Below.trans (HL7.out.trans HL8.out) (below_own hg9 (Nat.le_refl _) (by omega) (fun g h => own_ge HO78.out h (Nat.le_refl _)))); obtain ⟨A9, c9, rfl, hc9, hc9'⟩ := own_form hown9; have HR9 := hide (Row.of_own hown9); clear hown9 hg9 hat9))
        rw [u8s_append] at HR9
        have HZ8 := hide (show ∀ x ∈ ty.lays F ++ 0 :: t2, x < 256 by
          intro x hx
          rcases List.mem_append.1 hx with hx | hx
          · exact HF8.out x hx
          · rcases List.mem_cons.1 hx with rfl | hx
            · decide
            · exact HT8.out x hx)
        have HB9 := hide (show Le W2 w9 from HB.out.trans HL9.out)
        have hb9 : b < w9.heap.size := by have := HB9.out.size; omega
        refine (txtake_any w9 b A9 _ c9 (ty.lays F ++ 0 :: t2) (by have := HTL2.out; have := HBL.out; simp only [List.length_append, List.length_cons]; omega) (by omega) hc9 hc9' HZ8.out hb9 (hasTab_below HT.out HB9.out hs2) HR9.out).mono ?_
        rintro e w10 ⟨v10, rfl, hown10, hb10⟩
        rw [ty.take_lays (ty.one_zero t2) F HMAY.out] at hown10 ⊢
        simp only at hown10 ⊢
        rw [HFL.out] at hown10
        rw [HBL.out]
        obtain ⟨A10, c10, rfl, -, -⟩ := own_form hown10
        have HR10 := hide (Row.of_own hown10)
        have HLr10 := hide (show Le wr w10 from HL9.out.trans hb10)
        have HB10 := hide (show Le W2 w10 from HB9.out.trans hb10)
        have hbt : b < w10.heap.size := by have := HB10.out.size; omega
        clear hown10 hb10
        have hcut : (∃ K : Nat, cut = (K : Int) ∧ K < q) ∨ (cut < 0 ∨ (0 ≤ cut ∧ (q : Int) ≤ cut)) := by
          by_cases h : 0 ≤ cut ∧ cut < (q : Int)
          · exact .inl ⟨cut.toNat, by omega, by omega⟩
          · exact .inr (by omega)
        rcases hcut with ⟨K, rfl, hKq⟩ | hcut | hcut
        · go_wp2_with fail
          have hb20 : b < w10.heap.size := hbt
          refine (txtake_any w10 b Ab K cb ((ty.lays F).take K) (by rw [List.length_take, HBL.out]; omega) (by omega) (by omega) (by unfold maxLen; omega) (take8 HF8.out K) hbt (hasTab_below HT.out HB10.out hs2) (by rw [← u8s_take]; exact ((Row.of_own HOb.out).le HLr10.out).take K)).mono ?_
          rintro e w11 ⟨v11, rfl, hown11, hb11⟩
          obtain ⟨j, hjf, hjt, hjk, hjl⟩ := ty.take_cut F HMAY.out K (by rw [HBL.out]; omega)
          rw [HFL.out] at hjf hjl
          rw [HBL.out] at hjl
          have HJL := hide (show (F.take j).length = j by rw [List.length_take, HFL.out]; omega)
          rw [hjt, HJL.out] at hown11
          obtain ⟨mm, hmm⟩ : ∃ mm, (ty.take ((ty.lays F).take K)).2 = mm := ⟨_, rfl⟩
          rw [hmm] at hjk ⊢
          obtain ⟨A11, c11, rfl, -, -⟩ := own_form hown11
          have HR11 := hide (Row.of_own hown11)
          have HRA := hide (HR10.out.le (show Le w10 w11 from hb11))
          have HRI := hide ((Row.of_own HOf.out).le (HLr10.out.trans hb11))
          have HL11 := hide (show Le w w11 from HL0r.out.trans (HLr10.out.trans hb11))
          have hjf2 : j < f := hjl hKq
          have hjeq : ((j : Int) == (f : Int)) = false := by simp; omega
          clear hown11 hb11 hjt hmm hjl
          go_wp2_with fail
          go_loopw [20] (fun i wq => ∃ k2 q2 : Nat, k2 ≤ f ∧ i = .int .i64 k2 ∧ wq = w11.drewN q2) (fun i _ => f - (intOf i).toNat)
          case atStart => exact ⟨0, 0, Nat.zero_le _, rfl, rfl⟩
          case round =>
            obtain ⟨k2, q2, hk2, rfl, rfl⟩ := hrel
            by_cases hkf : k2 < f
            · obtain ⟨⟨op, id⟩, hx⟩ : ∃ x, F[k2]? = some x := ⟨_, List.getElem?_eq_getElem (by rw [HFL.out]; exact hkf)⟩
              obtain ⟨V, hV⟩ : ∃ V, (w11.drewN q2).drew = V := ⟨_, rfl⟩
              have HV := hide hV
              clear hV
              obtain ⟨b1, o1, rfl, hb1, hx1⟩ := HRA.out.at_ (rcs_at hx).1
              obtain ⟨_, _, e7, hb1', hy1⟩ := HRA.out.at_ (rcs_at hx).2
              injection e7 with e7
              injection e7 with e8 e9 e10
              subst e8
              subst e9
              obtain ⟨b2, o2, rfl, hb2, hx2⟩ := HRI.out.at_ (rcs_at hx).1
              obtain ⟨_, _, e7, hb2', hy2⟩ := HRI.out.at_ (rcs_at hx).2
              injection e7 with e7
              injection e7 with e8 e9 e11
              subst e8
              subst e9
              have g1 : ∀ W', Le V W' → W'.cell? ⟨b1, o1 + k2 * 2, none⟩ = some (.int .i64 op) := later_cell HV.out hb1 hx1
              have g2 : ∀ W', Le V W' → W'.cell? ⟨b1, o1 + k2 * 2 + 1, none⟩ = some (.int .i64 id) := later_cell HV.out hb1' hy1
              have g3 : ∀ W', Le V W' → W'.cell? ⟨b2, o2 + k2 * 2, none⟩ = some (.int .i64 op) := later_cell HV.out hb2 hx2
              have g4 : ∀ W', Le V W' → W'.cell? ⟨b2, o2 + k2 * 2 + 1, none⟩ = some (.int .i64 id) := later_cell HV.out hb2' hy2
              by_cases hkj : k2 < j
              · have hxj : (F.take j)[k2]? = some (op, id) := by rw [List.getElem?_take, if_pos hkj]; exact hx
                obtain ⟨b3, o3, rfl, hb3, hx3⟩ := HR11.out.at_ (rcs_at hxj).1
                obtain ⟨_, _, e7, hb3', hy3⟩ := HR11.out.at_ (rcs_at hxj).2
                injection e7 with e7
                injection e7 with e8 e9 e12
                subst e8
                subst e9
                have g5 : ∀ W', Le V W' → W'.cell? ⟨b3, o3 + k2 * 2, none⟩ = some (.int .i64 op) := later_cell HV.out hb3 hx3
                have g6 : ∀ W', Le V W' → W'.cell? ⟨b3, o3 + k2 * 2 + 1, none⟩ = some (.int .i64 id) := later_cell HV.out hb3' hy3
                have hdj : decide ((k2 : Int) < (j : Int)) = true := decide_eq_true (by omega)
                clear hx1 hx2 hx3 hy1 hy2 hy3 hx hxj e10 e11 e12
                go_wp2_with fail
                refine region_pi [(0, true), (1, true), (2, true), (3, true), (4, true), (5, true), (6, true), (7, true), (8, true), (9, true), (10, true), (11, true), (12, true), (13, true), (14, true), (15, true), (16, true), (17, true), (18, true), (19, true), (20, true), (21, true), (22, true), (23, true), (24, true), (25, true)] (by kernel_rfl) (by kernel_rfl) ?_
                simp only [opsPi, List.filterMap_cons, List.filterMap_nil, List.getElem?_toArray, List.getElem?_cons_zero, List.getElem?_cons_succ, Option.map_some]
                rw [HV.out]
                repeat (first | (refine pi_take (v := _) rfl (fun W hW => by go_simp <;> exact rfl) ?_; simp only [Act.put, List.setIfInBounds_toArray, List.set_cons_zero, List.set_cons_succ]) | (refine pi_skip rfl ?_; simp only [Act.put, List.setIfInBounds_toArray, List.set_cons_zero, List.set_cons_succ]))
                refine pi_done ?_
                rw [← HV.out, World.drew_drewN]
                clear g1 g2 g3 g4 g5 g6
                go_wp2_with fail
                exact ⟨⟨k2 + 1, _, by omega, by go_num, rfl⟩, by simp [intOf]; omega⟩
              · have hdj : decide ((k2 : Int) < (j : Int)) = false := decide_eq_false (by omega)
                clear hx1 hx2 hy1 hy2 hx e10 e11
                go_wp2_with fail
                refine region_pi [(0, true), (1, true), (2, true), (3, true), (4, true), (5, true), (6, true), (7, true), (8, true), (9, true), (10, true), (11, true), (12, true), (13, true), (14, true), (15, true), (16, true), (17, true), (18, true), (19, true), (20, true), (21, true), (22, true), (23, true), (24, true), (25, true)] (by kernel_rfl) (by kernel_rfl) ?_
                simp only [opsPi, List.filterMap_cons, List.filterMap_nil, List.getElem?_toArray, List.getElem?_cons_zero, List.getElem?_cons_succ, Option.map_some]
                rw [HV.out]
                repeat (first | (refine pi_take (v := _) rfl (fun W hW => by go_simp <;> exact rfl) ?_; simp only [Act.put, List.setIfInBounds_toArray, List.set_cons_zero, List.set_cons_succ]) | (refine pi_skip rfl ?_; simp only [Act.put, List.setIfInBounds_toArray, List.set_cons_zero, List.set_cons_succ]))
                refine pi_done ?_
                rw [← HV.out, World.drew_drewN]
                clear g1 g2 g3 g4
                go_wp2_with fail
                exact ⟨⟨k2 + 1, _, by omega, by go_num, rfl⟩, by simp [intOf]; omega⟩
            · obtain rfl : k2 = f := by omega
              go_wp2_with fail
              go_ret
              exact ⟨rfl, below_drewN HL11.out _⟩
        · go_wp2_with fail
          have hb20 : b < w10.heap.size := hbt
          refine (txtake_any w10 b Ab q cb ((ty.lays F).take q) (by rw [List.length_take, HBL.out]; omega) (by omega) (by omega) (by unfold maxLen; omega) (take8 HF8.out q) hbt (hasTab_below HT.out HB10.out hs2) (by rw [← u8s_take]; exact ((Row.of_own HOb.out).le HLr10.out).take q)).mono ?_
          rintro e w11 ⟨v11, rfl, hown11, hb11⟩
          obtain ⟨j, hjf, hjt, hjk, hjl⟩ := ty.take_cut F HMAY.out q (by rw [HBL.out]; omega)
          rw [HFL.out] at hjf hjl
          rw [HBL.out] at hjl
          have HJL := hide (show (F.take j).length = j by rw [List.length_take, HFL.out]; omega)
          rw [hjt, HJL.out] at hown11
          obtain ⟨mm, hmm⟩ : ∃ mm, (ty.take ((ty.lays F).take q)).2 = mm := ⟨_, rfl⟩
          rw [hmm] at hjk ⊢
          obtain ⟨A11, c11, rfl, -, -⟩ := own_form hown11
          have HR11 := hide (Row.of_own hown11)
          have HRA := hide (HR10.out.le (show Le w10 w11 from hb11))
          have HRI := hide ((Row.of_own HOf.out).le (HLr10.out.trans hb11))
          have HL11 := hide (show Le w w11 from HL0r.out.trans (HLr10.out.trans hb11))
          have hjf2 : j ≤ f := hjf
          clear hown11 hb11 hjt hmm hjl
          go_wp2_with fail
          go_loopw [20] (fun i wq => ∃ k2 q2 : Nat, k2 ≤ f ∧ i = .int .i64 k2 ∧ wq = w11.drewN q2) (fun i _ => f - (intOf i).toNat)
          case atStart => exact ⟨0, 0, Nat.zero_le _, rfl, rfl⟩
          case round =>
            obtain ⟨k2, q2, hk2, rfl, rfl⟩ := hrel
            by_cases hkf : k2 < f
            · obtain ⟨⟨op, id⟩, hx⟩ : ∃ x, F[k2]? = some x := ⟨_, List.getElem?_eq_getElem (by rw [HFL.out]; exact hkf)⟩
              obtain ⟨V, hV⟩ : ∃ V, (w11.drewN q2).drew = V := ⟨_, rfl⟩
              have HV := hide hV
              clear hV
              obtain ⟨b1, o1, rfl, hb1, hx1⟩ := HRA.out.at_ (rcs_at hx).1
              obtain ⟨_, _, e7, hb1', hy1⟩ := HRA.out.at_ (rcs_at hx).2
              injection e7 with e7
              injection e7 with e8 e9 e10
              subst e8
              subst e9
              obtain ⟨b2, o2, rfl, hb2, hx2⟩ := HRI.out.at_ (rcs_at hx).1
              obtain ⟨_, _, e7, hb2', hy2⟩ := HRI.out.at_ (rcs_at hx).2
              injection e7 with e7
              injection e7 with e8 e9 e11
              subst e8
              subst e9
              have g1 : ∀ W', Le V W' → W'.cell? ⟨b1, o1 + k2 * 2, none⟩ = some (.int .i64 op) := later_cell HV.out hb1 hx1
              have g2 : ∀ W', Le V W' → W'.cell? ⟨b1, o1 + k2 * 2 + 1, none⟩ = some (.int .i64 id) := later_cell HV.out hb1' hy1
              have g3 : ∀ W', Le V W' → W'.cell? ⟨b2, o2 + k2 * 2, none⟩ = some (.int .i64 op) := later_cell HV.out hb2 hx2
              have g4 : ∀ W', Le V W' → W'.cell? ⟨b2, o2 + k2 * 2 + 1, none⟩ = some (.int .i64 id) := later_cell HV.out hb2' hy2
              by_cases hkj : k2 < j
              · have hxj : (F.take j)[k2]? = some (op, id) := by rw [List.getElem?_take, if_pos hkj]; exact hx
                obtain ⟨b3, o3, rfl, hb3, hx3⟩ := HR11.out.at_ (rcs_at hxj).1
                obtain ⟨_, _, e7, hb3', hy3⟩ := HR11.out.at_ (rcs_at hxj).2
                injection e7 with e7
                injection e7 with e8 e9 e12
                subst e8
                subst e9
                have g5 : ∀ W', Le V W' → W'.cell? ⟨b3, o3 + k2 * 2, none⟩ = some (.int .i64 op) := later_cell HV.out hb3 hx3
                have g6 : ∀ W', Le V W' → W'.cell? ⟨b3, o3 + k2 * 2 + 1, none⟩ = some (.int .i64 id) := later_cell HV.out hb3' hy3
                have hdj : decide ((k2 : Int) < (j : Int)) = true := decide_eq_true (by omega)
                clear hx1 hx2 hx3 hy1 hy2 hy3 hx hxj e10 e11 e12
                go_wp2_with fail
                refine region_pi [(0, true), (1, true), (2, true), (3, true), (4, true), (5, true), (6, true), (7, true), (8, true), (9, true), (10, true), (11, true), (12, true), (13, true), (14, true), (15, true), (16, true), (17, true), (18, true), (19, true), (20, true), (21, true), (22, true), (23, true), (24, true), (25, true)] (by kernel_rfl) (by kernel_rfl) ?_
                simp only [opsPi, List.filterMap_cons, List.filterMap_nil, List.getElem?_toArray, List.getElem?_cons_zero, List.getElem?_cons_succ, Option.map_some]
                rw [HV.out]
                repeat (first | (refine pi_take (v := _) rfl (fun W hW => by go_simp <;> exact rfl) ?_; simp only [Act.put, List.setIfInBounds_toArray, List.set_cons_zero, List.set_cons_succ]) | (refine pi_skip rfl ?_; simp only [Act.put, List.setIfInBounds_toArray, List.set_cons_zero, List.set_cons_succ]))
                refine pi_done ?_
                rw [← HV.out, World.drew_drewN]
                clear g1 g2 g3 g4 g5 g6
                go_wp2_with fail
                exact ⟨⟨k2 + 1, _, by omega, by go_num, rfl⟩, by simp [intOf]; omega⟩
              · have hdj : decide ((k2 : Int) < (j : Int)) = false := decide_eq_false (by omega)
                clear hx1 hx2 hy1 hy2 hx e10 e11
                go_wp2_with fail
                refine region_pi [(0, true), (1, true), (2, true), (3, true), (4, true), (5, true), (6, true), (7, true), (8, true), (9, true), (10, true), (11, true), (12, true), (13, true), (14, true), (15, true), (16, true), (17, true), (18, true), (19, true), (20, true), (21, true), (22, true), (23, true), (24, true), (25, true)] (by kernel_rfl) (by kernel_rfl) ?_
                simp only [opsPi, List.filterMap_cons, List.filterMap_nil, List.getElem?_toArray, List.getElem?_cons_zero, List.getElem?_cons_succ, Option.map_some]
                rw [HV.out]
                repeat (first | (refine pi_take (v := _) rfl (fun W hW => by go_simp <;> exact rfl) ?_; simp only [Act.put, List.setIfInBounds_toArray, List.set_cons_zero, List.set_cons_succ]) | (refine pi_skip rfl ?_; simp only [Act.put, List.setIfInBounds_toArray, List.set_cons_zero, List.set_cons_succ]))
                refine pi_done ?_
                rw [← HV.out, World.drew_drewN]
                clear g1 g2 g3 g4
                go_wp2_with fail
                exact ⟨⟨k2 + 1, _, by omega, by go_num, rfl⟩, by simp [intOf]; omega⟩
            · obtain rfl : k2 = f := by omega
              go_wp2_with fail
              go_ret
              exact ⟨rfl, below_drewN HL11.out _⟩
        · go_wp2_with fail
          have hb20 : b < w10.heap.size := hbt
          refine (txtake_any w10 b Ab q cb ((ty.lays F).take q) (by rw [List.length_take, HBL.out]; omega) (by omega) (by omega) (by unfold maxLen; omega) (take8 HF8.out q) hbt (hasTab_below HT.out HB10.out hs2) (by rw [← u8s_take]; exact ((Row.of_own HOb.out).le HLr10.out).take q)).mono ?_
          rintro e w11 ⟨v11, rfl, hown11, hb11⟩
          obtain ⟨j, hjf, hjt, hjk, hjl⟩ := ty.take_cut F HMAY.out q (by rw [HBL.out]; omega)
          rw [HFL.out] at hjf hjl
          rw [HBL.out] at hjl
          have HJL := hide (show (F.take j).length = j by rw [List.length_take, HFL.out]; omega)
          rw [hjt, HJL.out] at hown11
          obtain ⟨mm, hmm⟩ : ∃ mm, (ty.take ((ty.lays F).take q)).2 = mm := ⟨_, rfl⟩
          rw [hmm] at hjk ⊢
          obtain ⟨A11, c11, rfl, -, -⟩ := own_form hown11
          have HR11 := hide (Row.of_own hown11)
          have HRA := hide (HR10.out.le (show Le w10 w11 from hb11))
          have HRI := hide ((Row.of_own HOf.out).le (HLr10.out.trans hb11))
          have HL11 := hide (show Le w w11 from HL0r.out.trans (HLr10.out.trans hb11))
          have hjf2 : j ≤ f := hjf
          clear hown11 hb11 hjt hmm hjl
          go_wp2_with fail
          go_loopw [20] (fun i wq => ∃ k2 q2 : Nat, k2 ≤ f ∧ i = .int .i64 k2 ∧ wq = w11.drewN q2) (fun i _ => f - (intOf i).toNat)
          case atStart => exact ⟨0, 0, Nat.zero_le _, rfl, rfl⟩
          case round =>
            obtain ⟨k2, q2, hk2, rfl, rfl⟩ := hrel
            by_cases hkf : k2 < f
            · obtain ⟨⟨op, id⟩, hx⟩ : ∃ x, F[k2]? = some x := ⟨_, List.getElem?_eq_getElem (by rw [HFL.out]; exact hkf)⟩
              obtain ⟨V, hV⟩ : ∃ V, (w11.drewN q2).drew = V := ⟨_, rfl⟩
              have HV := hide hV
              clear hV
              obtain ⟨b1, o1, rfl, hb1, hx1⟩ := HRA.out.at_ (rcs_at hx).1
              obtain ⟨_, _, e7, hb1', hy1⟩ := HRA.out.at_ (rcs_at hx).2
              injection e7 with e7
              injection e7 with e8 e9 e10
              subst e8
              subst e9
              obtain ⟨b2, o2, rfl, hb2, hx2⟩ := HRI.out.at_ (rcs_at hx).1
              obtain ⟨_, _, e7, hb2', hy2⟩ := HRI.out.at_ (rcs_at hx).2
              injection e7 with e7
              injection e7 with e8 e9 e11
              subst e8
              subst e9
              have g1 : ∀ W', Le V W' → W'.cell? ⟨b1, o1 + k2 * 2, none⟩ = some (.int .i64 op) := later_cell HV.out hb1 hx1
              have g2 : ∀ W', Le V W' → W'.cell? ⟨b1, o1 + k2 * 2 + 1, none⟩ = some (.int .i64 id) := later_cell HV.out hb1' hy1
              have g3 : ∀ W', Le V W' → W'.cell? ⟨b2, o2 + k2 * 2, none⟩ = some (.int .i64 op) := later_cell HV.out hb2 hx2
              have g4 : ∀ W', Le V W' → W'.cell? ⟨b2, o2 + k2 * 2 + 1, none⟩ = some (.int .i64 id) := later_cell HV.out hb2' hy2
              by_cases hkj : k2 < j
              · have hxj : (F.take j)[k2]? = some (op, id) := by rw [List.getElem?_take, if_pos hkj]; exact hx
                obtain ⟨b3, o3, rfl, hb3, hx3⟩ := HR11.out.at_ (rcs_at hxj).1
                obtain ⟨_, _, e7, hb3', hy3⟩ := HR11.out.at_ (rcs_at hxj).2
                injection e7 with e7
                injection e7 with e8 e9 e12
                subst e8
                subst e9
                have g5 : ∀ W', Le V W' → W'.cell? ⟨b3, o3 + k2 * 2, none⟩ = some (.int .i64 op) := later_cell HV.out hb3 hx3
                have g6 : ∀ W', Le V W' → W'.cell? ⟨b3, o3 + k2 * 2 + 1, none⟩ = some (.int .i64 id) := later_cell HV.out hb3' hy3
                have hdj : decide ((k2 : Int) < (j : Int)) = true := decide_eq_true (by omega)
                clear hx1 hx2 hx3 hy1 hy2 hy3 hx hxj e10 e11 e12
                go_wp2_with fail
                refine region_pi [(0, true), (1, true), (2, true), (3, true), (4, true), (5, true), (6, true), (7, true), (8, true), (9, true), (10, true), (11, true), (12, true), (13, true), (14, true), (15, true), (16, true), (17, true), (18, true), (19, true), (20, true), (21, true), (22, true), (23, true), (24, true), (25, true)] (by kernel_rfl) (by kernel_rfl) ?_
                simp only [opsPi, List.filterMap_cons, List.filterMap_nil, List.getElem?_toArray, List.getElem?_cons_zero, List.getElem?_cons_succ, Option.map_some]
                rw [HV.out]
                repeat (first | (refine pi_take (v := _) rfl (fun W hW => by go_simp <;> exact rfl) ?_; simp only [Act.put, List.setIfInBounds_toArray, List.set_cons_zero, List.set_cons_succ]) | (refine pi_skip rfl ?_; simp only [Act.put, List.setIfInBounds_toArray, List.set_cons_zero, List.set_cons_succ]))
                refine pi_done ?_
                rw [← HV.out, World.drew_drewN]
                clear g1 g2 g3 g4 g5 g6
                go_wp2_with fail
                exact ⟨⟨k2 + 1, _, by omega, by go_num, rfl⟩, by simp [intOf]; omega⟩
              · have hdj : decide ((k2 : Int) < (j : Int)) = false := decide_eq_false (by omega)
                clear hx1 hx2 hy1 hy2 hx e10 e11
                go_wp2_with fail
                refine region_pi [(0, true), (1, true), (2, true), (3, true), (4, true), (5, true), (6, true), (7, true), (8, true), (9, true), (10, true), (11, true), (12, true), (13, true), (14, true), (15, true), (16, true), (17, true), (18, true), (19, true), (20, true), (21, true), (22, true), (23, true), (24, true), (25, true)] (by kernel_rfl) (by kernel_rfl) ?_
                simp only [opsPi, List.filterMap_cons, List.filterMap_nil, List.getElem?_toArray, List.getElem?_cons_zero, List.getElem?_cons_succ, Option.map_some]
                rw [HV.out]
                repeat (first | (refine pi_take (v := _) rfl (fun W hW => by go_simp <;> exact rfl) ?_; simp only [Act.put, List.setIfInBounds_toArray, List.set_cons_zero, List.set_cons_succ]) | (refine pi_skip rfl ?_; simp only [Act.put, List.setIfInBounds_toArray, List.set_cons_zero, List.set_cons_succ]))
                refine pi_done ?_
                rw [← HV.out, World.drew_drewN]
                clear g1 g2 g3 g4
                go_wp2_with fail
                exact ⟨⟨k2 + 1, _, by omega, by go_num, rfl⟩, by simp [intOf]; omega⟩
            · obtain rfl : k2 = f := by omega
              go_wp2_with fail
              go_ret
              exact ⟨rfl, below_drewN HL11.out _⟩
#print axioms cut_walk
end Go.Proofs.Ytocpeiocgppkfaa
