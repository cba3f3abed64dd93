/-
  The law on two rows of fields, walked.
-/
import Derived.Test.YtjliocbdidiemaaWireF
namespace Go.Proofs.Ytjliocbdidiemaa
open Go.RowKit Go.ChangeShapes Go.WideShapes Go.Deep
set_option linter.unusedVariables false

/-- At most 60 fields, as the program has them: few, then own. -/
structure Pack (w : World) (l : List FV) (n : Nat) (fs : List Fld) (N : Nat) : Prop where
  len : l.length = n
  le : n ≤ 9223372036854775807
  held : Held w w.heap.size l
  fits : ∀ f ∈ fs, wi.Fits f
  few : ((l.take 60).map cutV).map (·.1) = fs
  cnt : min n 60 = N
  flen : fs.length = N
theorem pack {w : World} {l : List FV} {n c : Nat} (hl : l.length = n) (hnc : n ≤ c) (hc : c ≤ maxLen) (hcame : ∀ p ∈ l, Came w w.heap.size p) : ∃ fs N, Pack w l n fs N ∧ N ≤ 60 := by
  unfold maxLen at hc
  simp at hc
  refine ⟨wi.few (l.map (·.1)), min n 60, ⟨hl, by omega, came_held hcame, came_fits hcame, few_fst l, rfl, ?_⟩, by omega⟩
  rw [← few_fst l, List.length_map, List.length_map, List.length_take, hl]; omega
theorem few_pack {w W : World} {A : Option Addr} {n c N : Nat} {l : List FV} {fs : List Fld} (hp : Pack w l n fs N) (hle : Le w W) (hr : Row w w.heap.size A (fcs l)) :
    Calls Try.prog 7 #[.slice A n c] W fun e w' => ∃ A' c', e = .returned (.slice A' N c') ∧ Row w' w'.heap.size A' (fcs ((l.take 60).map cutV)) ∧ Held w' w'.heap.size ((l.take 60).map cutV) ∧ Le W w' := by
  refine (few_any W A n c l hp.len hp.le (hr.le hle) (hp.held.le hle)).mono ?_
  rintro e w2 ⟨v2, rfl, hown2, hb2⟩
  rw [hp.cnt] at hown2
  obtain ⟨A2, c2, rfl, -, -⟩ := own_form hown2
  exact ⟨A2, c2, rfl, Row.of_own hown2, (held_cut hp.held 60).le (hle.trans hb2), hb2⟩
theorem own_pack {w W : World} {A : Option Addr} {n c N : Nat} {l : List FV} {fs : List Fld} (hp : Pack w l n fs N) (hr : Row W W.heap.size A (fcs ((l.take 60).map cutV))) (hh : Held W W.heap.size ((l.take 60).map cutV)) :
    Calls Try.prog 9 #[.slice A N c] W (GivesF W.heap.size fs N W) := by
  have h1 : ((l.take 60).map cutV).length = N := by have h := congrArg List.length hp.few; rw [List.length_map, hp.flen] at h; exact h
  have h60 : N ≤ 60 := by have := hp.cnt; omega
  have h := own_any W A N c ((l.take 60).map cutV) h1 (by omega) (fun p hq => by
    have := (hp.fits p.1 (by rw [← hp.few]; exact List.mem_map_of_mem hq)).2.2
    omega) hr hh
  rw [hp.few] at h
  exact h
theorem put_pack {W : World} {A : Option Addr} {c N : Nat} {l3 : List FV} {fs : List Fld} (hfs : l3.map (·.1) = fs) (hlen : fs.length = N) (hN : N ≤ 200) (hfit : ∀ f ∈ fs, wi.Fits f) (hr : Row W W.heap.size A (fcs l3)) (hh : Held W W.heap.size l3) :
    Calls Try.prog 8 #[.slice A N c] W (Gives2 W.heap.size 5 1 (wi.put fs).1.length (u8s (wi.put fs).1) (.int .i64 (wi.put fs).2) W) :=
  wput_any W A N c l3 fs hfs (by rw [← hlen, ← hfs, List.length_map]) (by omega) hfit hr hh
/-- Both rows of fields are laid down as each, one behind the other. -/
theorem put_two (fs gs : List Fld) : ((wi.put fs).2 = 0 ∧ (wi.put gs).2 = 0 → wi.put (fs ++ gs) = ((wi.put fs).1 ++ (wi.put gs).1, 0)) ∧ (¬ ((wi.put fs).2 = 0 ∧ (wi.put gs).2 = 0) → wi.put (fs ++ gs) = ([], 1)) := by
  unfold wi.put
  rw [List.all_append]
  cases fs.all wi.ok <;> cases gs.all wi.ok <;> simp [wi.enc_append]
theorem put_err (fs : List Fld) : (wi.put fs).2 = 0 ∨ (wi.put fs).2 = 1 := by
  unfold wi.put
  split
  · exact .inl rfl
  · exact .inr rfl
theorem str_append (l m : List Nat) : str l ++ str m = str (l ++ m) := by
  apply ByteArray.ext
  simp [str, ByteArray.data_append]

set_option maxRecDepth 100000 in
set_option maxHeartbeats 8000000 in
theorem two_walk (w : World) (A B : Option Addr) (n c m d : Nat) (l k : List FV) (hl : l.length = n) (hnc : n ≤ c) (hc : c ≤ maxLen) (hcame : ∀ p ∈ l, Came w w.heap.size p) (hr : Row w w.heap.size A (fcs l))
    (hk : k.length = m) (hmd : m ≤ d) (hd : d ≤ maxLen) (kcame : ∀ p ∈ k, Came w w.heap.size p) (kr : Row w w.heap.size B (fcs k)) :
    Calls Try.prog 4 #[.slice A n c, .slice B m d] w fun e w' => e = .returned (.bool true) ∧ Below w.heap.size w w' := by
  obtain ⟨fs, N, hp, hN60⟩ := pack hl hnc hc hcame
  obtain ⟨gs, M, hq, hM60⟩ := pack hk hmd hd kcame
  have HP := hide hp
  have HQ := hide hq
  have HT := hide (put_two fs gs)
  have HE1 := hide (put_err fs)
  have HE2 := hide (put_err gs)
  clear hl hnc hc hcame hk hmd hd kcame hp hq
  go_enter Try.func4, Try.ntmps4
  go_wp2_with fail
  refine (shown_any w).mono ?_
  rintro e w1 ⟨rfl, hb1⟩
  have HL1 := hide (show Le w w1 from hb1)
  clear hb1
  go_wp2_with fail
  refine (few_pack HP.out HL1.out hr).mono ?_
  rintro e wa1 ⟨Aa1, ca1, rfl, hra1, hha1, hla1⟩
  have HRa1 := hide hra1
  have HHa1 := hide hha1
  have HLa1 := hide (HL1.out.trans hla1)
  have HZa1 := hide hla1
  clear hra1 hha1 hla1
  go_wp2_with fail
  refine (own_pack HP.out HRa1.out HHa1.out).mono ?_
  rintro e wa2 ⟨Aa2, ca2, la2, rfl, hfa2, howna2, ⟨hsepa2, hfra2⟩, hba2⟩
  have HLa2 := hide (HLa1.out.trans hba2)
  have HYa2 := hide (show Le wa1 wa2 from hba2)
  have HRa2 := hide (Row.of_own howna2)
  have HHa2 := hide hsepa2.held
  have HFa2 := hide hfa2
  clear howna2 hsepa2 hfa2 hba2 HRa1 HHa1 hfra2
  go_wp2_with fail
  refine (put_pack HFa2.out HP.out.flen (by omega) HP.out.fits HRa2.out HHa2.out).mono ?_
  rintro e wa3 ⟨va3, rfl, howna3, hba3⟩
  obtain ⟨Aa3, ca3, rfl, -, -⟩ := own_form howna3
  have HRa3 := hide (Row.of_own howna3)
  have HLa3 := hide (HLa2.out.trans hba3)
  have HYa3 := hide (show Le wa2 wa3 from hba3)
  clear howna3 hba3
  obtain ⟨E1, hE1⟩ : ∃ E, (wi.put fs).2 = E := ⟨_, rfl⟩
  obtain ⟨R1, hR1⟩ : ∃ R, (wi.put fs).1 = R := ⟨_, rfl⟩
  have H81 := hide (wi.put8 HP.out.fits)
  have K81 := hide (wi.put_len HP.out.fits)
  rw [HP.out.flen] at K81
  rw [hE1] at HT HE1 ⊢
  rw [hR1] at HT HRa3 H81 K81 ⊢
  clear hE1 hR1
  go_wp2_with fail
  refine (few_pack HQ.out HLa3.out kr).mono ?_
  rintro e wb1 ⟨Ab1, cb1, rfl, hrb1, hhb1, hlb1⟩
  have HRb1 := hide hrb1
  have HHb1 := hide hhb1
  have HLb1 := hide (HLa3.out.trans hlb1)
  have HZb1 := hide hlb1
  clear hrb1 hhb1 hlb1
  go_wp2_with fail
  refine (own_pack HQ.out HRb1.out HHb1.out).mono ?_
  rintro e wb2 ⟨Ab2, cb2, lb2, rfl, hfb2, hownb2, ⟨hsepb2, hfrb2⟩, hbb2⟩
  have HLb2 := hide (HLb1.out.trans hbb2)
  have HYb2 := hide (show Le wb1 wb2 from hbb2)
  have HRb2 := hide (Row.of_own hownb2)
  have HHb2 := hide hsepb2.held
  have HFb2 := hide hfb2
  clear hownb2 hsepb2 hfb2 hbb2 HRb1 HHb1 hfrb2
  go_wp2_with fail
  refine (put_pack HFb2.out HQ.out.flen (by omega) HQ.out.fits HRb2.out HHb2.out).mono ?_
  rintro e wb3 ⟨vb3, rfl, hownb3, hbb3⟩
  obtain ⟨Ab3, cb3, rfl, -, -⟩ := own_form hownb3
  have HRb3 := hide (Row.of_own hownb3)
  have HLb3 := hide (HLb2.out.trans hbb3)
  have HYb3 := hide (show Le wb2 wb3 from hbb3)
  clear hownb3 hbb3
  obtain ⟨E2, hE2⟩ : ∃ E, (wi.put gs).2 = E := ⟨_, rfl⟩
  obtain ⟨R2, hR2⟩ : ∃ R, (wi.put gs).1 = R := ⟨_, rfl⟩
  have H82 := hide (wi.put8 HQ.out.fits)
  have K82 := hide (wi.put_len HQ.out.fits)
  rw [HQ.out.flen] at K82
  rw [hE2] at HT HE2 ⊢
  rw [hR2] at HT HRb3 H82 K82 ⊢
  clear hE2 hR2
  go_wp2_with fail
  refine (few_pack HP.out HLb3.out hr).mono ?_
  rintro e wc1 ⟨Ac1, cc1, rfl, hrc1, hhc1, hlc1⟩
  have HRc1 := hide hrc1
  have HHc1 := hide hhc1
  have HLc1 := hide (HLb3.out.trans hlc1)
  have HZc1 := hide hlc1
  clear hrc1 hhc1 hlc1
  go_wp2_with fail
  refine (own_pack HP.out HRc1.out HHc1.out).mono ?_
  rintro e wc2 ⟨Ac2, cc2, lc2, rfl, hfc2, hownc2, ⟨hsepc2, hfrc2⟩, hbc2⟩
  have HLc2 := hide (HLc1.out.trans hbc2)
  have HYc2 := hide (show Le wc1 wc2 from hbc2)
  have HOc2 := hide hownc2
  have HSc2 := hide hsepc2
  have HFc2 := hide hfc2
  clear hownc2 hsepc2 hfc2 hbc2 HRc1 HHc1 hfrc2
  go_wp2_with fail
  refine (few_pack HQ.out HLc2.out kr).mono ?_
  rintro e wd1 ⟨Ad1, cd1, rfl, hrd1, hhd1, hld1⟩
  have HRd1 := hide hrd1
  have HHd1 := hide hhd1
  have HLd1 := hide (HLc2.out.trans hld1)
  have HZd1 := hide hld1
  clear hrd1 hhd1 hld1
  go_wp2_with fail
  refine (own_pack HQ.out HRd1.out HHd1.out).mono ?_
  rintro e wd2 ⟨Ad2, cd2, ld2, rfl, hfd2, hownd2, ⟨hsepd2, hfrd2⟩, hbd2⟩
  have HLd2 := hide (HLd1.out.trans hbd2)
  have HYd2 := hide (show Le wd1 wd2 from hbd2)
  have HOd2 := hide hownd2
  have HSd2 := hide hsepd2
  have HGd2 := hide hfrd2
  have HFd2 := hide hfd2
  have HBd2 := hide (show Le wd1 wd2 from hbd2)
  have HLc2d1 := hide (show Le wc2 wd1 from HZd1.out)
  clear hownd2 hsepd2 hfd2 hbd2 HRd1 HHd1 hfrd2
  have HOc3 := hide (own_below HOc2.out (HLc2d1.out.trans HBd2.out))
  have HSc3 := hide (HSc2.out.le (HLc2d1.out.trans HBd2.out))
  have HRd2 := hide (Row.of_own HOd2.out)
  have hzc := HLc2d1.out.size
  have hzd := HBd2.out.size
  have hzcc := HYc2.out.size
  go_wp2_with (at_builtin; refine wpList_append_row _ rfl (.tmp 30) (.tmp 33) 29 rfl wc1.heap.size 41 infoF Try.underlying29 rfl (by omega) (.slice Ac2 N cc2) N _ rfl HOc3.out _ Ad2 M cd2 (fcs ld2) rfl (by rw [fcs_len, ← HQ.out.flen, ← HFd2.out, List.length_map]) HRd2.out fcs_one (by simp only [maxLen]; omega) (by omega) (by omega) ?_; intro v' w' hown' hg hat; have HS' := hide ((HSc3.out.append (HSd2.out.other HGd2.out (fun g h => by have := (HOc2.out.lt g h).2; omega))).grown hg hat); have HBf := hide (show Below wc1.heap.size wd2 w' from below_own hg (Nat.le_refl _) (by omega) (fun g h => own_ge HOc3.out h (Nat.le_refl _))); obtain ⟨A', c', rfl, -, -⟩ := own_form hown'; have HO' := hide hown'; clear hown' hg hat)
  have HR' := hide (Row.of_own HO'.out)
  have HLc1w := hide (show Le wc1 w' from Below.trans (HYc2.out.trans (HLc2d1.out.trans HBd2.out)) HBf.out)
  have HL' := hide (HLc1.out.trans HLc1w.out)
  have HFit := hide (show ∀ f ∈ fs ++ gs, wi.Fits f from fun f hf => (List.mem_append.1 hf).elim (HP.out.fits f) (HQ.out.fits f))
  have HFS := hide (show (lc2 ++ ld2).map (·.1) = fs ++ gs by rw [List.map_append, HFc2.out, HFd2.out])
  rw [← fcs_append] at HR'
  refine (put_pack HFS.out (N := N + M) (by rw [List.length_append, HP.out.flen, HQ.out.flen]) (by omega) HFit.out HR'.out HS'.out.held).mono ?_
  rintro e w5 ⟨v5, rfl, hown5, hb5⟩
  have HBF := hide (show Below w.heap.size w w5 from HL'.out.trans hb5)
  have HL35 := hide (show Le wb3 w5 from HZc1.out.trans (HLc1w.out.trans hb5))
  have HL15 := hide (show Le wa3 w5 from HZb1.out.trans (HYb2.out.trans (HYb3.out.trans HL35.out)))
  have q1 := conv8 w5 _ Aa3 R1.length ca3 R1 rfl H81.out (HRa3.out.le HL15.out)
  have q2 := conv8 w5 _ Ab3 R2.length cb3 R2 rfl H82.out (HRb3.out.le HL35.out)
  have hs := str_append R1 R2
  by_cases h1 : E1 = 0
  · subst h1
    by_cases h2 : E2 = 0
    · subst h2
      rw [HT.out.1 ⟨rfl, rfl⟩] at hown5 ⊢
      simp only at hown5
      obtain ⟨A5, c5, rfl, -, -⟩ := own_form hown5
      have q3 := conv8 w5 _ A5 (R1 ++ R2).length c5 (R1 ++ R2) rfl (fun x hx => (List.mem_append.1 hx).elim (H81.out x) (H82.out x)) (Row.of_own hown5)
      have hz1 : ¬ (9223372036854775807 < (str R1).size + (str R2).size) := by rw [str_size, str_size]; have := K81.out; have := K82.out; omega
      generalize (R1 ++ R2).length = n5 at *
      generalize R1 ++ R2 = R3 at *
      clear hown5 hb5
      go_wp2_with fail
      go_ret
      exact ⟨rfl, HBF.out⟩
    · obtain rfl : E2 = 1 := by have := HE2.out; omega
      rw [HT.out.2 (by omega)] at hown5 ⊢
      simp only [List.length_nil] at hown5
      obtain ⟨A5, c5, rfl, -, -⟩ := own_form hown5
      clear hown5 hb5 q1 q2 hs
      go_wp2_with fail
      go_ret
      exact ⟨rfl, HBF.out⟩
  · obtain rfl : E1 = 1 := by have := HE1.out; omega
    rw [HT.out.2 (by omega)] at hown5 ⊢
    simp only [List.length_nil] at hown5
    obtain ⟨A5, c5, rfl, -, -⟩ := own_form hown5
    clear hown5 hb5 q1 q2 hs
    go_wp2_with fail
    go_ret
    exact ⟨rfl, HBF.out⟩
#print axioms two_walk
end Go.Proofs.Ytjliocbdidiemaa
