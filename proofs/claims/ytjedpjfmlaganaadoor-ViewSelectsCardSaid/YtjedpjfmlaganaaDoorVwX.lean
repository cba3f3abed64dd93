/-
  Rows with keys, sorted so that what is of one key stays in its order: slices.SortStableFunc, walked (written by genVwX.py).
-/
import Derived.Test.YtjedpjfmlaganaaDoorVwW
import Derived.Test.YtjedpjfmlaganaaDoorVwB
namespace Go.Proofs.YtjedpjfmlaganaaDoor.vw
open Go.RowKit Go.Sort Go.Shelf Go.Lib
set_option linter.unusedVariables false

def ins_ren : Go.Shelf.Ren := ⟨fun | 20 => 62 | n => n, fun | 0 => 0 | 3 => 3 | 4 => 4 | 22 => 23 | 24 => 37 | 25 => 79 | n => n, fun n => n⟩
theorem ins_lays : SlLaysF0.n20 Tryd.prog ins_ren := {
  mixed := by kernel_rfl
  f20 := ⟨Tryd.f62.name, by decide, Tryd.func62.trans (congrArg some (by kernel_rfl))⟩
  t0 := Tryd.underlying0
  a0 := Tryd.isAgg0
  z0 := Tryd.sizeOf0
  v0 := Tryd.zeroValue0
  t3 := Tryd.underlying3
  a3 := Tryd.isAgg3
  z3 := Tryd.sizeOf3
  v3 := Tryd.zeroValue3
  t4 := Tryd.underlying4
  a4 := Tryd.isAgg4
  z4 := Tryd.sizeOf4
  v4 := Tryd.zeroValue4
  t22 := Tryd.underlying23
  a22 := Tryd.isAgg23
  z22 := Tryd.sizeOf23
  v22 := Tryd.zeroValue23
  t25 := Tryd.underlying79
  a25 := Tryd.isAgg79
  z25 := Tryd.sizeOf79
  v25 := Tryd.zeroValue79
  }

theorem inner_size (a : Nat) : ∀ (j : Nat) (d : Array (Kd × Nat)), (insInner ltKd a j d).size = d.size
  | 0, d => rfl
  | j + 1, d => by
    unfold insInner
    split
    · rw [inner_size a j, size_swp]
    · rfl
theorem outer_size (a b : Nat) : ∀ (f i : Nat) (d : Array (Kd × Nat)), b - i ≤ f → (insOuter ltKd a b i d).size = d.size
  | 0, i, d, hf => by rw [io_eq, if_neg (by omega)]
  | f + 1, i, d, hf => by
    rw [io_eq]
    split
    · rw [outer_size a b f (i + 1) _ (by omega), inner_size]
    · rfl
theorem ins_size (d : Array (Kd × Nat)) (a b : Nat) : (Sort.insertionSort ltKd d a b).size = d.size := outer_size a b _ _ _ (Nat.le_refl _)
theorem lt_cf : ltOf (fun x y : Kd × Nat => ordK x.1.k y.1.k) = ltKd := by
  funext x y
  exact ordK_lt x.1.k y.1.k
theorem ins_any (blk off cap N : Nat) (d0 : Array (Kd × Nat)) (w0 : World) (R : RowK encK 4 w0 blk off d0) (h0 : d0.size = N) (hsz : N ≤ 1000000) (a b : Nat) (d : Array (Kd × Nat)) (w : World) (hd : d.size = N) (S : SWK encK 4 w0 blk off d w) (hab : a ≤ b) (hb : b ≤ N) :
    Calls Tryd.prog 62 #[.slice (some ⟨blk, off, none⟩) N cap, .int .i64 a, .int .i64 b, (.func (.func 39) #[] #[])] w fun e w' => e = .returned (.tuple #[]) ∧ SWK encK 4 w0 blk off (Sort.insertionSort ltKd d a b) w' := by
  have hs : d.size = d0.size := hd.trans h0.symm
  have h := AnyQ.insertionSortCmpFunc ins_lays 4 Tryd.isAgg37 Tryd.sizeOf37 encK encK_len encK_one (fun x y => ordK x.1.k y.1.k) 39 #[] blk off cap a b d w enterOrder (cmp_lays blk off _ w) (S.holds R.hblk R.hH hs) (S.lt R.hblk) hab (by rw [hd]; exact hb) (by omega)
  rw [hd, lt_cf] at h
  refine Calls.mono (P := Tryd.prog) h ?_
  rintro e w' ⟨rfl, n, os, rfl⟩
  exact ⟨rfl, S.on R.hblk n _ os (ins_size d a b)⟩

set_option maxRecDepth 100000 in
set_option maxHeartbeats 8000000 in
theorem stable_any (blk off cap N : Nat) (d0 : Array (Kd × Nat)) (w0 : World) (R : RowK encK 4 w0 blk off d0) (h0 : d0.size = N) (hN : N ≤ 120) (d : Array (Kd × Nat)) (w : World) (hd : d.size = N) (S : SWK encK 4 w0 blk off d w) (ht : ∀ x y, x < y → y < N → d[x]!.2 < d[y]!.2) :
    Calls Tryd.prog 53 #[.slice (some ⟨blk, off, none⟩) N cap, .int .i64 N, (.func (.func 39) #[] #[])] w fun e w' => e = .returned (.tuple #[]) ∧ ∃ d', SWK encK 4 w0 blk off d' w' ∧ PermIn 0 N d d' ∧ Srt 0 N d' := by
  have hins := hide (fun (a b : Nat) (dk : Array (Kd × Nat)) (W : World) (h : dk.size = N) (S : SWK encK 4 w0 blk off dk W) (h1 : a ≤ b) (h2 : b ≤ N) => ins_any blk off cap N d0 w0 R h0 (by omega) a b dk W h S h1 h2)
  have hsy := hide (fun (a m b : Nat) (dk : Array (Kd × Nat)) (W : World) (h : dk.size = N) (S : SWK encK 4 w0 blk off dk W) (h1 : a < m) (h2 : m < b) (h3 : b ≤ N) (s1 : Srt a m dk) (s2 : Srt m b dk) (t : Tag a m b dk) => sym_any blk off cap N d0 w0 R h0 (by omega) (b - a) a m b dk W (Nat.le_refl _) h S h1 h2 h3 s1 s2 t)
  have HS0 := hide S
  have HI0 := hide (ins_start ht)
  have HD := hide hd
  clear R S h0 ht hd
  go_enter Tryd.func53, Tryd.ntmps53
  go_wp2_with fail
  go_loopw [7, 8] (fun s t wr => ∃ (a b : Nat) (dk : Array (Kd × Nat)), s = .int .i64 a ∧ t = .int .i64 b ∧ a + 20 = b ∧ a % 20 = 0 ∧ a ≤ N ∧ dk.size = N ∧ Hid (PermIn 0 N d dk) ∧ Hid (Ins20 N a dk) ∧ Hid (SWK encK 4 w0 blk off dk wr)) (fun _ t _ => N + 40 - (intOf t).toNat)
  case atStart => exact ⟨0, 20, d, rfl, rfl, rfl, rfl, Nat.zero_le _, HD.out, hide (permIn_refl _ _ _), HI0, HS0⟩
  case round =>
    clear HS0 HI0
    obtain ⟨a, b, dk, rfl, rfl, hab, ha20, haN, hsk, HP, HI, HS⟩ := hrel
    have HAB := hide hab
    by_cases hb : b ≤ N
    · have hle : decide ((b : Int) ≤ N) = true := decide_eq_true (by omega)
      have hi := hide (hins.out a b dk wr hsk HS.out (by omega) hb)
      have hso := ins_sorts dk a b (by omega) (by rw [hsk]; exact hb) (ins_pre HI.out hb)
      obtain ⟨d1, hd1⟩ : ∃ d1, Sort.insertionSort ltKd dk a b = d1 := ⟨_, rfl⟩
      rw [hd1] at hi hso
      subst hab
      have HI2 := hide (ins_step hsk HI.out ha20 hb hso.1 hso.2)
      have HP2 := hide (permIn_trans _ _ _ _ _ HP.out (permIn_mono dk d1 a (a + 20) 0 N (Nat.zero_le _) hb (by omega) hso.1))
      have hs1 : d1.size = N := hso.1.1.trans hsk
      obtain ⟨b, hbb⟩ : ∃ b, a + 20 = b := ⟨_, rfl⟩
      have wb : IntKind.i64.wrap ((b : Int) + 20) = ((b + 20 : Nat) : Int) := by rw [IntWalk.i64_in _ (by omega)]; omega
      have hib : ((a + 20 : Nat) : Int) = (b : Int) := by omega
      rw [hib] at hle hi ⊢
      rw [hbb] at HI2
      have hb2 : b ≤ N := by omega
      have hb3 : b % 20 = 0 := by omega
      clear hd1 hso hib hbb HAB hb
      go_wp2_with fail
      refine hi.out.mono ?_
      rintro e w' ⟨rfl, S'⟩
      have HS' := hide S'
      clear S'
      go_wp2_with fail
      exact ⟨⟨b, b + 20, d1, rfl, by go_num, rfl, hb3, hb2, hs1, HP2, HI2, HS'⟩, by simp [intOf]; omega⟩
    · have hle : decide ((b : Int) ≤ N) = false := decide_eq_false (by omega)
      have hi := hide (hins.out a N dk wr hsk HS.out haN (Nat.le_refl _))
      have hso := ins_sorts dk a N haN (by rw [hsk]; exact Nat.le_refl _) (ins_pre HI.out (Nat.le_refl _))
      obtain ⟨d1, hd1⟩ : ∃ d1, Sort.insertionSort ltKd dk a N = d1 := ⟨_, rfl⟩
      rw [hd1] at hi hso
      have HB0 := hide (ins_last hsk HI.out ha20 haN (by omega) hso.1 hso.2)
      have HP2 := hide (permIn_trans _ _ _ _ _ HP.out (permIn_mono dk d1 a N 0 N (Nat.zero_le _) (Nat.le_refl _) (by omega) hso.1))
      have hs1 : d1.size = N := hso.1.1.trans hsk
      clear hd1 hso HAB HI hab ha20
      go_wp2_with fail
      refine hi.out.mono ?_
      rintro e w' ⟨rfl, S'⟩
      have HS' := hide S'
      clear S' hi HS HP hsk
      go_wp2_with fail
      go_loopw [6] (fun t wr => ∃ (s : Nat) (dk : Array (Kd × Nat)), t = .int .i64 s ∧ (Size3 s ∨ s = 160) ∧ dk.size = N ∧ Hid (PermIn 0 N d dk) ∧ Hid (Blk N s dk) ∧ Hid (SWK encK 4 w0 blk off dk wr)) (fun t _ => 400 - (intOf t).toNat)
      case atStart => exact ⟨20, d1, rfl, .inl (.inl rfl), hs1, HP2, HB0, HS'⟩
      case round =>
        clear HS' HB0 HP2 hs1
        obtain ⟨s, dk, rfl, hs3, hsk, HP, HB, HS⟩ := hrel
        by_cases hsN : s < N
        · have hle : decide ((s : Int) < N) = true := decide_eq_true (by omega)
          have h3 : Size3 s := by
            rcases hs3 with h | h
            · exact h
            · omega
          have hsb : 20 ≤ s ∧ s ≤ 80 := by rcases h3 with rfl | rfl | rfl <;> omega
          have H3 := hide h3
          have w2 : IntKind.i64.wrap (2 * (s : Int)) = ((2 * s : Nat) : Int) := by rw [IntWalk.i64_in _ (by omega)]; omega
          have w2' : IntKind.i64.wrap ((s : Int) * 2) = ((2 * s : Nat) : Int) := by rw [IntWalk.i64_in _ (by omega)]; omega
          obtain ⟨s2, hs2⟩ : ∃ s2, 2 * s = s2 := ⟨_, rfl⟩
          rw [hs2] at w2 w2'
          have HS2 := hide hs2
          have HM0 := hide (mrg_start HB.out)
          have hs2b : s2 ≤ 160 := by omega
          clear hs3 h3 hs2
          go_wp2_with fail
          go_loopw [7, 8] (fun x y wr => ∃ (a b : Nat) (dk : Array (Kd × Nat)), x = .int .i64 a ∧ y = .int .i64 b ∧ a + s2 = b ∧ a % s2 = 0 ∧ a ≤ N ∧ dk.size = N ∧ Hid (PermIn 0 N d dk) ∧ Hid (Mrg N s a dk) ∧ Hid (SWK encK 4 w0 blk off dk wr)) (fun _ y _ => N + 400 - (intOf y).toNat)
          case atStart => exact ⟨0, s2, dk, rfl, rfl, by omega, Nat.zero_mod _, Nat.zero_le _, hsk, HP, HM0, HS⟩
          case round =>
            clear HS HM0 HP hsk HB hle
            obtain ⟨a, b, dk, rfl, rfl, hab, ham, haN, hsk, HP, HM, HS⟩ := hrel
            have wm : IntKind.i64.wrap ((a : Int) + (s : Int)) = ((a + s : Nat) : Int) := by rw [IntWalk.i64_in _ (by omega)]; omega
            obtain ⟨m, hm⟩ : ∃ m, a + s = m := ⟨_, rfl⟩
            rw [hm] at wm
            have hs2 := HS2.out
            by_cases hb : b ≤ N
            · have hle : decide ((b : Int) ≤ N) = true := decide_eq_true (by omega)
              have hpre := mrg_pre (b := b) H3.out HM.out (by rw [hs2]; exact ham) (by omega) (by omega) hb
              rw [hm] at hpre
              have hi := hide (hsy.out a m b dk wr hsk HS.out (by omega) (by omega) hb hpre.1 hpre.2.1 hpre.2.2)
              have HST := hide (fun (d' : Array (Kd × Nat)) (hp : PermIn a b dk d') (hs : Srt a b d') => mrg_step H3.out hsk HM.out (by rw [hs2]; exact ham) (by omega) (by omega) hb (.inl (by omega)) hp hs)
              have HABS := hide (show a + 2 * s = b by omega)
              have wb : IntKind.i64.wrap ((b : Int) + (s2 : Int)) = ((b + s2 : Nat) : Int) := by rw [IntWalk.i64_in _ (by omega)]; omega
              have hbm : b % s2 = 0 := by rw [← hab, Nat.add_mod_right]; exact ham
              have hs2p : 0 < s2 := by omega
              clear hpre hm hs2 hab ham
              go_wp2_with fail
              refine hi.out.mono ?_
              rintro e w' ⟨rfl, d1, S', P', E'⟩
              have HS' := hide S'
              have HM2 := hide (HST.out d1 P' E')
              rw [HABS.out] at HM2
              have HP2 := hide (permIn_trans _ _ _ _ _ HP.out (permIn_mono dk d1 a b 0 N (Nat.zero_le _) hb (by omega) P'))
              have hs1 : d1.size = N := P'.1.trans hsk
              clear S' P' E' HST
              go_wp2_with fail
              exact ⟨⟨b, b + s2, d1, rfl, by go_num, rfl, hbm, hb, hs1, HP2, HM2, HS'⟩, by simp [intOf]; omega⟩
            · have hle : decide ((b : Int) ≤ N) = false := decide_eq_false (by omega)
              have hsz2 : (Size3 s2 ∨ s2 = 160) := by
                rcases H3.out with rfl | rfl | rfl
                · exact .inl (.inr (.inl (by omega)))
                · exact .inl (.inr (.inr (by omega)))
                · exact .inr (by omega)
              have HSZ := hide hsz2
              by_cases hmN : m < N
              · have hlm : decide ((m : Int) < N) = true := decide_eq_true (by omega)
                have hpre := mrg_pre (b := N) H3.out HM.out (by rw [hs2]; exact ham) (by omega) (by omega) (Nat.le_refl _)
                rw [hm] at hpre
                have hi := hide (hsy.out a m N dk wr hsk HS.out (by omega) hmN (Nat.le_refl _) hpre.1 hpre.2.1 hpre.2.2)
                have HST := hide (fun (d' : Array (Kd × Nat)) (hp : PermIn a N dk d') (hs : Srt a N d') => mrg_all H3.out (mrg_step H3.out hsk HM.out (by rw [hs2]; exact ham) (by omega) (by omega) (Nat.le_refl _) (.inr rfl) hp hs) (by omega))
                clear hpre hm hs2 hab ham hsz2
                go_wp2_with fail
                refine hi.out.mono ?_
                rintro e w' ⟨rfl, d1, S', P', E'⟩
                have HS' := hide S'
                have HM2 := hide (HST.out d1 P' E')
                rw [HS2.out] at HM2
                have HP2 := hide (permIn_trans _ _ _ _ _ HP.out (permIn_mono dk d1 a N 0 N (Nat.zero_le _) (Nat.le_refl _) (by omega) P'))
                have hs1 : d1.size = N := P'.1.trans hsk
                have hlt : s < s2 := by have := HS2.out; omega
                clear S' P' E' HST
                go_wp2_with fail
                exact ⟨⟨s2, d1, by go_num, HSZ.out, hs1, HP2, HM2, HS'⟩, by simp [intOf]; omega⟩
              · have hlm : decide ((m : Int) < N) = false := decide_eq_false (by omega)
                have hl := mrg_last H3.out HM.out (by rw [hs2]; exact ham) (by omega)
                rw [hs2] at hl
                have HM2 := hide hl
                have hlt : s < s2 := by omega
                clear hm hs2 hab ham hsz2 hl
                go_wp2_with fail
                exact ⟨⟨s2, dk, by go_num, HSZ.out, hsk, HP, HM2, HS⟩, by simp [intOf]; omega⟩
        · have hle : decide ((s : Int) < N) = false := decide_eq_false (by omega)
          have HF := hide (blk_all HB.out (by omega))
          clear hs3
          go_wp2_with fail
          go_end0
          exact ⟨rfl, dk, HS.out, HP.out, HF.out⟩
#print axioms stable_any
end Go.Proofs.YtjedpjfmlaganaaDoor.vw
