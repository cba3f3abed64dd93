/-
  Directories, walked: cloned; deleted from whatever row of one's own; which are of a kind (written by mk_plf.py).
-/
import Derived.Test.YtnihladjafnjpaaPlE
namespace Go.Proofs.Ytnihladjafnjpaa
open Go.RowKit
set_option linter.unusedVariables false

set_option maxRecDepth 100000 in
set_option maxHeartbeats 400000 in
theorem cloned_any (w : World) (A : Option Addr) (n c : Nat) (xs : List Value) (hl : xs.length = n * 3) (h1 : ∀ u ∈ xs, u.oneCell' = true) (hn : n ≤ 1000000000) (hr : Row w w.heap.size A xs) :
    Calls Try.prog 31 #[.slice A n c] w (Gives w.heap.size 41 3 n xs w) := by
  have q := fun W => Lib.run_eql_slice_nil (P := Try.prog) W 35 41 A n c 0 0 Try.underlying35
  rcases A with _ | ad
  · have h0 : xs = [] := by
      rcases xs with _ | ⟨x, l⟩
      · rfl
      · obtain ⟨b, o, h, _⟩ := hr (by simp)
        cases h
    subst h0
    have hn0 : n = 0 := by simp at hl; omega
    subst hn0
    go_enter Try.func31, Try.ntmps31
    go_wp2_with fail
    go_ret
    exact ⟨_, rfl, World.ownsRow_nil _ _ _ _, Below.refl _ _⟩
  · have HL := hide hl
    have H1 := hide h1
    clear hl h1
    go_enter Try.func31, Try.ntmps31
    go_wp2_with (at_builtin; refine wpList_append_row _ rfl (.tmp 5) (.tmp 6) 35 rfl w.heap.size 41 infoD Try.underlying35 rfl (by omega) _ 0 [] rfl (World.ownsRow_lit _ #[] 0 (Nat.le_refl _) (by simp) rfl) w.heap.size (some ad) n c xs rfl HL.out (hr.alloc (Nat.le_refl _) _) H1.out (by simp only [maxLen]; omega) (by omega) (by simp) ?_; intro v w1 hown hg hat)
    go_ret
    exact ⟨v, rfl, by simpa using hown, ((Below.refl _ _).alloc (Nat.le_refl _) _).grown hg (by simp) (fun g hg => blk_ge hg (Nat.le_refl _))⟩
#print axioms cloned_any

set_option maxRecDepth 100000 in
set_option maxHeartbeats 1000000 in
theorem deletev2_any (w : World) (B : Nat) (F : Nat) (q0 q1 : Value) (p : dr.Dr → Bool) (v : Value) (n : Nat) (l : List dr.Dr) (hl : l.length = n) (hn : n ≤ 1000000000) (hB : B ≤ w.heap.size) (hown : w.ownsRow B 41 3 v n (dcs l))
    (hF : ∀ args W, (callFunc F args).run Try.prog W = .ok (.enter F args) W)
    (hcl : ∀ W, Below B w W → ∀ d ∈ l, Calls Try.prog F #[.agg #[.int .i64 d.k, .int .i64 d.f, .int .i64 d.t], q0, q1] W fun e W' => e = .returned (.bool (p d)) ∧ Below W.heap.size W W') :
    Calls Try.prog 30 #[v, .func (.func F) #[] #[q0, q1]] w fun e w' => ∃ v', e = .returned v' ∧ w'.ownsRow B 41 3 v' (kept p l).length (dcs (kept p l)) ∧ Below B w w' := by
  rcases hown.2 with ⟨rfl, rfl⟩ | ⟨g, cap, cur, rfl, a1, a2, a3, a4, a5, a6⟩
  · have hl0 : l = [] := List.length_eq_zero_iff.1 hl
    subst hl0
    have hix := hide (indexf2_any w F q0 q1 p none 0 0 [] rfl (by omega) Row.none_ hF (fun W hW d hd => by cases hd))
    clear hcl hown
    go_enter Try.func30, Try.ntmps30
    go_wp2_with fail
    refine hix.out.mono ?_
    rintro e w1 ⟨x, rfl, hx, hb⟩
    have HB1 := hide (show Below B w w1 from Below.mono hb hB)
    rcases hx with ⟨rfl, -⟩ | ⟨i, d, -, hd, -⟩
    · clear hb
      go_wp2_with fail
      go_ret
      exact ⟨_, rfl, World.ownsRow_nil _ _ _ _, HB1.out⟩
    · simp at hd
  · exact (deletef2_any w B F q0 q1 p g n cap l hl hn hB hown hF hcl).mono fun e w' ⟨h1, h2, h3⟩ => ⟨_, h1, h2, h3⟩
#print axioms deletev2_any

set_option maxRecDepth 100000 in
set_option maxHeartbeats 1000000 in
theorem deletev3_any (w : World) (B : Nat) (F : Nat) (q0 q1 q2 : Value) (p : dr.Dr → Bool) (v : Value) (n : Nat) (l : List dr.Dr) (hl : l.length = n) (hn : n ≤ 1000000000) (hB : B ≤ w.heap.size) (hown : w.ownsRow B 41 3 v n (dcs l))
    (hF : ∀ args W, (callFunc F args).run Try.prog W = .ok (.enter F args) W)
    (hcl : ∀ W, Below B w W → ∀ d ∈ l, Calls Try.prog F #[.agg #[.int .i64 d.k, .int .i64 d.f, .int .i64 d.t], q0, q1, q2] W fun e W' => e = .returned (.bool (p d)) ∧ Below W.heap.size W W') :
    Calls Try.prog 30 #[v, .func (.func F) #[] #[q0, q1, q2]] w fun e w' => ∃ v', e = .returned v' ∧ w'.ownsRow B 41 3 v' (kept p l).length (dcs (kept p l)) ∧ Below B w w' ∧ w.grownBy w' v.ownBlock := by
  rcases hown.2 with ⟨rfl, rfl⟩ | ⟨g, cap, cur, rfl, a1, a2, a3, a4, a5, a6⟩
  · have hl0 : l = [] := List.length_eq_zero_iff.1 hl
    subst hl0
    have hix := hide (indexf3_any w F q0 q1 q2 p none 0 0 [] rfl (by omega) Row.none_ hF (fun W hW d hd => by cases hd))
    clear hcl hown
    go_enter Try.func30, Try.ntmps30
    go_wp2_with fail
    refine hix.out.mono ?_
    rintro e w1 ⟨x, rfl, hx, hb⟩
    have HB1 := hide (show Below B w w1 from Below.mono hb hB)
    have HG1 := hide (gb_le (r := none) hb)
    rcases hx with ⟨rfl, -⟩ | ⟨i, d, -, hd, -⟩
    · clear hb
      go_wp2_with fail
      go_ret
      exact ⟨_, rfl, World.ownsRow_nil _ _ _ _, HB1.out, HG1.out⟩
    · simp at hd
  · exact (deletef3_any w B F q0 q1 q2 p g n cap l hl hn hB hown hF hcl).mono fun e w' ⟨h1, h2, h3⟩ => ⟨_, h1, h2, h3⟩
#print axioms deletev3_any

set_option maxRecDepth 100000 in
set_option maxHeartbeats 1000000 in
/-- Whether one is not of a kind that may be taken. -/
theorem chosen11_any (w : World) (b b' : Nat) (kd most : Int) (d : dr.Dr) (h0 : w.cell? ⟨b, 0, none⟩ = some (.int .i64 kd)) (hb0 : b < w.heap.size) (h1 : w.cell? ⟨b', 0, none⟩ = some (.int .i64 most)) (hb1 : b' < w.heap.size) :
    Calls Try.prog 39 #[.agg #[.int .i64 d.k, .int .i64 d.f, .int .i64 d.t], .pointer (some ⟨b, 0, none⟩), .pointer (some ⟨b', 0, none⟩)] w fun e w' => e = .returned (.bool (!dr.cand kd most d)) ∧ Below w.heap.size w w' := by
  have hmy := hide (fun (W : World) => dmay_any W d)
  obtain ⟨my, hmy'⟩ : ∃ b, dr.mayD d = b := ⟨_, rfl⟩
  obtain ⟨p1, hp1⟩ : ∃ b, (d.k != kd) = b := ⟨_, rfl⟩
  obtain ⟨p2, hp2⟩ : ∃ b, decide (most < d.t) = b := ⟨_, rfl⟩
  have HD := hide (show (!dr.cand kd most d) = (p1 || (!my || p2)) by
    unfold dr.cand
    rw [hmy', ← hp1, ← hp2, Bool.eq_iff_iff]
    cases my <;> simp)
  rw [hmy'] at hmy
  clear hmy'
  obtain ⟨k, f, t⟩ := d
  obtain ⟨X, hX, bX, hlX⟩ := dbox w ⟨k, f, t⟩ 41
  simp only at hX bX hp1 hp2 hmy ⊢
  have HX := hide hX
  have HL := hide hlX
  have BX := hide bX
  have c0 := bX.cell 0 (.int .i64 k) rfl
  have c1 := bX.cell 1 (.int .i64 f) rfl
  have c2 := bX.cell 2 (.int .i64 t) rfl
  have e0 : X.cell? ⟨b, 0, none⟩ = some (.int .i64 kd) := (hlX.cell (p := ⟨b, 0, none⟩) hb0).trans h0
  have e1 : X.cell? ⟨b', 0, none⟩ = some (.int .i64 most) := (hlX.cell (p := ⟨b', 0, none⟩) hb1).trans h1
  have HE1 := hide (show ∀ W, Le X W → W.cell? ⟨b', 0, none⟩ = some (.int .i64 most) from fun W h => ((hlX.trans h).cell (p := ⟨b', 0, none⟩) hb1).trans h1)
  clear hX bX hlX h0 h1
  go_enter Try.func39, Try.ntmps39
  go_upto_region 1 with fail
  rw [HX.out]
  cases p1
  · go_wp2_with fail
    refine (hmy.out X).mono ?_
    rintro e w1 ⟨rfl, hb⟩
    have HL1 := hide (show Le w w1 from HL.out.trans hb)
    have BX1 := BX.out.below hb BX.out.lt
    have c2' := BX1.cell 2 (.int .i64 t) rfl
    have e1' := HE1.out w1 hb
    clear hb c0 c1 c2 e0 e1 BX1
    cases my
    · go_wp2_with fail
      go_ret
      exact ⟨by rw [HD.out]; rfl, HL1.out⟩
    · go_wp2_with fail
      go_ret
      exact ⟨by rw [HD.out]; rfl, HL1.out⟩
  · go_wp2_with fail
    go_ret
    exact ⟨by rw [HD.out]; rfl, HL.out⟩
#print axioms chosen11_any
theorem enterChosen11 : ∀ args W, (callFunc 39 args).run Try.prog W = .ok (.enter 39 args) W :=
  fun args W => run_enter Try.func39 (by decide) rfl args W
end Go.Proofs.Ytnihladjafnjpaa
