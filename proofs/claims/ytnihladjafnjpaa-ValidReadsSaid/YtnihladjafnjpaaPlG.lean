/-
  The closures of valid.Plan, walked.
-/
import Derived.Test.YtnihladjafnjpaaPlF
namespace Go.Proofs.Ytnihladjafnjpaa
open Go.RowKit
set_option linter.unusedVariables false

/-- Whether a directory has a write-id. -/
def inD (d : dr.Dr) (id : Int) : Bool := decide (d.f ≤ id) && decide (id ≤ d.t)
/-- Whether a write-id is not seen by way of a directory. -/
def okU (H : Int) (l : List Int) (d : dr.Dr) (id s : Int) : Bool := !has H l id || !inD d id
def useless (H : Int) (l states : List Int) (d : dr.Dr) : Bool := if d.k = 1 then !servesI d.t H l states else if d.k = 2 then allI (okU H l d) states else true
def okC (H : Int) (l : List Int) (c : List dr.Dr) (id s : Int) : Bool := !has H l id || c.any fun d => inD d id
def fIn : Value := .func (.func 26) #[] #[]

set_option maxRecDepth 100000 in
theorem plan1_any (w : World) (d : dr.Dr) (id : Int) : Calls Try.prog 26 #[.agg #[.int .i64 d.k, .int .i64 d.f, .int .i64 d.t], .int .i64 id] w fun e w' => e = .returned (.bool (inD d id)) ∧ Below w.heap.size w w' := by
  obtain ⟨p1, hp1⟩ : ∃ b, decide (d.f ≤ id) = b := ⟨_, rfl⟩
  obtain ⟨p2, hp2⟩ : ∃ b, decide (id ≤ d.t) = b := ⟨_, rfl⟩
  have HD := hide (show inD d id = (p1 && p2) by unfold inD; rw [hp1, hp2])
  obtain ⟨k, f, t⟩ := d
  obtain ⟨X, hX, bX, hlX⟩ := dbox w ⟨k, f, t⟩ 41
  simp only at hX bX hp1 hp2 ⊢
  have HX := hide hX
  have HL := hide hlX
  have c0 := bX.cell 0 (.int .i64 k) rfl
  have c1 := bX.cell 1 (.int .i64 f) rfl
  have c2 := bX.cell 2 (.int .i64 t) rfl
  clear hX bX hlX
  go_enter Try.func26, Try.ntmps26
  go_upto_region 1 with fail
  rw [HX.out]
  cases p1
  · go_wp2_with fail
    go_ret
    exact ⟨by rw [HD.out]; rfl, HL.out⟩
  · go_wp2_with fail
    go_ret
    exact ⟨by rw [HD.out]; rfl, HL.out⟩
#print axioms plan1_any
theorem enterPlan1 : ∀ args W, (callFunc 26 args).run Try.prog W = .ok (.enter 26 args) W :=
  fun args W => run_enter Try.func26 (by decide) rfl args W

set_option maxRecDepth 100000 in
theorem plan21_any (w : World) (b1 b2 b3 : Nat) (H : Int) (A : Option Addr) (n c : Nat) (l : List Int) (d : dr.Dr) (id s : Int) (hl : l.length = n) (hn : n ≤ 1000000000) (hr : Row w w.heap.size A (ints l))
    (h0 : w.cell? ⟨b1, 0, none⟩ = some (.int .i64 H)) (h1 : w.cell? ⟨b1, 1, none⟩ = some (.slice A n c)) (h2 : w.cell? ⟨b2, 0, none⟩ = some fIn) (hb2 : b2 < w.heap.size)
    (h3 : w.cell? ⟨b3, 0, none⟩ = some (.int .i64 d.k)) (h4 : w.cell? ⟨b3, 1, none⟩ = some (.int .i64 d.f)) (h5 : w.cell? ⟨b3, 2, none⟩ = some (.int .i64 d.t)) (hb3 : b3 < w.heap.size) :
    Calls Try.prog 28 #[.int .i64 id, .int .i64 s, .pointer (some ⟨b1, 0, none⟩), .pointer (some ⟨b2, 0, none⟩), .pointer (some ⟨b3, 0, none⟩)] w fun e w' => e = .returned (.bool (okU H l d id s)) ∧ Below w.heap.size w w' := by
  have hha := hide (has_any w H A n c l id hl hn hr)
  have hin := hide (fun (W : World) => plan1_any W d id)
  obtain ⟨hv, hhv⟩ : ∃ b, has H l id = b := ⟨_, rfl⟩
  obtain ⟨iv, hiv⟩ : ∃ b, inD d id = b := ⟨_, rfl⟩
  have HD := hide (show okU H l d id s = (!hv || !iv) by unfold okU; rw [hhv, hiv])
  rw [hhv] at hha
  rw [hiv] at hin
  have g2 := hide (fun (W : World) (h : Le w W) => (h.cell (p := ⟨b2, 0, none⟩) hb2).trans h2)
  have g3 := hide (fun (W : World) (h : Le w W) => (h.cell (p := ⟨b3, 0, none⟩) hb3).trans h3)
  have g4 := hide (fun (W : World) (h : Le w W) => (h.cell (p := ⟨b3, 1, none⟩) hb3).trans h4)
  have g5 := hide (fun (W : World) (h : Le w W) => (h.cell (p := ⟨b3, 2, none⟩) hb3).trans h5)
  obtain ⟨k, f, t⟩ := d
  simp only at hin g3 g4 g5
  clear hl hr hhv hiv h2 h3 h4 h5
  have he1 := enterPlan1
  go_enter Try.func28, Try.ntmps28
  go_wp2_with fail
  refine hha.out.mono ?_
  rintro e w1 ⟨rfl, hb⟩
  have HL1 := hide (show Le w w1 from hb)
  have e2 := g2.out w1 hb
  have e3 := g3.out w1 hb
  have e4 := g4.out w1 hb
  have e5 := g5.out w1 hb
  unfold fIn at e2
  clear hb
  cases hv
  · go_wp2_with fail
    go_ret
    exact ⟨by rw [HD.out]; rfl, HL1.out⟩
  · go_wp2_with fail
    refine (hin.out w1).mono ?_
    rintro e w2 ⟨rfl, hb⟩
    have HL2 := hide (show Le w w2 from HL1.out.trans hb)
    clear hb
    go_wp2_with fail
    go_ret
    exact ⟨by rw [HD.out]; rfl, HL2.out⟩
#print axioms plan21_any
theorem enterPlan21 : ∀ args W, (callFunc 28 args).run Try.prog W = .ok (.enter 28 args) W :=
  fun args W => run_enter Try.func28 (by decide) rfl args W
end Go.Proofs.Ytnihladjafnjpaa
