/-
  Which of the columns that are asked for are none, walked; what is selected, in plain words.
-/
import Derived.Test.YtjedpjfmlaganaaDoorVwO
import Derived.Test.YtjedpjfmlaganaaDoorVwPj
import Derived.Test.YtjedpjfmlaganaaDoorVwPh
namespace Go.Proofs.YtjedpjfmlaganaaDoor.vw
set_option maxRecDepth 100000
open Go.RowKit
set_option linter.unusedVariables false

/-- This is none of m columns. -/
def offI (m : Nat) (x : Int) : Bool := decide (x < 0) || decide ((m : Int) ≤ x)
set_option maxRecDepth 100000 in
theorem off_any (w : World) (p : Nat) (A : Option Addr) (m c : Nat) (x : Int) (hp : w.cell? ⟨p, 0, none⟩ = some (.slice A m c)) :
    Calls Tryd.prog 15 #[.int .i64 x, .pointer (some ⟨p, 0, none⟩)] w fun e w' => e = .returned (.bool (offI m x)) ∧ w = w' := by
  by_cases h0 : x < 0
  · have HD := hide (show offI m x = true by simp [offI, h0])
    go_enter Tryd.func15, Tryd.ntmps15
    go_wp2_with fail
    go_ret
    exact ⟨ret_bool HD.out.symm, rfl⟩
  · by_cases h1 : (m : Int) ≤ x
    · have HD := hide (show offI m x = true by simp [offI, h1])
      go_enter Tryd.func15, Tryd.ntmps15
      go_wp2_with fail
      go_ret
      exact ⟨ret_bool HD.out.symm, rfl⟩
    · have HD := hide (show offI m x = false by simp [offI, h0, h1])
      go_enter Tryd.func15, Tryd.ntmps15
      go_wp2_with fail
      go_ret
      exact ⟨ret_bool HD.out.symm, rfl⟩
#print axioms off_any
theorem any_at {α : Type} {p : α → Bool} {l : List α} {k : Nat} {u : α} (h : l[k]? = some u) : (l.drop k).any p = (p u || (l.drop (k + 1)).any p) := by
  rw [va.drop_step h]; rfl
set_option maxRecDepth 100000 in
set_option maxHeartbeats 1000000 in
theorem indexo_any (w : World) (p : Nat) (A' : Option Addr) (m c' : Nat) (hp : w.cell? ⟨p, 0, none⟩ = some (.slice A' m c')) (hpl : p < w.heap.size) (A : Option Addr) (n c : Nat) (l : List Int) (hl : l.length = n) (hn : n ≤ 9223372036854775807) (hr : Row w w.heap.size A (ints l)) :
    Calls Tryd.prog 25 #[.slice A n c, .func (Fn.func 15) #[] #[.pointer (some ⟨p, 0, none⟩)]] w fun e w' => ∃ x : Int, e = .returned (.int .i64 x) ∧ decide (0 ≤ x) = l.any (offI m) ∧ Below w.heap.size w w' := by
  have HL := hide hl
  have HR := hide hr
  have HP := hide hp
  obtain ⟨ans, hans⟩ : ∃ a, l.any (offI m) = a := ⟨_, rfl⟩
  have HA := hide (show (l.drop 0).any (offI m) = ans by rw [List.drop_zero]; exact hans)
  rw [hans]
  clear hl hr hp hans
  go_enter Tryd.func25, Tryd.ntmps25
  go_wp2_with fail
  go_loopw [8] (fun i wr => ∃ j : Nat, i = .int .i64 j ∧ j ≤ n ∧ Hid ((l.drop j).any (offI m) = ans) ∧ Hid (Le w wr)) (fun i _ => n - (intOf i).toNat)
  case atStart => exact ⟨0, rfl, Nat.zero_le _, HA, hide (Below.refl _ _)⟩
  case round =>
    obtain ⟨j, rfl, hj, HG, HB⟩ := hrel
    by_cases hjn : j < n
    · obtain ⟨u, hu⟩ : ∃ u, l[j]? = some u := ⟨_, List.getElem?_eq_getElem (by rw [HL.out]; exact hjn)⟩
      obtain ⟨bA, oA, rfl, hbA, r0⟩ := HR.out.at_ (ints_at hu)
      have e0 : wr.cell? ⟨bA, oA + j, none⟩ = some (.int .i64 u) := (HB.out.cell (p := ⟨bA, oA + j, none⟩) hbA).trans r0
      have hnj : (j : Int) < n := by omega
      have HSJ := hide (show (offI m u || (l.drop (j + 1)).any (offI m)) = ans by rw [← any_at hu]; exact HG.out)
      clear r0 hu HG
      go_wp2_with fail
      refine (off_any wr p A' m c' u ((HB.out.cell (p := ⟨p, 0, none⟩) hpl).trans HP.out)).mono ?_
      rintro e w1 ⟨rfl, rfl⟩
      obtain ⟨q, hq⟩ : ∃ q, offI m u = q := ⟨_, rfl⟩
      rw [hq] at HSJ ⊢
      clear hq e0
      cases q
      · have HG2 := hide (show (l.drop (j + 1)).any (offI m) = ans by rw [← HSJ.out]; rfl)
        go_wp2_with fail
        exact ⟨⟨j + 1, by go_num, by omega, HG2, HB⟩, by simp [intOf]; omega⟩
      · have HF := hide (show ans = true by rw [← HSJ.out]; rfl)
        go_wp2_with fail
        go_ret
        exact ⟨_, rfl, by rw [HF.out]; simp, HB.out⟩
    · obtain rfl : j = n := by omega
      have HF := hide (show ans = false by rw [← HG.out, List.drop_eq_nil_of_le (by rw [HL.out]; exact Nat.le_refl _)]; rfl)
      go_wp2_with fail
      go_ret
      exact ⟨_, rfl, by rw [HF.out]; simp, HB.out⟩
#print axioms indexo_any
set_option maxRecDepth 100000 in
theorem containso_any (w : World) (p : Nat) (A' : Option Addr) (m c' : Nat) (hp : w.cell? ⟨p, 0, none⟩ = some (.slice A' m c')) (hpl : p < w.heap.size) (A : Option Addr) (n c : Nat) (l : List Int) (hl : l.length = n) (hn : n ≤ 9223372036854775807) (hr : Row w w.heap.size A (ints l)) :
    Calls Tryd.prog 14 #[.slice A n c, .func (Fn.func 15) #[] #[.pointer (some ⟨p, 0, none⟩)]] w fun e w' => e = .returned (.bool (l.any (offI m))) ∧ Below w.heap.size w w' := by
  have hix := hide (indexo_any w p A' m c' hp hpl A n c l hl hn hr)
  obtain ⟨ans, hans⟩ : ∃ a, l.any (offI m) = a := ⟨_, rfl⟩
  rw [hans] at hix ⊢
  clear hp hl hr hans
  go_enter Tryd.func14, Tryd.ntmps14
  go_wp2_with fail
  refine hix.out.mono ?_
  rintro e w1 ⟨x, rfl, hx, hb⟩
  have HX := hide hx
  have HB := hide hb
  clear hx hb
  go_wp2_with fail
  go_ret
  exact ⟨by rw [← HX.out]; simp, HB.out⟩
#print axioms containso_any

/-- The values that are picked. -/
def picks (r : List va.Val) (pick : List Int) : List va.Val := pick.map fun c => r.getD c.toNat pr.none
/-- Whether a row is asked for. -/
def askedR (p : List pr.Nd) (x : Kd) : Bool := decide (pr.evalV p x.vals = 2)
def selC (p : List pr.Nd) (pick : List Int) (l : List Kd) : List (Ke × List va.Val) := (l.filter (askedR p)).map fun x => (x.k, picks x.vals pick)
def selOk (cols : List va.Col) (p : List pr.Nd) (pick : List Int) : Bool := !pick.any (offI cols.length) && (decide (pick.length ≤ 6) && pr.mayP cols p)
theorem sel_step {p : List pr.Nd} {pick : List Int} {l : List Kd} {i : Nat} {u : Kd} (h : l[i]? = some u) : selC p pick (l.take (i + 1)) = if askedR p u then selC p pick (l.take i) ++ [(u.k, picks u.vals pick)] else selC p pick (l.take i) := by
  unfold selC
  rw [seen_step h]
  split <;> simp
theorem picks_step {r : List va.Val} {pick : List Int} {j : Nat} {c : Int} (h : pick[j]? = some c) : picks r (pick.take (j + 1)) = picks r (pick.take j) ++ [r.getD c.toNat pr.none] := by
  unfold picks
  rw [take_snoc h]
  simp
theorem picks_len (r : List va.Val) (pick : List Int) : (picks r pick).length = pick.length := by simp [picks]
/-- What a Select hands back. -/
def Sel (w : World) (cols : List va.Col) (rows : List Kd) (pick : List Int) (p : List pr.Nd) (e : Ending) (w' : World) : Prop :=
  ∃ (A : Option Addr) (n c : Nat) (S : List Kd) (er : Int), e = .returned (.tuple #[.slice A n c, .int .i64 er]) ∧ er = (if selOk cols p pick then 0 else 1) ∧ S.length = n ∧ S.map cont = (if selOk cols p pick then selC p pick rows else []) ∧ Row w' w'.heap.size A (kcs S) ∧ (∀ x ∈ S, KHas w' w'.heap.size x) ∧ Le w w'
theorem sel_none {w w' : World} {cols : List va.Col} {rows : List Kd} {pick : List Int} {p : List pr.Nd} (h : selOk cols p pick = false) (hl : Le w w') : Sel w cols rows pick p (.returned (.tuple #[.slice none 0 0, .int .i64 1])) w' :=
  ⟨none, 0, 0, [], 1, rfl, by rw [h]; rfl, rfl, by rw [h]; rfl, Row.none_, (fun x hx => by cases hx), hl⟩
/-- A row's values, outside a block (or anywhere). -/
def KFar (w : World) (row : Option Nat) (x : Kd) : Prop := x.vals.length = x.n ∧ x.n * 32 ≤ 140737488355328 ∧ (vcs x.vals ≠ [] → ∃ b o, x.A = some ⟨b, o, none⟩ ∧ b < w.heap.size ∧ row ≠ some b ∧ ∀ j u, (vcs x.vals)[j]? = some u → w.cell? ⟨b, o + j, none⟩ = some u)
theorem KFar.has {w : World} {row : Option Nat} {x : Kd} (h : KFar w row x) : KHas w w.heap.size x := ⟨h.1, h.2.1, fun hn => by
  obtain ⟨b, o, h1, h2, h3, h4⟩ := h.2.2 hn
  exact ⟨b, o, h1, h2, h4⟩⟩
theorem KFar.grown {w w' : World} {row : Option Nat} {x : Kd} (h : KFar w row x) (hg : w.grownBy w' row) : KFar w' row x := ⟨h.1, h.2.1, fun hn => by
  obtain ⟨b, o, h1, h2, h3, h4⟩ := h.2.2 hn
  exact ⟨b, o, h1, Nat.lt_of_lt_of_le h2 hg.size, h3, fun j u hu => (World.cell?_of_block (hg.block b h2 (fun e => h3 e.symm))).trans (h4 j u hu)⟩⟩
theorem KFar.on {w w' : World} {row : Option Nat} {x : Kd} (h : KFar w row x) (hl : Le w w') : KFar w' row x := ⟨h.1, h.2.1, fun hn => by
  obtain ⟨b, o, h1, h2, h3, h4⟩ := h.2.2 hn
  exact ⟨b, o, h1, Nat.lt_of_lt_of_le h2 hl.size, h3, fun j u hu => (hl.cell (p := ⟨b, o + j, none⟩) h2).trans (h4 j u hu)⟩⟩
/-- The row has moved into a block that is new. -/
theorem KFar.turn {w : World} {row row' : Option Nat} {x : Kd} (h : KFar w row x) (hr : row' = row ∨ row' = some w.heap.size) : KFar w row' x := ⟨h.1, h.2.1, fun hn => by
  obtain ⟨b, o, h1, h2, h3, h4⟩ := h.2.2 hn
  refine ⟨b, o, h1, h2, fun e => ?_, h4⟩
  rcases hr with rfl | rfl
  · exact h3 e
  · injection e with e; omega⟩
/-- Where rows are appended onto a row: these values stay. -/
theorem KFar.append {w w' : World} {v v' : Value} {x : Kd} (h : KFar w v.ownBlock x) (hg : w.grownBy w' v.ownBlock) (ha : v'.ownBlock = v.ownBlock ∨ v'.ownBlock = some w.heap.size) : KFar w' v'.ownBlock x := by
  have h1 := h.turn ha
  have h2 := h.grown hg
  refine ⟨h.1, h.2.1, fun hn => ?_⟩
  obtain ⟨b, o, e1, e2, e3, e4⟩ := h1.2.2 hn
  obtain ⟨b', o', f1, f2, f3, f4⟩ := h2.2.2 hn
  rw [e1] at f1
  injection f1 with f1
  injection f1 with g1 g2
  subst g1
  subst g2
  exact ⟨b, o, e1, f2, e3, f4⟩
end Go.Proofs.YtjedpjfmlaganaaDoor.vw
