/-
  What nodes come to by the program, walked.
-/
import Derived.Test.YtjedpjfmlaganaaDoorPrB
namespace Go.Proofs.YtjedpjfmlaganaaDoor
set_option maxRecDepth 100000
open Go.RowKit
set_option linter.unusedVariables false

def ncs (l : List pr.Nd) : List Value := l.flatMap fun n => n.cells.toList
theorem ncs_cons (n : pr.Nd) (l : List pr.Nd) : ncs (n :: l) = .int .i64 n.op :: .int .i64 n.col :: .bool n.v.nul :: .int .i64 n.v.n :: .string n.v.s :: .slice n.vA n.vn n.vc :: .slice n.lA n.ln n.lc :: ncs l := rfl
theorem ncs_at : ∀ {l : List pr.Nd} {k : Nat} {n : pr.Nd}, l[k]? = some n → ∀ (j : Nat) u, n.cells[j]? = some u → (ncs l)[k * 7 + j]? = some u
  | [], k, n, h, _, _, _ => by simp at h
  | m :: l, 0, n, h, j, u, hu => by
    simp at h
    subst h
    have hj : j < 7 := (Array.getElem?_eq_some_iff.1 hu).1
    have e : ncs (m :: l) = m.cells.toList ++ ncs l := rfl
    rw [e, Nat.zero_mul, Nat.zero_add, List.getElem?_append_left (by simpa [pr.Nd.cells] using hj)]
    simpa using hu
  | m :: l, k + 1, n, h, j, u, hu => by
    have h' : l[k]? = some n := by simpa using h
    have := ncs_at h' j u hu
    rw [ncs_cons, show (k + 1) * 7 + j = k * 7 + j + 1 + 1 + 1 + 1 + 1 + 1 + 1 by omega]
    simpa using this
theorem row_nd {w : World} {B : Nat} {A : Option Addr} {l : List pr.Nd} {k : Nat} {n : pr.Nd} (hr : Row w B A (ncs l)) (hk : l[k]? = some n) : ∃ b o, A = some ⟨b, o, none⟩ ∧ b < B ∧ w.cell? ⟨b, o + k * 7, none⟩ = some (.int .i64 n.op) ∧
    ∀ (j : Nat) u, n.cells[j]? = some u → w.cell? ⟨b, o + k * 7 + j, none⟩ = some u := by
  obtain ⟨b, o, rfl, hb, c0⟩ := hr.at_ (ncs_at hk 0 _ rfl)
  refine ⟨b, o, rfl, hb, c0, fun j u hu => ?_⟩
  obtain ⟨b', o', e, -, c1⟩ := hr.at_ (ncs_at hk j u hu)
  injection e with e
  injection e with e1 e2 e3
  subst e1
  subst e2
  rw [Nat.add_assoc]
  exact c1
theorem nd_one (n : pr.Nd) : n.cells.all (·.oneCell') = true := by simp [pr.Nd.cells, Value.oneCell']
/-- Nodes, with what they name. -/
def Has (w : World) (B : Nat) (n : pr.Nd) : Prop := n.vals.length = n.vn ∧ n.vn ≤ 9223372036854775807 ∧ Row w B n.vA (vcs n.vals) ∧ n.L.length = n.ln ∧ n.ln ≤ 9223372036854775807 ∧ Row w B n.lA (n.L.map (Value.int .i64)) ∧
  n.v.s.size ≤ 9223372036854775807 ∧ (∀ v ∈ n.vals, v.s.size ≤ 9223372036854775807) ∧ n.ln ≤ n.lc
theorem Has.on {w W : World} {B : Nat} {n : pr.Nd} (h : Has w B n) {C : Nat} (hb : Below C w W) (hC : B ≤ C) : Has W B n :=
  ⟨h.1, h.2.1, h.2.2.1.below hb hC, h.2.2.2.1, h.2.2.2.2.1, h.2.2.2.2.2.1.below hb hC, h.2.2.2.2.2.2⟩
theorem Has.more {w : World} {B B' : Nat} {n : pr.Nd} (h : Has w B n) (hB : B ≤ B') : Has w B' n :=
  ⟨h.1, h.2.1, h.2.2.1.more hB, h.2.2.2.1, h.2.2.2.2.1, h.2.2.2.2.2.1.more hB, h.2.2.2.2.2.2⟩

set_option maxRecDepth 100000 in
theorem ask_any (w : World) (B : Nat) (n : pr.Nd) (p : Nat) (A : Option Addr) (m c : Nat) (r : List va.Val) (hp : w.cell? ⟨p, 0, none⟩ = some (.slice A m c)) (hpl : p < w.heap.size) (hop : 4 ≤ n.op ∧ n.op ≤ 9) (hcol : n.op ≠ 9 → 0 ≤ n.col ∧ n.col < m) (hl : r.length = m) (hm : m ≤ 9223372036854775807)
    (hr : Row w w.heap.size A (vcs r)) (hn : Has w w.heap.size n) :
    Calls Tryd.prog 29 #[.agg n.cells, .pointer (some ⟨p, 0, none⟩)] w fun e w' => e = .returned (.int .i64 (pr.askedV n (r.getD n.col.toNat pr.none))) ∧ Below w.heap.size w w' := by
  obtain ⟨W, hW, bx, hb⟩ := nd_box w n 45
  have HB0 := hide hb
  have HW := hide hW
  have hak := hide (fun (w : World) (h : Row w w.heap.size A (vcs r)) (hn : Has w w.heap.size n) => asked_any w n A m c r hop hcol hl hm hn.1 hn.2.1 h hn.2.2.1)
  have e0 : W.cell? ⟨p, 0, none⟩ = some (.slice A m c) := (hb.cell (p := ⟨p, 0, none⟩) hpl).trans hp
  have c0 := bx.cell 0 (.int .i64 n.op) rfl
  have c1 := bx.cell 1 (.int .i64 n.col) rfl
  have c2 := bx.cell 2 (.bool n.v.nul) rfl
  have c3 := bx.cell 3 (.int .i64 n.v.n) rfl
  have c4 := bx.cell 4 (.string n.v.s) rfl
  have c5 := bx.cell 5 (.slice n.vA n.vn n.vc) rfl
  have c6 := bx.cell 6 (.slice n.lA n.ln n.lc) rfl
  have H1 := hide ((hb.row hr (Nat.le_refl _)).more hb.size)
  have H2 := hide ((hn.on hb (Nat.le_refl _)).more hb.size)
  obtain ⟨ans, hans⟩ : ∃ a, pr.askedV n (r.getD n.col.toNat pr.none) = a := ⟨_, rfl⟩
  rw [hans] at hak ⊢
  obtain ⟨op, col, ⟨un, ui, us⟩, vA, vn, vc, vals, lA, ln, lc, L⟩ := n
  simp only [pr.Nd.cells] at hak HW c0 c1 c2 c3 c4 c5 c6 ⊢
  clear hW bx hb hr hn hp hans hop hcol
  go_enter Tryd.func29, Tryd.ntmps29
  go_upto_region 1 with fail
  rw [HW.out]
  go_wp2_with fail
  refine (hak.out W H1.out H2.out).mono ?_
  rintro e w1 ⟨rfl, hb⟩
  have HL := hide (HB0.out.trans hb)
  go_wp2_with fail
  go_ret
  exact ⟨rfl, HL.out⟩
#print axioms ask_any

/-- The fold over what a node names, behind the first. -/
def foldN (op : Int) (out : List Int) (L : List Int) (x : Int) : Int := L.foldl (fun x k => if op = 1 then min x (pr.at' out k) else max x (pr.at' out k)) x
theorem foldN_step {op : Int} {out L : List Int} {k : Nat} {y : Int} (h : L[k]? = some y) (x : Int) : foldN op out (L.drop k) x = foldN op out (L.drop (k + 1)) (if op = 1 then min x (pr.at' out y) else max x (pr.at' out y)) := by
  rw [va.drop_step h]; rfl
theorem node_fold {r : List va.Val} {out : List Int} {n : pr.Nd} {k0 : Int} {t : List Int} (hL : n.L = k0 :: t) (h3 : pr.Three out) (hn : n.op = 1 ∨ n.op = 2) : foldN n.op out t (pr.at' out k0) = pr.nodeV r out n := by
  have := pr.at_three h3 k0
  unfold pr.nodeV foldN
  rw [hL]
  rcases hn with h | h
  · rw [h]
    simp only [if_true, List.foldl_cons]
    rw [show min 2 (pr.at' out k0) = pr.at' out k0 by omega]
  · rw [h]
    simp only [List.foldl_cons]
    rw [show max 0 (pr.at' out k0) = pr.at' out k0 by omega]
    rfl
theorem node_not {r : List va.Val} {out : List Int} {n : pr.Nd} {k0 : Int} {t : List Int} (hL : n.L = k0 :: t) (hn : n.op = 3) (ht : n.L.length ≤ 1) : foldN n.op out t (2 - pr.at' out k0) = pr.nodeV r out n := by
  have ht' : t = [] := by
    rw [hL] at ht
    cases t with
    | nil => rfl
    | cons a t => simp at ht
  subst ht'
  unfold pr.nodeV foldN
  rw [hn, hL]
  rfl
theorem nodeV_leaf {r : List va.Val} {out : List Int} {n : pr.Nd} (h : pr.isN n.op = false) : pr.nodeV r out n = pr.askedV n (r.getD n.col.toNat pr.none) := by
  unfold pr.isN at h
  simp at h
  unfold pr.nodeV
  rw [if_neg h.1, if_neg h.2.1, if_neg h.2.2]
theorem nd_box2 (w : World) (z : Array Value) (t : TypeId) (n : pr.Nd) : ∃ X, (w.alloc (.cells z t)).setRow w.heap.size n.cells = X ∧ Box X w.heap.size n.cells t ∧ Below w.heap.size w X :=
  ⟨_, rfl, setRow_heap _ _ _ _ _ _ (box_new _ _ _), below_setRow ((Below.refl _ _).alloc (Nat.le_refl _) _) (Nat.le_refl _) _⟩
def ints (l : List Int) : List Value := l.map (Value.int .i64)
theorem ints_snoc (l : List Int) (x : Int) : ints (l ++ [x]) = ints l ++ [.int .i64 x] := by simp [ints]
theorem ints_at {l : List Int} {k : Nat} {x : Int} (h : l[k]? = some x) : (ints l)[k]? = some (.int .i64 x) := by simp [ints, h]
theorem infoI : (Tryd.prog.info? 3).map (fun i => (i.zero, i.size, i.bytes)) = some (some (.int .i64 0), 1, 8) := by kernel_rfl

set_option maxRecDepth 100000 in
set_option maxHeartbeats 4000000 in
theorem folded_any (w : World) (p : Nat) (A : Option Addr) (n c : Nat) (l : List pr.Nd) (A' : Option Addr) (m c' : Nat) (r : List va.Val) (hp : w.cell? ⟨p, 0, none⟩ = some (.slice A' m c')) (hpl : p < w.heap.size)
    (hl : l.length = n) (hn : 1 ≤ n ∧ n ≤ 1000) (hr : Row w w.heap.size A (ncs l)) (hh : ∀ n ∈ l, Has w w.heap.size n) (hl' : r.length = m) (hm : m ≤ 9223372036854775807) (hr' : Row w w.heap.size A' (vcs r))
    (hf : ∀ j n, l[j]? = some n → pr.Fine m j n) :
    Calls Tryd.prog 28 #[.slice A n c, .func (Fn.func 29) #[] #[.pointer (some ⟨p, 0, none⟩)], .func (Fn.func 31) #[] #[], .func (Fn.func 32) #[] #[]] w
      fun e w' => e = .returned (.int .i64 (pr.evalV l r)) ∧ Below w.heap.size w w' := by
  have HP := hide hp
  have HL := hide hl
  have HR := hide hr
  have HH := hide hh
  have HL' := hide hl'
  have HR' := hide hr'
  have HF := hide hf
  obtain ⟨ans, hans⟩ : ∃ a, pr.evalGo r [] l = a := ⟨_, rfl⟩
  have HA := hide (show pr.evalGo r [] (l.drop 0) = ans by rw [List.drop_zero]; exact hans)
  have HE := hide (show pr.evalV l r = pr.at' ans ((n : Int) - 1) by unfold pr.evalV; rw [hans, hl])
  rw [HE.out]
  clear hp hl hr hh hl' hr' hf hans
  go_enter Tryd.func28, Tryd.ntmps28
  go_wp2_with fail
  go_loopw [9, 17] (fun s i wr => ∃ (j cs : Nat) (As : Option Addr) (out : List Int), i = .int .i64 j ∧ j ≤ n ∧ s = .slice As j cs ∧ Hid (pr.Three out) ∧ Hid (wr.ownsRow w.heap.size 3 1 (.slice As j cs) j (ints out)) ∧ Hid (pr.evalGo r out (l.drop j) = ans) ∧ Hid (Le w wr)) (fun _ i _ => n - (intOf i).toNat)
  case atStart => exact ⟨0, 0, none, [], rfl, Nat.zero_le _, rfl, hide (by intro x hx; cases hx), hide (World.ownsRow_nil _ _ _ _), HA, hide (Below.refl _ _)⟩
  case round =>
    obtain ⟨j, cs, As, out, rfl, hj, rfl, H3, HO, HG, HB⟩ := hrel
    have hzB := HB.out.size
    by_cases hjn : j < n
    · obtain ⟨nd, hnd⟩ : ∃ nd, l[j]? = some nd := ⟨_, List.getElem?_eq_getElem (by rw [HL.out]; exact hjn)⟩
      obtain ⟨bA, oA, rfl, hbA, -, hcl⟩ := row_nd HR.out hnd
      have HFN := hide (HF.out j nd hnd)
      have HND := hide (((HH.out nd (List.mem_of_getElem? hnd)).on HB.out (Nat.le_refl _)).more HB.out.size)
      have HEV := hide (show pr.evalGo r (out ++ [pr.nodeV r out nd]) (l.drop (j + 1)) = ans by rw [← pr.eval_step hnd]; exact HG.out)
      have HX3 := hide (pr.three_snoc H3.out (pr.node_three (r := r) (n := nd) H3.out))
      have hcw : ∀ (i : Nat) u, nd.cells[i]? = some u → wr.cell? ⟨bA, oA + j * 7 + i, none⟩ = some u := fun i u hu => (HB.out.cell (p := ⟨bA, oA + j * 7 + i, none⟩) hbA).trans (hcl i u hu)
      have c0 := hcw 0 _ rfl
      have c1 := hcw 1 _ rfl
      have c2 := hcw 2 _ rfl
      have c3 := hcw 3 _ rfl
      have c4 := hcw 4 _ rfl
      have c5 := hcw 5 _ rfl
      have c6 := hcw 6 _ rfl
      rw [Nat.add_zero] at c0
      obtain ⟨X, hX, bX, hbX⟩ := nd_box2 wr #[.int .i64 0, .int .i64 0, .bool false, .int .i64 0, .string ⟨#[]⟩, .slice none 0 0, .slice none 0 0] 45 nd
      have HXX := hide hX
      have BN := hide bX
      have HLX := hide (show Le w X from HB.out.trans hbX)
      have HOX := hide (own_below HO.out hbX)
      have HNX := hide ((HND.out.on hbX (Nat.le_refl _)).more hbX.size)
      have hnj : (j : Int) < n := by omega
      obtain ⟨val, hval⟩ : ∃ v, pr.nodeV r out nd = v := ⟨_, rfl⟩
      have HVAL := hide hval
      rw [hval] at HEV HX3
      have hone := nd_one nd
      clear hnd hcl hcw hX bX hbX HG hval
      obtain ⟨op, col, ⟨un, ui, us⟩, vA, vn, vc, vals, lA, ln, lc, L⟩ := nd
      simp only [pr.Nd.cells] at c0 c1 c2 c3 c4 c5 c6 HXX BN hone
      go_upto_region 5 with (refine wpList_store_row rfl 45 _ _ rfl wr.heap.size _ rfl rfl 45 _ (box_new _ _ _) (by kernel_rfl) rfl hone ?_)
      rw [HXX.out]
      clear c0 c1 c2 c3 c4 c5 c6
      have c0 := BN.out.cell 0 (.int .i64 op) rfl
      have c1 := BN.out.cell 1 (.int .i64 col) rfl
      have c2 := BN.out.cell 2 (.bool un) rfl
      have c3 := BN.out.cell 3 (.int .i64 ui) rfl
      have c4 := BN.out.cell 4 (.string us) rfl
      have c5 := BN.out.cell 5 (.slice vA vn vc) rfl
      have c6 := BN.out.cell 6 (.slice lA ln lc) rfl
      go_wp2_with fail
      refine (names_any X op).mono ?_
      rintro e w' ⟨rfl, rfl⟩
      obtain ⟨q, hq⟩ : ∃ q, pr.isN op = q := ⟨_, rfl⟩
      rw [hq]
      cases q
      · have hq4 := HFN.out.2 hq
        have hlv := HVAL.out
        rw [nodeV_leaf hq] at hlv
        go_wp2_with fail
        refine (ask_any X 0 ⟨op, col, ⟨un, ui, us⟩, vA, vn, vc, vals, lA, ln, lc, L⟩ p A' m c' r ((HLX.out.cell (p := ⟨p, 0, none⟩) hpl).trans HP.out) (Nat.lt_of_lt_of_le hpl HLX.out.size) ⟨hq4.1, hq4.2.1⟩ hq4.2.2 HL'.out hm ((HLX.out.row HR'.out (Nat.le_refl _)).more HLX.out.size) HNX.out).mono ?_
        rintro e w1 ⟨rfl, hb1⟩
        rw [hlv]
        have HL1 := hide (show Le w w1 from HLX.out.trans hb1)
        have HO1 := hide (own_below HOX.out hb1)
        have hz1 := HL1.out.size
        clear hb1 hq4 hlv c0 c1 c2 c3 c4 c5 c6 hq
        go_wp2_with (at_builtin; refine wpList_append_row _ rfl (.tmp 25) (.tmp 29) 24 rfl w.heap.size 3 infoI Tryd.underlying24 rfl (by omega) (.slice As j cs) j _ rfl (HO1.out.alloc _) _ (some ⟨w1.heap.size, 0, none⟩) 1 1 [.int .i64 val] rfl rfl (row_new w1 #[.int .i64 val] _ (0, 0)) (one_int _ _) (by simp only [maxLen]; omega) (by omega) (by simp; omega) ?_; intro v' w' hown' hg hat; obtain ⟨A1, c1, rfl, -, -⟩ := own_form hown'; have HO' := hide hown'; have HG := hide hg; clear hown' hg hat)
        have HB' := hide (show Below w.heap.size w w' from Below.trans (HL1.out.alloc hz1 _) (below_own HG.out (Nat.le_refl _) (by simp; omega) (fun g h => own_ge HO1.out h (Nat.le_refl _))))
        exact ⟨⟨j + 1, c1, A1, out ++ [val], by go_num, by omega, rfl, HX3, hide (by rw [ints_snoc]; exact HO'.out), HEV, HB'⟩, by simp [intOf]; omega⟩
      · have hq1 := HFN.out.1 hq
        obtain ⟨k0, t, hL⟩ : ∃ k0 t, L = k0 :: t := by
          cases L with
          | nil => simp at hq1
          | cons a t => exact ⟨a, t, rfl⟩
        have hLn : L.length = ln := HNX.out.2.2.2.1
        have hk0 := hq1.2.2 k0 (by rw [hL]; exact List.mem_cons_self)
        have hlen : out.length = j := by have := HO.out.1; simp [ints] at this; omega
        obtain ⟨a0, rfl⟩ : ∃ a : Nat, k0 = a := ⟨k0.toNat, by omega⟩
        have ha0 : (a0 : Int) < j := hk0.2
        have ha00 : (0 : Int) ≤ (a0 : Int) := hk0.1
        obtain ⟨z, hz⟩ : ∃ z, out[a0]? = some z := ⟨_, List.getElem?_eq_getElem (by omega)⟩
        have hzat : pr.at' out (a0 : Int) = z := by
          unfold pr.at'
          rw [show ((a0 : Int)).toNat = a0 by omega, List.getD_eq_getElem?_getD, hz]; rfl
        have hz3 : 0 ≤ z ∧ z ≤ 2 := by rw [← hzat]; exact pr.at_three H3.out _
        obtain ⟨bO, oO, rfl, hbO, co⟩ := (Row.of_own HOX.out).at_ (ints_at hz)
        have hrl : Row X X.heap.size lA (L.map (Value.int .i64)) := HNX.out.2.2.2.2.2.1
        have hL0 : (L.map (Value.int .i64))[0]? = some (.int .i64 a0) := by rw [hL]; rfl
        obtain ⟨bL, oL, rfl, hbL, cl⟩ := hrl.at_ hL0
        clear hL0
        have HRL := hide hrl
        have hln1 : 1 ≤ ln := by rw [← hLn]; exact hq1.1
        have hln0 : (0 : Int) < ln := by omega
        rw [Nat.add_zero] at cl
        obtain ⟨x0, hx0⟩ : ∃ x, (if op = 3 then 2 - z else z) = x := ⟨_, rfl⟩
        obtain ⟨d3, hd3⟩ : ∃ d, (op == 3) = d := ⟨_, rfl⟩
        have hfold : foldN op out (L.drop 1) x0 = val := by
          have hv := HVAL.out
          rw [← hx0, ← hzat]
          by_cases h3 : op = 3
          · rw [if_pos h3, hL]
            rw [← hv]
            exact node_not (n := ⟨op, col, ⟨un, ui, us⟩, vA, vn, vc, vals, some ⟨bL, oL, none⟩, ln, lc, L⟩) hL h3 (hq1.2.1 h3)
          · rw [if_neg h3, hL]
            rw [← hv]
            refine node_fold (n := ⟨op, col, ⟨un, ui, us⟩, vA, vn, vc, vals, some ⟨bL, oL, none⟩, ln, lc, L⟩) hL H3.out ?_
            have := hq
            unfold pr.isN at this
            simp at this
            rcases this with h | h | h
            · exact .inl h
            · exact .inr h
            · exact absurd h h3
        have HFO := hide hfold
        have HLN := hide hLn
        have HLEN := hide hlen
        have HALL := hide hq1.2.2
        clear hfold hLn hlen hrl hq1 hk0 hz hzat HVAL hq hL
        go_upto_region 8 with fail
        go_upto_if 40 with fail
        go_cut [12] (fun s12 wx => s12 = .int .i64 x0 ∧ wx = X)
        case first =>
          cases d3
          · have h3 : ¬ op = 3 := by simpa using hd3
            rw [if_neg h3] at hx0
            subst hx0
            go_wp2_with fail
            go_meet
            exact ⟨rfl, rfl⟩
          · have h3 : op = 3 := by simpa using hd3
            rw [if_pos h3] at hx0
            subst hx0
            go_wp2_with fail
            refine (not_any X z hz3).mono ?_
            rintro e w' ⟨rfl, rfl⟩
            go_wp2_with fail
            go_meet
            exact ⟨rfl, rfl⟩
        case rest =>
          obtain ⟨rfl, rfl⟩ := hcut
          clear co cl hd3 hx0
          have hlc := HNX.out.2.2.2.2.2.2.2.2
          simp only at hlc
          go_upto_region 10 with fail
          go_cut [46, 47, 48] (fun s46 s47 s48 wx => ∃ (AL : Option Addr) (cl : Nat), s46 = .slice AL (ln - 1) cl ∧ s47 = .int .i64 ((ln - 1 : Nat) : Int) ∧ s48 = .int .i64 0 ∧ wx = wc ∧ Row wc wc.heap.size AL ((L.map (Value.int .i64)).drop 1))
          case first =>
            by_cases hc1 : lc = 1
            · subst hc1
              obtain rfl : ln = 1 := by omega
              go_wp2_with fail
              go_meet
              refine ⟨_, _, rfl, rfl, rfl, rfl, HRL.out.drop 1 fun h => ?_⟩
              rw [List.length_map, HLN.out] at h
              omega
            · go_wp2_with fail
              go_meet
              exact ⟨_, _, rfl, rfl, rfl, rfl, HRL.out.drop 1 fun h => rfl⟩
          case rest =>
            obtain ⟨AL, cl, rfl, rfl, rfl, rfl, hrow⟩ := hcut
            have HROW := hide hrow
            have HOC := hide HOX.out
            clear c0 c1 c2 c3 c4 c5 c6 hrow hlc hbL HRL
            go_wp2_with fail
            go_loopw [12, 48] (fun x i wx => ∃ (k : Nat) (y : Int), i = .int .i64 k ∧ k + 1 ≤ ln ∧ x = .int .i64 y ∧ Hid (foldN op out (L.drop (k + 1)) y = val) ∧ Hid (Le wc wx)) (fun _ i _ => ln - (intOf i).toNat)
            case atStart => exact ⟨0, x0, rfl, hln1, rfl, HFO, hide (Below.refl _ _)⟩
            case round =>
              obtain ⟨k, y, rfl, hk, rfl, HFY, HLX2⟩ := hrel
              by_cases hkl : k + 1 < ln
              · obtain ⟨y2, hy2⟩ : ∃ y2, L[k + 1]? = some y2 := ⟨_, List.getElem?_eq_getElem (by rw [HLN.out]; exact hkl)⟩
                have hyb := HALL.out y2 (List.mem_of_getElem? hy2)
                obtain ⟨b2, rfl⟩ : ∃ b : Nat, y2 = b := ⟨y2.toNat, by omega⟩
                have hb2 : (b2 : Int) < j := hyb.2
                have hb20 : (0 : Int) ≤ (b2 : Int) := hyb.1
                obtain ⟨z2, hz2⟩ : ∃ z, out[b2]? = some z := ⟨_, List.getElem?_eq_getElem (by rw [HLEN.out]; omega)⟩
                have hzat : pr.at' out (b2 : Int) = z2 := by
                  unfold pr.at'
                  rw [show ((b2 : Int)).toNat = b2 by omega, List.getD_eq_getElem?_getD, hz2]; rfl
                obtain ⟨y3, hy3⟩ : ∃ y3, (if op = 1 then min y z2 else max y z2) = y3 := ⟨_, rfl⟩
                have hbo := hide (fun (W : World) => hy3 ▸ both_any W op y z2)
                have HFS := hide (show foldN op out (L.drop (k + 1 + 1)) y3 = val by
                  have h := HFY.out
                  rw [foldN_step hy2, hzat, hy3] at h
                  exact h)
                have hrk : ((L.map (Value.int .i64)).drop 1)[k]? = some (.int .i64 b2) := by
                  rw [List.getElem?_drop, List.getElem?_map, show 1 + k = k + 1 by omega, hy2]; rfl
                obtain ⟨bM, oM, rfl, hbM, cm⟩ := HROW.out.at_ hrk
                obtain ⟨bP, oP, eP, hbP, cp⟩ := (Row.of_own HOC.out).at_ (ints_at hz2)
                simp only [Option.some.injEq, Addr.mk.injEq, and_true] at eP
                obtain ⟨rfl, rfl⟩ := eP
                have hkl' : (k : Int) < ((ln - 1 : Nat) : Int) := by omega
                have hlnb : ln ≤ 9223372036854775807 := HNX.out.2.2.2.2.1
                have e0 : wr.cell? ⟨bM, oM + k, none⟩ = some (.int .i64 b2) := (HLX2.out.cell (p := ⟨bM, oM + k, none⟩) hbM).trans cm
                obtain ⟨V, hV⟩ : ∃ V, wr.drew = V := ⟨_, rfl⟩
                have HLV := hide (show Le wc V by rw [← hV]; exact HLX2.out.drew)
                have g0 := (BN.out.below HLV.out BN.out.lt).later 0 (.int .i64 op) rfl
                have g1 : ∀ W, Le V W → W.cell? ⟨bO, oO + b2, none⟩ = some (.int .i64 z2) := fun W h => ((HLV.out.trans h).cell (p := ⟨bO, oO + b2, none⟩) hbP).trans cp
                have HV := hide hV
                clear cm cp hV hz2 hzat hrk hy2 HFY hyb hy3
                go_wp2_with fail
                clear e0
                refine region_pi [(0, true), (1, true), (2, true), (3, true), (4, true), (5, true), (6, true), (7, true), (8, false), (9, true)] (by kernel_rfl) (by kernel_rfl) ?_
                simp only [opsPi, List.filterMap_cons, List.filterMap_nil, List.getElem?_toArray, List.getElem?_cons_zero, List.getElem?_cons_succ, Option.map_some]
                rw [HV.out]
                repeat (first | (refine pi_take (v := _) rfl (fun W hW => by go_simp <;> exact rfl) ?_; simp only [Act.put, List.setIfInBounds_toArray, List.set_cons_zero, List.set_cons_succ]) | (refine pi_skip rfl ?_; simp only [Act.put, List.setIfInBounds_toArray, List.set_cons_zero, List.set_cons_succ]))
                refine pi_run ?_
                go_wp2_with fail
                refine (hbo.out V).mono ?_
                rintro e w' ⟨rfl, rfl⟩
                go_wp2_with fail
                refine ⟨Le.refl _, ?_⟩
                repeat (first | (refine pi_take (v := _) rfl (fun W hW => by go_simp <;> exact rfl) ?_; simp only [Act.put, List.setIfInBounds_toArray, List.set_cons_zero, List.set_cons_succ]) | (refine pi_skip rfl ?_; simp only [Act.put, List.setIfInBounds_toArray, List.set_cons_zero, List.set_cons_succ]))
                refine pi_done ?_
                clear g0 g1
                go_wp2_with fail
                exact ⟨⟨k + 1, _, by go_num, by omega, rfl, HFS, HLV⟩, by simp [intOf]; omega⟩
              · have hke : k + 1 = ln := by omega
                have HVE := hide (show y = val by
                  have h := HFY.out
                  rw [hke, List.drop_eq_nil_of_le (by rw [HLN.out]; exact Nat.le_refl _)] at h
                  exact h)
                have HO1 := hide (own_below HOC.out HLX2.out)
                have HL1 := hide (show Le w wr from HLX.out.trans HLX2.out)
                have hz1 := HL1.out.size
                have hke2 : k = ln - 1 := by omega
                go_wp2_with (at_builtin; refine wpList_append_row _ rfl (.tmp 62) (.tmp 64) 24 rfl w.heap.size 3 infoI Tryd.underlying24 rfl (by omega) (.slice (some ⟨bO, oO, none⟩) j cs) j _ rfl (HO1.out.alloc _) _ (some ⟨wr.heap.size, 0, none⟩) 1 1 [.int .i64 y] rfl rfl (row_new wr #[.int .i64 y] _ (0, 0)) (one_int _ _) (by simp only [maxLen]; omega) (by omega) (by simp; omega) ?_; intro v' w' hown' hg hat; obtain ⟨A1, c1, rfl, -, -⟩ := own_form hown'; have HO' := hide hown'; have HG := hide hg; clear hown' hg hat)
                have HB' := hide (show Below w.heap.size w w' from Below.trans (HL1.out.alloc hz1 _) (below_own HG.out (Nat.le_refl _) (by simp; omega) (fun g h => own_ge HO1.out h (Nat.le_refl _))))
                exact ⟨⟨j + 1, c1, A1, out ++ [val], by go_num, by omega, rfl, HX3, hide (by rw [ints_snoc, ← HVE.out]; exact HO'.out), HEV, HB'⟩, by simp [intOf]; omega⟩
    · obtain rfl : j = n := by omega
      have hend := HG.out
      rw [List.drop_eq_nil_of_le (by rw [HL.out]; exact Nat.le_refl _)] at hend
      have hlen : out.length = j := by have := HO.out.1; simp [ints] at this; omega
      have hoa : out = ans := hend
      obtain ⟨z, hz⟩ : ∃ z, out[j - 1]? = some z := ⟨_, List.getElem?_eq_getElem (by omega)⟩
      have HZ := hide (show pr.at' ans ((j : Int) - 1) = z by
        unfold pr.at'
        rw [← hoa, show ((j : Int) - 1).toNat = j - 1 by omega, List.getD_eq_getElem?_getD, hz]; rfl)
      obtain ⟨bO, oO, rfl, hbO, co⟩ := (Row.of_own HO.out).at_ (ints_at hz)
      obtain ⟨j', rfl⟩ : ∃ j' : Nat, j = j' + 1 := ⟨j - 1, by omega⟩
      rw [show j' + 1 - 1 = j' by omega] at co
      have hw1 : ((j' + 1 : Nat) : Int) - 1 = (j' : Int) := by omega
      have hw2 : IntKind.i64.wrap (j' : Int) = (j' : Int) := by rw [IntKind.wrap_i64]; omega
      have hlt : (j' : Int) < ((j' + 1 : Nat) : Int) := by omega
      clear hz hoa hend hlen
      go_wp2_with fail
      go_ret
      rw [HZ.out]
      exact ⟨rfl, HB.out⟩
#print axioms folded_any
end Go.Proofs.YtjedpjfmlaganaaDoor
