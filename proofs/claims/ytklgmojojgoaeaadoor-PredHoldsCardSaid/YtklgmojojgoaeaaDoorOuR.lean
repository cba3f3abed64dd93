/-
  What comes out of a row may come out of what is known of rows with it: in plain words.
-/
import Derived.Test.YtklgmojojgoaeaaDoorOuN
import Derived.Test.YtklgmojojgoaeaaDoorStI
namespace Go.Proofs.YtklgmojojgoaeaaDoor.st
open Go va
theorem of_c (k : Int) (l : List Val) : (of k l).c = ((acc l).c : Int) ∧ (of k l).hn = (acc l).hn ∧ (of k l).mn = (acc l).mn ∧ (of k l).mx = (acc l).mx := by
  unfold of summed ofAcc
  split <;> exact ⟨rfl, rfl, rfl, rfl⟩
theorem hn_mem : ∀ (l : List Val) (a : Acc), (a.hn = true ∨ ∃ v ∈ l, v.nul = true) → (l.foldl step a).hn = true
  | [], a, h => by
    rcases h with h | ⟨v, hv, -⟩
    · exact h
    · cases hv
  | u :: l, a, h => by
    rw [List.foldl_cons]
    refine hn_mem l (step a u) ?_
    cases hu : u.nul with
    | true => rw [step_nul hu]; exact Or.inl rfl
    | false =>
      rw [step_some hu]
      rcases h with h | ⟨v, hv, hn⟩
      · exact Or.inl h
      · rcases List.mem_cons.1 hv with rfl | hv
        · rw [hu] at hn; cases hn
        · exact Or.inr ⟨v, hv, hn⟩
/-- What is known holds of each value. -/
theorem of_mem {k : Int} {l : List Val} {v : Val} (hv : v ∈ l) : (v.nul = true → (of k l).hn = true) ∧ (v.nul = false → 0 < (of k l).c ∧ cmpV (of k l).mn v ≤ 0 ∧ cmpV v (of k l).mx ≤ 0) := by
  obtain ⟨e1, e2, e3, e4⟩ := of_c k l
  rw [e1, e2, e3, e4]
  refine ⟨fun hn => hn_mem l start (Or.inr ⟨v, hv, hn⟩), fun hn => ?_⟩
  obtain ⟨h1, -, h2, h3⟩ := (among_acc l).1 v hv hn
  refine ⟨?_, h2, h3⟩
  by_cases hc : (acc l).c = 0
  · rw [((ok_acc l).1 hc).1] at h1; cases h1
  · omega
end Go.Proofs.YtklgmojojgoaeaaDoor.st
namespace Go.Proofs.YtklgmojojgoaeaaDoor.ou
open Go va pr
set_option linter.unusedVariables false

theorem same_iff (a b : Val) : sameV a b = decide (cmpV a b = 0) := by
  unfold sameV
  rw [decide_eq_decide, cmpV_zero]
  simp [eqS]
theorem get_leaf {n : Nd} {k : Int} {l : List Val} {v : Val} (hop : 4 ≤ n.op ∧ n.op ≤ 9) (hv : v ∈ l) : get (knownV n (st.of k l)) (askedV n v).toNat = true := by
  obtain ⟨h1, h2⟩ := st.of_mem (k := k) hv
  generalize st.of k l = s at h1 h2
  unfold knownV askedV
  by_cases h9 : n.op = 9
  · rw [if_pos h9, if_pos h9]; rfl
  · rw [if_neg h9, if_neg h9]
    by_cases h8 : n.op = 8
    · rw [if_pos h8, if_pos h8]
      cases hn : v.nul with
      | true => exact h1 hn
      | false => exact decide_eq_true (h2 hn).1
    · rw [if_neg h8, if_neg h8]
      cases hn : v.nul with
      | true =>
        rw [if_pos (show true = true from rfl)]
        have e := h1 hn
        repeat' split
        all_goals exact e
      | false =>
        obtain ⟨hc, hmn, hmx⟩ := h2 hn
        rw [if_neg (show ¬ s.c = 0 by omega), if_neg (show ¬ (false = true) by simp)]
        have chain : ∀ {a b c : Val}, cmpV a b ≤ 0 → cmpV b c ≤ 0 → cmpV a c ≤ 0 := fun h h' => cmpV_chain h h'
        by_cases h7 : n.op = 7
        · rw [if_pos h7, if_neg (by omega), if_neg (by omega), if_neg (by omega)]
          cases hb : n.vals.any fun u => sameV v u with
          | true =>
            obtain ⟨u, hu, huv⟩ := List.any_eq_true.1 hb
            rw [same_iff, decide_eq_true_eq] at huv
            show n.vals.any (withinV s) = true
            rw [List.any_eq_true]
            refine ⟨u, hu, ?_⟩
            unfold withinV
            have e1 := chain hmn (c := u) (by omega)
            have e2 := chain (a := u) (by rw [cmpV_anti]; omega) hmx
            rw [cmpV_anti] at e2
            rw [Bool.and_eq_true, decide_eq_true_eq, decide_eq_true_eq]
            omega
          | false =>
            show (decide (cmpV s.mn s.mx ≠ 0) || !(n.vals.any fun u => sameV u s.mn)) = true
            by_cases hmm : cmpV s.mn s.mx = 0
            · rw [decide_eq_false (by omega), Bool.false_or, Bool.not_eq_true', List.any_eq_false]
              intro u hu huv
              rw [same_iff, decide_eq_true_eq] at huv
              have := (List.any_eq_false.1 hb) u hu
              refine this ?_
              rw [same_iff, decide_eq_true_eq]
              have e1 := chain (a := u) (b := s.mn) (c := v) (by omega) hmn
              have e2 := chain (a := v) (c := s.mn) hmx (by rw [cmpV_anti]; omega)
              have e3 := chain e2 (c := u) (by rw [cmpV_anti]; omega)
              rw [cmpV_anti] at e1
              omega
            · rw [decide_eq_true (by omega)]; rfl
        · rw [if_neg h7]
          by_cases h4 : n.op = 4
          · rw [if_pos h4, if_pos h4]
            by_cases hx : cmpV v n.v = 0
            · rw [decide_eq_true hx]
              show withinV s n.v = true
              unfold withinV
              have e1 := chain hmn (c := n.v) (by omega)
              have e2 := chain (a := n.v) (by rw [cmpV_anti]; omega) hmx
              rw [cmpV_anti] at e2
              rw [Bool.and_eq_true, decide_eq_true_eq, decide_eq_true_eq]
              omega
            · rw [decide_eq_false hx]
              show (decide (cmpV s.mn n.v ≠ 0) || decide (cmpV s.mx n.v ≠ 0)) = true
              rw [Bool.or_eq_true, decide_eq_true_eq, decide_eq_true_eq]
              by_cases h0 : cmpV s.mn n.v = 0
              · by_cases h0' : cmpV s.mx n.v = 0
                · exfalso
                  have e1 := chain hmx (c := n.v) (by omega)
                  have e2 := chain (a := n.v) (by rw [cmpV_anti]; omega) hmn
                  rw [cmpV_anti] at e2
                  omega
                · exact Or.inr h0'
              · exact Or.inl h0
          · rw [if_neg h4, if_neg h4]
            by_cases h5 : n.op = 5
            · rw [if_pos h5, if_pos h5]
              by_cases hx : cmpV v n.v < 0
              · rw [decide_eq_true hx]
                show decide (cmpV s.mn n.v < 0) = true
                rw [decide_eq_true_eq]
                by_cases hh : cmpV s.mn n.v < 0
                · exact hh
                · exfalso
                  have e := chain (a := n.v) (by rw [cmpV_anti]; omega) hmn
                  rw [cmpV_anti] at e
                  omega
              · rw [decide_eq_false hx]
                show decide (0 ≤ cmpV s.mx n.v) = true
                rw [decide_eq_true_eq]
                have e := chain (a := n.v) (by rw [cmpV_anti]; omega) hmx
                rw [cmpV_anti] at e
                omega
            · have h6 : n.op = 6 := by omega
              rw [if_neg h5, if_neg h5, if_pos h6]
              by_cases hx : cmpV v n.v ≤ 0
              · rw [decide_eq_true hx]
                show decide (cmpV s.mn n.v ≤ 0) = true
                rw [decide_eq_true_eq]
                exact chain hmn hx
              · rw [decide_eq_false hx]
                show decide (0 < cmpV s.mx n.v) = true
                rw [decide_eq_true_eq]
                by_cases hh : 0 < cmpV s.mx n.v
                · exact hh
                · exfalso
                  have e := chain hmx (c := n.v) (by omega)
                  omega

theorem join1 : ∀ (i j : Fin 3) (a b c d e f : Bool), get ⟨a, b, c⟩ i = true → get ⟨d, e, f⟩ j = true → get (joinV 1 ⟨a, b, c⟩ ⟨d, e, f⟩) (two 1 i j) = true := by decide
theorem join2 : ∀ (i j : Fin 3) (a b c d e f : Bool), get ⟨a, b, c⟩ i = true → get ⟨d, e, f⟩ j = true → get (joinV 2 ⟨a, b, c⟩ ⟨d, e, f⟩) (two 2 i j) = true := by decide
theorem two_or {op : Int} (h : op ≠ 1) (i j : Nat) : two op i j = two 2 i j := by
  unfold two
  rw [if_neg h, if_neg (by decide)]
theorem pj_or {op : Int} (h : op ≠ 1) (x y : T3) : ∀ k, pj op x y k = pj 2 x y k
  | 0 => rfl
  | k + 1 => by
    unfold pj stepP
    rw [pj_or h x y k, two_or h]
theorem get_join {op : Int} {x y : T3} {i j : Nat} (hi : i < 3) (hj : j < 3) (hx : get x i = true) (hy : get y j = true) : get (joinV op x y) (two op i j) = true := by
  obtain ⟨a, b, c⟩ := x
  obtain ⟨d, e, f⟩ := y
  by_cases h : op = 1
  · subst h
    exact join1 ⟨i, hi⟩ ⟨j, hj⟩ a b c d e f hx hy
  · have e1 : joinV op ⟨a, b, c⟩ ⟨d, e, f⟩ = joinV 2 ⟨a, b, c⟩ ⟨d, e, f⟩ := pj_or h _ _ 9
    rw [e1, two_or h]
    exact join2 ⟨i, hi⟩ ⟨j, hj⟩ a b c d e f hx hy
theorem get_not : ∀ {x : T3} {i : Nat}, i < 3 → get x i = true → get (notV x) (2 - i) = true
  | ⟨a, b, c⟩, 0, _, h => h
  | ⟨a, b, c⟩, 1, _, h => h
  | ⟨a, b, c⟩, 2, _, h => h
  | _, i + 3, h, _ => by omega

/-- What has come out may come out. -/
def May (outs : List T3) (outi : List Int) : Prop := ∀ k : Int, 0 ≤ k → k < outi.length → get (at3 outs k) (at' outi k).toNat = true
theorem fold_and {outs : List T3} {outi : List Int} (h : May outs outi) (h3 : Three outi) : ∀ (L : List Int) (x : T3) (i : Int), (∀ k ∈ L, 0 ≤ k ∧ k < outi.length) → 0 ≤ i ∧ i ≤ 2 → get x i.toNat = true → get (foldO 1 outs L x) (L.foldl (fun x k => min x (at' outi k)) i).toNat = true
  | [], x, i, _, _, hx => hx
  | k :: L, x, i, hL, hi, hx => by
    have hk := at_three h3 k
    have hkL := hL k (by simp)
    have e : (min i (at' outi k)).toNat = two 1 i.toNat (at' outi k).toNat := by
      unfold two
      rw [if_pos rfl]
      omega
    refine fold_and h h3 L _ (min i (at' outi k)) (fun k' hk' => hL k' (by simp [hk'])) (by omega) ?_
    rw [e]
    exact get_join (by omega) (by omega) hx (h k hkL.1 hkL.2)
theorem fold_or {outs : List T3} {outi : List Int} (h : May outs outi) (h3 : Three outi) : ∀ (L : List Int) (x : T3) (i : Int), (∀ k ∈ L, 0 ≤ k ∧ k < outi.length) → 0 ≤ i ∧ i ≤ 2 → get x i.toNat = true → get (foldO 2 outs L x) (L.foldl (fun x k => max x (at' outi k)) i).toNat = true
  | [], x, i, _, _, hx => hx
  | k :: L, x, i, hL, hi, hx => by
    have hk := at_three h3 k
    have hkL := hL k (by simp)
    have e : (max i (at' outi k)).toNat = two 2 i.toNat (at' outi k).toNat := by
      unfold two
      rw [if_neg (by decide)]
      omega
    refine fold_or h h3 L _ (max i (at' outi k)) (fun k' hk' => hL k' (by simp [hk'])) (by omega) ?_
    rw [e]
    exact get_join (by omega) (by omega) hx (h k hkL.1 hkL.2)
theorem get_node {ks : Nd → T3} {r : List Val} {outs : List T3} {outi : List Int} {m : Nat} {n : Nd} (h : May outs outi) (h3 : Three outi) (hf : Fine m outi.length n)
    (hk : isN n.op = false → get (ks n) (askedV n (r.getD n.col.toNat pr.none)).toNat = true) : get (nodeO ks outs n) (nodeV r outi n).toNat = true := by
  by_cases hq : isN n.op = true
  · obtain ⟨g1, g2, g3⟩ := hf.1 hq
    obtain ⟨k0, t, hL⟩ : ∃ k0 t, n.L = k0 :: t := by
      cases hL : n.L with
      | nil => rw [hL] at g1; exact absurd g1 (by simp)
      | cons k0 t => exact ⟨k0, t, rfl⟩
    rw [node_names hq hL]
    have hk0 := g3 k0 (by rw [hL]; simp)
    have h0 := h k0 hk0.1 (by omega)
    have t0 := at_three h3 k0
    have ht : ∀ k ∈ t, 0 ≤ k ∧ k < outi.length := fun k hk => g3 k (by rw [hL]; simp [hk])
    unfold nodeV
    by_cases h1 : n.op = 1
    · rw [if_pos h1, if_neg (by omega), hL, h1]
      show get (foldO 1 outs t (at3 outs k0)) (t.foldl (fun x k => min x (at' outi k)) (min 2 (at' outi k0))).toNat = true
      rw [show min 2 (at' outi k0) = at' outi k0 by omega]
      exact fold_and h h3 t _ _ ht t0 h0
    · by_cases h2 : n.op = 2
      · rw [if_neg h1, if_pos h2, if_neg (by omega), hL, h2]
        show get (foldO 2 outs t (at3 outs k0)) (t.foldl (fun x k => max x (at' outi k)) (max 0 (at' outi k0))).toNat = true
        rw [show max 0 (at' outi k0) = at' outi k0 by omega]
        exact fold_or h h3 t _ _ ht t0 h0
      · have h3' : n.op = 3 := by
          unfold isN at hq
          simp at hq
          omega
        have ht0 : t = [] := by
          have := g2 h3'
          rw [hL] at this
          cases t with
          | nil => rfl
          | cons a b => simp at this
        rw [if_neg h1, if_neg h2, if_pos h3', if_pos h3', hL, ht0]
        show get (notV (at3 outs k0)) (2 - at' outi k0).toNat = true
        rw [show (2 - at' outi k0).toNat = 2 - (at' outi k0).toNat by omega]
        exact get_not (by omega) h0
  · have hq' : isN n.op = false := by simpa using hq
    rw [node_leaf hq']
    have e : nodeV r outi n = askedV n (r.getD n.col.toNat pr.none) := by
      unfold isN at hq'
      simp only [Bool.or_eq_false_iff, decide_eq_false_iff_not] at hq'
      unfold nodeV
      rw [if_neg hq'.1, if_neg hq'.2.1, if_neg hq'.2.2]
    rw [e]
    exact hk hq'
theorem may_snoc {outs : List T3} {outi : List Int} {x : T3} {i : Int} (hl : outs.length = outi.length) (h : May outs outi) (hx : get x i.toNat = true) : May (outs ++ [x]) (outi ++ [i]) := by
  intro k h0 hk
  rw [List.length_append, List.length_singleton] at hk
  unfold at3 at'
  by_cases he : k.toNat = outi.length
  · rw [List.getD_eq_getElem?_getD, List.getD_eq_getElem?_getD, he]
    rw [List.getElem?_append_right (Nat.le_refl _), ← hl, List.getElem?_append_right (Nat.le_refl _)]
    simpa using hx
  · have h2 := h k h0 (by omega)
    unfold at3 at' at h2
    rw [List.getD_eq_getElem?_getD, List.getD_eq_getElem?_getD] at h2 ⊢
    rw [List.getElem?_append_left (by omega), List.getElem?_append_left (by omega)]
    exact h2
theorem may_go {ks : Nd → T3} {r : List Val} {m : Nat} : ∀ (l : List Nd) (outs : List T3) (outi : List Int), outs.length = outi.length → May outs outi → Three outi → (∀ j n, l[j]? = some n → Fine m (outi.length + j) n) →
    (∀ n ∈ l, isN n.op = false → get (ks n) (askedV n (r.getD n.col.toNat pr.none)).toNat = true) → May (outGo ks outs l) (evalGo r outi l)
  | [], outs, outi, _, h, _, _, _ => h
  | n :: l, outs, outi, hl, h, h3, hf, hk => by
    unfold outGo evalGo
    have hn := get_node (ks := ks) (r := r) h h3 (hf 0 n rfl) (hk n (by simp))
    refine may_go (m := m) l _ _ (by simp [hl]) (may_snoc hl h hn) (three_snoc h3 (node_three h3)) (fun j n' hj => ?_) (fun n' hn' => hk n' (by simp [hn']))
    have := hf (j + 1) n' (by simpa using hj)
    rw [List.length_append, List.length_singleton, show outi.length + 1 + j = outi.length + (j + 1) by omega]
    exact this

/-- The values at a column. -/
def colV (own : List (List Val)) (k : Nat) : List Val := own.map fun r => r.getD k pr.none
/-- What is known of each column. -/
def known (cols : List Col) (own : List (List Val)) : List st.St := cols.mapIdx fun k c => st.of c.kind (colV own k)
theorem known_at {cols : List Col} {own : List (List Val)} {k : Nat} (h : k < cols.length) (d : st.St) : (known cols own).getD k d = st.of (cols[k]).kind (colV own k) := by
  unfold known
  rw [List.getD_eq_getElem?_getD, List.getElem?_mapIdx, List.getElem?_eq_getElem h]
  rfl
/-- What comes out of a row may come out of what is known of rows with it. -/
theorem holds {cols : List Col} {own : List (List Val)} {l : List Nd} {r : List Val} (d : st.St) (hr : r ∈ own) (h1 : 1 ≤ l.length) (hf : ∀ j n, l[j]? = some n → Fine cols.length j n) :
    (0 ≤ evalV l r ∧ evalV l r ≤ 2) ∧ get (outV (fun n => knownV n ((known cols own).getD n.col.toNat d)) l) (evalV l r).toNat = true := by
  have h3 : Three ([] : List Int) := fun x hx => by cases hx
  have hm : May ([] : List T3) ([] : List Int) := fun k h0 hk => by simp at hk; omega
  refine ⟨at_three (evalGo_three r l [] h3) _, ?_⟩
  have hgo := may_go (ks := fun n => knownV n ((known cols own).getD n.col.toNat d)) (r := r) (m := cols.length) l [] [] rfl hm h3 (fun j n hj => by rw [List.length_nil, Nat.zero_add]; exact hf j n hj) (fun n hn hq => ?_)
  · exact hgo _ (by omega) (by rw [evalGo_length, List.length_nil]; omega)
  · obtain ⟨j, hj, hjn⟩ := List.mem_iff_getElem.1 hn
    obtain ⟨g1, g2, g3⟩ := (hf j n (by rw [List.getElem?_eq_getElem hj, hjn])).2 hq
    by_cases h9 : n.op = 9
    · simp only [knownV, askedV]
      rw [if_pos h9, if_pos h9]; rfl
    · have := g3 h9
      rw [known_at (k := n.col.toNat) (by omega)]
      exact get_leaf ⟨g1, g2⟩ (List.mem_map.2 ⟨r, hr, rfl⟩)
end Go.Proofs.YtklgmojojgoaeaaDoor.ou
