/-
  Rows with keys, as cells; and sorted, whatever row of one's own.
-/
import Derived.Test.YtjedpjfmlaganaaDoorVwX
import Derived.Test.YtjedpjfmlaganaaDoorRowV
namespace Go.Proofs.YtjedpjfmlaganaaDoor.vw
open Go.RowKit Go.Sort Go.Shelf Go.Lib
set_option linter.unusedVariables false

/-- Rows with keys, as cells. -/
def kcs (l : List Kd) : List Value := l.flatMap fun x => [.int .i64 x.k.id, .int .i64 x.k.bk, .int .i64 x.k.rw, .slice x.A x.n x.c]
theorem kcs_cons (x : Kd) (l : List Kd) : kcs (x :: l) = .int .i64 x.k.id :: .int .i64 x.k.bk :: .int .i64 x.k.rw :: .slice x.A x.n x.c :: kcs l := rfl
theorem kcs_at : ∀ {l : List Kd} {k : Nat} {x : Kd}, l[k]? = some x → (kcs l)[k * 4]? = some (.int .i64 x.k.id) ∧ (kcs l)[k * 4 + 1]? = some (.int .i64 x.k.bk) ∧ (kcs l)[k * 4 + 2]? = some (.int .i64 x.k.rw) ∧ (kcs l)[k * 4 + 3]? = some (.slice x.A x.n x.c)
  | [], k, v, h => by simp at h
  | u :: l, 0, v, h => by simp at h; subst h; exact ⟨rfl, rfl, rfl, rfl⟩
  | u :: l, k + 1, v, h => by
    rw [kcs_cons, show (k + 1) * 4 = k * 4 + 1 + 1 + 1 + 1 by omega]
    simp only [List.getElem?_cons_succ] at h ⊢
    exact kcs_at h
theorem kcs_append (l m : List Kd) : kcs (l ++ m) = kcs l ++ kcs m := by simp [kcs]
theorem kcs_len (l : List Kd) : (kcs l).length = l.length * 4 := by
  induction l with
  | nil => rfl
  | cons a l ih => rw [kcs_cons]; simp only [List.length_cons]; rw [ih]; omega
theorem kcs_take (l : List Kd) : ∀ k : Nat, (kcs l).take (k * 4) = kcs (l.take k) := by
  induction l with
  | nil => intro k; simp [kcs]
  | cons a l ih =>
    intro k
    cases k with
    | zero => simp [kcs]
    | succ k =>
      rw [kcs_cons, show (k + 1) * 4 = k * 4 + 1 + 1 + 1 + 1 by omega]
      simp only [List.take_succ_cons]
      rw [kcs_cons, ih k]
theorem kcs_drop (l : List Kd) : ∀ k : Nat, (kcs l).drop (k * 4) = kcs (l.drop k) := by
  induction l with
  | nil => intro k; simp [kcs]
  | cons a l ih =>
    intro k
    cases k with
    | zero => simp
    | succ k =>
      rw [kcs_cons, show (k + 1) * 4 = k * 4 + 1 + 1 + 1 + 1 by omega]
      simp only [List.drop_succ_cons]
      exact ih k
theorem kcs_one {l : List Kd} : ∀ u ∈ kcs l, u.oneCell' = true := by
  intro u hu
  obtain ⟨d, -, hd⟩ := List.mem_flatMap.1 hu
  simp only [List.mem_cons, List.not_mem_nil, or_false] at hd
  rcases hd with rfl | rfl | rfl | rfl <;> rfl
theorem kcs_set : ∀ (l : List Kd) (i : Nat) (x : Kd), ((((kcs l).set (i * 4) (.int .i64 x.k.id)).set (i * 4 + 1) (.int .i64 x.k.bk)).set (i * 4 + 2) (.int .i64 x.k.rw)).set (i * 4 + 3) (.slice x.A x.n x.c) = kcs (l.set i x)
  | [], i, d => by simp [kcs]
  | u :: l, 0, d => by simp [kcs]
  | u :: l, i + 1, d => by
    rw [kcs_cons, List.set_cons_succ, kcs_cons, ← kcs_set l i d, show (i + 1) * 4 = i * 4 + 1 + 1 + 1 + 1 by omega]
    simp only [List.set_cons_succ]
theorem row_kd {w : World} {B : Nat} {A : Option Addr} {l : List Kd} {k : Nat} {x : Kd} (hr : Row w B A (kcs l)) (hk : l[k]? = some x) : ∃ b o, A = some ⟨b, o, none⟩ ∧ b < B ∧ w.cell? ⟨b, o + k * 4, none⟩ = some (.int .i64 x.k.id) ∧ w.cell? ⟨b, o + k * 4 + 1, none⟩ = some (.int .i64 x.k.bk) ∧ w.cell? ⟨b, o + k * 4 + 2, none⟩ = some (.int .i64 x.k.rw) ∧ w.cell? ⟨b, o + k * 4 + 3, none⟩ = some (.slice x.A x.n x.c) := by
  obtain ⟨h0, h1, h2, h3⟩ := kcs_at hk
  obtain ⟨b, o, rfl, hb, c0⟩ := hr.at_ h0
  obtain ⟨b', o', e, -, c1⟩ := hr.at_ h1
  simp only [Option.some.injEq, Addr.mk.injEq, and_true] at e
  obtain ⟨rfl, rfl⟩ := e
  obtain ⟨b', o', e, -, c2⟩ := hr.at_ h2
  simp only [Option.some.injEq, Addr.mk.injEq, and_true] at e
  obtain ⟨rfl, rfl⟩ := e
  obtain ⟨b', o', e, -, c3⟩ := hr.at_ h3
  simp only [Option.some.injEq, Addr.mk.injEq, and_true] at e
  obtain ⟨rfl, rfl⟩ := e
  exact ⟨b, o, rfl, hb, c0, by rw [Nat.add_assoc]; exact c1, by rw [Nat.add_assoc]; exact c2, by rw [Nat.add_assoc]; exact c3⟩
/-- What is said of a row's values. -/
def KHas (w : World) (B : Nat) (x : Kd) : Prop := x.vals.length = x.n ∧ x.n * 32 ≤ 140737488355328 ∧ Row w B x.A (vcs x.vals)
theorem KHas.on {w w' : World} {B B' : Nat} {x : Kd} (h : KHas w B x) (hl : Le w w') (hB : B ≤ w.heap.size) (hB' : B ≤ B') : KHas w' B' x := ⟨h.1, h.2.1, (hl.row h.2.2 hB).more hB'⟩
/-- What a row comes to: its key and its values. -/
def cont (x : Kd) : Ke × List va.Val := (x.k, x.vals)

/-- The cells, flat. -/
theorem flat_kcs (d : Array (Kd × Nat)) : (flatK encK 4 d).toList = kcs (d.toList.map (·.1)) := by
  refine List.ext_getElem? fun t => ?_
  by_cases ht : t < d.size * 4
  · have h1 : (flatK encK 4 d).toList[t]? = some (flatK encK 4 d)[t]! := by
      rw [Array.getElem?_toList, Array.getElem?_eq_getElem (by rw [size_flatK]; exact ht), getElem!_pos]
    rw [h1, get_flatK _ _ _ _ ht]
    have hk : t / 4 < d.size := by omega
    have h2 : (d.toList.map (·.1))[t / 4]? = some d[t / 4]!.1 := by
      rw [List.getElem?_map, Array.getElem?_toList, Array.getElem?_eq_getElem hk, getElem!_pos d _ hk]
      rfl
    obtain ⟨a0, a1, a2, a3⟩ := kcs_at h2
    have hm : t % 4 = 0 ∨ t % 4 = 1 ∨ t % 4 = 2 ∨ t % 4 = 3 := by omega
    rcases hm with hm | hm | hm | hm
    · rw [show t / 4 * 4 = t by omega] at a0
      rw [hm, a0]; rfl
    · rw [show t / 4 * 4 + 1 = t by omega] at a1
      rw [hm, a1]; rfl
    · rw [show t / 4 * 4 + 2 = t by omega] at a2
      rw [hm, a2]; rfl
    · rw [show t / 4 * 4 + 3 = t by omega] at a3
      rw [hm, a3]; rfl
  · rw [List.getElem?_eq_none (by rw [Array.length_toList, size_flatK]; omega), List.getElem?_eq_none (by rw [kcs_len, List.length_map, Array.length_toList]; omega)]
theorem own_sorted {w : World} {B g cap n : Nat} {e : TypeId} {cur F : Array Value} {os : Array Obj} {q : Nat} (hB : B ≤ g) (hg : w.heap[g]? = some (.cells cur e (0, 0))) (h1 : n ≤ cap) (h2 : cap ≤ maxLen) (h3 : cur.size = cap * 4) (hF : F.size = n * 4) :
    (grow (putRow id (Sort.ahead w q) g 0 F) os).ownsRow B e 4 (.slice (some ⟨g, 0, none⟩) n cap) n F.toList ∧ w.grownBy (grow (putRow id (Sort.ahead w q) g 0 F) os) (some g) := by
  have hlt : g < w.heap.size := (Array.getElem?_eq_some_iff.1 hg).1
  have hle : n * 4 ≤ cap * 4 := by omega
  refine ⟨⟨by rw [Array.length_toList, hF], .inr ⟨g, cap, putCells id 0 F cur, rfl, hB, ?_, h1, h2, ?_, ?_⟩⟩, ⟨rfl, rfl, rfl, ?_, fun k hk hne => ?_⟩⟩
  · rw [heap_grow_old _ _ (by rw [size_putRow]; exact hlt)]
    show (w.heap.modify g _)[g]? = _
    rw [Array.getElem?_modify, if_pos rfl, hg]
    rfl
  · rw [putCells, Array.size_mapIdx, h3]
  · refine List.ext_getElem? fun t => ?_
    by_cases ht : t < n * 4
    · rw [List.getElem?_take_of_lt ht, Array.getElem?_toList, putCells, Array.getElem?_mapIdx, Array.getElem?_eq_getElem (show t < cur.size by omega), Array.getElem?_toList, Array.getElem?_eq_getElem (show t < F.size by omega)]
      simp only [Option.map_some]
      rw [if_pos ⟨Nat.zero_le _, by omega⟩, Nat.sub_zero, getElem!_pos F t (by omega)]
      rfl
    · rw [List.getElem?_eq_none (by rw [List.length_take]; omega), List.getElem?_eq_none (by rw [Array.length_toList]; omega)]
  · show w.heap.size ≤ (grow _ os).heap.size
    rw [size_grow, size_putRow]
    exact Nat.le_add_right _ _
  · rw [heap_grow_old _ _ (by rw [size_putRow]; exact hk)]
    show (w.heap.modify g _)[k]? = _
    rw [Array.getElem?_modify, if_neg (fun e => hne (by rw [e]))]

theorem srt_pairwise {N : Nat} {d : Array (Kd × Nat)} (hd : d.size = N) (h : Srt 0 N d) : d.toList.Pairwise (Bef Kd.k) := by
  rw [List.pairwise_iff_getElem]
  intro i j hi hj hij
  rw [Array.length_toList] at hi hj
  have := h i j (Nat.zero_le _) hij (by omega)
  rw [getElem!_pos d i hi, getElem!_pos d j hj] at this
  rwa [Array.getElem_toList, Array.getElem_toList]
set_option maxRecDepth 100000 in
theorem sort_some (w : World) (B g cap : Nat) (l : List Kd) (n : Nat) (cur : Array Value) (hn : l.length = n) (hn9 : n ≤ 120) (hB : B ≤ g) (hg : w.heap[g]? = some (.cells cur 37 (0, 0))) (h1 : n ≤ cap) (h2 : cap ≤ maxLen) (h3 : cur.size = cap * 4) (h4 : cur.toList.take (n * 4) = kcs l) :
    Calls Tryd.prog 38 #[.slice (some ⟨g, 0, none⟩) n cap, .func (.func 39) #[] #[]] w fun e w' =>
      e = .returned (.tuple #[]) ∧ ∃ T : List (Kd × Nat), T.Perm l.zipIdx ∧ T.Pairwise (Bef Kd.k) ∧ w'.ownsRow B 37 4 (.slice (some ⟨g, 0, none⟩) n cap) n (kcs (T.map (·.1))) ∧ w.grownBy w' (some g) := by
  obtain ⟨d, hd⟩ : ∃ d : Array (Kd × Nat), d = l.zipIdx.toArray := ⟨_, rfl⟩
  have hdl : d.toList = l.zipIdx := by rw [hd]
  have hsz : d.size = n := by rw [hd, List.size_toArray, List.length_zipIdx, hn]
  have hlt : g < w.heap.size := (Array.getElem?_eq_some_iff.1 hg).1
  have hfst : d.toList.map (·.1) = l := by rw [hdl, List.zipIdx_map_fst]
  have hF : (flatK encK 4 d).toList = cur.toList.take (n * 4) := by rw [flat_kcs, h4, hfst]
  have hH : HoldsK encK 4 w g 0 d := fun j hj => by
    rw [size_flatK, hsz] at hj
    have e1 : cur[j]? = some (flatK encK 4 d)[j]! := by
      have h : (flatK encK 4 d).toList[j]? = (cur.toList.take (n * 4))[j]? := by rw [hF]
      rw [List.getElem?_take_of_lt hj, Array.getElem?_toList, Array.getElem?_toList] at h
      rw [← h, Array.getElem?_eq_getElem (by rw [size_flatK, hsz]; exact hj), getElem!_pos]
    rw [Nat.zero_add]
    exact ⟨Box.cell (w := w) (b := g) (cs := cur) hg j _ e1, Box.frozen (w := w) (b := g) (cs := cur) hg j⟩
  have R : RowK encK 4 w g 0 d := ⟨encK_len, encK_one, hH, hlt⟩
  have ht : ∀ x y, x < y → y < n → d[x]!.2 < d[y]!.2 := fun x y hxy hy => by
    have hg2 : ∀ z, z < n → d[z]!.2 = z := fun z hz => by
      have : d.toList[z]? = l.zipIdx[z]? := by rw [hdl]
      rw [Array.getElem?_toList, Array.getElem?_eq_getElem (by omega), List.getElem?_zipIdx, List.getElem?_eq_getElem (by omega)] at this
      simp only [Option.map_some, Option.some.injEq] at this
      rw [getElem!_pos d z (by omega), this]
      simp
    rw [hg2 x (by omega), hg2 y hy]
    exact hxy
  have hst := hide (stable_any g 0 cap n d w R hsz hn9 d w hsz (SWK.start hH) ht)
  have HFIN := hide (fun (d' : Array (Kd × Nat)) (w' : World) (S : SWK encK 4 w g 0 d' w') (P : PermIn 0 n d d') (T : Srt 0 n d') => show ∃ T : List (Kd × Nat), T.Perm l.zipIdx ∧ T.Pairwise (Bef Kd.k) ∧ w'.ownsRow B 37 4 (.slice (some ⟨g, 0, none⟩) n cap) n (kcs (T.map (·.1))) ∧ w.grownBy w' (some g) from by
    obtain ⟨q, os, rfl⟩ := S
    have hz : d'.size = n := P.1.trans hsz
    have hp : d'.toList.Perm l.zipIdx := by
      have h2 := P.2.2
      have e1 : d'.extract 0 n = d' := by rw [← hz]; exact Array.extract_size
      have e2 : d.extract 0 n = d := by rw [← hsz]; exact Array.extract_size
      rwa [e1, e2, hdl] at h2
    obtain ⟨r1, r2⟩ := own_sorted (os := os) (q := q) (F := flatK encK 4 d') hB hg h1 h2 h3 (by rw [size_flatK, hz])
    rw [flat_kcs] at r1
    exact ⟨d'.toList, hp, srt_pairwise hz T, r1, r2⟩)
  clear hd hdl hsz hfst hF hH R ht h1 h2 h3 h4 hg hlt
  go_enter Tryd.func38, Tryd.ntmps38
  go_wp2_with fail
  refine hst.out.mono ?_
  rintro e w' ⟨rfl, d', S, P, T⟩
  have HF := hide (HFIN.out d' w' S P T)
  clear S P T
  go_wp2_with fail
  go_end0
  exact ⟨rfl, HF.out⟩
set_option maxRecDepth 100000 in
theorem ins_nil (w : World) (c : Value) : Calls Tryd.prog 62 #[.slice none 0 0, .int .i64 0, .int .i64 0, c] w fun e w' => e = .returned (.tuple #[]) ∧ w' = w := by
  go_enter Tryd.func62, Tryd.ntmps62
  go_wp2_with fail
  go_loopw [8] (fun i wr => i = .int .i64 1 ∧ wr = w) (fun _ _ => 0)
  case atStart => exact ⟨by go_num, rfl⟩
  case round =>
    obtain ⟨rfl, rfl⟩ := hrel
    go_wp2_with fail
    go_end0
    exact ⟨rfl, rfl⟩
set_option maxRecDepth 100000 in
theorem stable_nil (w : World) (c : Value) : Calls Tryd.prog 53 #[.slice none 0 0, .int .i64 0, c] w fun e w' => e = .returned (.tuple #[]) ∧ w' = w := by
  have hin := hide (ins_nil w c)
  go_enter Tryd.func53, Tryd.ntmps53
  go_wp2_with fail
  go_loopw [7, 8] (fun a b wr => a = .int .i64 0 ∧ b = .int .i64 20 ∧ wr = w) (fun _ _ _ => 0)
  case atStart => exact ⟨rfl, rfl, rfl⟩
  case round =>
    obtain ⟨rfl, rfl, rfl⟩ := hrel
    go_wp2_with fail
    refine hin.out.mono ?_
    rintro e w' ⟨rfl, rfl⟩
    go_wp2_with fail
    go_loopw [6] (fun a wr => a = .int .i64 20 ∧ wr = w') (fun _ _ => 0)
    case atStart => exact ⟨rfl, rfl⟩
    case round =>
      obtain ⟨rfl, rfl⟩ := hrel
      go_wp2_with fail
      go_end0
      exact ⟨rfl, rfl⟩
set_option maxRecDepth 100000 in
theorem sort_nil (w : World) (c : Value) : Calls Tryd.prog 38 #[.slice none 0 0, c] w fun e w' => e = .returned (.tuple #[]) ∧ w' = w := by
  have hin := hide (stable_nil w c)
  go_enter Tryd.func38, Tryd.ntmps38
  go_wp2_with fail
  refine hin.out.mono ?_
  rintro e w' ⟨rfl, rfl⟩
  go_wp2_with fail
  go_end0
  exact ⟨rfl, rfl⟩
theorem sort_any (w : World) (B : Nat) (v : Value) (l : List Kd) (n : Nat) (hn : l.length = n) (hn9 : n ≤ 120) (hown : w.ownsRow B 37 4 v n (kcs l)) :
    Calls Tryd.prog 38 #[v, .func (.func 39) #[] #[]] w fun e w' =>
      e = .returned (.tuple #[]) ∧ ∃ T : List (Kd × Nat), T.Perm l.zipIdx ∧ T.Pairwise (Bef Kd.k) ∧ w'.ownsRow B 37 4 v n (kcs (T.map (·.1))) ∧ w.grownBy w' v.ownBlock := by
  rcases hown.2 with ⟨rfl, rfl⟩ | ⟨g, cap, cur, rfl, a1, a2, a3, a4, a5, a6⟩
  · obtain rfl : l = [] := List.length_eq_zero_iff.1 hn
    exact (sort_nil w _).mono fun e w' ⟨h1, h2⟩ => ⟨h1, [], List.Perm.refl _, List.Pairwise.nil, by rw [h2]; exact hown, by rw [h2]; exact World.grownBy.refl w _⟩
  · exact sort_some w B g cap l n cur hn hn9 a1 a2 a3 a4 a5 a6
#print axioms sort_any
end Go.Proofs.YtjedpjfmlaganaaDoor.vw
