/-
  Words for memory, over any program: a slice's cells that read as a list, what keeps them, and appending what so reads to a row of the call's own.
-/
import Derived.WalkKit
import Derived.Below
import Derived.Laws.OwnMore
import Derived.Laws.Rows
import Derived.Deep.AppendLies
import Derived.Deep.Draws
import Derived.Maps.AppendAt
import Derived.RegionTactic
import Derived.OwnWalk
import Derived.WalkSpells
import Derived.WalkLawsBesides
import Derived.Lib.Hide
import Derived.Deep.QuietTactic
import Derived.BigQuiet
import Derived.Lib.SlBytesConst
namespace Go.Proofs.YtjedpjfmlaganaaDoor
open Go.RowKit

/-- From the address A on the cells are xs, in blocks below B. -/
def Row (w : World) (B : Nat) (A : Option Addr) (xs : List Value) : Prop :=
  xs ≠ [] → ∃ b o, A = some ⟨b, o, none⟩ ∧ b < B ∧ ∀ j u, xs[j]? = some u → w.cell? ⟨b, o + j, none⟩ = some u

theorem hide {p : Prop} (h : p) : Hid p := h

section
variable {w w' : World} {B B' : Nat} {A : Option Addr} {xs : List Value}
theorem Row.none_ : Row w B A [] := fun h => absurd rfl h
theorem Row.at_ {j : Nat} {u : Value} (h : Row w B A xs) (hj : xs[j]? = some u) : ∃ b o, A = some ⟨b, o, none⟩ ∧ b < B ∧ w.cell? ⟨b, o + j, none⟩ = some u := by
  obtain ⟨b, o, hA, hb, hc⟩ := h (by rintro rfl; simp at hj)
  exact ⟨b, o, hA, hb, hc j u hj⟩
theorem Row.keep (h : Row w B A xs) (hk : ∀ p : Addr, p.block < B → w'.cell? p = w.cell? p) : Row w' B A xs := fun hn => by
  obtain ⟨b, o, hA, hb, hc⟩ := h hn
  exact ⟨b, o, hA, hb, fun j u hu => (hk _ hb).trans (hc j u hu)⟩
theorem Row.more (h : Row w B A xs) (hB : B ≤ B') : Row w B' A xs := fun hn => by
  obtain ⟨b, o, hA, hb, hc⟩ := h hn
  exact ⟨b, o, hA, by omega, hc⟩
theorem Row.below {C : Nat} (h : Row w B A xs) (hb : Below C w w') (hC : B ≤ C) : Row w' B A xs := h.keep fun _ hp => hb.cell (by omega)
theorem Row.drew (h : Row w B A xs) : Row w.drew B A xs := h
theorem Row.drewN (h : Row w B A xs) (k : Nat) : Row (w.drewN k) B A xs := h
theorem Row.alloc (h : Row w B A xs) (hB : B ≤ w.heap.size) (o : Obj) : Row (w.alloc o) B A xs := h.keep fun p hp => World.cell?_alloc_lt w o p (by omega)
theorem Row.setCell (h : Row w B A xs) {p : Addr} (hB : B ≤ p.block) (u : Value) : Row (w.setCell p u) B A xs :=
  h.keep fun q hq => World.cell?_setCell_other w p q u (fun e => by subst e; omega)
theorem Row.grown (h : Row w B A xs) {row : Option Nat} (hg : w.grownBy w' row) (hB : B ≤ w.heap.size) (hr : ∀ g, row = some g → B ≤ g) : Row w' B A xs :=
  h.keep fun p hp => World.cell?_of_block (hg.block p.block (by omega) (fun e => by have := hr _ e.symm; omega))
theorem Row.take (h : Row w B A xs) (k : Nat) : Row w B A (xs.take k) := fun hn => by
  obtain ⟨b, o, hA, hb, hc⟩ := h (by rintro rfl; simp at hn)
  refine ⟨b, o, hA, hb, fun j u hu => hc j u ?_⟩
  rw [List.getElem?_take] at hu
  split at hu
  · exact hu
  · simp at hu
theorem add_eq (b o k : Nat) : (⟨b, o, none⟩ : Addr).add k = ⟨b, o + k, none⟩ := by unfold Addr.add; split <;> simp_all
/-- What is behind the first k cells, wherever the slice's expression lays its address where nothing is left. -/
theorem Row.drop (h : Row w B A xs) (k : Nat) {A' : Option Addr} (hA' : k < xs.length → A' = A.map (·.add k)) : Row w B A' (xs.drop k) := fun hn => by
  obtain ⟨b, o, hA, hb, hc⟩ := h (by rintro rfl; simp at hn)
  have hk : k < xs.length := by
    rcases Nat.lt_or_ge k xs.length with hl | hl
    · exact hl
    · exact absurd (List.drop_eq_nil_of_le hl) hn
  refine ⟨b, o + k, by rw [hA' hk, hA]; simp [add_eq], hb, fun j u hu => ?_⟩
  rw [List.getElem?_drop] at hu
  rw [Nat.add_assoc]
  exact hc _ u hu
theorem Row.of_own {base size n c : Nat} {e : TypeId} (h : w.ownsRow base e size (.slice A n c) n xs) : Row w w.heap.size A xs := fun hn => by
  have hn0 : 0 < n := by
    rcases Nat.eq_zero_or_pos n with rfl | hp
    · exact absurd (List.eq_nil_of_length_eq_zero (by simpa using h.1)) hn
    · exact hp
  obtain ⟨g, cap, hv, _, hlt⟩ := h.form hn0
  have hA : A = some ⟨g, 0, none⟩ := by injection hv
  subst hA
  refine ⟨g, 0, rfl, hlt, fun j u hu => ?_⟩
  have := h.cells (g := g) rfl j u hu
  rwa [add_eq] at this
end

/-- What an owned slice looks like, whether nil or not. -/
theorem own_form {w : World} {base size n : Nat} {e : TypeId} {v : Value} {xs : List Value} (h : w.ownsRow base e size v n xs) :
    ∃ A c, v = .slice A n c ∧ n ≤ c ∧ c ≤ maxLen := by
  rcases h.2 with ⟨rfl, rfl⟩ | ⟨g, cap, cur, rfl, _, _, h1, h2, _, _⟩
  · exact ⟨none, 0, rfl, Nat.le_refl _, by simp⟩
  · exact ⟨_, _, rfl, h1, h2⟩

theorem own_below {w w' : World} {base size n : Nat} {e : TypeId} {v : Value} {xs : List Value} (h : w.ownsRow base e size v n xs) (hb : Below w.heap.size w w') : w'.ownsRow base e size v n xs := by
  refine ⟨h.1, ?_⟩
  rcases h.2 with h0 | ⟨g, cap, cur, hv, hbg, hg, hnc, hcm, hcs, ht⟩
  · exact .inl h0
  · have hlt := (h.lt g (by rw [hv]; rfl)).2
    exact .inr ⟨g, cap, cur, hv, hbg, (hb.block g hlt).trans hg, hnc, hcm, hcs, ht⟩
theorem own_more {w : World} {base base' size n : Nat} {e : TypeId} {v : Value} {xs : List Value} (h : w.ownsRow base e size v n xs) (hb : base' ≤ base) : w.ownsRow base' e size v n xs := by
  refine ⟨h.1, ?_⟩
  rcases h.2 with h0 | ⟨g, cap, cur, hv, hbg, hr⟩
  · exact .inl h0
  · exact .inr ⟨g, cap, cur, hv, Nat.le_trans hb hbg, hr⟩
theorem below_own {w w' : World} {base B : Nat} {row : Option Nat} (hg : w.grownBy w' row) (hB : base ≤ B) (hBw : B ≤ w.heap.size) (hr : ∀ g, row = some g → B ≤ g) : Below base w w' :=
  ((Below.refl B w).grown hg hBw hr).mono hB

section
variable {P : Program} (w : World)

theorem run_append_nil_any (base : Nat) (t ty e : TypeId) (i : TypeInfo) (size : Nat) (ht : P.underlying t = some (.slice e)) (hi : P.info? e = some i)
    (v : Value) (n : Nat) (xs : List Value) (hown : w.ownsRow base e size v n xs) (A : Option Addr) (hA : A = none ∨ ∃ b o, A = some ⟨b, o, none⟩) (c : Nat) : (Builtin.append_ #[t, t] ty #[v, .slice A 0 c]).run P w = .ok v w := by
  rcases hown.2 with ⟨rfl, rfl⟩ | ⟨g, cap, cur, rfl, _, _, hnc, _⟩
  · rcases hA with rfl | ⟨b, o, rfl⟩ <;>
    simp [Builtin.append_, run_underlying ht, sizeOf, typeInfo, hi, Builtin.lenOf, Builtin.firstCells, loadCells, loadCellsFrom]
  · rcases hA with rfl | ⟨b, o, rfl⟩ <;>
    simp [Builtin.append_, run_underlying ht, sizeOf, typeInfo, hi, Builtin.lenOf, Builtin.firstCells, hnc, storeCells, loadCells, loadCellsFrom]

/-- The built-in append of what reads as a list, onto a row of the call's own: nil, empty or not. -/
theorem run_append_row (base : Nat) (t ty e : TypeId) (i : TypeInfo) (z : Value) (size bytes : Nat) (ht : P.underlying t = some (.slice e)) (hi : P.info? e = some i) (hz : i.zero = some z)
    (hsize : i.size = size) (hby : i.bytes = bytes) (hzs : z.cells.size = size) (hsz : 0 < size)
    (v : Value) (n : Nat) (xs : List Value) (hown : w.ownsRow base e size v n xs)
    (B : Nat) (A : Option Addr) (m c : Nat) (news : List Value) (hl : news.length = m * size) (hr : Row w B A news) (h1 : ∀ u ∈ news, u.oneCell' = true)
    (h63 : n + m ≤ maxLen) (hbytes : (n + m) * bytes ≤ 140737488355328) (hbase : base ≤ w.heap.size) :
    ∃ v' w', (Builtin.append_ #[t, t] ty #[v, .slice A m c]).run P w = .ok v' w' ∧ w'.ownsRow base e size v' (n + m) (xs ++ news) ∧ w.grownBy w' v.ownBlock ∧
      (v'.ownBlock = v.ownBlock ∨ v'.ownBlock = some w.heap.size) := by
  rcases A with _ | ad
  · have hn : news = [] := by
      rcases Decidable.em (news = []) with h | h
      · exact h
      · obtain ⟨b, o, h, _⟩ := hr h
        cases h
    subst hn
    have hm : m = 0 := by
      rcases Nat.eq_zero_or_pos m with h0 | h0
      · exact h0
      · have := Nat.mul_pos h0 hsz
        simp at hl; omega
    subst hm
    exact ⟨v, w, run_append_nil_any w base t ty e i size ht hi v n xs hown none (.inl rfl) c, by simpa using hown, World.grownBy.refl w _, .inl rfl⟩
  · have hcells : ∀ j u, news[j]? = some u → w.cell? (ad.add j) = some u := by
      intro j u hu
      obtain ⟨b, o, h, _, hc⟩ := hr (by rintro rfl; simp at hu)
      injection h with h
      subst h
      rw [add_eq]
      exact hc j u hu
    obtain ⟨v', w', hrun, h2, h3, _, h5⟩ := run_append_own_at (P := P) w base t ty e i z size bytes ht hi hz hsize hby hzs hsz v n xs hown ad m c news hl hcells h1 h63 hbytes hbase
    exact ⟨v', w', hrun, h2, h3, h5⟩

theorem wp_append_row {o : Oper} {a : Act} {K : Act → World → Prop} {Q : Exit → Act → World → Prop} (s x : Operand) (t : TypeId)
    (ho : o.op = .call { callee := .builtin .append, args := #[s, x], argTypes := #[t, t] })
    (base : Nat) (e : TypeId) {z : Value} {size bytes : Nat} (hinfo : (P.info? e).map (fun i => (i.zero, i.size, i.bytes)) = some (some z, size, bytes)) (ht : P.underlying t = some (.slice e))
    (hzs : z.cells.size = size) (hsz : 0 < size)
    (v : Value) (n : Nat) (xs : List Value) (hs : a.eval s = v) (hown : w.ownsRow base e size v n xs)
    (B : Nat) (A : Option Addr) (m c : Nat) (news : List Value) (hx : a.eval x = .slice A m c) (hl : news.length = m * size) (hr : Row w B A news) (h1 : ∀ u ∈ news, u.oneCell' = true)
    (h63 : n + m ≤ maxLen) (hbytes : (n + m) * bytes ≤ 140737488355328) (hbase : base ≤ w.heap.size)
    (h : ∀ v' w', w'.ownsRow base e size v' (n + m) (xs ++ news) → w.grownBy w' v.ownBlock → (v'.ownBlock = v.ownBlock ∨ v'.ownBlock = some w.heap.size) → K (a.put o.dst v') w') : o.wp P a w K Q := by
  obtain ⟨i, hi, hz, hsize, hby⟩ := info_parts hinfo
  obtain ⟨v', w', hrun, h2, h3, h4⟩ := run_append_row (P := P) w base t o.type e i z size bytes ht hi hz hsize hby hzs hsz v n xs hown B A m c news hl hr h1 h63 hbytes hbase
  unfold Oper.wp execOp
  simp only [ho, resolve, invoke, builtin, Sem.run_bind, Sem.run_pure, Result.andThen_ok, List.map_toArray, List.map_cons, List.map_nil, hs, hx, hrun]
  exact h v' w' h2 h3 h4

theorem wpList_append_row {ops : Array Oper} {rest : List Oper} {o : Oper} {a : Act} {Q : Exit → Act → World → Prop} (hgd : o.guard = none) (s x : Operand) (t : TypeId)
    (ho : o.op = .call { callee := .builtin .append, args := #[s, x], argTypes := #[t, t] })
    (base : Nat) (e : TypeId) {z : Value} {size bytes : Nat} (hinfo : (P.info? e).map (fun i => (i.zero, i.size, i.bytes)) = some (some z, size, bytes)) (ht : P.underlying t = some (.slice e))
    (hzs : z.cells.size = size) (hsz : 0 < size)
    (v : Value) (n : Nat) (xs : List Value) (hs : a.eval s = v) (hown : w.ownsRow base e size v n xs)
    (B : Nat) (A : Option Addr) (m c : Nat) (news : List Value) (hx : a.eval x = .slice A m c) (hl : news.length = m * size) (hr : Row w B A news) (h1 : ∀ u ∈ news, u.oneCell' = true)
    (h63 : n + m ≤ maxLen) (hbytes : (n + m) * bytes ≤ 140737488355328) (hbase : base ≤ w.heap.size)
    (h : ∀ v' w', w'.ownsRow base e size v' (n + m) (xs ++ news) → w.grownBy w' v.ownBlock → (v'.ownBlock = v.ownBlock ∨ v'.ownBlock = some w.heap.size) → wpList P ops Q rest (a.put o.dst v') w') : wpList P ops Q (o :: rest) a w :=
  wpList_plain hgd fun _ hK => wp_append_row w s x t ho base e hinfo ht hzs hsz v n xs hs hown B A m c news hx hl hr h1 h63 hbytes hbase fun v' w' h2 h3 h4 => hK _ _ (h v' w' h2 h3 h4)

theorem wpList_append_run {ops : Array Oper} {rest : List Oper} {o : Oper} {a : Act} {Q : Exit → Act → World → Prop} (hgd : o.guard = none) (s x : Operand) (t u : TypeId)
    (ho : o.op = .call { callee := .builtin .append, args := #[s, x], argTypes := #[t, u] }) (vs vx : Value) (hs : a.eval s = vs) (hx : a.eval x = vx) (v' : Value) (w' : World)
    (hrun : (Builtin.append_ #[t, u] o.type #[vs, vx]).run P w = .ok v' w') (h : wpList P ops Q rest (a.put o.dst v') w') : wpList P ops Q (o :: rest) a w :=
  wpList_plain hgd fun K hK => by
    unfold Oper.wp execOp
    simp only [ho, resolve, invoke, builtin, Sem.run_bind, Sem.run_pure, Result.andThen_ok, List.map_toArray, List.map_cons, List.map_nil, hs, hx, hrun]
    exact hK _ _ h

theorem step_append_row {ops : Array Oper} {o : Oper} {a : Act} {K : Act → World → Prop} {Q : Exit → Act → World → Prop} {E : Prop} (hgd : o.guard = none) (s x : Operand) (t : TypeId)
    (ho : o.op = .call { callee := .builtin .append, args := #[s, x], argTypes := #[t, t] })
    (base : Nat) (e : TypeId) {z : Value} {size bytes : Nat} (hinfo : (P.info? e).map (fun i => (i.zero, i.size, i.bytes)) = some (some z, size, bytes)) (ht : P.underlying t = some (.slice e))
    (hzs : z.cells.size = size) (hsz : 0 < size)
    (v : Value) (n : Nat) (xs : List Value) (hs : a.eval s = v) (hown : w.ownsRow base e size v n xs)
    (B : Nat) (A : Option Addr) (m c : Nat) (news : List Value) (hx : a.eval x = .slice A m c) (hl : news.length = m * size) (hr : Row w B A news) (h1 : ∀ u ∈ news, u.oneCell' = true)
    (h63 : n + m ≤ maxLen) (hbytes : (n + m) * bytes ≤ 140737488355328) (hbase : base ≤ w.heap.size)
    (h : ∀ v' w', w'.ownsRow base e size v' (n + m) (xs ++ news) → w.grownBy w' v.ownBlock → (v'.ownBlock = v.ownBlock ∨ v'.ownBlock = some w.heap.size) → K (a.put o.dst v') w') :
    if Region.wanted o (yielded ops a.tmps) = true then Oper.wp P o a w K Q else E := by
  have hw : Region.wanted o (yielded ops a.tmps) = true := by simp [Region.wanted, hgd]
  rw [if_pos hw]
  exact wp_append_row w s x t ho base e hinfo ht hzs hsz v n xs hs hown B A m c news hx hl hr h1 h63 hbytes hbase h
end

/-- A new block of the call's own reads as it was laid. -/
theorem row_new (w : World) (cs : Array Value) (t : TypeId) (fr : Nat × Nat) : Row (w.alloc (.cells cs t fr)) (w.heap.size + 1) (some ⟨w.heap.size, 0, none⟩) cs.toList := fun _ => by
  refine ⟨w.heap.size, 0, rfl, by omega, fun j u hu => ?_⟩
  rw [Nat.zero_add, cell_of_row _ _ j cs t fr (heap_alloc_new w _)]
  simpa using hu
theorem row_one (w : World) (x : Value) (t : TypeId) (fr : Nat × Nat) : Row (w.alloc (.cells #[x] t fr)) (w.heap.size + 1) (some ⟨w.heap.size, 0, none⟩) [x] := row_new w #[x] t fr
/-- A call that made memory alone leaves all old cells and marks. -/
theorem bcell {W w1 : World} (hb : Below W.heap.size W w1) : (∀ b o, b < W.heap.size → w1.cell? ⟨b, o, none⟩ = W.cell? ⟨b, o, none⟩) ∧ (∀ b o, b < W.heap.size → w1.frozen? ⟨b, o, none⟩ = W.frozen? ⟨b, o, none⟩) :=
  ⟨fun b o h => hb.cell (p := ⟨b, o, none⟩) h, fun b o h => hb.frozen (p := ⟨b, o, none⟩) h⟩
theorem below_setRow {B : Nat} {a w : World} (h : Below B a w) {g : Nat} (hg : B ≤ g) (cs : Array Value) : Below B a (w.setRow g cs) :=
  ⟨h.os, h.tape, h.output, by simpa using h.size, fun k hk => (setRow_other w g k cs (by omega)).trans (h.block k hk)⟩
/-- It hands back a row of the call's own, with these cells; nothing that was there has turned. -/
def Gives (B : Nat) (E : TypeId) (size n : Nat) (xs : List Value) (w : World) (e : Ending) (w' : World) : Prop := ∃ v, e = .returned v ∧ w'.ownsRow B E size v n xs ∧ Below B w w'
theorem blk_ge {b o n c g B : Nat} (h : Value.ownBlock (.slice (some ⟨b, o, none⟩) n c) = some g) (hB : B ≤ b) : B ≤ g := by
  have h1 : b = g := Option.some.inj h
  omega
theorem blk_nil {n c g B : Nat} (h : Value.ownBlock (.slice none n c) = some g) : B ≤ g := by cases h
theorem own_ge {w : World} {base size n : Nat} {e : TypeId} {v : Value} {xs : List Value} (h : w.ownsRow base e size v n xs) {g : Nat} (hg : v.ownBlock = some g) {B : Nat} (hB : B ≤ base) : B ≤ g := by
  have := (h.lt g hg).1; omega
theorem one_int (k : IntKind) (x : Int) : ∀ u ∈ [Value.int k x], u.oneCell' = true := by
  intro u hu; rw [List.mem_singleton.1 hu]; rfl
theorem drewN2 (w : World) (a b : Nat) : (w.drewN a).drewN b = w.drewN (a + b) := by simp only [World.drewN, Nat.add_assoc]
theorem below_undrew {B : Nat} {w w' : World} (h : Below B w.drew w') : Below B w w' := ⟨h.os, h.tape, h.output, h.size, h.block⟩
theorem below_undrewN {B n : Nat} {w w' : World} (h : Below B (w.drewN n) w') : Below B w w' := ⟨h.os, h.tape, h.output, h.size, h.block⟩
theorem below_drewN {B : Nat} {a w : World} (h : Below B a w) (n : Nat) : Below B a (w.drewN n) := ⟨h.os, h.tape, h.output, h.size, h.block⟩
/-- It answers this, and the world has only been asked for an order. -/
def Says (v : Value) (w : World) (e : Ending) (w' : World) : Prop := ∃ q, e = .returned v ∧ w' = w.drewN q
/-- A row of bytes and an error's number. -/
def Gives2 (B : Nat) (E : TypeId) (size n : Nat) (xs : List Value) (x : Value) (w : World) (e : Ending) (w' : World) : Prop := ∃ v, e = .returned (.tuple #[v, x]) ∧ w'.ownsRow B E size v n xs ∧ Below B w w'

/-- A store into a row of the call's own, in a region that draws. -/
theorem stored_world {w : World} {base size n c g : Nat} {e : TypeId} {xs : List Value} (h : w.ownsRow base e size (.slice (some ⟨g, 0, none⟩) n c) n xs) (k : Nat) (v : Value) :
    ∃ W, (w.setCell ⟨g, k, none⟩ v).drew = W ∧ W.ownsRow base e size (.slice (some ⟨g, 0, none⟩) n c) n (xs.set k v) ∧ (∀ p : Addr, p.block ≠ g → W.cell? p = w.cell? p) ∧ (∀ (B : Nat) (a : World), B ≤ g → Below B a w → Below B a W) ∧ W.heap.size = w.heap.size :=
  ⟨_, rfl, (h.stored k v).1, fun p hp => World.cell?_setCell_other w ⟨g, k, none⟩ p v (fun e => hp (by rw [← e])), fun _ _ hB hb => (hb.setCell (p := ⟨g, k, none⟩) hB v).drew, by simp [World.setCell]⟩
/-! ### Bytes -/
def u8s (l : List Nat) : List Value := l.map fun (n : Nat) => .int .u8 (n : Int)
theorem u8s_one {l : List Nat} : ∀ u ∈ u8s l, u.oneCell' = true := by
  intro u hu; obtain ⟨x, _, rfl⟩ := List.mem_map.1 hu; rfl
theorem u8s_len (l : List Nat) : (u8s l).length = l.length := by simp [u8s]
theorem u8s_at {l : List Nat} {k x : Nat} (h : l[k]? = some x) : (u8s l)[k]? = some (.int .u8 (x : Nat)) := by simp [u8s, h]
theorem u8s_take (l : List Nat) (k : Nat) : (u8s l).take k = u8s (l.take k) := by simp [u8s]
theorem u8s_drop (l : List Nat) (k : Nat) : (u8s l).drop k = u8s (l.drop k) := by simp [u8s]
theorem u8s_set (l : List Nat) (k x : Nat) : (u8s l).set k (.int .u8 (x : Int)) = u8s (l.set k x) := by simp [u8s, List.map_set]
theorem u8s_append (l m : List Nat) : u8s l ++ u8s m = u8s (l ++ m) := by simp [u8s]
theorem take8 {l : List Nat} (h8 : ∀ x ∈ l, x < 256) (k : Nat) : ∀ x ∈ l.take k, x < 256 := fun x hx => h8 x (List.mem_of_mem_take hx)
theorem drop8 {l : List Nat} (h8 : ∀ x ∈ l, x < 256) (k : Nat) : ∀ x ∈ l.drop k, x < 256 := fun x hx => h8 x (List.mem_of_mem_drop hx)
/-- The text of these bytes. -/
def str (l : List Nat) : ByteArray := ⟨(l.map UInt8.ofNat).toArray⟩
theorem str_inj {l m : List Nat} (h8 : ∀ x ∈ l, x < 256) (h9 : ∀ x ∈ m, x < 256) : str l = str m ↔ l = m := by
  constructor
  · intro h
    have h1 : l.map UInt8.ofNat = m.map UInt8.ofNat := by
      have := congrArg (fun b : ByteArray => b.data.toList) h
      simpa [str] using this
    have h2 : ∀ k : List Nat, (∀ x ∈ k, x < 256) → (k.map UInt8.ofNat).map UInt8.toNat = k := by
      intro k hk
      rw [List.map_map]
      conv => rhs; rw [← List.map_id k]
      apply List.map_congr_left
      intro x hx
      have := hk x hx
      simp [UInt8.toNat_ofNat']
      omega
    rw [← h2 l h8, ← h2 m h9, h1]
  · rintro rfl; rfl
theorem str_size (l : List Nat) : (str l).size = l.length := by simp [str, ByteArray.size]
theorem str_toList (l : List Nat) : (str l).toList = l.map UInt8.ofNat := by rw [ByteArray.toList_eq]; simp [str]
theorem str_beq {l m : List Nat} (h8 : ∀ x ∈ l, x < 256) (h9 : ∀ x ∈ m, x < 256) : ((str l).toList == (str m).toList) = decide (l = m) := by
  rw [Bool.eq_iff_iff, beq_iff_eq, decide_eq_true_eq, ← str_inj h8 h9]
  constructor
  · intro h
    rw [str_toList, str_toList] at h
    unfold str
    rw [h]
  · intro h; rw [h]
/-- The text of a row of bytes. -/
theorem run_string_row {P : Program} (w : World) (src dst e : TypeId) (hs : P.underlying src = some (.slice e)) (he : P.underlying e = some (.int .u8)) (hd : P.underlying dst = some .string)
    (B : Nat) (A : Option Addr) (n c : Nat) (l : List Nat) (hl : l.length = n) (h8 : ∀ x ∈ l, x < 256) (hr : Row w B A (u8s l)) :
    (convert src dst (.slice A n c)).run P w = .ok (.string (str l)) w := by
  rcases l with _ | ⟨y, l⟩
  · simp at hl
    subst hl
    rw [run_convert_bytes_string w src dst e A 0 c hs he hd]
    rcases A with _ | a
    · simp [Conv.bytesToString]; rfl
    · simp [Conv.bytesToString, loadCells, loadCellsFrom]; rfl
  · obtain ⟨b, o, rfl, hb, hc⟩ := hr (by simp [u8s])
    have := run_convert_bytes_back (P := P) w src dst e ⟨b, o, none⟩ c ((y :: l).map UInt8.ofNat) hs he hd (fun j hj => by
      have hj' : j < (y :: l).length := by simpa using hj
      rw [add_eq, hc j _ (u8s_at (List.getElem?_eq_getElem hj'))]
      have := h8 _ (List.getElem_mem hj')
      simp only [List.getElem_map, UInt8.toNat_ofNat']
      rw [Nat.mod_eq_of_lt this])
    rw [List.length_map, hl] at this
    exact this
theorem ret_int {k : IntKind} {a b : Int} (h : a = b) : Ending.returned (.int k a) = .returned (.int k b) := by rw [h]
theorem ret_bool {a b : Bool} (h : a = b) : Ending.returned (.bool a) = .returned (.bool b) := by rw [h]
end Go.Proofs.YtjedpjfmlaganaaDoor
