/-
  Values, and what is known, as fields: in plain words.
-/
import Derived.Test.YtjliocbdidiemaaDoorQE
import Derived.Test.YtjliocbdidiemaaDoorQTake
import Derived.Test.YtjliocbdidiemaaDoorVarTk
import Derived.Test.YtjliocbdidiemaaDoorQSd
import Derived.Test.YtjliocbdidiemaaDoorSchMath
namespace Go.Proofs.YtjliocbdidiemaaDoor.var
theorem ptake_canon (f : Nat) : ∀ (i a : Nat) (l : List Nat) (y : Nat) (r : List Nat), (∀ c ∈ l, c < 256) → ptake f i a l = some (y, r) → ∃ x, l = vput x ++ r ∧ y = a + x * 128 ^ i ∧ (0 < i → 0 < x) := by
  induction f with
  | zero => intro i a l y r _ h; cases h
  | succ f ih =>
    intro i a l y r h8 h
    rcases l with _ | ⟨c, l⟩
    · cases h
    · simp only [ptake] at h
      have hc := h8 c (by simp)
      split at h
      · rename_i hc2
        obtain ⟨x, rfl, rfl, hx⟩ := ih _ _ _ _ _ (fun d hd => h8 d (by simp [hd])) h
        have hx0 := hx (by omega)
        refine ⟨(c - 128) + 128 * x, ?_, ?_, fun _ => by omega⟩
        · have e0 := vput_big (x := (c - 128) + 128 * x) (by omega)
          have e1 : ((c - 128) + 128 * x) % 128 + 128 = c := by omega
          have e2 : ((c - 128) + 128 * x) / 128 = x := by omega
          rw [e0, e1, e2]
          rfl
        · rw [Nat.pow_succ, Nat.add_mul, Nat.mul_comm (128 ^ i) 128, ← Nat.mul_assoc, Nat.mul_comm x 128, Nat.add_assoc]
      · rename_i hc2
        split at h
        · cases h
        · rename_i hc3
          simp at h
          obtain ⟨rfl, rfl⟩ := h
          refine ⟨c, ?_, rfl, fun hi => ?_⟩
          · rw [vput_small (by omega)]; rfl
          · by_cases h0 : c = 0
            · exact absurd (Or.inl ⟨h0, hi⟩) hc3
            · omega
theorem vtake_canon {l r : List Nat} {y : Nat} (h8 : ∀ c ∈ l, c < 256) (h : vtake l = some (y, r)) : l = vput y ++ r := by
  obtain ⟨x, h1, h2, -⟩ := ptake_canon 10 0 0 l y r h8 h
  have : x = y := by simp at h2; omega
  rw [← this]
  exact h1
end Go.Proofs.YtjliocbdidiemaaDoor.var
namespace Go.Proofs.YtjliocbdidiemaaDoor.wi
theorem one_canon {l r : List Nat} {f : Fld} (h8 : ∀ c ∈ l, c < 256) (h : one l = some (f, r)) : l = encF f ++ r ∧ (1 ≤ f.tag ∧ f.tag ≤ 100) ∧ Norm f := by
  cases h1 : var.vtake l with
  | none => rw [one_none1 h1] at h; cases h
  | some p =>
    obtain ⟨k, m⟩ := p
    cases h2 : var.vtake m with
    | none => rw [one_none2 h1 h2] at h; cases h
    | some q =>
      obtain ⟨n, s⟩ := q
      have e1 := var.vtake_canon h8 h1
      have e2 := var.vtake_canon (fun c hc => h8 c (by rw [e1]; simp [hc])) h2
      simp only [one, h1, h2, Option.bind_some] at h
      split at h
      · rename_i ht
        split at h
        · rename_i h0
          simp at h
          obtain ⟨rfl, rfl⟩ := h
          refine ⟨?_, by simp only; omega, And.intro (fun h => by cases h) (fun _ => rfl)⟩
          rw [encF_num rfl, e1, e2]
          simp only [List.append_assoc]
          rw [show 8 * ((k : Int) / 8).toNat = k by omega]
        · split at h
          · rename_i hk
            simp at h
            obtain ⟨rfl, rfl⟩ := h
            refine ⟨?_, by simp only; omega, And.intro (fun _ => rfl) (fun h => by cases h)⟩
            rw [encF_bytes rfl, e1, e2]
            simp only [List.append_assoc]
            rw [show 8 * ((k : Int) / 8).toNat + 2 = k by omega, List.length_take, Nat.min_eq_left hk.2, List.take_append_drop]
          · cases h
      · cases h
theorem one_s64 {l r : List Nat} {f : Fld} (h8 : ∀ c ∈ l, c < 256) (h : one l = some (f, r)) (hl : l.length ≤ 2000) : Fits f := by
  have hc := one_canon h8 h
  have hb : f.b.length ≤ 2000 := by
    by_cases hB : f.isB = true
    · have := congrArg List.length hc.1
      rw [encF_bytes hB] at this
      simp only [List.length_append] at this
      omega
    · rw [hc.2.2.2 (by simpa using hB)]; simp
  have h8b : ∀ x ∈ f.b, x < 256 := by
    by_cases hB : f.isB = true
    · intro x hx
      refine h8 x ?_
      rw [hc.1, encF_bytes hB]
      simp [hx]
    · rw [hc.2.2.2 (by simpa using hB)]; simp
  refine ⟨?_, h8b, hb⟩
  cases h1 : var.vtake l with
  | none => rw [one_none1 h1] at h; cases h
  | some p =>
    obtain ⟨k, m⟩ := p
    cases h2 : var.vtake m with
    | none => rw [one_none2 h1 h2] at h; cases h
    | some q =>
      obtain ⟨n, s⟩ := q
      have h8m : ∀ c ∈ m, c < 256 := fun c hc => h8 c (by rw [var.vtake_canon h8 h1]; simp [hc])
      have hn : var.S64 n := vtake_s64 h8m h2
      simp only [one, h1, h2, Option.bind_some] at h
      split at h
      · split at h
        · simp at h
          obtain ⟨rfl, -⟩ := h
          exact hn
        · split at h
          · simp at h
            obtain ⟨rfl, -⟩ := h
            exact (by decide : (0 : Nat) < 18446744073709551616)
          · cases h
      · cases h
/-- What is taken is laid down as it was. -/
theorem take_canon : ∀ (n : Nat) (l : List Nat) (fs : List Fld), l.length ≤ n → n ≤ 2000 → (∀ c ∈ l, c < 256) → take l = some fs → enc fs = l ∧ ∀ f ∈ fs, Fits f ∧ (1 ≤ f.tag ∧ f.tag ≤ 100) ∧ Norm f
  | n, [], fs, _, _, _, h => by
    rw [take_nil] at h
    injection h with h
    subst h
    exact ⟨rfl, fun f hf => by cases hf⟩
  | 0, x :: l, fs, hn, _, _, _ => by simp at hn
  | n + 1, x :: l, fs, hn, hb, h8, h => by
    cases h1 : one (x :: l) with
    | none => rw [take_none (by simp) h1] at h; cases h
    | some p =>
      obtain ⟨f, r⟩ := p
      have hlt := one_lt h1
      have hc := one_canon h8 h1
      have hf := one_s64 h8 h1 (by omega)
      rw [take_some h1] at h
      cases h2 : take r with
      | none => rw [h2] at h; cases h
      | some gs =>
        rw [h2] at h
        simp at h
        subst h
        obtain ⟨ih1, ih2⟩ := take_canon n r gs (by simp at hn hlt; omega) (by omega) (fun c hcr => h8 c (by rw [hc.1]; simp [hcr])) h2
        refine ⟨?_, fun g hg => ?_⟩
        · show encF f ++ enc gs = _
          rw [ih1, ← hc.1]
        · rcases List.mem_cons.1 hg with rfl | hg
          · exact ⟨hf, hc.2⟩
          · exact ih2 g hg
theorem enc_inj {fs gs : List Fld} (h : ∀ f ∈ fs, Fits f ∧ (1 ≤ f.tag ∧ f.tag ≤ 100) ∧ Norm f) (k : ∀ f ∈ gs, Fits f ∧ (1 ≤ f.tag ∧ f.tag ≤ 100) ∧ Norm f) (e : enc fs = enc gs) : fs = gs := by
  have h1 := take_enc fs h
  rw [e, take_enc gs k] at h1
  injection h1 with h1
  exact h1.symm
/-- Whether fields have tags from i on, and are bytes by a pattern. -/
def shp : Int → List Fld → List Bool → Bool
  | _, [], [] => true
  | i, f :: fs, b :: p => (decide (f.tag = i) && (f.isB == b)) && shp (i + 1) fs p
  | _, _, _ => false
theorem shp_step {i : Int} {fs : List Fld} {p : List Bool} {j : Nat} {f : Fld} {b : Bool} (hf : fs[j]? = some f) (hb : p[j]? = some b) : shp i (fs.drop j) (p.drop j) = ((decide (f.tag = i) && (f.isB == b)) && shp (i + 1) (fs.drop (j + 1)) (p.drop (j + 1))) := by
  rw [va.drop_step hf, va.drop_step hb]
  rfl
theorem shp_len : ∀ {i : Int} {fs : List Fld} {p : List Bool}, shp i fs p = true → fs.length = p.length
  | _, [], [], _ => rfl
  | i, f :: fs, b :: p, h => by
    simp only [shp, Bool.and_eq_true] at h
    simp [shp_len h.2]
  | _, [], _ :: _, h => by cases h
  | _, _ :: _, [], h => by cases h
theorem shp3 {fs : List Fld} {a b c : Bool} (h : shp 1 fs [a, b, c] = true) : ∃ f g k, fs = [f, g, k] ∧ (f.tag = 1 ∧ f.isB = a) ∧ (g.tag = 2 ∧ g.isB = b) ∧ (k.tag = 3 ∧ k.isB = c) := by
  have hl := shp_len h
  obtain ⟨f, g, k, rfl⟩ : ∃ f g k, fs = [f, g, k] := by
    match fs, hl with
    | [f, g, k], _ => exact ⟨f, g, k, rfl⟩
  simp [shp] at h
  exact ⟨f, g, k, rfl, h.1, h.2.1, h.2.2⟩
theorem shp6 {fs : List Fld} {a b c d e y : Bool} (h : shp 1 fs [a, b, c, d, e, y] = true) : ∃ f0 f1 f2 f3 f4 f5, fs = [f0, f1, f2, f3, f4, f5] ∧ (f0.tag = 1 ∧ f0.isB = a) ∧ (f1.tag = 2 ∧ f1.isB = b) ∧ (f2.tag = 3 ∧ f2.isB = c) ∧ (f3.tag = 4 ∧ f3.isB = d) ∧ (f4.tag = 5 ∧ f4.isB = e) ∧ (f5.tag = 6 ∧ f5.isB = y) := by
  have hl := shp_len h
  obtain ⟨f0, f1, f2, f3, f4, f5, rfl⟩ : ∃ f0 f1 f2 f3 f4 f5, fs = [f0, f1, f2, f3, f4, f5] := by
    match fs, hl with
    | [f0, f1, f2, f3, f4, f5], _ => exact ⟨f0, f1, f2, f3, f4, f5, rfl⟩
  simp [shp] at h
  exact ⟨f0, f1, f2, f3, f4, f5, rfl, h.1, h.2.1, h.2.2.1, h.2.2.2.1, h.2.2.2.2.1, h.2.2.2.2.2⟩
theorem fld_num {f : Fld} {t : Int} (h : Norm f) (h1 : f.tag = t ∧ f.isB = false) : f = ⟨t, false, f.n, []⟩ := by
  obtain ⟨a, b, c, d⟩ := f
  obtain ⟨rfl, rfl⟩ := h1
  have := h.2 rfl
  simp only at this
  subst this
  rfl
theorem fld_byt {f : Fld} {t : Int} (h : Norm f) (h1 : f.tag = t ∧ f.isB = true) : f = ⟨t, true, 0, f.b⟩ := by
  obtain ⟨a, b, c, d⟩ := f
  obtain ⟨rfl, rfl⟩ := h1
  have := h.1 rfl
  simp only at this
  subst this
  rfl
end Go.Proofs.YtjliocbdidiemaaDoor.wi
namespace Go.Proofs.YtjliocbdidiemaaDoor
open Go Go.RowKit va
theorem byt_str {b : List Nat} (h8 : ∀ x ∈ b, x < 256) : byt (str b) = b := by
  unfold byt str
  rw [List.toList_toArray, List.map_map]
  conv => rhs; rw [← List.map_id b]
  refine List.map_congr_left fun x hx => ?_
  have := h8 x hx
  simp only [Function.comp, id]
  rw [UInt8.toNat_ofNat']
  omega
theorem str_byt (s : ByteArray) : str (byt s) = s := by
  unfold byt str
  rw [List.map_map]
  have e : (UInt8.ofNat ∘ UInt8.toNat) = id := by funext x; simp
  rw [e, List.map_id]
theorem str_size' (b : List Nat) : (str b).size = b.length := str_size b
/-- A value's bytes. -/
def valB (v : Val) : List Nat := valE v.nul v.n (byt v.s)
/-- What bytes are taken as a value. -/
def tv (l : List Nat) : Option Val :=
  match wi.take l with
  | some [f, g, k] => if wi.shp 1 [f, g, k] [false, false, true] && decide (f.n ≤ 1) then some ⟨decide (f.n = 1), zag g.n, str k.b⟩ else none
  | _ => none
theorem tv_none {l : List Nat} (h : wi.take l = none) : tv l = none := by unfold tv; rw [h]
theorem tv_shape {l : List Nat} {fs : List Fld} (h : wi.take l = some fs) (hs : wi.shp 1 fs [false, false, true] = false) : tv l = none := by
  unfold tv
  rw [h]
  match fs, hs with
  | [f, g, k], hs => simp only; rw [hs]; rfl
  | [], _ => rfl
  | [_], _ => rfl
  | [_, _], _ => rfl
  | _ :: _ :: _ :: _ :: _, _ => rfl
theorem tv_some {l : List Nat} {f g k : Fld} (h : wi.take l = some [f, g, k]) (hs : wi.shp 1 [f, g, k] [false, false, true] = true) : tv l = if f.n ≤ 1 then some ⟨decide (f.n = 1), zag g.n, str k.b⟩ else none := by
  unfold tv
  rw [h]
  simp only
  rw [hs, Bool.true_and]
  by_cases hn : f.n ≤ 1
  · rw [if_pos hn, if_pos (decide_eq_true hn)]
  · rw [if_neg hn, decide_eq_false hn, if_neg (by simp)]
theorem valF_good {nul : Bool} {x : Int} {b : List Nat} (hx : I64 x) (h8 : ∀ c ∈ b, c < 256) (hb : b.length ≤ 2000) : ∀ f ∈ valF nul x b, wi.Fits f ∧ (1 ≤ f.tag ∧ f.tag ≤ 100) ∧ wi.Norm f := by
  intro f hf
  refine ⟨valF_fits hx h8 hb f hf, ?_⟩
  simp [valF] at hf
  rcases hf with rfl | rfl | rfl
  · exact ⟨by simp, And.intro (fun h => by cases h) (fun _ => rfl)⟩
  · exact ⟨by simp, And.intro (fun h => by cases h) (fun _ => rfl)⟩
  · exact ⟨by simp, And.intro (fun _ => rfl) (fun h => by cases h)⟩
/-- What is taken is laid down as the same bytes just where its first number is a truth. -/
theorem tv_same {l : List Nat} {f g k : Fld} (hl : l.length ≤ 2000) (h8 : ∀ c ∈ l, c < 256) (h : wi.take l = some [f, g, k]) (hs : wi.shp 1 [f, g, k] [false, false, true] = true) : (valE (decide (f.n = 1)) (zag g.n) k.b = l ↔ f.n ≤ 1) ∧ var.S64 f.n ∧ var.S64 g.n ∧ (∀ c ∈ k.b, c < 256) ∧ k.b.length ≤ 2000 := by
  obtain ⟨e, hf⟩ := wi.take_canon l.length l _ (Nat.le_refl _) hl h8 h
  have hf0 := hf f (by simp)
  have hf1 := hf g (by simp)
  have hf2 := hf k (by simp)
  obtain ⟨f', g', k', e', t0, t1, t2⟩ := wi.shp3 hs
  simp only [List.cons.injEq, and_true] at e'
  obtain ⟨rfl, rfl, rfl⟩ := e'
  have n0 := wi.fld_num hf0.2.2 t0
  have n1 := wi.fld_num hf1.2.2 t1
  have n2 := wi.fld_byt hf2.2.2 t2
  refine ⟨?_, hf0.1.1, hf1.1.1, hf2.1.2.1, hf2.1.2.2⟩
  have hg := valF_good (nul := decide (f.n = 1)) (x := zag g.n) (b := k.b) (zag_i64 hf1.1.1) hf2.1.2.1 hf2.1.2.2
  constructor
  · intro he
    rw [← e] at he
    have hi := wi.enc_inj hg hf he
    have h0 : (⟨1, false, bit (decide (f.n = 1)), []⟩ : Fld) = f := by
      have := congrArg (·.head?) hi
      simpa [valF] using this
    have := congrArg Fld.n h0
    simp only [bit] at this
    split at this <;> omega
  · intro hn
    rw [← e]
    unfold valE
    have : valF (decide (f.n = 1)) (zag g.n) k.b = [f, g, k] := by
      rw [n0, n1, n2]
      unfold valF
      simp only [zig_zag _ hf1.1.1]
      have hb : bit (decide (f.n = 1)) = f.n := by
        unfold bit
        by_cases h1 : f.n = 1
        · simp [h1]
        · simp [h1]; omega
      rw [hb]
    rw [this]
theorem tv_val {v : Val} (hn : I64 v.n) (hs : v.s.size ≤ 2000) : tv (valB v) = some v := by
  have h := wi.take_enc (valF v.nul v.n (byt v.s)) (valF_good hn (byt8 _) (by rw [byt_len]; exact hs))
  have hs : wi.shp 1 (valF v.nul v.n (byt v.s)) [false, false, true] = true := rfl
  unfold valF at h hs
  rw [show valB v = wi.enc [⟨1, false, bit v.nul, []⟩, ⟨2, false, zig v.n, []⟩, ⟨3, true, 0, byt v.s⟩] from rfl, tv_some h hs]
  obtain ⟨nul, n, s⟩ := v
  simp only
  rw [zag_zig n hn, str_byt]
  cases nul <;> simp [bit]

/-- All that is known, as fields. -/
def statF (s : st.St) : List Fld := [⟨1, false, (s.c % 18446744073709551616).toNat, []⟩, ⟨2, false, bit s.hn, []⟩, ⟨3, true, 0, valB s.mn⟩, ⟨4, true, 0, valB s.mx⟩, ⟨5, false, zig s.sum, []⟩, ⟨6, false, bit s.ov, []⟩]
def statE (s : st.St) : List Nat := wi.enc (statF s)
/-- What came in six fields. -/
def statOf (f0 f1 f4 f5 : Fld) (mn mx : Val) : st.St := ⟨wrap64 f0.n, decide (f1.n = 1), mn, mx, zag f4.n, decide (f5.n = 1)⟩
/-- What bytes are taken as what is known of a kind. -/
def ts (k : Int) (l : List Nat) : Option st.St :=
  match wi.take l with
  | some [f0, f1, f2, f3, f4, f5] =>
    if wi.shp 1 [f0, f1, f2, f3, f4, f5] [false, false, true, true, false, false] then
      match tv f2.b, tv f3.b with
      | some mn, some mx => if statE (statOf f0 f1 f4 f5 mn mx) = l ∧ st.mayS k (statOf f0 f1 f4 f5 mn mx) = true then some (statOf f0 f1 f4 f5 mn mx) else none
      | _, _ => none
    else none
  | _ => none
theorem ts_none {k : Int} {l : List Nat} (h : wi.take l = none) : ts k l = none := by unfold ts; rw [h]
theorem ts_shape {k : Int} {l : List Nat} {fs : List Fld} (h : wi.take l = some fs) (hs : wi.shp 1 fs [false, false, true, true, false, false] = false) : ts k l = none := by
  unfold ts
  rw [h]
  match fs, hs with
  | [f0, f1, f2, f3, f4, f5], hs => simp only; rw [hs]; rfl
  | [], _ => rfl
  | [_], _ => rfl
  | [_, _], _ => rfl
  | [_, _, _], _ => rfl
  | [_, _, _, _], _ => rfl
  | [_, _, _, _, _], _ => rfl
  | _ :: _ :: _ :: _ :: _ :: _ :: _ :: _, _ => rfl
theorem ts_none2 {k : Int} {l : List Nat} {f0 f1 f2 f3 f4 f5 : Fld} (h : wi.take l = some [f0, f1, f2, f3, f4, f5]) (hs : wi.shp 1 [f0, f1, f2, f3, f4, f5] [false, false, true, true, false, false] = true) (hn : tv f2.b = none ∨ tv f3.b = none) : ts k l = none := by
  unfold ts
  rw [h]
  simp only
  rw [if_pos hs]
  rcases hn with hn | hn <;> rw [hn]
  cases tv f2.b <;> rfl
theorem ts_some {k : Int} {l : List Nat} {f0 f1 f2 f3 f4 f5 : Fld} {mn mx : Val} (h : wi.take l = some [f0, f1, f2, f3, f4, f5]) (hs : wi.shp 1 [f0, f1, f2, f3, f4, f5] [false, false, true, true, false, false] = true) (hn : tv f2.b = some mn) (hx : tv f3.b = some mx) :
    ts k l = if statE (statOf f0 f1 f4 f5 mn mx) = l ∧ st.mayS k (statOf f0 f1 f4 f5 mn mx) = true then some (statOf f0 f1 f4 f5 mn mx) else none := by
  unfold ts
  rw [h]
  simp only
  rw [if_pos hs, hn, hx]
end Go.Proofs.YtjliocbdidiemaaDoor
