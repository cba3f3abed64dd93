/-
  Fields, walked: bytes that are taken as fields.
-/
import Derived.Test.YtjliocbdidiemaaDoorQH
namespace Go.Proofs.YtjliocbdidiemaaDoor
open Go.RowKit
set_option linter.unusedVariables false

theorem one8 {l r : List Nat} {f : Fld} (h8 : ∀ x ∈ l, x < 256) (h : wi.one l = some (f, r)) : (∀ x ∈ f.b, x < 256) ∧ (∀ x ∈ r, x < 256) := by
  cases h1 : var.vtake l with
  | none => rw [wi.one_none1 h1] at h; cases h
  | some p =>
    obtain ⟨k, m⟩ := p
    cases h2 : var.vtake m with
    | none => rw [wi.one_none2 h1 h2] at h; cases h
    | some q =>
      obtain ⟨n, s⟩ := q
      have hs := vtake8 (vtake8 h8 h1) h2
      simp only [wi.one, h1, h2, Option.bind_some] at h
      split at h
      · split at h
        · simp at h
          obtain ⟨rfl, rfl⟩ := h
          exact ⟨by simp, hs⟩
        · split at h
          · simp at h
            obtain ⟨rfl, rfl⟩ := h
            exact ⟨fun x hx => hs x (List.mem_of_mem_take hx), fun x hx => hs x (List.mem_of_mem_drop hx)⟩
          · cases h
      · cases h
/-- What Take says of bytes. -/
def TakeR (l : List Nat) (w : World) (e : Ending) (w' : World) : Prop :=
  (wi.take l = none ∧ e = .returned (.tuple #[.slice none 0 0, .int .i64 2]) ∧ Le w w') ∨
  (∃ (o : List FV) (A : Option Addr) (K c : Nat), wi.take l = some (o.map (·.1)) ∧ o.length = K ∧ K ≤ l.length ∧ e = .returned (.tuple #[.slice A K c, .int .i64 0]) ∧ Row w' w'.heap.size A (fcs o) ∧ Held w' w'.heap.size o ∧ (∀ p ∈ o, ∀ x ∈ p.1.b, x < 256) ∧ Le w w')
def slen : Value → Nat
  | .slice _ n _ => n
  | _ => 0

set_option maxRecDepth 100000 in
set_option maxHeartbeats 8000000 in
theorem wtake_any (w : World) (A : Option Addr) (n c : Nat) (l : List Nat) (hl : l.length = n) (hn : n ≤ 1000000) (hnc : n ≤ c) (hc : c ≤ maxLen) (h8 : ∀ x ∈ l, x < 256) (hr : Row w w.heap.size A (u8s l)) :
    Calls Tryd.prog 6 #[.slice A n c] w (TakeR l w) := by
  have HL := hide hl
  have H8 := hide h8
  clear hl h8
  go_enter Tryd.func6, Tryd.ntmps6
  go_wp2_with fail
  go_loopw [0, 4] (fun b v wr => ∃ (R c2 K c3 : Nat) (A2 A3 : Option Addr) (r : List Nat) (o : List FV), b = .slice A2 R c2 ∧ v = .slice A3 K c3 ∧ Hid (r.length = R) ∧ R + K ≤ n ∧ R ≤ c2 ∧ Hid (c2 ≤ maxLen) ∧ Hid (∀ x ∈ r, x < 256) ∧ Hid (Row wr wr.heap.size A2 (u8s r)) ∧ Hid (wi.take l = (wi.take r).map (o.map (·.1) ++ ·)) ∧
    Hid (o.length = K) ∧ Hid (wr.ownsRow w.heap.size 49 4 (.slice A3 K c3) K (fcs o)) ∧ Hid (Sep wr (.slice A3 K c3) o) ∧ Hid (∀ p ∈ o, ∀ x ∈ p.1.b, x < 256) ∧ Hid (u8s r ≠ [] → ∀ a, A2 = some a → (Value.slice A3 K c3).ownBlock ≠ some a.block) ∧ Hid (Below w.heap.size w wr)) (fun b _ _ => slen b)
  case atStart =>
    refine ⟨n, c, 0, 0, A, none, l, [], rfl, rfl, HL, by omega, hnc, hide hc, H8, hide hr, hide ?_, hide rfl, hide (World.ownsRow_nil _ _ _ _), hide (Sep.nil _ _), hide (fun p hp => by cases hp), hide (fun _ a _ h => by cases h), hide (Below.refl _ _)⟩
    cases wi.take l <;> rfl
  case round =>
    obtain ⟨R, c2, K, c3, A2, A3, r, o, rfl, rfl, HRL, hRK, hRc, HC2, HR8, HR, HT, HOL, HO, HS, HO8, HX, HB⟩ := hrel
    have hz := HB.out.size
    by_cases hR0 : R = 0
    · subst hR0
      have HD := hide (show wi.take l = some (o.map (·.1)) by
        have h := HT.out
        rw [List.length_eq_zero_iff.1 HRL.out, wi.take_nil] at h
        simpa using h)
      go_wp2_with fail
      go_ret2
      exact .inr ⟨o, A3, K, c3, HD.out, HOL.out, by rw [HL.out]; omega, rfl, Row.of_own HO.out, HS.out.held, HO8.out, HB.out⟩
    · have hRp : 0 < R := by omega
      have hRi : (0 : Int) < (R : Int) := by omega
      have hrne : r ≠ [] := fun h => by have := HRL.out; rw [h] at this; simp at this; omega
      have HNE := hide hrne
      clear hrne
      go_wp2_with fail
      refine (one_any wr A2 R c2 r HRL.out (by omega) hRc HC2.out HR8.out HR.out).mono ?_
      rintro e w2 h
      rcases h with ⟨t, h1, rfl, hb2⟩ | ⟨f, r2, A5, c5, A6, c6, h1, rfl, ⟨hbc, hbm, hbr⟩, ⟨hrc, hrm, hrr⟩, hfb, hfr, hb2⟩
      · have HD := hide (show wi.take l = none by rw [HT.out, wi.take_none HNE.out h1]; rfl)
        have HBF := hide (show Le w w2 from HB.out.trans (hb2.mono hz))
        clear h1 hb2
        go_wp2_with fail
        go_ret2
        exact .inl ⟨HD.out, rfl, (HBF.out.alloc (HBF.out.size) _)⟩
      · have h88 := one8 HR8.out h1
        have HB8 := hide h88.1
        have HR28 := hide h88.2
        have hlt := wi.one_lt h1
        rw [HRL.out] at hlt
        have HD := hide (show wi.take l = (wi.take r2).map ((o.map (·.1) ++ [f]) ++ ·) by
          rw [HT.out, wi.take_some h1]
          cases wi.take r2 <;> simp)
        obtain ⟨nb, hnb⟩ : ∃ nb, f.b.length = nb := ⟨_, rfl⟩
        obtain ⟨R2, hR2⟩ : ∃ R2, r2.length = R2 := ⟨_, rfl⟩
        rw [hnb] at hbc ⊢
        rw [hR2] at hrc hlt ⊢
        have HNB := hide hnb
        have HR2 := hide hR2
        have HL2 := hide (show Le wr w2 from hb2)
        have HO2 := hide (own_below HO.out hb2)
        have HS2 := hide (HS.out.le hb2)
        have hz2 := hb2.size
        have HBR := hide hbr
        have HRR := hide hrr
        have HFB := hide hfb
        have HFR := hide hfr
        have HBM := hide hbm
        have HRM := hide hrm
        clear hnb hR2 hb2 h1 h88 hbr hrr hfb hfr hbm hrm
        obtain ⟨tag, isB, u, b⟩ := f
        simp only at HNB HB8 HBR HFB hbc ⊢
        obtain ⟨V, hV⟩ : ∃ V, w2.alloc (.cells #[.int .i64 tag, .bool isB, .int .u64 (u : Int), .slice A5 nb c5] 49) = V := ⟨_, rfl⟩
        have HV := hide hV
        have hzV : V.heap.size = w2.heap.size + 1 := by rw [← hV]; simp
        have HLV := hide (show Le w2 V by rw [← hV]; exact (Below.refl _ _).alloc (Nat.le_refl _) _)
        have HOV := hide (own_below HO2.out HLV.out)
        have HSV := hide (HS2.out.le HLV.out)
        have hrow := hide (row_cells4 V (.int .i64 tag) (.bool isB) (.int .u64 (u : Int)) (.slice A5 nb c5) 49)
        rw [hzV] at hrow
        clear hV
        go_wp2_with (at_builtin; rw [HV.out]; refine wpList_append_row _ rfl (.tmp 19) (.tmp 21) 24 rfl w.heap.size 49 infoF Tryd.underlying24 rfl (by omega) (.slice A3 K c3) K _ rfl (HOV.out.alloc _) _ (some ⟨w2.heap.size + 1, 0, none⟩) 1 1 _ rfl rfl hrow.out (by intro z hz; simp at hz; rcases hz with rfl | rfl | rfl | rfl <;> rfl) (by simp only [maxLen]; omega) (by omega) (by simp; omega) ?_; intro v' w' hown' hg hat; obtain ⟨A', c', rfl, -, -⟩ := own_form hown'; have HO' := hide hown'; have HG := hide hg; have HAT := hide hat; clear hown' hg hat)
        have hsnew : Sep (V.alloc (.cells #[.int .i64 tag, .bool isB, .int .u64 (u : Int), .slice A5 nb c5] 49)) (.slice A3 K c3) [(⟨tag, isB, u, b⟩, A5, c5)] := Sep.one (by simp only; rw [HNB.out]; exact hbc) HBM.out ((HBR.out.le HLV.out).le ((Below.refl _ _).alloc (Nat.le_refl _) _)) (fun hne a ha he => by
          have h3 := HFB.out hne a ha
          have h4 := (HO.out.lt _ he).2
          omega)
        have HS' := hide (((HSV.out.le ((Below.refl _ _).alloc (Nat.le_refl _) _)).append hsnew).grown HG.out HAT.out)
        have HRR' := hide (((HRR.out.le HLV.out).le ((Below.refl V.heap.size V).alloc (Nat.le_refl _) _)).grown_ne HG.out (fun hne a ha he => by
          have h3 := HFR.out hne a ha
          have h4 := (HO.out.lt _ he).2
          omega))
        have HX' : Hid (u8s r2 ≠ [] → ∀ a, A6 = some a → (Value.slice A' (K + 1) c').ownBlock ≠ some a.block) := fun hne a ha he => by
          have h3 := HFR.out hne a ha
          obtain ⟨b6, o6, hA6, hb6, -⟩ := HRR.out hne
          rcases HAT.out with h | h
          · rw [h] at he
            have h4 := (HO.out.lt _ he).2
            omega
          · rw [h] at he
            rw [hA6] at ha
            injection ha with ha
            subst ha
            injection he with he
            simp at he
            omega
        have HB' := hide (show Below w.heap.size w w' from ((HB.out.trans ((HL2.out.trans HLV.out).mono hz)).alloc (by omega) _).trans (below_own HG.out (Nat.le_refl _) (by simp; omega) (fun g h => own_ge HOV.out h (Nat.le_refl _))))
        refine ⟨⟨R2, c6, K + 1, c', A6, A', r2, o ++ [(⟨tag, isB, u, b⟩, A5, c5)], rfl, rfl, HR2, by omega, hrc, HRM, HR28, HRR', hide ?_, hide (by simp [HOL.out]), hide ?_, HS', hide ?_, HX', HB'⟩, by simp only [slen]; omega⟩
        · rw [List.map_append]; exact HD.out
        · rw [fcs_append]; simp only [fcs, List.flatMap_cons, List.flatMap_nil, cellsF, List.append_nil, HNB.out]; exact HO'.out
        · intro p hp
          rcases List.mem_append.1 hp with hp | hp
          · exact HO8.out p hp
          · rw [List.mem_singleton.1 hp]; exact HB8.out
end Go.Proofs.YtjliocbdidiemaaDoor
