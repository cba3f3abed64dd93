/-
  Values, and what is known, that were laid down are taken as they were: in plain words.
-/
import Derived.Test.YtjliocbdidiemaaDoorQX
namespace Go.Proofs.YtjliocbdidiemaaDoor
open Go Go.RowKit va
theorem wrap_back {c : Int} (h : I64 c) : wrap64 (((c % 18446744073709551616).toNat : Nat) : Int) = c := by
  unfold I64 at h
  unfold wrap64
  omega
theorem ts_stat {kd : Int} {s : st.St} (h : GoodS s) : ts kd (statE s) = if st.mayS kd s then some s else none := by
  have ht := wi.take_enc (statF s) (statF_good h)
  obtain ⟨h1, h2, h3, h4, h5, h6⟩ := h
  obtain ⟨c, hn, mn, mx, su, ov⟩ := s
  simp only at h1 h2 h3 h4 h5 h6
  have hs : wi.shp 1 (statF ⟨c, hn, mn, mx, su, ov⟩) [false, false, true, true, false, false] = true := rfl
  unfold statF at ht hs
  have v2 := tv_val h2 (show mn.s.size ≤ 2000 by omega)
  have v3 := tv_val h4 (show mx.s.size ≤ 2000 by omega)
  have hso : statOf ⟨1, false, (c % 18446744073709551616).toNat, []⟩ ⟨2, false, bit hn, []⟩ ⟨5, false, zig su, []⟩ ⟨6, false, bit ov, []⟩ mn mx = ⟨c, hn, mn, mx, su, ov⟩ := by
    unfold statOf
    simp only
    rw [wrap_back h1, zag_zig su h6]
    cases hn <;> cases ov <;> simp [bit]
  have h := ts_some (k := kd) ht hs v2 v3
  rw [hso] at h
  rw [show statE ⟨c, hn, mn, mx, su, ov⟩ = wi.enc [⟨1, false, (c % 18446744073709551616).toNat, []⟩, ⟨2, false, bit hn, []⟩, ⟨3, true, 0, valB mn⟩, ⟨4, true, 0, valB mx⟩, ⟨5, false, zig su, []⟩, ⟨6, false, bit ov, []⟩] from rfl, h]
  cases st.mayS kd ⟨c, hn, mn, mx, su, ov⟩
  · rw [if_neg (by simp), if_neg (by simp)]
  · rw [if_pos ⟨rfl, rfl⟩, if_pos rfl]
theorem statE_len {s : st.St} (h : GoodS s) (h2 : s.mn.s.size ≤ 300) (h3 : s.mx.s.size ≤ 300) : (statE s).length ≤ 1000 := by
  obtain ⟨g1, g2, -, g4, -, g6⟩ := h
  have a1 := var.vput_len10 (show var.S64 8 by unfold var.S64; omega)
  have a2 := var.vput_len10 (show var.S64 (s.c % 18446744073709551616).toNat by unfold var.S64; omega)
  have a3 := var.vput_len10 (show var.S64 16 by unfold var.S64; omega)
  have a4 := var.vput_len10 (show var.S64 (bit s.hn) by unfold var.S64 bit; split <;> omega)
  have a5 := var.vput_len10 (show var.S64 26 by unfold var.S64; omega)
  have l1 := valB_len s.mn g2 (by omega)
  have l2 := valB_len s.mx g4 (by omega)
  have a6 := var.vput_len10 (show var.S64 (valB s.mn).length by unfold var.S64; omega)
  have a7 := var.vput_len10 (show var.S64 34 by unfold var.S64; omega)
  have a8 := var.vput_len10 (show var.S64 (valB s.mx).length by unfold var.S64; omega)
  have a9 := var.vput_len10 (show var.S64 40 by unfold var.S64; omega)
  have a10 := var.vput_len10 (zig_s64 g6)
  have a11 := var.vput_len10 (show var.S64 48 by unfold var.S64; omega)
  have a12 := var.vput_len10 (show var.S64 (bit s.ov) by unfold var.S64 bit; split <;> omega)
  have e : statE s = (var.vput 8 ++ var.vput (s.c % 18446744073709551616).toNat) ++ ((var.vput 16 ++ var.vput (bit s.hn)) ++ ((var.vput 26 ++ (var.vput (valB s.mn).length ++ valB s.mn)) ++ ((var.vput 34 ++ (var.vput (valB s.mx).length ++ valB s.mx)) ++ ((var.vput 40 ++ var.vput (zig s.sum)) ++ ((var.vput 48 ++ var.vput (bit s.ov)) ++ []))))) := rfl
  rw [e]
  simp only [List.length_append, List.length_nil]
  omega
end Go.Proofs.YtjliocbdidiemaaDoor
