/- The walks of layer 5, frame: Put, and the document's Put. -/
import Derived.Test.YtcfjdldlcdomgaaFrE
namespace Go.Proofs.FrW
open Go Go.RowKit Go.Tk Go.Sp

/-- A frame's bytes ahead of its sum. -/
def bodyOf (k : UInt8) (dat : List UInt8) : List UInt8 := [k] ++ by4 dat.length ++ dat
/-- A frame. -/
def frm (k : UInt8) (dat : List UInt8) : List UInt8 := bodyOf k dat ++ by4 (Fr.crc (bodyOf k dat))
theorem frm_length (k : UInt8) (dat : List UInt8) : (frm k dat).length = dat.length + 9 := by simp [frm, bodyOf, by4_length]; omega
def PutPost (b : List UInt8) (k : UInt8) (dat : List UInt8) (w : World) (e : Ending) (w' : World) : Prop :=
  Mk w w' ∧ if 4194304 < dat.length then e = .returned (.tuple #[.slice none 0 0, .int .i64 50])
    else ∃ v, e = .returned (.tuple #[v, .int .i64 0]) ∧ w'.ownsRow w.heap.size 5 1 v (b ++ frm k dat).length (bv (b ++ frm k dat))

set_option maxRecDepth 100000 in
theorem Put_any (w : World) (v d : Value) (b dat : List UInt8) (k : UInt8) (h : Bs w v b) (hd : Bs w d dat) (hb : b.length ≤ 140737400000000) (hl : dat.length ≤ 140737488355328) :
    Calls Try.prog 17 #[v, .int .u8 (k.toNat : Int), d] w (PutPost b k dat w) := by
  obtain ⟨a, cap, rfl, hc1, hc2⟩ := h.form
  obtain ⟨a2, cap2, rfl, hc3, hc4⟩ := hd.form
  have H := Lib.hid h
  have HD := Lib.hid hd
  have HB := Lib.hid hb
  have HL := Lib.hid hl
  clear h hd hc1 hc2 hc3 hc4 hb hl
  by_cases hbig : 4194304 < dat.length
  · have hs : sizeF (dat.length : Int) = 0 := by unfold sizeF; rw [if_neg (by omega), if_pos (by omega)]
    have HS := Lib.hid hs
    clear hs
    go_enter Try.func17, Try.ntmps17
    go_wp2_with fail
    refine (size_any _ _).mono ?_
    rintro e w1 ⟨rfl, rfl⟩
    rw [HS.out]
    go_wp2_with fail
    go_ret2
    exact ⟨mk_refl _, by rw [if_pos hbig]; rfl⟩
  · have hs : sizeF (dat.length : Int) = (dat.length : Int) + 9 := by unfold sizeF; rw [if_neg (by omega), if_neg (by omega)]
    have HS := Lib.hid hs
    clear hs
    have hsm : dat.length ≤ 4194304 := by omega
    have hbl := HB.out
    have hn0 : ((dat.length : Int) + 9 == 0) = false := by simp; omega
    go_enter Try.func17, Try.ntmps17
    go_wp2_with fail
    refine (size_any _ _).mono ?_
    rintro e w1 ⟨rfl, rfl⟩
    rw [HS.out]
    go_wp2_with (first | (at_make; refine wpList_make_bytes (P := Try.prog) Try.underlying22 info5 rfl _ _ rfl _ (b.length + (dat.length + 9)) rfl rfl (by omega) (by omega) ?_; intro w1 ho1 hm1; have HO1 := Lib.hid ho1; have HM1 := Lib.hid hm1; clear ho1 hm1) | (at_builtin; refine wpList_append_bytes (P := Try.prog) Try.underlying22 info5 rfl (.tmp 20) (.tmp 21) rfl rfl HO1.out rfl (H.out.mk HM1.out) (bv_one _) (by omega) HM1.out.size ?_; intro v2 w2 ho2 hg2 _ _; rw [Nat.zero_add, List.nil_append] at ho2; have HO2 := Lib.hid ho2; have HM2 := Lib.hid (mk_own HM1.out HO1.out hg2); clear ho2 hg2) | (at_builtin; refine wpList_append_bytes (P := Try.prog) Try.underlying22 info5 rfl (.tmp 22) (.tmp 24) rfl rfl (HO2.out.alloc _) rfl (new_bytes w2 [k] _ 5 1 rfl rfl (by simp [maxLen])) (bv_one _) (by omega) (by have := HM2.out.size; simp; omega) ?_; intro v3 w3 ho3 hg3 _ _; rw [← bv_append] at ho3; have HO3 := Lib.hid ho3; have HM3 := Lib.hid (mk_own HM2.out HO2.out (alloc_grown hg3)); clear ho3 hg3))
    refine (put_any w3 w.heap.size v3 (b ++ [k]) dat.length (by omega) (by simpa using HO3.out) (by simp; omega) HM3.out.size).mono ?_
    rintro e w4 ⟨v4, rfl, ho4, hg4, _⟩
    have HO4 := Lib.hid ho4
    have HM4 := Lib.hid (mk_own HM3.out HO3.out hg4)
    clear ho4 hg4
    have HL5 : Hid ((b ++ [k] ++ by4 dat.length ++ dat).length = b.length + (dat.length + 5)) := by show _ = _; simp [by4_length]; omega
    have HL4 : Hid ((b ++ [k] ++ by4 dat.length).length = b.length + 5) := by show _ = _; simp [by4_length]
    obtain ⟨x5, hx5⟩ : ∃ x5, x5 = b ++ [k] ++ by4 dat.length ++ dat := ⟨_, rfl⟩
    have HX5 := Lib.hid hx5
    have hl5 : x5.length = b.length + (dat.length + 5) := by rw [hx5]; exact HL5.out
    have hge5 : b.length + 5 ≤ x5.length := by omega
    have hle5 : x5.length ≤ 140737410000000 := by omega
    have HLx := Lib.hid hl5
    clear hl5 hx5
    go_wp2_with (at_builtin; refine wpList_append_bytes (P := Try.prog) Try.underlying22 info5 rfl (.tmp 31) (.tmp 32) rfl rfl HO4.out rfl (HD.out.mk HM4.out) (bv_one _) (by rw [HL4.out]; omega) HM4.out.size ?_; intro v5 w5 ho5 hg5 _ _; rw [← bv_append, ← List.length_append, ← HX5.out] at ho5; have HO5 := Lib.hid ho5; have HM5 := Lib.hid (mk_own HM4.out HO4.out hg5); clear ho5 hg5; obtain ⟨g5, c5, rfl, hc5, hm5, _, _⟩ := own_form HO5.out (by omega); have hcn : ¬ c5 = b.length := by omega)
    have HSB : Hid (Bs w5 (.slice (some ⟨g5, b.length, none⟩) (x5.length - b.length) (c5 - b.length)) (bodyOf k dat)) := by
      have := sub_some (own_sl HO5.out) rfl b.length x5.length (x5.length - b.length) (c5 - b.length) b.length (by omega) (by omega) rfl (by omega) (by omega) (by omega)
      rw [List.take_length, HX5.out] at this
      have e : (b ++ [k] ++ by4 dat.length ++ dat).drop b.length = bodyOf k dat := by simp [bodyOf]
      rw [e] at this
      rwa [HX5.out]
    refine (crc_any _ _ (bodyOf k dat) HSB.out (by simp [bodyOf, by4_length]; omega)).mono ?_
    rintro e w6 ⟨rfl, hm6⟩
    have HM6 := Lib.hid hm6
    clear hm6
    go_wp2_with fail
    refine (put_any w6 w.heap.size _ x5 (Fr.crc (bodyOf k dat)) (Fr.crc_lt _) (own_mk HO5.out HM6.out) (by omega) (mk_trans HM5.out HM6.out).size).mono ?_
    rintro e w7 ⟨v7, rfl, ho7, hg7, _⟩
    have HO7 := Lib.hid ho7
    have HM7 := Lib.hid (mk_own (mk_trans HM5.out HM6.out) (own_mk HO5.out HM6.out) hg7)
    clear ho7 hg7
    go_wp2_with fail
    go_ret2
    refine ⟨HM7.out, ?_⟩
    rw [if_neg hbig]
    have e : x5 ++ by4 (Fr.crc (bodyOf k dat)) = b ++ frm k dat := by rw [HX5.out]; simp [frm, bodyOf]
    have := HO7.out
    rw [e] at this
    exact ⟨_, rfl, this⟩

theorem lit1_own (w : World) (k : UInt8) : (w.alloc (.cells #[.int .u8 (k.toNat : Int)] 5)).ownsRow w.heap.size 5 1 (.slice (some ⟨w.heap.size, 0, none⟩) 1 1) ([k] : List UInt8).length (bv [k]) := lit_own w _ 5 (by simp [maxLen])

set_option maxRecDepth 100000 in
theorem Made_any (w : World) (d : Value) (dat : List UInt8) (k : UInt8) (hd : Bs w d dat) (hl : dat.length ≤ 4194304) :
    Calls Try.prog 77 #[.int .u8 (k.toNat : Int), d] w fun e w' => ∃ v, e = .returned v ∧ w'.ownsRow w.heap.size 5 1 v (frm k dat).length (bv (frm k dat)) ∧ Mk w w' := by
  obtain ⟨a2, cap2, rfl, hc3, hc4⟩ := hd.form
  have HD := Lib.hid hd
  clear hd hc3 hc4
  go_enter Try.func77, Try.ntmps77
  go_wp2_with fail
  refine (four_any _ w.heap.size _ [k] dat.length (by omega) (lit1_own w k) (by simp) (by simp)).mono ?_
  rintro e w1 ⟨v1, rfl, ho1, hg1, _⟩
  have HM1 := Lib.hid (mk_own (mk_alloc w _) (lit1_own w k) hg1)
  have HO1 := Lib.hid ho1
  clear ho1 hg1
  go_wp2_with (at_builtin; refine wpList_append_bytes (P := Try.prog) Try.underlying22 info5 rfl (.tmp 12) (.tmp 13) rfl rfl HO1.out rfl (HD.out.mk HM1.out) (bv_one _) (by simp [by4_length]; omega) HM1.out.size ?_; intro v2 w2 ho2 hg2 _ _; rw [← bv_append, ← List.length_append] at ho2; have HO2 := Lib.hid ho2; have HM2 := Lib.hid (mk_own HM1.out HO1.out hg2); clear ho2 hg2)
  refine (crcR_any _ _ (bodyOf k dat) (own_sl HO2.out) (by simp [bodyOf, by4_length]; omega)).mono ?_
  rintro e w3 ⟨rfl, rfl⟩
  go_wp2_with fail
  refine (four_any _ w.heap.size _ (bodyOf k dat) (Fr.crc (bodyOf k dat)) (Fr.crc_lt _) HO2.out (by simp [bodyOf, by4_length]; omega) HM2.out.size).mono ?_
  rintro e w4 ⟨v4, rfl, ho4, hg4, _⟩
  have HM4 := Lib.hid (mk_own HM2.out HO2.out hg4)
  have HO4 := Lib.hid ho4
  clear ho4 hg4
  go_wp2_with fail
  go_ret
  exact ⟨_, rfl, HO4.out, HM4.out⟩

set_option maxRecDepth 100000 in
theorem putR_any (w : World) (v d : Value) (b dat : List UInt8) (k : UInt8) (h : Bs w v b) (hd : Bs w d dat) (hb : b.length ≤ 140737400000000) (hl : dat.length ≤ 140737488355328) :
    Calls Try.prog 19 #[v, .int .u8 (k.toNat : Int), d] w (PutPost b k dat w) := by
  obtain ⟨a, cap, rfl, hc1, hc2⟩ := h.form
  obtain ⟨a2, cap2, rfl, hc3, hc4⟩ := hd.form
  have H := Lib.hid h
  have HD := Lib.hid hd
  have HB := Lib.hid hb
  have HL := Lib.hid hl
  clear h hd hc1 hc2 hc3 hc4 hb hl
  by_cases hbig : 4194304 < dat.length
  · go_enter Try.func19, Try.ntmps19
    go_wp2
    go_ret2
    exact ⟨mk_refl _, by rw [if_pos hbig]; rfl⟩
  · have hsm : dat.length ≤ 4194304 := by omega
    go_enter Try.func19, Try.ntmps19
    go_wp2_with (at_builtin; refine wpList_append_bytes (P := Try.prog) Try.underlying22 info5 rfl (.tmp 12) (.tmp 13) rfl rfl (World.ownsRow_nil w w.heap.size 5 1) rfl H.out (bv_one _) (by have := HB.out; omega) (Nat.le_refl _) ?_; intro v1 w1 ho1 hg1 _ _; rw [Nat.zero_add, List.nil_append] at ho1; have HO1 := Lib.hid ho1; have HM1 := Lib.hid (grown_mk hg1); clear ho1 hg1)
    refine (Made_any _ _ dat k (HD.out.mk HM1.out) hsm).mono ?_
    rintro e w2 ⟨v2, rfl, ho2, hm2⟩
    have HO2 := Lib.hid ho2
    have HM2 := Lib.hid hm2
    clear ho2 hm2
    go_wp2_with (at_builtin; refine wpList_append_bytes (P := Try.prog) Try.underlying22 info5 rfl (.tmp 15) (.tmp 18) rfl rfl (own_mk HO1.out HM2.out) rfl (own_sl HO2.out) (bv_one _) (by have := HB.out; rw [frm_length]; omega) (mk_trans HM1.out HM2.out).size ?_; intro v3 w3 ho3 hg3 _ _; rw [← bv_append, ← List.length_append] at ho3; have HO3 := Lib.hid ho3; have HM3 := Lib.hid (mk_own (mk_trans HM1.out HM2.out) (own_mk HO1.out HM2.out) hg3); clear ho3 hg3)
    go_ret2
    exact ⟨HM3.out, by rw [if_neg hbig]; exact ⟨_, rfl, HO3.out⟩⟩
end Go.Proofs.FrW
