/- Layer 6, wal: the walk of WalAny. Layer 6, wal: the walk of WalAny. Layer 6, wal: the document's log: Weight, fits, dead, Bytes, Cap, Slots, Generation, Fits; its numbers as bytes. Layer 6, wal: the document's numbers as bytes, frames, heads. -/
import Derived.Test.YtcfjdldlcdomgaaMWalPlays23
set_option linter.unusedVariables false
set_option linter.unusedSimpArgs false
namespace Go.Proofs.WlW
open Go Go.RowKit Go.Tk Go.Dk Go.Sp Go.Proofs.DkW

theorem fall_len (s : St) (kl : List Int) (g : Nat) : ((s.fall kl).file g).1.length ≤ (s.file g).1.length := by
  unfold St.fall St.file
  simp only [List.getD_eq_getElem?_getD, List.getElem?_mapIdx]
  cases s.files[g]? with
  | none => simp
  | some x => simp [fallFile, List.length_take]; omega
theorem trunc_len (s : St) (f n : Int) (g : Nat) : ((s.truncate f n).1.file g).1.length ≤ (s.file g).1.length := by
  unfold St.truncate
  split
  · exact Nat.le_refl _
  · split
    · exact Nat.le_refl _
    · split
      · exact Nat.le_refl _
      · split
        · exact fall_len s.lit _ g
        · unfold St.put St.lit St.file
          simp only [List.getD_eq_getElem?_getD, List.getElem?_set]
          by_cases hg : f.toNat = g
          · subst hg
            rw [if_pos rfl]
            by_cases hl : f.toNat < s.files.length
            · rw [if_pos hl, List.getElem?_eq_getElem hl]; simp [List.length_take]; omega
            · rw [if_neg hl, List.getElem?_eq_none (by omega)]; simp
          · rw [if_neg hg]; exact Nat.le_refl _
theorem cutP_len (s : St) (live wh : Nat) (g : Nat) : ((cutP s live wh).1.file g).1.length ≤ (s.file g).1.length := by
  unfold cutP
  simp only
  by_cases hA : wh < (s.file live).1.length
  · rw [if_pos hA]
    have h1 := trunc_len s live wh g
    split
    · exact h1
    · split
      · exact Nat.le_trans (trunc_len _ _ _ _) h1
      · exact h1
  · rw [if_neg hA, if_neg (by simp)]
    split
    · exact trunc_len _ _ _ _
    · exact Nat.le_refl _
theorem cutP_ok {s : St} {M : Nat} (h : s.Ok M) (live wh : Nat) : (cutP s live wh).1.Ok (M + 2) := by
  unfold cutP
  simp only
  by_cases hA : wh < (s.file live).1.length
  · rw [if_pos hA]
    have h1 := truncate_ok h (live : Int) (wh : Int)
    split
    · exact Ok_mono h1 (by omega)
    · split
      · exact truncate_ok h1 _ _
      · exact Ok_mono h1 (by omega)
  · rw [if_neg hA, if_neg (by simp)]
    split
    · exact Ok_mono (truncate_ok h _ _) (by omega)
    · exact Ok_mono h (by omega)
theorem openP_same (s : St) : (openP s).1 = s ∨ ∃ live wh, (openP s).1 = (cutP s live wh).1 := by
  unfold openP
  split
  · exact .inl rfl
  · split
    · exact .inl rfl
    · simp only []
      split
      · exact .inl rfl
      · split <;> exact .inr ⟨_, _, rfl⟩
theorem openP_ok {s : St} {M : Nat} (h : s.Ok M) : (openP s).1.Ok (M + 2) := by
  rcases openP_same s with e | ⟨l, wh, e⟩ <;> rw [e]
  · exact Ok_mono h (by omega)
  · exact cutP_ok h _ _
theorem openP_len (s : St) (g : Nat) : ((openP s).1.file g).1.length ≤ (s.file g).1.length := by
  rcases openP_same s with e | ⟨l, wh, e⟩ <;> rw [e]
  · exact Nat.le_refl _
  · exact cutP_len _ _ _ _
theorem append_len (s : St) (f : Int) (b : List UInt8) (g : Nat) : ((s.append f b).1.file g).1.length ≤ (s.file g).1.length + b.length := by
  have put : ((s.lit.put f.toNat ((s.file f.toNat).1 ++ b, (s.file f.toNat).2)).file g).1.length ≤ (s.file g).1.length + b.length := by
    unfold St.put St.lit St.file
    simp only [List.getD_eq_getElem?_getD, List.getElem?_set]
    by_cases hg : f.toNat = g
    · subst hg
      rw [if_pos rfl]
      by_cases hl : f.toNat < s.files.length
      · rw [if_pos hl, List.getElem?_eq_getElem hl]; simp
      · rw [if_neg hl, List.getElem?_eq_none (by omega)]; simp
    · rw [if_neg hg]; exact Nat.le_add_right _ _
  unfold St.append
  split
  · exact Nat.le_add_right _ _
  · split
    · exact Nat.le_add_right _ _
    · split
      · exact Nat.le_add_right _ _
      · split
        · exact Nat.le_trans (fall_len _ _ g) put
        · exact put
end Go.Proofs.WlW

namespace Go.Proofs.WlW
open Go Go.RowKit Go.Tk Go.Dk Go.Sp Go.Proofs.DkW

theorem WDk.of {S T : Nat → Prop} {w : World} {gw p q : Nat} {lv mv : Value} {st : St} (h : WDk S T w gw p q lv mv st) : PD S w p st ∧ RD T w q st ∧ Bk w gw 91 (gwC p q lv mv) ∧ (∀ k, S k ∨ T k → k < w.heap.size) ∧ (∀ k, S k → ¬ T k) ∧ ¬ S gw ∧ ¬ T gw := ⟨h.pd, h.rd, h.blk, h.lt, h.dis, h.ne⟩
theorem gw_0 {w : World} {gw p q : Nat} {lv mv : Value} (h : Bk w gw 91 (gwC p q lv mv)) : w.cell? ⟨gw, 0, none⟩ = some (.pointer (some ⟨p, 0, none⟩)) := (h.cell 0).trans rfl
theorem gw_2 {w : World} {gw p q : Nat} {lv mv : Value} (h : Bk w gw 91 (gwC p q lv mv)) : w.cell? ⟨gw, 2, none⟩ = some (.pointer (some ⟨q, 0, none⟩)) := (h.cell 2).trans rfl
set_option maxHeartbeats 4000000 in
set_option maxRecDepth 100000 in
theorem walAny_any (w : World) (v1 v2 : Value) (xs ys : List UInt8) (h1 : Bs w v1 xs) (h2 : Bs w v2 ys) (hx : xs.length ≤ 140737488355328) (hy : ys.length ≤ 140737488355328) :
    Calls Try.prog 10 #[v1, v2] w fun e w' => e = .returned (.bool true) ∧ Mk w w' := by
  obtain ⟨a1, c1, rfl, hc1, hc1'⟩ := h1.form
  obtain ⟨a2, c2, rfl, hc2, hc2'⟩ := h2.form
  have H1 := Lib.hid h1; have H2 := Lib.hid h2; have Hc1' := Lib.hid hc1'; have Hc2' := Lib.hid hc2'; clear h1 h2 hc1' hc2'
  go_enter Try.func10, Try.ntmps10
  go_wp2_with fail
  refine (wshown_any w).mono ?_
  rintro e w1 ⟨rfl, hm1⟩
  have Hm1 := Lib.hid hm1; clear hm1
  go_wp2_with fail
  refine (born_any w1 2 (by decide) (by decide)).mono ?_
  rintro e w2 ⟨gw, p, q, S, T, rfl, hd, hm2, hbase⟩
  have hmw := mk_trans Hm1.out hm2
  have hz1 := Hm1.out.size
  have hb0 : ∀ k, S k ∨ T k ∨ k = gw → w.heap.size ≤ k := fun k hk => by have := hbase k hk; omega
  have Hd := Lib.hid hd; have Hmw := Lib.hid hmw; have Hb0 := Lib.hid hb0; clear hd hmw hb0
  clear hm2 hbase Hm1
  go_upto_if 18 with fail
  go_cut [0] (fun s0 wx => wx = w2 ∧ ∃ (a : Option Addr) (c : Nat) (xs' : List UInt8), s0 = .slice a xs'.length c ∧ xs'.length ≤ 5000 ∧ Bs w s0 xs')
  case first =>
    by_cases hl : 5000 < xs.length
    · have hl2 : decide ((5000 : Int) < (xs.length : Int)) = true := by simp; omega
      go_wp2_with fail
      go_meet
      have := FrW.Sl.taken H1.out 5000 (by omega)
      have e : (xs.take 5000).length = 5000 := by simp; omega
      exact ⟨rfl, _, _, xs.take 5000, by rw [e], by omega, this⟩
    · have hl2 : decide ((5000 : Int) < (xs.length : Int)) = false := by simp; omega
      go_wp2_with fail
      go_meet
      exact ⟨rfl, _, _, xs, rfl, by omega, H1.out⟩
  case rest =>
    obtain ⟨rfl, a, c, zs, rfl, hzl, hz⟩ := hcut
    have Hz := Lib.hid hz; clear hz
    go_upto_if 23 with fail
    go_cut [1] (fun s1 wx => wx = wc ∧ ∃ (a : Option Addr) (c : Nat) (xs' : List UInt8), s1 = .slice a xs'.length c ∧ xs'.length ≤ 5000 ∧ Bs w s1 xs')
    case first =>
      by_cases hl : 5000 < ys.length
      · have hl2 : decide ((5000 : Int) < (ys.length : Int)) = true := by simp; omega
        go_wp2_with fail
        go_meet
        have := FrW.Sl.taken H2.out 5000 (by omega)
        have e : (ys.take 5000).length = 5000 := by simp; omega
        exact ⟨rfl, _, _, ys.take 5000, by rw [e], by omega, this⟩
      · have hl2 : decide ((5000 : Int) < (ys.length : Int)) = false := by simp; omega
        go_wp2_with fail
        go_meet
        exact ⟨rfl, _, _, ys, rfl, by omega, H2.out⟩
    case rest =>
      obtain ⟨rfl, a', c', zs', rfl, hzl', hz'⟩ := hcut
      obtain ⟨hp0, hr0, hb0', hlt, hdis, hneS, hneT⟩ := Hd.out.of
      have hbz := hb0'.lt
      have hmw' := Hmw.out
      have hzw := hmw'.size
      have hoz : ∀ (v : Value) (ys : List UInt8), Bs w v ys → ∀ k, 0 < ys.length → v.ownBlock = some k → k < w.heap.size := fun v ys h k hl hk => by
        obtain ⟨_, a, cap, rfl, _, _, _, h4⟩ := h
        obtain ⟨b, off, rfl, hd⟩ := h4 hl
        cases hk
        exact World.block_lt_of_cell? w _ (hd 0 _ (bv_get ys 0 hl))
      have hkeep : ∀ {w' : World} {U : Nat → Prop} {v : Value} {ys : List UInt8}, Bs w v ys → Chg U w w' → (∀ k, U k → w.heap.size ≤ k) → Bs w' v ys := fun h hc hU => bs_keep h hc fun k hk h0 hl e => by have := hU k e; omega
      have hA0 : (fresh 2).Ok 0 := fresh_ok 2 (by decide) (by decide)
      obtain ⟨s1, e1, hs1⟩ : ∃ a b, (fresh 2).append 0 zs = (a, b) := ⟨_, _, rfl⟩
      obtain ⟨s2, e2, hs2⟩ : ∃ a b, s1.append 1 zs' = (a, b) := ⟨_, _, rfl⟩
      have hA1 := append_ok hA0 0 zs
      rw [hs1] at hA1
      have hA2 := append_ok hA1 1 zs'
      rw [hs2] at hA2
      have hlen2 : ∀ f, (s2.file f).1.length ≤ 1048576 := fun f => by
        have a1 := append_len (fresh 2) 0 zs f
        have a2 := append_len s1 1 zs' f
        rw [hs1] at a1
        rw [hs2] at a2
        dsimp only at a1 a2
        have a3 : ((fresh 2).file f).1.length = 0 := by
          simp only [Dk.fresh, St.file, List.getD_eq_getElem?_getD, List.getElem?_replicate]
          split <;> rfl
        omega
      have c0 := gw_0 hb0'
      have hB : ∀ k, S k → w.heap.size ≤ k := fun k hk => Hb0.out k (.inl hk)
      have hBT : ∀ k, T k → w.heap.size ≤ k := fun k hk => Hb0.out k (.inr (.inl hk))
      have hgw : w.heap.size ≤ gw := Hb0.out gw (.inr (.inr rfl))
      have hap1 := append_any0 hp0 hA0 (by decide) 0 (.slice a zs.length c) zs (Hz.out.mk hmw') (by omega) (fun k hk h0 e hs => by have := hoz _ _ Hz.out k h0 e; have := hB k hs; omega)
      rw [hs1] at hap1
      clear hkeep
      have Hp0 := Lib.hid hp0; have Hr0 := Lib.hid hr0; have Hb0' := Lib.hid hb0'; have Hlt := Lib.hid hlt; have Hdis := Lib.hid hdis; have HneS := Lib.hid hneS; have HneT := Lib.hid hneT; have Hmw' := Lib.hid hmw'; have Hoz := Lib.hid hoz; have Hs1 := Lib.hid hs1; have Hs2 := Lib.hid hs2; have HA1 := Lib.hid hA1; have HA2 := Lib.hid hA2; have Hlen2 := Lib.hid hlen2; have HB := Lib.hid hB; have HBT := Lib.hid hBT; have Hap1 := Lib.hid hap1; clear hp0 hr0 hb0' hlt hdis hneS hneT hmw' hoz hs1 hs2 hA1 hA2 hlen2 hB hBT hap1
      go_wp2_with fail
      refine Hap1.out.mono ?_
      rintro e w3 ⟨rfl, hp1, hc1⟩
      have hz3 := hc1.size
      have hb1 := Hb0'.out.keep hc1 HneS.out
      have hpt1 := PD.trim hp1
      have hM1 : Chg (fun k => w.heap.size ≤ k) w w3 := Chg.trans (Chg.of_mk Hmw'.out) hc1 (fun k _ e => HB.out k e)
      have c0' := gw_0 hb1
      have hap2 := append_any0 hpt1 HA1.out (by decide) 1 (.slice a' zs'.length c') zs' (bs_keep hz' hM1 fun k hk h0 hl e => by omega) (by omega) (fun k hk h0 e hs => by
        have := Hoz.out _ _ hz' k h0 e
        rcases hs.1 with hs | hs
        · have := HB.out k hs; omega
        · omega)
      rw [Hs2.out] at hap2
      have hr1 := Hr0.out.keep hc1 (fun k _ ht hs => Hdis.out k hs ht)
      have Hp1 := Lib.hid hp1; have Hc1 := Lib.hid hc1; have Hb1 := Lib.hid hb1; have Hpt1 := Lib.hid hpt1; have HM1 := Lib.hid hM1; have Hap2 := Lib.hid hap2; have Hr1 := Lib.hid hr1; clear hp1 hc1 hb1 hpt1 hM1 hap2 hr1
      go_wp2_with fail
      refine Hap2.out.mono ?_
      rintro e w4 ⟨rfl, hp2, hc2⟩
      have hz4 := hc2.size
      have hS1 : ∀ k, k < wc.heap.size → (Gw S wc k ∧ k < w3.heap.size) → S k := fun k hk e => e.1.elim id (fun e => by omega)
      have hb2 := Hb1.out.keep hc2 (fun e => HneS.out (hS1 gw hbz e))
      have hpt2 := PD.trim hp2
      have hM2 : Chg (fun k => w.heap.size ≤ k) w w4 := Chg.trans HM1.out hc2 (fun k _ e => e.1.elim (HB.out k) (fun e => by omega))
      have hr2 := Hr1.out.keep hc2 (fun k _ ht hs => Hdis.out k (hS1 k (Hlt.out k (.inr ht)) hs) ht)
      have c2 := gw_2 hb2
      have hap3 := rappend_any0 hr2 (fresh_ok 2 (by decide) (by decide)) (by decide) 0 (.slice a zs.length c) zs (bs_keep Hz.out hM2 fun k hk h0 hl e => by omega) (by omega) (fun k hk h0 e hs => by have := Hoz.out _ _ Hz.out k h0 e; have := HBT.out k hs; omega)
      rw [Hs1.out] at hap3
      have Hp2 := Lib.hid hp2; have Hc2 := Lib.hid hc2; have Hb2 := Lib.hid hb2; have Hpt2 := Lib.hid hpt2; have HM2 := Lib.hid hM2; have Hr2 := Lib.hid hr2; have Hap3 := Lib.hid hap3; clear hp2 hc2 hb2 hpt2 hM2 hr2 hap3
      go_wp2_with fail
      refine Hap3.out.mono ?_
      rintro e w5 ⟨rfl, hq1, hc3⟩
      have hz5 := hc3.size
      have hb3 := Hb2.out.keep hc3 HneT.out
      have hqt1 := RD.trim hq1
      have hM3 : Chg (fun k => w.heap.size ≤ k) w w5 := Chg.trans HM2.out hc3 (fun k _ e => HBT.out k e)
      have hS2 : ∀ k, (Gw (fun k => Gw S wc k ∧ k < w3.heap.size) w3 k ∧ k < w4.heap.size) → S k ∨ wc.heap.size ≤ k := fun k e => e.1.elim (fun e => e.1) (fun e => .inr (by omega))
      have hpt3 := Hpt2.out.keep hc3 (fun k _ hs ht => by have := Hlt.out k (.inr ht); exact (hS2 k hs).elim (fun e => Hdis.out k e ht) (fun e => by omega))
      have c2' := gw_2 hb3
      have hap4 := rappend_any0 hqt1 HA1.out (by decide) 1 (.slice a' zs'.length c') zs' (bs_keep hz' hM3 fun k hk h0 hl e => by omega) (by omega) (fun k hk h0 e hs => by
        have := Hoz.out _ _ hz' k h0 e
        rcases hs.1 with hs | hs
        · have := HBT.out k hs; omega
        · omega)
      rw [Hs2.out] at hap4
      have Hq1 := Lib.hid hq1; have Hc3 := Lib.hid hc3; have Hb3 := Lib.hid hb3; have Hqt1 := Lib.hid hqt1; have HM3 := Lib.hid hM3; have Hpt3 := Lib.hid hpt3; have Hap4 := Lib.hid hap4; have HS2 := Lib.hid hS2; clear hq1 hc3 hb3 hqt1 hM3 hpt3 hap4 hS2
      go_wp2_with fail
      refine Hap4.out.mono ?_
      rintro e w6 ⟨rfl, hq2, hc4⟩
      have hz6 := hc4.size
      have hT1 : ∀ k, (Gw T w4 k ∧ k < w5.heap.size) → T k ∨ w4.heap.size ≤ k := fun k e => e.1
      have hb4 := Hb3.out.keep hc4 (fun e => (hT1 gw e).elim HneT.out (fun e => by omega))
      have hpt4 := Hpt3.out.keep hc4 (fun k _ hs ht => (hT1 k ht).elim (fun ht => by have := Hlt.out k (.inr ht); exact (HS2.out k hs).elim (fun e => Hdis.out k e ht) (fun e => by omega)) (fun e => by have := hs.2; omega))
      have hqt2 := RD.trim hq2
      have hT2 : ∀ k, (Gw (fun k => Gw T w4 k ∧ k < w5.heap.size) w5 k ∧ k < w6.heap.size) → T k ∨ w4.heap.size ≤ k := fun k e => e.1.elim (hT1 k) (fun e => .inr (by omega))
      have hM4 : Chg (fun k => w.heap.size ≤ k) w w6 := Chg.trans HM3.out hc4 (fun k _ e => (hT1 k e).elim (HBT.out k) (fun e => by omega))
      have hW : WDk (fun k => Gw (fun k => Gw S wc k ∧ k < w3.heap.size) w3 k ∧ k < w4.heap.size) (fun k => Gw (fun k => Gw T w4 k ∧ k < w5.heap.size) w5 k ∧ k < w6.heap.size) w6 gw p q (.pointer none) (.pointer none) s2 := by
        refine ⟨hpt4, hqt2, hb4, fun k hk => hk.elim (fun e => by have := e.2; omega) (fun e => e.2), fun k hs ht => ?_, ?_, ?_⟩
        · rcases HS2.out k hs with h1 | h1
          · rcases hT2 k ht with h2 | h2
            · exact Hdis.out k h1 h2
            · have := Hlt.out k (.inl h1); omega
          · rcases hT2 k ht with h2 | h2
            · have := Hlt.out k (.inr h2); omega
            · have := hs.2; omega
        · intro e; rcases HS2.out gw e with e | e
          · exact HneS.out e
          · omega
        · intro e; rcases hT2 gw e with e | e
          · exact HneT.out e
          · omega
      have hW0 : ∀ k, (Gw (fun k => Gw S wc k ∧ k < w3.heap.size) w3 k ∧ k < w4.heap.size) ∨ (Gw (fun k => Gw T w4 k ∧ k < w5.heap.size) w5 k ∧ k < w6.heap.size) ∨ k = gw → w.heap.size ≤ k := fun k hk => by
        rcases hk with hk | hk | hk
        · exact (HS2.out k hk).elim (HB.out k) (fun e => by omega)
        · exact (hT2 k hk).elim (HBT.out k) (fun e => by omega)
        · omega
      have Hq2 := Lib.hid hq2; have Hc4 := Lib.hid hc4; have Hb4 := Lib.hid hb4; have HM4 := Lib.hid hM4; have HW := Lib.hid hW; have HW0 := Lib.hid hW0; clear hq2 hc4 hb4 hM4 hW hW0
      clear hpt4 hqt2 hT1 hT2
      go_wp2_with fail
      go_loopw [8] (fun i wr => ∃ (k : Nat) (S T : Nat → Prop) (lv mv : Value) (st : St), i = .int .i64 (k : Int) ∧ k ≤ 2 ∧ WDk S T wr gw p q lv mv st ∧ st.Ok (2 + 2 * k) ∧ (∀ f, (st.file f).1.length ≤ 1048576) ∧ (∀ x, S x ∨ T x ∨ x = gw → w.heap.size ≤ x) ∧ Chg (fun x => w.heap.size ≤ x) w wr) (fun i _ => 2 - (intOf i).toNat)
      case atStart => exact ⟨0, _, _, _, _, s2, rfl, by omega, HW.out, HA2.out, Hlen2.out, HW0.out, HM4.out⟩
      case round =>
        obtain ⟨k, S', T', lv, mv, st, rfl, hk, hwd, hok, hlen, hx0, hcg⟩ := hrel
        by_cases hlt2 : k < 2
        · have hops := opens_any hwd hok (by omega) hlen
          have hok' := openP_ok hok
          have hlen' : ∀ f, ((openP st).1.file f).1.length ≤ 1048576 := fun f => Nat.le_trans (openP_len st f) (hlen f)
          have Hwd := Lib.hid hwd; have Hok := Lib.hid hok; have Hlen := Lib.hid hlen; have Hx0 := Lib.hid hx0; have Hcg := Lib.hid hcg; have Hops := Lib.hid hops; have Hok' := Lib.hid hok'; have Hlen' := Lib.hid hlen'; clear hwd hok hlen hx0 hcg hops hok' hlen'
          go_wp2_with fail
          refine Hops.out.mono ?_
          rintro e w7 ⟨rfl, lv', mv', hwd', _, hc7⟩
          have hfl := files_any hwd' Hok'.out
          have Hwd' := Lib.hid hwd'; have Hc7 := Lib.hid hc7; have Hfl := Lib.hid hfl; clear hwd' hc7 hfl
          go_wp2_with fail
          refine Hfl.out.mono ?_
          rintro e w8 ⟨rfl, hm8⟩
          have Hm8 := Lib.hid hm8; clear hm8
          go_wp2_with fail
          go_roundw
          case rel => exact ⟨k + 1, S', T', lv', mv', _, by go_num, by omega, Hwd'.out.made Hm8.out, Ok_mono Hok'.out (by omega), Hlen'.out, Hx0.out, (Chg.trans Hcg.out Hc7.out (fun x _ e => Hx0.out x e)).thenMk Hm8.out⟩
          case measure => simp [intOf]; omega
        · have hk2 : (k : Int) = 2 := by omega
          have Hwd := Lib.hid hwd; have Hok := Lib.hid hok; have Hlen := Lib.hid hlen; have Hx0 := Lib.hid hx0; have Hcg := Lib.hid hcg; have Hk2 := Lib.hid hk2; clear hwd hok hlen hx0 hcg hk2
          go_wp2_with fail
          go_ret
          exact ⟨rfl, Hcg.out.to_mk fun x hx e => by omega⟩
theorem walAny_walk (w : World) (v1 : Value) (xs : List UInt8) (h1 : Bs w v1 xs) (hx : xs.length ≤ 1048576) (v2 : Value) (ys : List UInt8) (h2 : Bs w v2 ys) (hy : ys.length ≤ 1048576) :
    Calls Try.prog 10 #[v1, v2] w fun e w' => e = .returned (.bool true) ∧ Mk w w' := walAny_any w v1 v2 xs ys h1 h2 (by omega) (by omega)
end Go.Proofs.WlW

namespace Go.Proofs.WlW
open Go Go.RowKit Go.Tk Go.Dk Go.Sp Go.Proofs.DkW

theorem rweight_any (w : World) (n : Int) : Calls Try.prog 161 #[.int .i64 n] w fun e w' => e = .returned (.int .i64 (weight n)) ∧ w = w' := by
  by_cases h1 : n < 0
  · have H : Hid (weight n = 0) := by show _ = _; simp [weight, h1]
    have d1 : decide (n < 0) = true := by simpa using h1
    go_enter Try.func161, Try.ntmps161
    go_wp2
    go_ret
    rw [H.out]; exact ⟨rfl, rfl⟩
  · have d1 : decide (n < 0) = false := by simpa using h1
    by_cases h2 : 4194280 < n
    · have H : Hid (weight n = 0) := by show _ = _; simp [weight, h2]
      have d2 : decide (4194280 < n) = true := by simpa using h2
      go_enter Try.func161, Try.ntmps161
      go_wp2
      go_ret
      rw [H.out]; exact ⟨rfl, rfl⟩
    · have H : Hid (weight n = n + 33) := by show _ = _; unfold weight; rw [if_neg (by omega)]
      have d2 : decide (4194280 < n) = false := by simpa using h2
      go_enter Try.func161, Try.ntmps161
      go_wp2
      go_ret
      rw [H.out]; exact ⟨rfl, rfl⟩
def fitW (n size : Int) : Bool := decide (0 < weight n) && decide (weight n ≤ size)
theorem rfitw_any (w : World) (n size : Int) : Calls Try.prog 152 #[.int .i64 n, .int .i64 size] w fun e w' => e = .returned (.bool (fitW n size)) ∧ w = w' := by
  have hw := rweight_any w n
  have hF : fitW n size = (decide (0 < weight n) && decide (weight n ≤ size)) := rfl
  generalize weight n = z at *
  by_cases h1 : 0 < z
  · have d1 : decide (0 < z) = true := by simpa using h1
    obtain ⟨b, hb⟩ : ∃ b, decide (z ≤ size) = b := ⟨_, rfl⟩
    rw [d1, hb] at hF
    have Hw := Lib.hid hw; have HF := Lib.hid hF; clear hw hF
    go_enter Try.func152, Try.ntmps152
    go_wp2_with (go_at_call 161; refine Hw.out.mono ?_; rintro e w' ⟨rfl, rfl⟩)
    go_ret
    rw [HF.out]; exact ⟨rfl, rfl⟩
  · have d1 : decide (0 < z) = false := by simpa using h1
    rw [d1] at hF
    have Hw := Lib.hid hw; have HF := Lib.hid hF; clear hw hF
    go_enter Try.func152, Try.ntmps152
    go_wp2_with (go_at_call 161; refine Hw.out.mono ?_; rintro e w' ⟨rfl, rfl⟩)
    go_ret
    rw [HF.out]; exact ⟨rfl, rfl⟩
def rsizeL (st : St) (L : Lg) : Int := if deadB st L then 0 else st.size L.live
section
variable {S : Nat → Prop} {w : World} {g q : Nat} {st : St} {L : Lg} {sv : Value}
theorem rl_0 (h : Bk w g 204 (rlC q L sv)) : w.cell? ⟨g, 0, none⟩ = some (.pointer (some ⟨q, 0, none⟩)) := (h.cell 0).trans rfl
theorem rl_1 (h : Bk w g 204 (rlC q L sv)) : w.cell? ⟨g, 1, none⟩ = some (.int .i64 (L.falls : Int)) := (h.cell 1).trans rfl
theorem rl_2 (h : Bk w g 204 (rlC q L sv)) : w.cell? ⟨g, 2, none⟩ = some (.int .i64 (L.live : Int)) := (h.cell 2).trans rfl
theorem rl_3 (h : Bk w g 204 (rlC q L sv)) : w.cell? ⟨g, 3, none⟩ = some (.int .u64 (L.gen : Int)) := (h.cell 3).trans rfl
theorem rl_4 (h : Bk w g 204 (rlC q L sv)) : w.cell? ⟨g, 4, none⟩ = some (.int .i64 (L.cap : Int)) := (h.cell 4).trans rfl
theorem rl_5 (h : Bk w g 204 (rlC q L sv)) : w.cell? ⟨g, 5, none⟩ = some (.int .i64 (L.slots : Int)) := (h.cell 5).trans rfl
theorem rl_6 (h : Bk w g 204 (rlC q L sv)) : w.cell? ⟨g, 6, none⟩ = some sv := (h.cell 6).trans rfl
theorem rlcap_any (hb : Bk w g 204 (rlC q L sv)) : Calls Try.prog 158 #[.pointer (some ⟨g, 0, none⟩)] w fun e w' => e = .returned (.int .i64 (L.cap : Int)) ∧ w = w' := by
  have c1 := rl_4 hb
  clear hb
  go_enter Try.func158, Try.ntmps158
  go_wp2
  go_ret
  exact ⟨rfl, rfl⟩
theorem rlslots_any (hb : Bk w g 204 (rlC q L sv)) : Calls Try.prog 159 #[.pointer (some ⟨g, 0, none⟩)] w fun e w' => e = .returned (.int .i64 (L.slots : Int)) ∧ w = w' := by
  have c1 := rl_5 hb
  clear hb
  go_enter Try.func159, Try.ntmps159
  go_wp2
  go_ret
  exact ⟨rfl, rfl⟩
theorem rlgen_any (hb : Bk w g 204 (rlC q L sv)) : Calls Try.prog 160 #[.pointer (some ⟨g, 0, none⟩)] w fun e w' => e = .returned (.int .u64 (L.gen : Int)) ∧ w = w' := by
  have c1 := rl_3 hb
  clear hb
  go_enter Try.func160, Try.ntmps160
  go_wp2
  go_ret
  exact ⟨rfl, rfl⟩
set_option maxHeartbeats 1000000 in
theorem rldead_any (hb : Bk w g 204 (rlC q L sv)) (h : RD S w q st) : Calls Try.prog 154 #[.pointer (some ⟨g, 0, none⟩)] w fun e w' => e = .returned (.bool (deadB st L)) ∧ ∃ m, w.drewN m = w' := by
  have c0 := rl_0 hb
  have c1 := rl_1 hb
  have hf := RD.fl h
  obtain ⟨b, hq⟩ : ∃ b, ((st.falls : Int) != (L.falls : Int)) = b := ⟨_, rfl⟩
  have hd : deadB st L = b := hq
  have Hb := Lib.hid hb; have H := Lib.hid h; have Hd := Lib.hid hd; clear hb h hd
  go_enter Try.func154, Try.ntmps154
  go_wp2
  go_quiet (fail)
  go_wp2
  go_ret
  rw [Hd.out]
  exact ⟨rfl, _, rfl⟩
set_option maxHeartbeats 1000000 in
theorem rlbytes_any (hb : Bk w g 204 (rlC q L sv)) (h : RD S w q st) : Calls Try.prog 157 #[.pointer (some ⟨g, 0, none⟩)] w fun e w' => e = .returned (.int .i64 (rsizeL st L)) ∧ ∃ m, w.drewN m = w' := by
  have hf := rldead_any hb h
  obtain ⟨b, hd⟩ : ∃ b, deadB st L = b := ⟨_, rfl⟩
  rw [hd] at hf
  have hs : rsizeL st L = if b then 0 else st.size L.live := by unfold rsizeL; rw [hd]
  cases b
  · have Hf := Lib.hid hf; have Hb := Lib.hid hb; have H := Lib.hid h; have Hd := Lib.hid hd; have Hs := Lib.hid hs; clear hf hb h hd hs
    go_enter Try.func157, Try.ntmps157
    go_wp2_with fail
    refine Hf.out.mono ?_
    rintro e W ⟨rfl, m, hm⟩
    have hmk : Mk w W := hm ▸ mk_drewN w m
    have c0 := rl_0 (Hb.out.mk hmk)
    have c2 := rl_2 (Hb.out.mk hmk)
    have hsz := fun n => rsize_any (L.live : Int) (H.out.made (mk_trans hmk (mk_drewN W n)))
    have Hm := Lib.hid hm; have Hmk := Lib.hid hmk; have Hsz := Lib.hid hsz; clear hm hmk hsz
    go_wp2_with fail
    go_quiet ((go_at_call 102; exact q_same (Hsz.out _)))
    go_wp2
    go_ret
    rw [Hs.out]
    exact ⟨rfl, m + nq, by rw [← World.drewN_drewN, Hm.out]⟩
  · have Hf := Lib.hid hf; have Hb := Lib.hid hb; have H := Lib.hid h; have Hd := Lib.hid hd; have Hs := Lib.hid hs; clear hf hb h hd hs
    go_enter Try.func157, Try.ntmps157
    go_wp2_with fail
    refine Hf.out.mono ?_
    rintro e w' ⟨rfl, m, rfl⟩
    go_wp2
    go_ret
    rw [Hs.out]
    exact ⟨rfl, _, rfl⟩
def rfitsB (st : St) (L : Lg) (n : Int) : Bool := decide (0 ≤ n) && decide (n ≤ 4194304) && decide (rsizeL st L + n + 9 ≤ (L.cap : Int))
set_option maxHeartbeats 1000000 in
theorem rlfits_any (hb : Bk w g 204 (rlC q L sv)) (h : RD S w q st) (hs : rsizeL st L ≤ 1000000000 ∧ -1 ≤ rsizeL st L) (n : Int) : Calls Try.prog 155 #[.pointer (some ⟨g, 0, none⟩), .int .i64 n] w fun e w' => e = .returned (.bool (rfitsB st L n)) ∧ ∃ m, w.drewN m = w' := by
  have c1 := rl_4 hb
  have hf := fun n => rlbytes_any (hb.drewN n) (h.made (mk_drewN w n))
  obtain ⟨z, hz⟩ : ∃ z, rsizeL st L = z := ⟨_, rfl⟩
  rw [hz] at hs
  simp only [hz] at hf
  by_cases h1 : 0 ≤ n
  · by_cases h2 : n ≤ 4194304
    · have hF : rfitsB st L n = decide (z + n + 9 ≤ (L.cap : Int)) := by unfold rfitsB; rw [hz]; simp [h1, h2]
      obtain ⟨b, hb2⟩ : ∃ b, decide (z + n + 9 ≤ (L.cap : Int)) = b := ⟨_, rfl⟩
      rw [hb2] at hF
      have d1 : decide (0 ≤ n) = true := by simpa using h1
      have d2 : decide (n ≤ 4194304) = true := by simpa using h2
      have hw : IntKind.i64.wrap (z + n) = z + n := IntWalk.i64_in _ (by omega)
      have hw2 : IntKind.i64.wrap (z + n + 9) = z + n + 9 := IntWalk.i64_in _ (by omega)
      have Hf := Lib.hid hf; have Hb := Lib.hid hb; have H := Lib.hid h; have Hz := Lib.hid hz; have HF := Lib.hid hF; clear hf hb h hz hF
      go_enter Try.func155, Try.ntmps155
      go_wp2
      go_quiet ((go_at_call 157; exact q_drew (Hf.out _)))
      go_wp2
      go_ret
      rw [HF.out]
      exact ⟨rfl, _, rfl⟩
    · have hF : rfitsB st L n = false := by unfold rfitsB; simp [h2]
      have d1 : decide (0 ≤ n) = true := by simpa using h1
      have d2 : decide (n ≤ 4194304) = false := by simpa using h2
      have Hf := Lib.hid hf; have Hb := Lib.hid hb; have H := Lib.hid h; have Hz := Lib.hid hz; have HF := Lib.hid hF; clear hf hb h hz hF
      go_enter Try.func155, Try.ntmps155
      go_wp2
      go_quiet (fail)
      go_wp2
      go_ret
      rw [HF.out]
      exact ⟨rfl, _, rfl⟩
  · have hF : rfitsB st L n = false := by unfold rfitsB; simp [h1]
    have d1 : decide (0 ≤ n) = false := by simpa using h1
    have Hf := Lib.hid hf; have Hb := Lib.hid hb; have H := Lib.hid h; have Hz := Lib.hid hz; have HF := Lib.hid hF; clear hf hb h hz hF
    go_enter Try.func155, Try.ntmps155
    go_wp2
    go_quiet (fail)
    go_wp2
    go_ret
    rw [HF.out]
    exact ⟨rfl, _, rfl⟩
end
end Go.Proofs.WlW

namespace Go.Proofs.WlW
open Go Go.RowKit Go.Tk Go.Dk Go.Sp Go.Proofs.DkW
set_option maxHeartbeats 4000000 in
set_option maxRecDepth 100000 in
theorem low_any (w : World) (base : Nat) (v : Value) (xs : List UInt8) (n m : Nat) (h : Gr base v xs w) (hbase : base ≤ w.heap.size) (hx : xs.length ≤ 1000000000) (hn : n < 18446744073709551616) (hm0 : 0 < m) (hm : m ≤ 8) :
    Calls Try.prog 169 #[v, .int .u64 (n : Int), .int .i64 (m : Int)] w fun e w' => ∃ v', e = .returned v' ∧ w'.ownsRow base 5 1 v' (xs.length + m) (bv (xs ++ leB n m)) ∧ w.grownBy w' v.ownBlock := by
  have H := Lib.hid h; clear h
  go_enter Try.func169, Try.ntmps169
  go_wp2
  go_loopw [0, 1, 7] (fun b nn i wr => ∃ k : Nat, i = .int .i64 (k : Int) ∧ nn = .int .u64 ((n / 256 ^ k : Nat) : Int) ∧ k ≤ m ∧ Gr base b (xs ++ leB n k) wr ∧ (0 < k → wr.ownsRow base 5 1 b (xs.length + k) (bv (xs ++ leB n k))) ∧ w.grownBy wr v.ownBlock ∧ w.heap.size ≤ wr.heap.size ∧ Fr w v b) (fun _ _ i _ => m - (intOf i).toNat)
  case atStart => exact ⟨0, rfl, by simp, Nat.zero_le _, by simpa [leB] using H.out, fun h => absurd h (by simp), ⟨rfl, rfl, rfl, Nat.le_refl _, fun _ _ _ => rfl⟩, Nat.le_refl _, Fr.refl _ _⟩
  case round =>
    obtain ⟨k, rfl, rfl, hk, hg, ho, hgr, hsz, hfr⟩ := hrel
    by_cases hlt : k < m
    · have hnk : n / 256 ^ k < 18446744073709551616 := Nat.lt_of_le_of_lt (Nat.div_le_self _ _) hn
      have hq : n / 256 ^ (k + 1) = n / 256 ^ k / 256 := by rw [Nat.pow_succ, ← Nat.div_div_eq_div_mul]
      obtain ⟨c, hc⟩ : ∃ c : UInt8, UInt8.ofNat (n / 256 ^ k % 256) = c := ⟨_, rfl⟩
      have hbyte : ((n / 256 ^ k : Nat) : Int) % 256 = ((c.toNat : Nat) : Int) := by rw [← hc, u8_mod]; rfl
      have hsn : xs ++ leB n (k + 1) = xs ++ leB n k ++ [c] := by rw [leB_snoc, hc, List.append_assoc]
      generalize n / 256 ^ k = N at *
      have hq2 : IntKind.u64.wrap ((N : Int) / 256) = ((N / 256 : Nat) : Int) := by rw [IntWalk.u64_in _ (by omega)]; rfl
      have HQ := Lib.hid hq
      have HN := Lib.hid hnk
      clear hq hnk
      have hlk : (xs ++ leB n k).length = xs.length + k := by simp [leB_length]
      have hnew : ∀ W : World, Sl (W.alloc (.cells #[.int .u8 (c.toNat : Int)] 5)) 1 (.slice (some ⟨W.heap.size, 0, none⟩) 1 1) 1 (bv [c]) := fun W => own_sl (lit_own W #[.int .u8 (c.toNat : Int)] 5 (by simp [maxLen]))
      have hc8 := c.toNat_lt
      clear hc ho
      rcases hg with hg | ⟨b, off, rfl, hb, hb0, hbb⟩
      · have hg' := hg.alloc (.cells #[.int .u8 (c.toNat : Int)] 5)
        obtain ⟨a, cp, rfl, _, _⟩ := (own_sl hg).form
        have Hg := Lib.hid hg; have Hg' := Lib.hid hg'; have Hgr := Lib.hid hgr; have Hfr := Lib.hid hfr; have Hsn := Lib.hid hsn; have Hlk := Lib.hid hlk; have Hnew := Lib.hid hnew; clear hg hg' hgr hfr hsn hlk hnew
        go_wp2_with (first | (at_builtin; refine wpList_append_bytes (P := Try.prog) Try.underlying22 FrW.info5 rfl (.tmp 13) (.tmp 17) rfl rfl Hg'.out rfl (Hnew.out wr) (bv_one _) (by rw [Hlk.out]; omega) (by simp; omega) ?_; intro v2 w2 ho2 hg2 hn2 hf2; clear hn2; have Ho2 := Lib.hid ho2; have Hg2 := Lib.hid (alloc_grown hg2); have Hf2 := Lib.hid (own_fresh_alloc hf2); clear ho2 hg2 hf2) | fail)
        go_wp2_with fail
        go_roundw
        case rel =>
          have h1 := Ho2.out
          rw [← bv_append, ← Hsn.out, Hlk.out] at h1
          have h2 : (xs ++ leB n (k + 1)).length = xs.length + (k + 1) := by simp [leB_length]
          have h3 : w2.ownsRow base 5 1 v2 (xs.length + (k + 1)) (bv (xs ++ leB n (k + 1))) := h1
          refine ⟨k + 1, by go_num, by rw [HQ.out]; rfl, by omega, .inl (by rw [h2]; exact h3), fun _ => h3, grown_fr Hgr.out Hfr.out Hg2.out, by have := Hg2.out.size; omega, Hfr.out.trans Hf2.out hsz⟩
        case measure => simp [intOf]; omega
      · rw [hlk]
        rw [Bs, hlk] at hb
        have hb' := hb.mk (mk_alloc wr (.cells #[.int .u8 (c.toNat : Int)] 5))
        rw [hlk] at hb0
        have Hb := Lib.hid hb; have Hb' := Lib.hid hb'; have Hgr := Lib.hid hgr; have Hfr := Lib.hid hfr; have Hsn := Lib.hid hsn; have Hlk := Lib.hid hlk; have Hnew := Lib.hid hnew; clear hb hb' hgr hfr hsn hlk hnew
        go_wp2_with (first | (at_builtin; refine wpList_append_full (P := Try.prog) Try.underlying22 FrW.info5 rfl (.tmp 13) (.tmp 17) rfl rfl rfl Hb'.out hb0 rfl (Hnew.out wr) (by decide) (by omega) ?_; intro v2 w2 ho2 hm2; have Ho2 := Lib.hid ho2; have Hm2 := Lib.hid (mk_trans (mk_alloc _ _) hm2); clear ho2 hm2) | fail)
        go_wp2_with fail
        go_roundw
        case rel =>
          have h1 := Ho2.out
          rw [← bv_append, ← Hsn.out] at h1
          have h2 : (xs ++ leB n (k + 1)).length = xs.length + (k + 1) := by simp [leB_length]
          have h3 : w2.ownsRow base 5 1 v2 (xs.length + (k + 1)) (bv (xs ++ leB n (k + 1))) := own_base h1 (by simp; omega)
          refine ⟨k + 1, by go_num, by rw [HQ.out]; rfl, by omega, .inl (by rw [h2]; exact h3), fun _ => h3, grown_fr Hgr.out Hfr.out (Chg.to_grown Hm2.out), by have := Hm2.out.size; omega, Hfr.out.trans (.inr ?_) hsz⟩
          obtain ⟨g, cp, rfl, _, _, hg, _⟩ := own_form Ho2.out (by omega)
          exact ⟨g, rfl, by simp at hg; omega⟩
        case measure => simp [intOf]; omega
    · obtain rfl : k = m := by omega
      have Hg := Lib.hid hg; have Hgr := Lib.hid hgr; have Hfr := Lib.hid hfr; clear hg hgr hfr
      have ho' := ho hm0
      go_wp2
      go_ret
      exact ⟨_, rfl, ho', Hgr.out⟩

set_option maxHeartbeats 1000000 in
set_option maxRecDepth 100000 in
theorem rframe_any (w : World) (gen cap slots : Nat) (v : Value) (state : List UInt8) (hb : Bs w v state) (hs : state.length ≤ 4194280) (hg : gen < 18446744073709551616) (hc : cap ≤ 4194304) (hsl : slots ≤ 65536) :
    Calls Try.prog 153 #[.agg #[.int .u64 (gen : Int), .int .i64 (cap : Int), .int .i64 (slots : Int), v]] w fun e w' => ∃ v', e = .returned v' ∧ w'.ownsRow w.heap.size 5 1 v' (state.length + 33) (bv (headFrame gen cap slots state)) ∧ Mk w w' := by
  obtain ⟨sa, sc, rfl, _, _⟩ := hb.form
  obtain ⟨W0, hW0⟩ : ∃ W0, w.alloc (.cells #[.int .u64 (gen : Int), .int .i64 (cap : Int), .int .i64 (slots : Int), .slice sa state.length sc] 200) = W0 := ⟨_, rfl⟩
  have hbox : Bk W0 w.heap.size 200 #[.int .u64 (gen : Int), .int .i64 (cap : Int), .int .i64 (slots : Int), .slice sa state.length sc] := by rw [← hW0]; exact Bk.new w 200 _
  have hz0 : W0.heap.size = w.heap.size + 1 := by rw [← hW0]; simp
  have hm0 : Mk w W0 := by rw [← hW0]; exact mk_alloc _ _
  have kc : (convert 22 22 (.slice (some ⟨W0.heap.size, 0, none⟩) 8 8)).run Try.prog (W0.alloc (.cells #[.int .u8 116, .int .u8 117, .int .u8 114, .int .u8 110, .int .u8 107, .int .u8 101, .int .u8 121, .int .u8 49] 5)) = _ := Lib.run_convert_bytes_const (P := Try.prog) W0 22 5 #[.int .u8 116, .int .u8 117, .int .u8 114, .int .u8 110, .int .u8 107, .int .u8 101, .int .u8 121, .int .u8 49] 8 8 Try.underlying22 Try.underlying5
  have hc0 : (0 : Int) ≤ (cap : Int) := by omega
  have hs0 : (0 : Int) ≤ (slots : Int) := by omega
  have hc1 : (cap : Int) ≤ 4194304 := by omega
  have hs1 : (slots : Int) ≤ 65536 := by omega
  have hl0 : ∀ o, (W0.alloc o).cell? ⟨w.heap.size, 0, none⟩ = some (.int .u64 (gen : Int)) := fun o => ((hbox.alloc o).cell 0).trans rfl
  have hb1 := hb.mk hm0
  have hlt := hbox.lt
  have Hb := Lib.hid hb; have Hb1 := Lib.hid hb1; have Hz0 := Lib.hid hz0; have Hm0 := Lib.hid hm0; have Hbox := Lib.hid hbox; clear hb hb1 hz0 hm0 hbox
  go_enter Try.func153, Try.ntmps153
  go_wp2_with fail
  have hlit := FrW.new_bytes_m W0 magic #[.int .u8 116, .int .u8 117, .int .u8 114, .int .u8 110, .int .u8 107, .int .u8 101, .int .u8 121, .int .u8 49] 5 8 (8, 9) rfl rfl (by simp [maxLen]) (by omega)
  have hbx1 := Hbox.out.alloc (.cells #[.int .u8 116, .int .u8 117, .int .u8 114, .int .u8 110, .int .u8 107, .int .u8 101, .int .u8 121, .int .u8 49] 5 (8, 9))
  have hmk1 : Mk W0 (W0.alloc (.cells #[.int .u8 116, .int .u8 117, .int .u8 114, .int .u8 110, .int .u8 107, .int .u8 101, .int .u8 121, .int .u8 49] 5 (8, 9))) := mk_alloc _ _
  have Hlit := Lib.hid hlit; have Hbx1 := Lib.hid hbx1; have Hmk1 := Lib.hid hmk1; clear hlit hbx1 hmk1
  clear kc hl0
  generalize W0.alloc (.cells #[.int .u8 116, .int .u8 117, .int .u8 114, .int .u8 110, .int .u8 107, .int .u8 101, .int .u8 121, .int .u8 49] 5 (8, 9)) = W1 at *
  refine (low_any W1 W0.heap.size _ magic gen 8 (.inr ⟨W0.heap.size, 0, rfl, Hlit.out, by decide, Nat.le_refl _⟩) (Hmk1.out.size) (by decide) hg (by decide) (by decide)).mono ?_
  rintro e w2 ⟨v2, rfl, ho2, hg2⟩
  obtain ⟨g2, c2, rfl, _, _, hgb2, _⟩ := own_form ho2 (by decide)
  have hbx2 : Bk w2 w.heap.size 200 _ := Hbx1.out.keep (Chg.of_grown (S := fun k => W0.heap.size ≤ k) hg2 fun k hk _ => by cases hk; exact Nat.le_refl _) (by omega)
  have hmk2 : Mk W0 w2 := mk_own' Hmk1.out (fun k hk => by cases hk; exact Nat.le_refl _) hg2
  have l1 : w2.cell? ⟨w.heap.size, 1, none⟩ = some (.int .i64 (cap : Int)) := (hbx2.cell 1).trans rfl
  have Ho2 := Lib.hid ho2; have Hbx2 := Lib.hid hbx2; have Hmk2 := Lib.hid hmk2; clear ho2 hbx2 hmk2
  clear hg2
  go_wp2_with fail
  refine (low_any w2 W0.heap.size _ (magic ++ leB gen 8) cap 4 (.inl (by rw [List.length_append, leB_length]; exact Ho2.out)) (Hmk2.out.size) (by simp [leB_length, magic]) (by omega) (by decide) (by decide)).mono ?_
  rintro e w3 ⟨v3, rfl, ho3, hg3⟩
  rw [List.length_append, leB_length] at ho3
  obtain ⟨g3, c3, rfl, _, _, hgb3, _⟩ := own_form ho3 (by decide)
  have hbx3 : Bk w3 w.heap.size 200 _ := Hbx2.out.keep (Chg.of_grown (S := fun k => W0.heap.size ≤ k) hg3 fun k hk _ => by cases hk; exact hgb2) (by omega)
  have hmk3 : Mk W0 w3 := mk_own' Hmk2.out (fun k hk => by cases hk; exact hgb2) hg3
  have l2 : w3.cell? ⟨w.heap.size, 2, none⟩ = some (.int .i64 (slots : Int)) := (hbx3.cell 2).trans rfl
  have Ho3 := Lib.hid ho3; have Hbx3 := Lib.hid hbx3; have Hmk3 := Lib.hid hmk3; clear ho3 hbx3 hmk3
  clear hg3 l1
  go_wp2_with fail
  refine (low_any w3 W0.heap.size _ (magic ++ leB gen 8 ++ leB cap 4) slots 4 (.inl (by rw [List.length_append, List.length_append, leB_length, leB_length]; exact Ho3.out)) (Hmk3.out.size) (by simp [leB_length, magic]) (by omega) (by decide) (by decide)).mono ?_
  rintro e w4 ⟨v4, rfl, ho4, hg4⟩
  rw [List.length_append, List.length_append, leB_length, leB_length] at ho4
  obtain ⟨g4, c4, rfl, _, _, hgb4, _⟩ := own_form ho4 (by decide)
  have hmk4 : Mk W0 w4 := mk_own' Hmk3.out (fun k hk => by cases hk; exact hgb3) hg4
  have hst4 := Hb1.out.mk hmk4
  have l3 : w4.cell? ⟨w.heap.size, 3, none⟩ = some (.slice sa state.length sc) := (((Hbx3.out.keep (Chg.of_grown (S := fun k => W0.heap.size ≤ k) hg4 fun k hk _ => by cases hk; exact hgb3) (by omega)).cell 3).trans rfl)
  have ho4' : w4.ownsRow W0.heap.size 5 1 (.slice (some ⟨g4, 0, none⟩) 24 c4) 24 (bv (magic ++ leB gen 8 ++ leB cap 4 ++ leB slots 4)) := ho4
  have Ho4' := Lib.hid ho4'; have Hmk4 := Lib.hid hmk4; have Hst4 := Lib.hid hst4; clear ho4' hmk4 hst4
  clear hg4 l2 ho4
  go_wp2_with (first | (at_builtin; refine wpList_append_bytes (P := Try.prog) Try.underlying22 FrW.info5 rfl (.tmp 20) (.tmp 22) rfl rfl Ho4'.out rfl Hst4.out (bv_one _) (by omega) (Hmk4.out.size) ?_; intro v5 w5 ho5 hg5 hn5 hf5; clear hn5 hf5; rw [← bv_append] at ho5; have Ho5 := Lib.hid ho5; have Hmk5 := Lib.hid (mk_own' Hmk4.out (fun k hk => by cases hk; exact hgb4) hg5); clear ho5 hg5) | fail)
  have hdat : (headBytes gen cap slots state).length = 24 + state.length := headBytes_length _ _ _ _
  have hb5 : Bs w5 v5 (headBytes gen cap slots state) := by rw [Bs, hdat]; exact own_sl Ho5.out
  refine (FrW.Made_any w5 _ (headBytes gen cap slots state) 1 hb5 (by omega)).mono ?_
  rintro e w6 ⟨v6, rfl, ho6, hm6⟩
  rw [FrW.frm_length, hdat] at ho6
  obtain ⟨g6, c6, rfl, _, _, _, _⟩ := own_form ho6 (by omega)
  have hfin : w6.ownsRow w.heap.size 5 1 (.slice (some ⟨g6, 0, none⟩) (24 + state.length + 9) c6) (state.length + 33) (bv (headFrame gen cap slots state)) := by
    have h1 := own_base ho6 (base' := w.heap.size) (by have h1 := Hmk5.out.size; have h2 := Hm0.out.size; omega)
    rw [show 24 + state.length + 9 = state.length + 33 by omega] at h1 ⊢
    exact h1
  have hmk6 := mk_trans Hm0.out (mk_trans Hmk5.out hm6)
  have Hfin := Lib.hid hfin; have Hmk6 := Lib.hid hmk6; clear hfin hmk6
  clear ho6 hm6
  go_wp2
  go_ret
  exact ⟨_, rfl, Hfin.out, Hmk6.out⟩

end Go.Proofs.WlW
