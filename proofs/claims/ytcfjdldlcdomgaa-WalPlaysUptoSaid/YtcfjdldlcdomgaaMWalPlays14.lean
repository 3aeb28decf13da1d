/- Layer 6, wal: the document's head. -/
import Derived.Test.YtcfjdldlcdomgaaMWalPlays11
import Derived.Test.YtcfjdldlcdomgaaMWalPlays13
set_option linter.unusedVariables false
set_option linter.unusedSimpArgs false
namespace Go.Proofs.WlW
open Go Go.RowKit Go.Tk Go.Dk Go.Sp Go.Proofs.DkW
attribute [local go_sem] Oper.semAt_some
/-- What the document's head hands back. -/
def Hk (w : World) (xs : List UInt8) (e : Ending) (w' : World) : Prop :=
  Mk w w' ∧ ∃ cs, e = .returned (.tuple #[.agg cs, .bool (lookP xs).isSome]) ∧ cs.size = 4 ∧ (∀ v ∈ cs, v.oneCell' = true) ∧ match lookP xs with
  | none => True
  | some (g, c, s, state, _) => ∃ v, cs = #[.int .u64 (g : Int), .int .i64 (c : Int), .int .i64 (s : Int), v] ∧ w'.ownsRow w.heap.size 5 1 v state.length (bv state)
theorem info200 : (Try.prog.info? 200).map (·.size) = some 4 := by kernel_rfl
theorem load200 {w : World} {g : Nat} {t : TypeId} {cs : Array Value} (h : Bk w g t cs) (hs : cs.size = 4) : (loadVar 200 ⟨g, 0, none⟩).run Try.prog w = .ok (.agg cs) w :=
  by
  obtain ⟨d, h1, h2⟩ := struct_of (t := 200) (by kernel_rfl)
  exact run_loadVar_row w g t 200 cs (0, 0) d h h1 (by cases d <;> first | rfl | cases h2) (by rw [info200, hs])
theorem head_end {R : Ending → World → Prop} {a : Act} {w : World} {g : Nat} {cs : Array Value} {b : Bool} {t : TypeId} (hp : a.tmps.getD 2 undef = .pointer (some ⟨g, 0, none⟩)) (hu : a.tmps.getD 3 undef = .bool b) (hd : a.defers = [])
    (h : Bk w g t cs) (hs : cs.size = 4) (hR : R (.returned (.tuple #[.agg cs, .bool b])) w) : bodyPost Try.prog Try.f148 R .ret a w :=
  bodyPost_ret (v := .tuple #[.agg cs, .bool b]) (results_row_tmp rfl _ _ g _ _ hp hu (load200 h hs)) hd hR
def zero4 : Array Value := #[.int .u64 0, .int .i64 0, .int .i64 0, .slice none 0 0]
theorem Hk.no {w w' : World} {xs : List UInt8} (h : lookP xs = none) (hm : Mk w w') : Hk w xs (.returned (.tuple #[.agg zero4, .bool false])) w' := by
  refine ⟨hm, zero4, by rw [h]; rfl, rfl, ?_, by rw [h]; trivial⟩
  intro v hv; simp [zero4] at hv; rcases hv with rfl | rfl | rfl <;> rfl
theorem set200 {w : World} {g : Nat} {t : TypeId} {cs cs' : Array Value} (h : Bk w g t cs) (hs : cs.size = 4) (hs' : cs'.size = 4) (h1 : ∀ v ∈ cs', v.oneCell' = true) : (storeVar 200 ⟨g, 0, none⟩ (.agg cs')).run Try.prog w = .ok () (w.setRow g cs') :=
  Tk.run_storeVar_row w g t 200 cs cs' h (by rw [hs, hs']) (by rw [info200, hs']) (by intro v hv; exact h1 v (by simpa using hv))
theorem zero4_one : ∀ v ∈ zero4, v.oneCell' = true := by intro v hv; simp [zero4] at hv; rcases hv with rfl | rfl | rfl <;> rfl
set_option maxHeartbeats 8000000 in
set_option maxRecDepth 100000 in
theorem head_any (w : World) (v : Value) (xs : List UInt8) (h : Bs w v xs) (hxl : xs.length ≤ 16777216) : Calls Try.prog 148 #[v] w (Hk w xs) := by
  obtain ⟨W0, hW0⟩ : ∃ W0, w.alloc (.cells #[.int .u64 0, .int .i64 0, .int .i64 0, .slice none 0 0] 200) = W0 := ⟨_, rfl⟩
  have hres : Bk W0 w.heap.size 200 zero4 := by rw [← hW0]; exact Bk.new w 200 _
  have hz0 : W0.heap.size = w.heap.size + 1 := by rw [← hW0]; simp
  have hm0 : Mk w W0 := by rw [← hW0]; exact mk_alloc _ _
  have hget := FrW.getR_any W0 v xs (h.mk hm0) (by omega)
  have hst4 := fun (w' : World) (hm : Mk W0 w') => set200 (hres.mk hm) rfl (cs' := zero4) rfl zero4_one
  obtain ⟨va, vc, rfl, _, _⟩ := h.form
  have H := Lib.hid h; have Hres := Lib.hid hres; have Hz0 := Lib.hid hz0; have Hm0 := Lib.hid hm0; have Hget := Lib.hid hget; have Hst4 := Lib.hid hst4; clear h hres hz0 hm0 hget hst4
  rcases hfr : FrW.frameOf xs with _ | ⟨k, dat, n⟩
  · have hlp : lookP xs = none := by unfold lookP; rw [hfr]
    have Hlp := Lib.hid hlp; have Hfr := Lib.hid hfr; clear hlp hfr
    go_enter Try.func148, Try.ntmps148
    go_wp2_with fail
    refine Hget.out.mono ?_
    intro e w2 hp
    unfold FrW.GetPost at hp
    simp only [Hfr.out] at hp
    obtain ⟨hm2, dv, hod, rfl⟩ := hp
    clear hod
    have hst := Hst4.out w2 hm2
    have hr2 := Hres.out.mk hm2
    have Hm2 := Lib.hid hm2; have Hr2 := Lib.hid hr2; have Hst := Lib.hid hst; clear hm2 hr2 hst
    (go_wp2_with (first | (refine wpList_store_row rfl 200 (.tmp 2) (.tmp 32) rfl w.heap.size rfl zero4 rfl Hst.out ?_) | fail); refine head_end rfl rfl rfl (show Bk _ w.heap.size 200 zero4 from setRow_has _ _ _ _ _ Hr2.out) rfl ?_; exact Hk.no Hlp.out (mk_setRow (mk_trans Hm0.out Hm2.out) (Nat.le_refl _) _))
  · have hfl2 := FrW.frame_len hfr
    have hdl : dat.length ≤ 4194304 := hfl2.2.2
    have hn9 : n = dat.length + 9 := hfl2.1
    subst hn9
    have hnz : (((dat.length : Int) + 9) == 0) = false := by simp; omega
    have Hfr := Lib.hid hfr; have Hfl2 := Lib.hid hfl2; clear hfr hfl2
    by_cases hk1 : k = 1
    · subst hk1
      by_cases hd24 : dat.length < 24
      · have hlp : lookP xs = none := by unfold lookP; rw [Hfr.out]; dsimp only; rw [if_neg (by omega)]
        have Hlp := Lib.hid hlp; clear hlp
        go_enter Try.func148, Try.ntmps148
        go_wp2_with fail
        refine Hget.out.mono ?_
        intro e w2 hp
        unfold FrW.GetPost at hp
        simp only [Hfr.out] at hp
        obtain ⟨hm2, dv, hod, rfl⟩ := hp
        obtain ⟨da, dc, rfl, _, _⟩ := (own_sl hod).form
        have hst := Hst4.out w2 hm2
        have hr2 := Hres.out.mk hm2
        have Hm2 := Lib.hid hm2; have Hr2 := Lib.hid hr2; have Hst := Lib.hid hst; have Hod := Lib.hid hod; clear hm2 hr2 hst hod
        (go_wp2_with (first | (refine wpList_store_row rfl 200 (.tmp 2) (.tmp 32) rfl w.heap.size rfl zero4 rfl Hst.out ?_) | fail); refine head_end rfl rfl rfl (show Bk _ w.heap.size 200 zero4 from setRow_has _ _ _ _ _ Hr2.out) rfl ?_; exact Hk.no Hlp.out (mk_setRow (mk_trans Hm0.out Hm2.out) (Nat.le_refl _) _))
      · have hd24' : 24 ≤ dat.length := by omega
        have hd24f : decide ((dat.length : Int) < 24) = false := by simp; omega
        by_cases hmg : dat.take 8 = magic
        · have hcvv : ((⟨(dat.take 8).toArray⟩ : ByteArray)) = ⟨#[116, 117, 114, 110, 107, 101, 121, 49]⟩ := by rw [hmg]; rfl
          obtain ⟨gen, hgen⟩ : ∃ g, numB ((dat.take 16).drop 8) = g := ⟨_, rfl⟩
          obtain ⟨cp, hcp⟩ : ∃ g, numB ((dat.take 20).drop 16) = g := ⟨_, rfl⟩
          obtain ⟨sl, hsl⟩ : ∃ g, numB ((dat.take 24).drop 20) = g := ⟨_, rfl⟩
          have hgl : gen < 18446744073709551616 := by rw [← hgen]; exact Nat.lt_of_lt_of_le (numB_lt _) (by rw [show ((dat.take 16).drop 8).length = 8 by simp; omega]; decide)
          have hcl : cp < 4294967296 := by rw [← hcp]; exact Nat.lt_of_lt_of_le (numB_lt _) (by rw [show ((dat.take 20).drop 16).length = 4 by simp; omega]; decide)
          have hsll : sl < 4294967296 := by rw [← hsl]; exact Nat.lt_of_lt_of_le (numB_lt _) (by rw [show ((dat.take 24).drop 20).length = 4 by simp; omega]; decide)
          have hlp : lookP xs = if 0 < gen ∧ rightB cp sl = true then some (gen, cp, sl, dat.drop 24, dat.length + 9) else none := by
            unfold lookP
            rw [Hfr.out]
            dsimp only
            rw [hgen, hcp, hsl]
            by_cases hb : 0 < gen ∧ rightB cp sl = true
            · rw [if_pos hb, if_pos ⟨rfl, hd24', hmg, hb.1, hb.2⟩]
            · rw [if_neg hb, if_neg (fun h => hb ⟨h.2.2.2.1, h.2.2.2.2⟩)]
          have Hlp := Lib.hid hlp; have Hgen := Lib.hid hgen; have Hcp := Lib.hid hcp; have Hsl := Lib.hid hsl; clear hlp hgen hcp hsl
          go_enter Try.func148, Try.ntmps148
          go_wp2_with fail
          refine Hget.out.mono ?_
          intro e w2 hp
          unfold FrW.GetPost at hp
          simp only [Hfr.out] at hp
          obtain ⟨hm2, dv, hod, rfl⟩ := hp
          obtain ⟨da, dc, rfl, _, _⟩ := (own_sl hod).form
          have hst := Hst4.out w2 hm2
          have hr2 := Hres.out.mk hm2
          have Hm2 := Lib.hid hm2; have Hr2 := Lib.hid hr2; have Hst := Lib.hid hst; have Hod := Lib.hid hod; clear hm2 hr2 hst hod
          have hcv : (convert 22 9 (.slice da 8 dc)).run Try.prog w2 = .ok (.string ⟨#[116, 117, 114, 110, 107, 101, 121, 49]⟩) w2 := by
            rw [← hcvv]
            exact FrW.str_of (by have := FrW.Sl.taken (show Bs w2 (.slice da dat.length dc) dat from own_sl Hod.out) 8 (by omega); rw [Bs, show (dat.take 8).length = 8 by simp; omega] at this; exact this)
          clear hcvv
          obtain ⟨dg, dc', hde, hdc1, hdc2, hdg1, hdg2⟩ := own_form Hod.out (by omega)
          cases hde
          clear hdg1 hdg2
          have hB1 := Lib.hid (fun (w' : World) (hm : Mk w2 w') => show Bs w' (.slice (some ⟨dg, 8, none⟩) 8 (dc - 8)) ((dat.take 16).drop 8) from FrW.sub_some ((own_sl Hod.out).mk hm) rfl 8 16 8 (dc - 8) 8 (by omega) (by omega) rfl (by omega) (by omega) rfl)
          have hB2 := Lib.hid (fun (w' : World) (hm : Mk w2 w') => show Bs w' (.slice (some ⟨dg, 16, none⟩) 4 (dc - 16)) ((dat.take 20).drop 16) from FrW.sub_some ((own_sl Hod.out).mk hm) rfl 16 20 4 (dc - 16) 16 (by omega) (by omega) rfl (by omega) (by omega) rfl)
          have hB3 := Lib.hid (fun (w' : World) (hm : Mk w2 w') => show Bs w' (.slice (some ⟨dg, 20, none⟩) 4 (dc - 20)) ((dat.take 24).drop 20) from FrW.sub_some ((own_sl Hod.out).mk hm) rfl 20 24 4 (dc - 20) 20 (by omega) (by omega) rfl (by omega) (by omega) rfl)
          go_wp2_with fail
          refine wp_region_sp (fun j => j == 12 || j == 13) (fun w' => Mk w2 w') (by kernel_rfl) (by kernel_rfl) (mk_refl _) (fun _ _ => mk_trans) ?_
          intro D hD hne
          have q1 := @qAt_value Try.prog
          iterate 2 (first | (refine spk (by rfl) (by rfl) (by rfl) (fun K hK => ?_); go_big_quiet_op; first | (refine hK _ ?_; clear hK K) | (apply Exists.intro; refine ⟨fun _ => ?_, hK _ ?_⟩; (exact fun _ => rfl); clear hK K)) | (refine spq (by rfl) (by rfl) (fun K hK => ?_); apply Exists.intro; refine ⟨fun w' hw' => ?_, ?_⟩; (go_simp; exact rfl); (go_simp; refine hK _ ?_; clear hK K)))
          (refine spq (by rfl) (by rfl) (fun K hK => ?_); apply Exists.intro; refine ⟨fun w' hw' => ?_, ?_⟩; (have q2 := @qAt_enter Try.prog; go_simp; refine ⟨rfl, (rnum_any w' _ _ (hB1.out w' hw') (by simp; omega)).mono fun e w'' ⟨h1, h2⟩ => by subst h2; rw [h1, Hgen.out]; exact ⟨rfl, mk_refl _⟩⟩); (go_simp; refine hK _ ?_; clear hK K))
          iterate 2 (first | (refine spk (by rfl) (by rfl) (by rfl) (fun K hK => ?_); go_big_quiet_op; first | (refine hK _ ?_; clear hK K) | (apply Exists.intro; refine ⟨fun _ => ?_, hK _ ?_⟩; (exact fun _ => rfl); clear hK K)) | (refine spq (by rfl) (by rfl) (fun K hK => ?_); apply Exists.intro; refine ⟨fun w' hw' => ?_, ?_⟩; (go_simp; exact rfl); (go_simp; refine hK _ ?_; clear hK K)))
          (refine spq (by rfl) (by rfl) (fun K hK => ?_); apply Exists.intro; refine ⟨fun w' hw' => ?_, ?_⟩; (have q2 := @qAt_enter Try.prog; go_simp; refine ⟨rfl, (rnum_any w' _ _ (hB2.out w' hw') (by simp; omega)).mono fun e w'' ⟨h1, h2⟩ => by subst h2; rw [h1, Hcp.out]; exact ⟨rfl, mk_refl _⟩⟩); (go_simp; refine hK _ ?_; clear hK K))
          iterate 3 (first | (refine spk (by rfl) (by rfl) (by rfl) (fun K hK => ?_); go_big_quiet_op; first | (refine hK _ ?_; clear hK K) | (apply Exists.intro; refine ⟨fun _ => ?_, hK _ ?_⟩; (exact fun _ => rfl); clear hK K)) | (refine spq (by rfl) (by rfl) (fun K hK => ?_); apply Exists.intro; refine ⟨fun w' hw' => ?_, ?_⟩; (go_simp; exact rfl); (go_simp; refine hK _ ?_; clear hK K)))
          (refine spq (by rfl) (by rfl) (fun K hK => ?_); apply Exists.intro; refine ⟨fun w' hw' => ?_, ?_⟩; (have q2 := @qAt_enter Try.prog; go_simp; refine ⟨rfl, (rnum_any w' _ _ (hB3.out w' hw') (by simp; omega)).mono fun e w'' ⟨h1, h2⟩ => by subst h2; rw [h1, Hsl.out]; exact ⟨rfl, mk_refl _⟩⟩); (go_simp; refine hK _ ?_; clear hK K))
          iterate 2 (first | (refine spk (by rfl) (by rfl) (by rfl) (fun K hK => ?_); go_big_quiet_op; first | (refine hK _ ?_; clear hK K) | (apply Exists.intro; refine ⟨fun _ => ?_, hK _ ?_⟩; (exact fun _ => rfl); clear hK K)) | (refine spq (by rfl) (by rfl) (fun K hK => ?_); apply Exists.intro; refine ⟨fun w' hw' => ?_, ?_⟩; (go_simp; exact rfl); (go_simp; refine hK _ ?_; clear hK K)))
          refine sps (by rfl) (by rfl) (fun v w' => ∃ g1, v = .pointer (some ⟨g1, 0, none⟩) ∧ w2.heap.size ≤ g1 ∧ Mk w2 w' ∧ Bk w' g1 200 zero4) (fun v w1 w2 ⟨g, h1, h2, h3, h4⟩ k => ⟨g, h1, h2, mk_trans h3 k, h4.mk k⟩) (fun v w' ⟨_, _, _, h, _⟩ => h) (fun w' hw' => ?_) (fun K dv hdv hK => ?_)
          · have HM := Lib.hid (hD.out w' hw').1
            have sA := @sAt_value
            go_simp
            exact ⟨HM.out.size, mk_trans HM.out (mk_alloc _ _), Bk.new _ _ _⟩
          obtain ⟨w0, g1, rfl, hg1, h0, h0'⟩ := hdv
          clear h0 h0' w0 hne
          go_simp
          refine hK _ ?_
          clear hK K
          refine sps (by rfl) (by rfl) (fun v w' => v = undef ∧ Mk w2 w' ∧ Bk w' g1 200 #[.int .u64 gen, .int .i64 cp, .int .i64 sl, .slice none 0 0]) (fun v w1 w2 ⟨h1, h3, h4⟩ k => ⟨h1, mk_trans h3 k, h4.mk k⟩) (fun v w' ⟨_, h, _⟩ => h) (fun w' hw' => ?_) (fun K dv hdv hK => ?_)
          · obtain ⟨g, he, _, hm, hb⟩ := hw'
            cases he
            refine sAt_storeRow rfl rfl rfl (set200 (cs' := #[.int .u64 gen, .int .i64 cp, .int .i64 sl, .slice none 0 0]) hb rfl rfl (by intro v hv; simp at hv; rcases hv with rfl | rfl | rfl | rfl <;> rfl)) ?_
            exact ⟨rfl, mk_setRow hm hg1 _, setRow_has _ _ _ _ _ hb⟩
          obtain ⟨w0, rfl, h0, h0'⟩ := hdv
          clear h0 h0' w0
          go_simp
          refine hK _ ?_
          clear hK K
          refine sp_nil ?_
          rintro w3 ⟨_, hm3, hb3⟩
          clear hD D q1
          have Hm3 := Lib.hid hm3; have Hb3 := Lib.hid hb3; clear hm3 hb3
          obtain ⟨o24, hif, ho24⟩ : ∃ o, (if dc = 24 then some (⟨dg, 0, none⟩ : Addr) else some ⟨dg, 24, none⟩) = some ⟨dg, o, none⟩ ∧ (o = 24 ∨ dat.length = 24 ∧ o = 0) := by
            by_cases hd : dc = 24
            · exact ⟨0, by rw [if_pos hd], .inr ⟨by omega, rfl⟩⟩
            · exact ⟨24, by rw [if_neg hd], .inl rfl⟩
          have hB4 := Lib.hid (fun (w' : World) (hm : Mk w2 w') => show Bs w' (.slice (some ⟨dg, o24, none⟩) (dat.length - 24) (dc - 24)) (dat.drop 24) by
            rcases ho24 with rfl | ⟨h1, rfl⟩
            · have := FrW.sub_some ((own_sl Hod.out).mk hm) rfl 24 dat.length (dat.length - 24) (dc - 24) 24 (by omega) (by omega) rfl (by omega) (by omega) (by omega)
              rwa [List.take_length] at this
            · rw [show dat.length - 24 = 0 by omega, show dat.drop 24 = [] from List.drop_eq_nil_of_le (by omega)]
              exact FrW.bs_nil (fun h => by cases h) (by omega))
          clear ho24
          go_wp2_with fail
          refine wp_region_sp (fun j => j == 1 || j == 4 || j == 6) (fun w' => Mk w2 w') (by kernel_rfl) (by kernel_rfl) Hm3.out (fun _ _ => mk_trans) ?_
          intro D hD hne
          have q1 := @qAt_value Try.prog
          iterate 1 (first | (refine spk (by rfl) (by rfl) (by rfl) (fun K hK => ?_); go_big_quiet_op; first | (refine hK _ ?_; clear hK K) | (apply Exists.intro; refine ⟨fun _ => ?_, hK _ ?_⟩; (exact fun _ => rfl); clear hK K)) | (refine spq (by rfl) (by rfl) (fun K hK => ?_); apply Exists.intro; refine ⟨fun w' hw' => ?_, ?_⟩; (go_simp; exact rfl); (go_simp; refine hK _ ?_; clear hK K)))
          refine sps (by rfl) (by rfl) (fun v w' => v = .slice none 0 0 ∧ Mk w3 w') (fun v w1 w2 ⟨h1, h3⟩ k => ⟨h1, mk_trans h3 k⟩) (fun v w' ⟨_, h⟩ => mk_trans Hm3.out h) (fun w' hw' => ?_) (fun K dv hdv hK => ?_)
          · have hm := (hD.out w' hw').1
            have hcell : w'.cell? ⟨g1, 3, none⟩ = some (.slice none 0 0) := ((Hb3.out.mk hm).cell 3).trans rfl
            have Hm := Lib.hid hm; clear hm
            have sA := @sAt_value
            go_simp
            exact Hm.out
          obtain ⟨w0, rfl, h0⟩ := hdv
          clear h0 w0 hne
          go_simp
          refine hK _ ?_
          clear hK K
          iterate 2 (first | (refine spk (by rfl) (by rfl) (by rfl) (fun K hK => ?_); go_big_quiet_op; first | (refine hK _ ?_; clear hK K) | (apply Exists.intro; refine ⟨fun _ => ?_, hK _ ?_⟩; (exact fun _ => rfl); clear hK K)) | (refine spq (by rfl) (by rfl) (fun K hK => ?_); apply Exists.intro; refine ⟨fun w' hw' => ?_, ?_⟩; (go_simp; exact rfl); (go_simp; refine hK _ ?_; clear hK K)))
          refine sps (by rfl) (by rfl) (fun v w' => Mk w3 w' ∧ w'.ownsRow w3.heap.size 5 1 v (dat.drop 24).length (bv (dat.drop 24))) (fun v w1 w2 h k => ⟨mk_trans h.1 k, own_mk h.2 k⟩) (fun v w' h => mk_trans Hm3.out h.1) (fun w' hw' => ?_) (fun K dv hdv hK => ?_)
          · obtain ⟨_, hm⟩ := hw'
            have hbx := hB4.out w' (mk_trans Hm3.out hm)
            have hl24 : (dat.drop 24).length = dat.length - 24 := by simp
            refine sAt_append (t := 22) (e := 5) Try.underlying22 FrW.info5 (.tmp 46) (.tmp 48) rfl rfl (World.ownsRow_nil w' w3.heap.size 5 1) rfl (show Sl w' 1 (.slice (some ⟨dg, o24, none⟩) (dat.length - 24) (dc - 24)) (dat.length - 24) (bv (dat.drop 24)) by have := hbx; rw [Bs, hl24] at this; exact this) (bv_one _) (by omega) hm.size ?_
            intro v' w9 ho hg _ _
            rw [Nat.zero_add, List.nil_append, ← hl24] at ho
            exact ⟨mk_trans hm (grown_mk hg), ho⟩
          obtain ⟨w0, hx1, hx2⟩ := hdv
          obtain ⟨sa, sc, rfl, _, _⟩ := (own_sl hx2).form
          clear hx1 hx2 w0
          go_simp
          refine hK _ ?_
          clear hK K
          iterate 1 (first | (refine spk (by rfl) (by rfl) (by rfl) (fun K hK => ?_); go_big_quiet_op; first | (refine hK _ ?_; clear hK K) | (apply Exists.intro; refine ⟨fun _ => ?_, hK _ ?_⟩; (exact fun _ => rfl); clear hK K)) | (refine spq (by rfl) (by rfl) (fun K hK => ?_); apply Exists.intro; refine ⟨fun w' hw' => ?_, ?_⟩; (go_simp; exact rfl); (go_simp; refine hK _ ?_; clear hK K)))
          refine sps (by rfl) (by rfl) (fun v w' => v = undef ∧ Mk w2 w' ∧ Bk w' g1 200 #[.int .u64 gen, .int .i64 cp, .int .i64 sl, .slice sa (dat.length - 24) sc] ∧ w'.ownsRow w3.heap.size 5 1 (.slice sa (dat.length - 24) sc) (dat.length - 24) (bv (dat.drop 24))) (fun v w1 w2 ⟨h1, h3, h4, h5⟩ k => ⟨h1, mk_trans h3 k, h4.mk k, own_mk h5 k⟩) (fun v w' ⟨_, h, _⟩ => h) (fun w' hw' => ?_) (fun K dv hdv hK => ?_)
          · obtain ⟨hm, ho⟩ := hw'
            have hb := Hb3.out.mk hm
            have hfz := hb.frozen 3
            have hcz : w'.cell? ⟨g1, 3, none⟩ = some (.slice none 0 0) := (hb.cell 3).trans rfl
            have hg3 : g1 < w3.heap.size := Hb3.out.lt
            have Hm := Lib.hid hm; have Ho := Lib.hid ho; have Hb := Lib.hid hb; clear hm ho hb
            have sA := @sAt_skip
            go_simp
            exact ⟨(mk_trans Hm3.out Hm.out).setCell hg1 _, by have := Hb.out.set 3 (.slice sa (dat.length - 24) sc); simpa using this, ownsRow_setCell_below (by simpa using Ho.out) hg3 _⟩
          obtain ⟨w0, rfl, h0, h0'⟩ := hdv
          clear h0 h0' w0
          go_simp
          refine hK _ ?_
          clear hK K
          refine sp_nil ?_
          rintro w4 ⟨_, hm4, hb4, ho4⟩
          clear hD D q1
          have e1 : w4.cell? ⟨g1, 0, none⟩ = some (.int .u64 gen) := (hb4.cell 0).trans rfl
          have e2 : w4.cell? ⟨g1, 1, none⟩ = some (.int .i64 cp) := (hb4.cell 1).trans rfl
          have e3 : w4.cell? ⟨g1, 2, none⟩ = some (.int .i64 sl) := (hb4.cell 2).trans rfl
          have hr4 := Hr2.out.mk hm4
          have Hm4 := Lib.hid hm4; have Hb4 := Lib.hid hb4; have Ho4 := Lib.hid ho4; have Hr4 := Lib.hid hr4; clear hm4 hb4 ho4 hr4
          have hone : ∀ v ∈ (#[.int .u64 gen, .int .i64 cp, .int .i64 sl, .slice sa (dat.length - 24) sc] : Array Value), v.oneCell' = true := by intro v hv; simp at hv; rcases hv with rfl | rfl | rfl | rfl <;> rfl
          have Hone := Lib.hid hone; clear hone
          by_cases hg0 : 0 < gen
          · have hg0' : decide ((0 : Int) < (gen : Int)) = true := by simp; omega
            go_wp2_with (first | (go_at_call 151; refine (rmay2_any _ _ _).mono ?_; rintro e w' ⟨rfl, rfl⟩) | (refine WlW.wpList_load_row rfl 200 (.tmp 7) rfl g1 rfl _ (load200 Hb4.out rfl) ?_) | (refine wpList_store_row rfl 200 (.tmp 2) (.tmp 56) rfl w.heap.size rfl _ rfl (set200 Hr4.out rfl rfl Hone.out) ?_) | fail)
            refine head_end rfl rfl rfl (setRow_has _ _ _ _ _ Hr4.out) rfl ?_
            have hmf : Mk w (w4.setRow w.heap.size #[.int .u64 gen, .int .i64 cp, .int .i64 sl, .slice sa (dat.length - 24) sc]) := mk_setRow (mk_trans Hm0.out (mk_trans Hm2.out Hm4.out)) (Nat.le_refl _) _
            have hsf : (w4.setRow w.heap.size #[.int .u64 gen, .int .i64 cp, .int .i64 sl, .slice sa (dat.length - 24) sc]).ownsRow w.heap.size 5 1 (.slice sa (dat.length - 24) sc) (dat.drop 24).length (bv (dat.drop 24)) := by
              rw [show (dat.drop 24).length = dat.length - 24 by simp]
              exact own_setRow (own_base Ho4.out (by have := Hm0.out.size; have := Hm2.out.size; have := Hm3.out.size; omega)) Hr4.out (by decide) _
            by_cases hr : rightB cp sl = true
            · refine ⟨hmf, _, by rw [Hlp.out, if_pos ⟨hg0, hr⟩, hr]; rfl, rfl, Hone.out, ?_⟩
              rw [Hlp.out, if_pos ⟨hg0, hr⟩]
              exact ⟨_, rfl, hsf⟩
            · refine ⟨hmf, _, by rw [Hlp.out, if_neg (fun h => hr h.2), show rightB cp sl = false by simpa using hr]; rfl, rfl, Hone.out, ?_⟩
              rw [Hlp.out, if_neg (fun h => hr h.2)]
              trivial
          · have hg0' : decide ((0 : Int) < (gen : Int)) = false := by simp; omega
            go_wp2_with (first | (go_at_call 151; refine (rmay2_any _ _ _).mono ?_; rintro e w' ⟨rfl, rfl⟩) | (refine WlW.wpList_load_row rfl 200 (.tmp 7) rfl g1 rfl _ (load200 Hb4.out rfl) ?_) | (refine wpList_store_row rfl 200 (.tmp 2) (.tmp 56) rfl w.heap.size rfl _ rfl (set200 Hr4.out rfl rfl Hone.out) ?_) | fail)
            refine head_end rfl rfl rfl (setRow_has _ _ _ _ _ Hr4.out) rfl ?_
            have hmf : Mk w (w4.setRow w.heap.size #[.int .u64 gen, .int .i64 cp, .int .i64 sl, .slice sa (dat.length - 24) sc]) := mk_setRow (mk_trans Hm0.out (mk_trans Hm2.out Hm4.out)) (Nat.le_refl _) _
            refine ⟨hmf, _, by rw [Hlp.out, if_neg (fun h => hg0 h.1)]; rfl, rfl, Hone.out, ?_⟩
            rw [Hlp.out, if_neg (fun h => hg0 h.1)]
            trivial
        · have hlp : lookP xs = none := by unfold lookP; rw [Hfr.out]; dsimp only; rw [if_neg (by intro h; exact hmg h.2.2.1)]
          have Hlp := Lib.hid hlp; clear hlp
          go_enter Try.func148, Try.ntmps148
          go_wp2_with fail
          refine Hget.out.mono ?_
          intro e w2 hp
          unfold FrW.GetPost at hp
          simp only [Hfr.out] at hp
          obtain ⟨hm2, dv, hod, rfl⟩ := hp
          obtain ⟨da, dc, rfl, _, _⟩ := (own_sl hod).form
          have hst := Hst4.out w2 hm2
          have hr2 := Hres.out.mk hm2
          have Hm2 := Lib.hid hm2; have Hr2 := Lib.hid hr2; have Hst := Lib.hid hst; have Hod := Lib.hid hod; clear hm2 hr2 hst hod
          have hcv : (convert 22 9 (.slice da 8 dc)).run Try.prog w2 = .ok (.string ⟨(dat.take 8).toArray⟩) w2 := FrW.str_of (by have := FrW.Sl.taken (show Bs w2 (.slice da dat.length dc) dat from own_sl Hod.out) 8 (by omega); rw [Bs, show (dat.take 8).length = 8 by simp; omega] at this; exact this)
          have hmg2 : (!(List.take 8 dat == [116, 117, 114, 110, 107, 101, 121, 49])) = true := by
            have : ¬ List.take 8 dat = [116, 117, 114, 110, 107, 101, 121, 49] := hmg
            simpa using this
          (go_wp2_with (first | (refine wpList_store_row rfl 200 (.tmp 2) (.tmp 32) rfl w.heap.size rfl zero4 rfl Hst.out ?_) | fail); refine head_end rfl rfl rfl (show Bk _ w.heap.size 200 zero4 from setRow_has _ _ _ _ _ Hr2.out) rfl ?_; exact Hk.no Hlp.out (mk_setRow (mk_trans Hm0.out Hm2.out) (Nat.le_refl _) _))
    · have hk2 : ((k.toNat : Int) != 1) = true := by
        have : ¬ k.toNat = 1 := fun h => hk1 (UInt8.toNat_inj.1 h)
        simp; omega
      have hlp : lookP xs = none := by unfold lookP; rw [Hfr.out]; dsimp only; rw [if_neg (by intro h; exact hk1 h.1)]
      have Hlp := Lib.hid hlp; clear hlp
      go_enter Try.func148, Try.ntmps148
      go_wp2_with fail
      refine Hget.out.mono ?_
      intro e w2 hp
      unfold FrW.GetPost at hp
      simp only [Hfr.out] at hp
      obtain ⟨hm2, dv, hod, rfl⟩ := hp
      obtain ⟨da, dc, rfl, _, _⟩ := (own_sl hod).form
      have hst := Hst4.out w2 hm2
      have hr2 := Hres.out.mk hm2
      have Hm2 := Lib.hid hm2; have Hr2 := Lib.hid hr2; have Hst := Lib.hid hst; have Hod := Lib.hid hod; clear hm2 hr2 hst hod
      (go_wp2_with (first | (refine wpList_store_row rfl 200 (.tmp 2) (.tmp 32) rfl w.heap.size rfl zero4 rfl Hst.out ?_) | fail); refine head_end rfl rfl rfl (show Bk _ w.heap.size 200 zero4 from setRow_has _ _ _ _ _ Hr2.out) rfl ?_; exact Hk.no Hlp.out (mk_setRow (mk_trans Hm0.out Hm2.out) (Nat.le_refl _) _))
end Go.Proofs.WlW
