/- Layer 4, disk: the walk of the statement DiskKeeps. -/
import Derived.Test.YtcfjdldlcdomgaaDkI2
namespace Go.Proofs.DkW
open Go Go.RowKit Go.Tk Go.Dk Go.Sp
attribute [local go_sem] Oper.semAt_some

theorem chg_mk {w W W' : World} {g : Nat} (hm : Mk w W) (hc : Chg (fun k => w.heap.size ≤ k ∧ k ≠ g) W W') : Mk w W' :=
  ((Chg.of_mk (S := fun k => w.heap.size ≤ k ∧ k ≠ g) hm).trans hc fun _ _ e => e).to_mk fun k hk e => by omega
set_option maxHeartbeats 8000000 in
set_option maxRecDepth 100000 in
theorem diskKeeps_any (w : World) (v0 : Value) (ds : List (Int × Int × Int)) (h0 : Ds w v0 ds) (hb0 : ds.length ≤ 1048576) (ops keep : Int) (ho : I64 ops) (hk : I64 keep) :
    Calls Try.prog 8 #[v0, .int .i64 ops, .int .i64 keep] w fun e w' => e = .returned (.bool true) ∧ Mk w w' := by
  obtain ⟨a0, cap0, rfl, _, _⟩ := h0.1.form
  have kc := fun (w : World) (C : Array Value) (n c : Nat) => Lib.run_convert_bytes_const (P := Try.prog) w 22 5 C n c Try.underlying22 Try.underlying5
  have kcv := fun (w : World) (s : ByteArray) => Lib.run_convert_string_bytes (P := Try.prog) w 9 22 5 s under9 Try.underlying22 Try.underlying5
  have H0 := Lib.hid h0; have Ho := Lib.hid ho; have Hk := Lib.hid hk; clear h0 ho hk
  go_enter Try.func8, Try.ntmps8
  go_wp2_with fail
  refine (shown_any w).mono ?_
  rintro e w1 ⟨rfl, hm1⟩
  go_wp2_with fail
  refine (new_any w1 3 (by decide) (by decide)).mono ?_
  rintro e w2 ⟨p, rfl, hp2, hm2⟩
  have Hp2 := Lib.hid hp2; have Hm1 := Lib.hid hm1; have Hm2 := Lib.hid hm2; clear hp2 hm1 hm2
  go_wp2_with fail
  have hkp0 : Kp w w2.heap.size p 0 0 (fresh 3) (w2.alloc (.cells #[.string ⟨#[]⟩, .int .i64 0, .string ⟨#[]⟩, .int .i64 0, .string ⟨#[]⟩, .int .i64 0] 55)) := by
    have hs1 := Hm1.out.size
    have hs2 := Hm2.out.size
    refine ⟨⟨rfl, rfl, rfl, rfl, fun x hx => ?_⟩, Nat.le_refl _, ?_, ?_, mk_trans Hm1.out (mk_trans Hm2.out (mk_alloc _ _)), by omega⟩
    · have : x = ([], 0) := by simpa [fresh] using hx
      subst this; simp
    · exact DX.made ⟨_, PD.trim Hp2.out, fun k hk => ⟨⟨by have := hk.1; omega, by have := hk.2; omega⟩, hk.2⟩⟩ (mk_alloc _ _)
    · exact Bk.new w2 55 _
  generalize w2.alloc (.cells #[.string ⟨#[]⟩, .int .i64 0, .string ⟨#[]⟩, .int .i64 0, .string ⟨#[]⟩, .int .i64 0] 55) = w3 at *
  generalize w2.heap.size = g at *
  have Hkp0 := Lib.hid hkp0; clear hkp0
  clear Hp2 Hm1 Hm2
  go_loopw [11, 12] (fun c i wr => ∃ (k fl : Nat) (st : St), i = .int .i64 (k : Int) ∧ c = .int .i64 (fl : Int) ∧ k ≤ ds.length ∧ k ≤ 60 ∧ Kp w g p k fl st wr) (fun _ i _ => 60 - (intOf i).toNat)
  case atStart => exact ⟨0, 0, _, rfl, rfl, Nat.zero_le _, Nat.zero_le _, Hkp0.out⟩
  case round =>
    obtain ⟨k, fl, st, rfl, rfl, hkl, hk60, hkk⟩ := hrel
    have Hkk := Lib.hid hkk; clear hkk
    by_cases hlt : k < ds.length ∧ k < 60
    · obtain ⟨hlt, h60⟩ := hlt
      obtain ⟨_, b0, off0, ha0, hb0lt, hcs⟩ := deed_at H0.out k hlt
      subst ha0
      obtain ⟨c1, c2, c3⟩ := hcs wr Hkk.out.made
      have hin := H0.out.2 _ (List.getElem_mem hlt)
      obtain ⟨D, hD⟩ : ∃ D, ds[k] = D := ⟨_, rfl⟩
      rw [hD] at c1 c2 c3 hin hcs
      obtain ⟨hi1, hi2, hi3⟩ := hin
      have hf := pickN_lt D.2.1 (show 0 < 3 by decide)
      have hn := pickN_lt D.2.2 (show 0 < 9 by decide)
      have hkd := pickN_lt D.1 (show 0 < 5 by decide)
      have Hi1 := Lib.hid hi1; have Hi2 := Lib.hid hi2; have Hi3 := Lib.hid hi3; have Hcs := Lib.hid hcs; have HD := Lib.hid hD; clear hi1 hi2 hi3 hcs hD
      go_wp2_with fail
      refine (pick_any wr _ _ 3 rfl (by decide) (by decide) Hi2.out).mono ?_
      rintro e w' ⟨rfl, rfl⟩
      go_wp2_with fail
      refine (pick_any wr _ _ 9 rfl (by decide) (by decide) Hi3.out).mono ?_
      rintro e w' ⟨rfl, rfl⟩
      generalize pickN D.2.1 3 = f at *
      generalize pickN D.2.2 9 = n at *
      go_wp2_with fail
      refine (pick_any wr _ _ 5 rfl (by decide) (by decide) Hi1.out).mono ?_
      rintro e w' ⟨rfl, rfl⟩
      generalize pickN D.1 5 = kd at *
      have hcases : kd = 0 ∨ kd = 1 ∨ kd = 2 ∨ kd = 3 ∨ kd = 4 := by omega
      rcases hcases with rfl | rfl | rfl | rfl | rfl
      · as_aux_lemma =>
        go_wp2_with fail
        generalize hS : ByteArray.extract _ _ _ = S at *
        have hS2 : S.size = min n 9 := by rw [← hS, ByteArray.size_extract]; rfl
        have hS3 : min n 9 = n := by omega
        have hsl : S.data.toList.length = n := by rw [Array.length_toList]; show S.size = n; omega
        rw [← hS2]
        obtain ⟨hbs, hbm⟩ := bytes_new wr S (by rw [hS2]; simp [maxLen]; omega)
        have hap := Hkk.out.q.append hf S.data.toList (by omega)
        have hsm := Hkk.out.q.small _ (Hkk.out.q.mem hf)
        refine (append_dx Hkk.out.dx hbm (Hkk.out.Ak hbm.size) (Hkk.out.q.ok (by omega) (Nat.le_refl _)) (by have := Hkk.out.fk; omega) (f : Int) _ S.data.toList (by rw [Bs, Array.length_toList] at hbs ⊢; exact hbs) (by omega) (new_own _) _ hap).mono ?_
        rintro e w4 ⟨rfl, hd4, hc4⟩
        have hr4 : Bk w4 g 55 (enc st.files).toArray := (Hkk.out.row.mk hbm).keep hc4 fun e => e.2 rfl
        have hm4 := chg_mk (mk_trans Hkk.out.made hbm) hc4
        have h3 := Hkk.out.q.three
        have c5 : w4.cell? ⟨g, f * 2, none⟩ = some (.string ⟨(st.file f).1.toArray⟩) := by
          rw [hr4.cell, List.getElem?_toArray, enc_s _ f (by omega), St.file_eq (by omega)]; rfl
        have hfr := hr4.frozen (f * 2)
        have hcat := cat_str (st.file f).1 S
        generalize S.data.toList = T at *
        have hK2 : DkW.Kp w g p (k + 1) fl (st.put f ((st.file f).1 ++ T, (st.file f).2)) (w4.setCell ⟨g, f * 2, none⟩ (.string ⟨((st.file f).1 ++ T).toArray⟩)) :=
          Hkk.out.put ⟨by simp; omega, by simp; omega⟩ (dx_set hd4 _ _) (mk_setg hm4 Hkk.out.g _ _) (str_row hr4 (by omega) _)
        have Hd4 := Lib.hid hd4; have Hc4 := Lib.hid hc4; have Hr4 := Lib.hid hr4; have Hm4 := Lib.hid hm4; have Hbs := Lib.hid hbs; have Hbm := Lib.hid hbm; have Hap := Lib.hid hap; have Hsm := Lib.hid hsm; have HS := Lib.hid hS; clear hd4 hc4 hr4 hm4 hbs hbm hap hsm hS
        have hz1 : S.size ≤ 8 := by omega
        have hz2 : (st.file f).1.length ≤ 540 := by have := Hsm.out.2; omega
        clear hS2 hS3 hsl
        dsimp only
        have hsame := Kp.same hK2 (by omega)
        have hrow := hK2.row
        have hrs := hK2.rowsize
        have HK2 := Lib.hid hK2; have Hsame := Lib.hid hsame; have Hrow := Lib.hid hrow; have Hrs := Lib.hid hrs; clear hK2 hsame hrow hrs
        go_wp2_with (first | (refine wpList_load_row rfl 55 (.tmp 10) rfl g rfl 55 _ (0, 0) _ Hrow.out under55 rfl Hrs.out ?_) | fail)
        refine Hsame.out.mono ?_
        rintro e w7 ⟨rfl, hm7⟩
        have hK7 := HK2.out.on hm7
        have hfalls7 := hK7.falls
        have HK7 := Lib.hid hK7; have Hfalls7 := Lib.hid hfalls7; clear hK7 hfalls7
        clear hm7
        go_wp2_with (first | (go_at_call 40; refine Hfalls7.out.mono ?_; rintro e w' ⟨rfl, rfl⟩) | fail)
        go_roundw
        case rel => exact ⟨k + 1, _, _, by go_num, rfl, by omega, by omega, HK7.out⟩
        case measure => simp [intOf]; omega
      · as_aux_lemma =>
        go_wp2_with fail
        generalize hS : ByteArray.extract _ _ _ = S at *
        have hS2 : S.size = min n 9 := by rw [← hS, ByteArray.size_extract]; rfl
        have hS3 : min n 9 = n := by omega
        have hsl : S.data.toList.length = n := by rw [Array.length_toList]; show S.size = n; omega
        rw [← hS2]
        obtain ⟨hbs, hbm⟩ := bytes_new wr S (by rw [hS2]; simp [maxLen]; omega)
        have hap := Hkk.out.q.append hf S.data.toList (by omega)
        have hsm := Hkk.out.q.small _ (Hkk.out.q.mem hf)
        refine (append_dx Hkk.out.dx hbm (Hkk.out.Ak hbm.size) (Hkk.out.q.ok (by omega) (Nat.le_refl _)) (by have := Hkk.out.fk; omega) (f : Int) _ S.data.toList (by rw [Bs, Array.length_toList] at hbs ⊢; exact hbs) (by omega) (new_own _) _ hap).mono ?_
        rintro e w4 ⟨rfl, hd4, hc4⟩
        have hr4 : Bk w4 g 55 (enc st.files).toArray := (Hkk.out.row.mk hbm).keep hc4 fun e => e.2 rfl
        have hm4 := chg_mk (mk_trans Hkk.out.made hbm) hc4
        have h3 := Hkk.out.q.three
        have c5 : w4.cell? ⟨g, f * 2, none⟩ = some (.string ⟨(st.file f).1.toArray⟩) := by
          rw [hr4.cell, List.getElem?_toArray, enc_s _ f (by omega), St.file_eq (by omega)]; rfl
        have hfr := hr4.frozen (f * 2)
        have hcat := cat_str (st.file f).1 S
        generalize S.data.toList = T at *
        have hK2 : DkW.Kp w g p (k + 1) fl (st.put f ((st.file f).1 ++ T, (st.file f).2)) (w4.setCell ⟨g, f * 2, none⟩ (.string ⟨((st.file f).1 ++ T).toArray⟩)) :=
          Hkk.out.put ⟨by simp; omega, by simp; omega⟩ (dx_set hd4 _ _) (mk_setg hm4 Hkk.out.g _ _) (str_row hr4 (by omega) _)
        have Hd4 := Lib.hid hd4; have Hc4 := Lib.hid hc4; have Hr4 := Lib.hid hr4; have Hm4 := Lib.hid hm4; have Hbs := Lib.hid hbs; have Hbm := Lib.hid hbm; have Hap := Lib.hid hap; have Hsm := Lib.hid hsm; have HS := Lib.hid hS; clear hd4 hc4 hr4 hm4 hbs hbm hap hsm hS
        have hz1 : S.size ≤ 8 := by omega
        have hz2 : (st.file f).1.length ≤ 540 := by have := Hsm.out.2; omega
        clear hS2 hS3 hsl
        dsimp only
        have hsame := Kp.same hK2 (by omega)
        have hrow := hK2.row
        have hrs := hK2.rowsize
        have HK2 := Lib.hid hK2; have Hsame := Lib.hid hsame; have Hrow := Lib.hid hrow; have Hrs := Lib.hid hrs; clear hK2 hsame hrow hrs
        go_wp2_with (first | (refine wpList_load_row rfl 55 (.tmp 10) rfl g rfl 55 _ (0, 0) _ Hrow.out under55 rfl Hrs.out ?_) | fail)
        refine Hsame.out.mono ?_
        rintro e w7 ⟨rfl, hm7⟩
        have hK7 := HK2.out.on hm7
        have hfalls7 := hK7.falls
        have HK7 := Lib.hid hK7; have Hfalls7 := Lib.hid hfalls7; clear hK7 hfalls7
        clear hm7
        go_wp2_with (first | (go_at_call 40; refine Hfalls7.out.mono ?_; rintro e w' ⟨rfl, rfl⟩) | fail)
        go_roundw
        case rel => exact ⟨k + 1, _, _, by go_num, rfl, by omega, by omega, HK7.out⟩
        case measure => simp [intOf]; omega
      · as_aux_lemma =>
        go_wp2_with fail
        have hsm := Hkk.out.q.small _ (Hkk.out.q.mem hf)
        refine (sync_dx Hkk.out.dx (mk_refl _) (Hkk.out.Ak (Nat.le_refl _)) (Hkk.out.q.ok (by omega) (Nat.le_refl _)) (by have := Hkk.out.fk; omega) (f : Int) _ (Hkk.out.q.sync hf)).mono ?_
        rintro e w4 ⟨rfl, hd4, hc4⟩
        have hr4 : Bk w4 g 55 (enc st.files).toArray := Hkk.out.row.keep hc4 fun e => e.2 rfl
        have hm4 := chg_mk Hkk.out.made hc4
        have h3 := Hkk.out.q.three
        have c5 : w4.cell? ⟨g, f * 2, none⟩ = some (.string ⟨(st.file f).1.toArray⟩) := by
          rw [hr4.cell, List.getElem?_toArray, enc_s _ f (by omega), St.file_eq (by omega)]; rfl
        have c6 : w4.cell? ⟨g, f * 2 + 1, none⟩ = some (.int .i64 ((st.file f).2 : Int)) := by
          rw [hr4.cell, List.getElem?_toArray, enc_n _ f (by omega), St.file_eq (by omega)]
        have hfr := hr4.frozen (f * 2 + 1)
        have hK2 : DkW.Kp w g p (k + 1) fl (st.put f ((st.file f).1, (st.file f).1.length)) (w4.setCell ⟨g, f * 2 + 1, none⟩ (.int .i64 ((st.file f).1.length : Int))) :=
          Hkk.out.put ⟨by simp, by simp; omega⟩ (dx_set hd4 _ _) (mk_setg hm4 Hkk.out.g _ _) (num_row hr4 (by omega) _)
        have Hd4 := Lib.hid hd4; have Hc4 := Lib.hid hc4; have Hr4 := Lib.hid hr4; have Hm4 := Lib.hid hm4; have Hsm := Lib.hid hsm; clear hd4 hc4 hr4 hm4 hsm
        dsimp only
        have hsame := Kp.same hK2 (by omega)
        have hrow := hK2.row
        have hrs := hK2.rowsize
        have HK2 := Lib.hid hK2; have Hsame := Lib.hid hsame; have Hrow := Lib.hid hrow; have Hrs := Lib.hid hrs; clear hK2 hsame hrow hrs
        go_wp2_with (first | (refine wpList_load_row rfl 55 (.tmp 10) rfl g rfl 55 _ (0, 0) _ Hrow.out under55 rfl Hrs.out ?_) | fail)
        refine Hsame.out.mono ?_
        rintro e w7 ⟨rfl, hm7⟩
        have hK7 := HK2.out.on hm7
        have hfalls7 := hK7.falls
        have HK7 := Lib.hid hK7; have Hfalls7 := Lib.hid hfalls7; clear hK7 hfalls7
        clear hm7
        go_wp2_with (first | (go_at_call 40; refine Hfalls7.out.mono ?_; rintro e w' ⟨rfl, rfl⟩) | fail)
        go_roundw
        case rel => exact ⟨k + 1, _, _, by go_num, rfl, by omega, by omega, HK7.out⟩
        case measure => simp [intOf]; omega
      · as_aux_lemma =>
        go_wp2_with fail
        have hsm := Hkk.out.q.small _ (Hkk.out.q.mem hf)
        have h3 := Hkk.out.q.three
        have l0 : ∀ w', Mk wr w' → w'.cell? ⟨g, f * 2, none⟩ = some (.string ⟨(st.file f).1.toArray⟩) := fun w' h => (Hkk.out.on h).cs hf
        have l1 : ∀ w', Mk wr w' → w'.cell? ⟨b0, off0 + k * 3 + 2, none⟩ = some (.int .i64 D.2.2) := fun w' h => (Hcs.out w' (mk_trans Hkk.out.made h)).2.2
        have q1 := @qAt_value Try.prog
        have hln : ((st.file f).1.length : Int) ≤ 540 := by omega
        have hki : (k : Int) < (ds.length : Int) := by omega
        refine wp_region_sp (fun _ => false) (fun w' => Mk wr w') (by kernel_rfl) (by kernel_rfl) (mk_refl _) (fun _ _ => mk_trans) ?_
        intro E hE hne
        iterate 11 (first | (refine spk (by rfl) (by rfl) (by rfl) (fun K hK => ?_); go_big_quiet_op; first | (refine hK _ ?_; clear hK K) | (apply Exists.intro; refine ⟨fun _ => ?_, hK _ ?_⟩; (exact fun _ => rfl); clear hK K)) | (refine spq (by rfl) (by rfl) (fun K hK => ?_); apply Exists.intro; refine ⟨fun w' hw' => ?_, ?_⟩; (go_simp; exact rfl); (go_simp; refine hK _ ?_; clear hK K)))
        (refine spq (by rfl) (by rfl) (fun K hK => ?_); apply Exists.intro; refine ⟨fun w' hw' => ?_, ?_⟩; (have q2 := @qAt_enter Try.prog; go_simp; refine ⟨rfl, (pick_any w' _ _ ((st.file f).1.length + 1) rfl (by omega) (by omega) Hi3.out).mono fun e w'' ⟨h1, h2⟩ => by subst h2; rw [h1]; exact ⟨rfl, mk_refl _⟩⟩); (go_simp; refine hK _ ?_; clear hK K))
        iterate 1 (first | (refine spk (by rfl) (by rfl) (by rfl) (fun K hK => ?_); go_big_quiet_op; first | (refine hK _ ?_; clear hK K) | (apply Exists.intro; refine ⟨fun _ => ?_, hK _ ?_⟩; (exact fun _ => rfl); clear hK K)) | (refine spq (by rfl) (by rfl) (fun K hK => ?_); apply Exists.intro; refine ⟨fun w' hw' => ?_, ?_⟩; (go_simp; exact rfl); (go_simp; refine hK _ ?_; clear hK K)))
        refine sp_nil ?_
        intro w9 hw9
        have hm9 := (hE.out _ hw9).1
        have hK9 := Hkk.out.on hm9
        have hnt := pickN_lt D.2.2 (show 0 < (st.file f).1.length + 1 by omega)
        have Hm9 := Lib.hid hm9; have HK9 := Lib.hid hK9; have Hsm := Lib.hid hsm; clear hm9 hK9 hsm
        clear hw9 hE hne E l0 l1 q1
        generalize pickN D.2.2 ((st.file f).1.length + 1) = n' at *
        go_wp2_with fail
        refine (truncate_dx HK9.out.dx (mk_refl _) (HK9.out.Ak (Nat.le_refl _)) (HK9.out.q.ok (by omega) (Nat.le_refl _)) (by have := HK9.out.fk; omega) (f : Int) (n' : Int) _ (HK9.out.q.truncate hf (by omega))).mono ?_
        rintro e w4 ⟨rfl, hd4, hc4⟩
        have hr4 : Bk w4 g 55 (enc st.files).toArray := HK9.out.row.keep hc4 fun e => e.2 rfl
        have hm4 := chg_mk HK9.out.made hc4
        have c5 : w4.cell? ⟨g, f * 2, none⟩ = some (.string ⟨(st.file f).1.toArray⟩) := by
          rw [hr4.cell, List.getElem?_toArray, enc_s _ f (by omega), St.file_eq (by omega)]; rfl
        have c6 : w4.cell? ⟨g, f * 2 + 1, none⟩ = some (.int .i64 ((st.file f).2 : Int)) := by
          rw [hr4.cell, List.getElem?_toArray, enc_n _ f (by omega), St.file_eq (by omega)]
        have f5 := hr4.frozen (f * 2)
        have f6 := hr4.frozen (f * 2 + 1)
        have hcut := cut_str (st.file f).1 n' (by omega)
        have hK2 : DkW.Kp w g p (k + 1) fl (st.put f ((st.file f).1.take n', min (st.file f).2 n')) ((w4.setCell ⟨g, f * 2, none⟩ (.string ⟨((st.file f).1.take n').toArray⟩)).setCell ⟨g, f * 2 + 1, none⟩ (.int .i64 ((min (st.file f).2 n' : Nat) : Int))) := by
          have h1 := str_row hr4 (show f < st.files.length by omega) ((st.file f).1.take n')
          have h2 := num_row (f := f) (st := st.put f ((st.file f).1.take n', (st.file f).2)) h1 (by simp [St.put]; omega) (min (st.file f).2 n')
          have e1 : (st.put f ((st.file f).1.take n', (st.file f).2)).file f = ((st.file f).1.take n', (st.file f).2) := by simp [St.put, St.file, h3, hf]
          rw [e1] at h2
          have e2 : (st.put f ((st.file f).1.take n', (st.file f).2)).put f ((st.file f).1.take n', min (st.file f).2 n') = st.put f ((st.file f).1.take n', min (st.file f).2 n') := by simp [St.put]
          rw [e2] at h2
          have hs := Hsm.out
          have hmm : min (st.file f).2 n' ≤ min n' (st.file f).1.length := by omega
          exact HK9.out.put ⟨by simpa using hmm, by simp; omega⟩ (dx_set (dx_set hd4 _ _) _ _) (mk_setg (mk_setg hm4 Hkk.out.g _ _) Hkk.out.g _ _) h2
        obtain ⟨T, hT⟩ : ∃ T, min (st.file f).2 n' = T := ⟨_, rfl⟩
        rw [hT] at hK2
        have e1 : (if (n' : Int) < ((st.file f).2 : Int) then (n' : Int) else ((st.file f).2 : Int)) = (T : Int) := by split <;> omega
        have e2 : (if n' < (st.file f).2 then (n' : Int) else ((st.file f).2 : Int)) = (T : Int) := by split <;> omega
        have hn1 : (n' : Int) ≤ ((st.file f).1.length : Int) := by omega
        have hn2 : n' ≤ (st.file f).1.length := by omega
        have Hd4 := Lib.hid hd4; have Hc4 := Lib.hid hc4; have Hr4 := Lib.hid hr4; have Hm4 := Lib.hid hm4; have HT := Lib.hid hT; clear hd4 hc4 hr4 hm4 hT
        dsimp only
        have hsame := Kp.same hK2 (by omega)
        have hrow := hK2.row
        have hrs := hK2.rowsize
        have HK2 := Lib.hid hK2; have Hsame := Lib.hid hsame; have Hrow := Lib.hid hrow; have Hrs := Lib.hid hrs; clear hK2 hsame hrow hrs
        go_wp2_with (first | (refine wpList_load_row rfl 55 (.tmp 10) rfl g rfl 55 _ (0, 0) _ Hrow.out under55 rfl Hrs.out ?_) | fail)
        refine Hsame.out.mono ?_
        rintro e w7 ⟨rfl, hm7⟩
        have hK7 := HK2.out.on hm7
        have hfalls7 := hK7.falls
        have HK7 := Lib.hid hK7; have Hfalls7 := Lib.hid hfalls7; clear hK7 hfalls7
        clear hm7
        go_wp2_with (first | (go_at_call 40; refine Hfalls7.out.mono ?_; rintro e w' ⟨rfl, rfl⟩) | fail)
        go_roundw
        case rel => exact ⟨k + 1, _, _, by go_num, rfl, by omega, by omega, HK7.out⟩
        case measure => simp [intOf]; omega
      · as_aux_lemma =>
        go_wp2_with fail
        have h3 := Hkk.out.q.three
        have hn2 : ((n : Int) / 2) = ((n / 2 : Nat) : Int) := by omega
        rw [hn2]
        obtain ⟨m, hm2⟩ : ∃ m, n / 2 = m := ⟨_, rfl⟩
        rw [hm2]
        have hm8 : m < 9 := by omega
        have hkeep : ([n, m].map fun k => ((k : Nat) : Int)) = [(n : Int), (m : Int)] := rfl
        have hcr := Hkk.out.q.crash [n, m]
        have hcd := Hkk.out.q.crashed [n, m]
        have hq2 := Hkk.out.q.off
        rw [hkeep] at hcr hcd
        have hoff : (st.crash [(n : Int), (m : Int)]).off = true := by simp [St.crash, hq2, St.fall]
        have hokc : (st.crash [(n : Int), (m : Int)]).Ok (fl + 1) := by
          have h1 := hcd.ok (m := fl + 1) (by omega) (Nat.le_refl _)
          refine ⟨⟨h1.some, h1.many, h1.file, h1.falls⟩, fun a b hab => ?_⟩
          simp [St.crash, hq2, St.fall] at hab
        refine (crash_dx Hkk.out.dx (mk_alloc _ _) (Hkk.out.Ak (by simp)) (Hkk.out.q.ok (by omega) (Nat.le_refl _)) (by have := Hkk.out.fk; omega) _ [(n : Int), (m : Int)] (own_sl (lit_own wr #[.int .i64 (n : Int), .int .i64 (m : Int)] 3 (by simp [maxLen]))) (new_own _) _ rfl).mono ?_
        rintro e w4 ⟨rfl, hd4, hc4⟩
        have hr4 : Bk w4 g 55 (enc st.files).toArray := (Hkk.out.row.alloc _).keep hc4 fun e => e.2 rfl
        have hm4 := chg_mk (mk_trans Hkk.out.made (mk_alloc _ _)) hc4
        have hflk := Hkk.out.fk
        have hsm := Hkk.out.q.small
        generalize st.crash [(n : Int), (m : Int)] = sc at *
        have Hd4 := Lib.hid hd4; have Hc4 := Lib.hid hc4; have Hr4 := Lib.hid hr4; have Hm4 := Lib.hid hm4; have Hn2 := Lib.hid hn2; have Hm2 := Lib.hid hm2; have Hcr := Lib.hid hcr; have Hcd := Lib.hid hcd; have Hq2 := Lib.hid hq2; have Hoff := Lib.hid hoff; have Hokc := Lib.hid hokc; have Hsm := Lib.hid hsm; have Hkeep := Lib.hid hkeep; clear hd4 hc4 hr4 hm4 hn2 hm2 hcr hcd hq2 hoff hokc hsm hkeep
        go_wp2_with fail
        refine (read_dx Hd4.out (mk_refl _) Hokc.out (f : Int) 0 0 ([], 40) (by simp [St.read, Hoff.out])).mono ?_
        rintro e w5 ⟨v5, rfl, ho5, hm5⟩
        have hd5 := Hd4.out.made hm5
        have hr5 := Hr4.out.mk hm5
        have hm5' := mk_trans Hm4.out hm5
        have Hd5 := Lib.hid hd5; have Hr5 := Lib.hid hr5; have Hm5' := Lib.hid hm5'; clear hd5 hr5 hm5'
        clear ho5 hm5
        dsimp only
        go_wp2_with (first | (go_at_call 37; refine (alive_dx Hd5.out (mk_refl _) false (by rw [Hoff.out]; rfl)).mono ?_; rintro e w' ⟨rfl, rfl⟩) | fail)
        refine (restart_dx Hd5.out (mk_refl _) (fun k hk => by have h1 := Hr5.out.lt; have h2 := Hm5'.out.size; omega) _ rfl).mono ?_
        rintro e w6 ⟨rfl, hd6, hc6⟩
        have hr6 : Bk w6 g 55 (enc st.files).toArray := Hr5.out.keep hc6 fun e => e.2 rfl
        have hm6 := chg_mk Hm5'.out hc6
        have hqc : Q sc.restart (9 * (k + 1)) (fl + 1) := Hcd.out.mono (by omega)
        have hfil : sc.restart.files = st.files.mapIdx (cut [n, m]) := by rw [Hcr.out]
        generalize sc.restart = s2 at *
        have lk : ∀ (j : Nat), j < 3 → ∀ W : World, (W.alloc (.cells #[.int .i64 (n : Int), .int .i64 (m : Int), .int .i64 0] 3)).cell? ⟨W.heap.size, j, none⟩ = some (.int .i64 (([n, m].getD j 0 : Nat) : Int)) := by
          intro j hj W
          rw [(Bk.new W 3 _).cell]
          have : j = 0 ∨ j = 1 ∨ j = 2 := by omega
          rcases this with rfl | rfl | rfl <;> rfl
        have hn2' : ((n : Int) / 2) = (m : Int) := by rw [Hn2.out, Hm2.out]
        have Hd6 := Lib.hid hd6; have Hr6 := Lib.hid hr6; have Hm6 := Lib.hid hm6; have Hqc := Lib.hid hqc; have Hfil := Lib.hid hfil; have Lk := Lib.hid lk; clear hd6 hr6 hm6 hqc hfil lk
        clear Hcr Hcd Hokc Hoff Hd5 Hr5 Hd4 Hc4 Hr4 hc6
        go_wp2_with fail
        go_loopw [20] (fun x wq => ∃ j : Nat, x = .int .i64 (j : Int) ∧ j ≤ 3 ∧ DX (fun k => w.heap.size ≤ k ∧ k ≠ g) wq p s2 ∧ Mk w wq ∧ Bk wq g 55 (enc (part' [n, m] st.files j)).toArray) (fun x _ => 3 - (intOf x).toNat)
        case atStart => exact ⟨0, rfl, by omega, Hd6.out, Hm6.out, by rw [part'_zero]; exact Hr6.out⟩
        case round =>
          obtain ⟨j, rfl, hj3, hdq, hmq, hrq⟩ := hrel
          have h33 : st.files.length = 3 := h3
          by_cases hj : j < 3
          · have hpl : j < (part' [n, m] st.files j).length := by rw [part'_length]; omega
            have hpe : (part' [n, m] st.files j)[j] = st.file j := by rw [part'_get _ _ _ (by omega), St.file_eq (by omega)]
            have d5 : ∀ o, (wr.alloc o).cell? ⟨g, j * 2, none⟩ = some (.string ⟨(st.file j).1.toArray⟩) := fun o => by
              rw [(hrq.alloc o).cell, List.getElem?_toArray, enc_s _ j hpl, hpe]; rfl
            have d6 : ∀ o, (wr.alloc o).cell? ⟨g, j * 2 + 1, none⟩ = some (.int .i64 ((st.file j).2 : Int)) := fun o => by
              rw [(hrq.alloc o).cell, List.getElem?_toArray, enc_n _ j hpl, hpe]
            have d7 : ∀ o, (wr.alloc o).frozen? ⟨g, j * 2, none⟩ = false := fun o => (hrq.alloc o).frozen _
            have d8 : ∀ o, (wr.alloc o).frozen? ⟨g, j * 2 + 1, none⟩ = false := fun o => (hrq.alloc o).frozen _
            have lkj := Lk.out j hj wr
            have hK8 : [n, m].getD j 0 ≤ 8 := by
              have : j = 0 ∨ j = 1 ∨ j = 2 := by omega
              rcases this with rfl | rfl | rfl
              · show n ≤ 8; omega
              · show m ≤ 8; omega
              · exact Nat.zero_le _
            have hsj := Hsm.out (st.file j) (Hkk.out.q.mem hj)
            have hct : cut [n, m] j (st.file j) = ((st.file j).1.take (min (st.file j).1.length ((st.file j).2 + [n, m].getD j 0)), min (st.file j).1.length ((st.file j).2 + [n, m].getD j 0)) := rfl
            have hps := part'_succ [n, m] st.files j (by omega)
            rw [St.file_eq (by omega)] at hps
            obtain ⟨x, hx⟩ : ∃ x, st.file j = x := ⟨_, rfl⟩
            obtain ⟨bs, t⟩ := x
            rw [hx] at d5 d6 hsj hct hps hpe
            dsimp only at d5 d6 hsj hct
            obtain ⟨K, hK⟩ : ∃ K, [n, m].getD j 0 = K := ⟨_, rfl⟩
            rw [hK] at lkj hK8 hct
            obtain ⟨T, hT⟩ : ∃ T, min bs.length (t + K) = T := ⟨_, rfl⟩
            rw [hT] at hct
            have hTb : T ≤ bs.length := by omega
            have hTi : (T : Int) ≤ (bs.length : Int) := by omega
            have e1 : IntKind.i64.wrap ((t : Int) + (K : Int)) = ((t + K : Nat) : Int) := by
              have := IntWalk.i64_in ((t : Int) + (K : Int)) (by omega)
              omega
            have e2 : (if ((t + K : Nat) : Int) < (bs.length : Int) then ((t + K : Nat) : Int) else (bs.length : Int)) = (T : Int) := by split <;> omega
            have e3 : (if t + K < bs.length then ((t + K : Nat) : Int) else (bs.length : Int)) = (T : Int) := by split <;> omega
            have hcu := cut_str bs T hTb
            have hbl : bs.length ≤ 540 := by omega
            have HT := Lib.hid hT
            clear hpe
            have Hpl := Lib.hid hpl; have Hct := Lib.hid hct; have Hps := Lib.hid hps; have Hx := Lib.hid hx; have HK := Lib.hid hK; have Hsj := Lib.hid hsj; clear hpl hct hps hx hK hsj
            clear hT
            generalize t + K = TK at *
            go_wp2_with fail
            have hrq1 := hrq.alloc (.cells #[.int .i64 (n : Int), .int .i64 (m : Int), .int .i64 0] 3)
            have hdq1 := hdq.made (mk_alloc wr (.cells #[.int .i64 (n : Int), .int .i64 (m : Int), .int .i64 0] 3))
            have hmq1 := mk_trans hmq (mk_alloc wr (.cells #[.int .i64 (n : Int), .int .i64 (m : Int), .int .i64 0] 3))
            have d5 := d5 (.cells #[.int .i64 (n : Int), .int .i64 (m : Int), .int .i64 0] 3)
            have d6 := d6 (.cells #[.int .i64 (n : Int), .int .i64 (m : Int), .int .i64 0] 3)
            have d7 := d7 (.cells #[.int .i64 (n : Int), .int .i64 (m : Int), .int .i64 0] 3)
            have d8 := d8 (.cells #[.int .i64 (n : Int), .int .i64 (m : Int), .int .i64 0] 3)
            clear lkj
            generalize wr.alloc (.cells #[.int .i64 (n : Int), .int .i64 (m : Int), .int .i64 0] 3) = W1 at *
            have Hrq1 := Lib.hid hrq1; have Hdq1 := Lib.hid hdq1; have Hmq1 := Lib.hid hmq1; clear hrq1 hdq1 hmq1
            clear hrq hdq hmq
            go_still_tail 20, (by kernel_rfl)
            go_wp2
            go_roundw
            case rel =>
              refine ⟨j + 1, by go_num, by omega, (dx_set (dx_set Hdq1.out _ _) _ _).made (mk_drewN _ 1), mk_trans (mk_setg (mk_setg Hmq1.out Hkk.out.g _ _) Hkk.out.g _ _) (mk_drewN _ 1), ?_⟩
              have hr9 := cut_row Hrq1.out j Hpl.out (bs.take T) T
              rw [← Hct.out, Hps.out] at hr9
              exact hr9
            case measure => simp [intOf]; omega
          · obtain rfl : j = 3 := by omega
            have hK2 : DkW.Kp w g p (k + 1) (fl + 1) s2 wr := by
              refine ⟨Hqc.out, by omega, hdq, ?_, hmq, Hkk.out.g⟩
              have := part'_all [n, m] st.files
              rw [h33] at this
              rw [Hfil.out, ← this]; exact hrq
            clear hdq hmq hrq
            have hsame := Kp.same hK2 (by omega)
            have hrow := hK2.row
            have hrs := hK2.rowsize
            have HK2 := Lib.hid hK2; have Hsame := Lib.hid hsame; have Hrow := Lib.hid hrow; have Hrs := Lib.hid hrs; clear hK2 hsame hrow hrs
            go_wp2_with (first | (refine wpList_load_row rfl 55 (.tmp 10) rfl g rfl 55 _ (0, 0) _ Hrow.out under55 rfl Hrs.out ?_) | fail)
            refine Hsame.out.mono ?_
            rintro e w7 ⟨rfl, hm7⟩
            have hK7 := HK2.out.on hm7
            have hfalls7 := hK7.falls
            have HK7 := Lib.hid hK7; have Hfalls7 := Lib.hid hfalls7; clear hK7 hfalls7
            clear hm7
            go_wp2_with (first | (go_at_call 40; refine Hfalls7.out.mono ?_; rintro e w' ⟨rfl, rfl⟩) | fail)
            go_roundw
            case rel => exact ⟨k + 1, _, _, by go_num, by first | rfl | go_num, by omega, by omega, HK7.out⟩
            case measure => simp [intOf]; omega
    · have hex : (¬ k < ds.length) ∨ (k < ds.length ∧ ¬ k < 60) := by omega
      have hn5 := pickN_lt ops (show 0 < 5 by decide)
      have hk12 := pickN_lt keep (show 0 < 12 by decide)
      have hflk := Hkk.out.fk
      have h3 := Hkk.out.q.three
      rcases hex with hx | ⟨hx1, hx2⟩
      all_goals as_aux_lemma =>
        go_wp2_with fail
        refine (pick_any wr _ _ 5 rfl (by decide) (by decide) Ho.out).mono ?_
        rintro e w' ⟨rfl, rfl⟩
        go_wp2_with fail
        refine (pick_any wr _ _ 12 rfl (by decide) (by decide) Hk.out).mono ?_
        rintro e w' ⟨rfl, rfl⟩
        generalize pickN ops 5 = n at *
        generalize pickN keep 12 = m at *
        have hn5' : n ≤ 5 := by omega
        go_wp2_with fail
        refine (fuse_dx Hkk.out.dx (mk_alloc _ _) (Hkk.out.Ak (by simp)) (n : Int) _ [(m : Int)] (own_sl (lit_own wr #[.int .i64 (m : Int)] 3 (by simp [maxLen]))) (by simp) _ (lx_zero (n := n) (k := m) Hkk.out.q)).mono ?_
        rintro e w4 ⟨rfl, hd4, hc4⟩
        have hr4 : Bk w4 g 55 (enc (lx st n m 0).files).toArray := by
          rw [lx_files0 Hkk.out.q]
          exact (Hkk.out.row.alloc _).keep hc4 fun e => e.2 rfl
        have hm4 := chg_mk (mk_trans Hkk.out.made (mk_alloc _ _)) hc4
        have Hd4 := Lib.hid hd4; have Hr4 := Lib.hid hr4; have Hm4 := Lib.hid hm4; clear hd4 hr4 hm4
        clear hc4
        dsimp only
        go_wp2_with fail
        go_loopw [25] (fun x wq => ∃ j : Nat, x = .int .i64 (j : Int) ∧ j ≤ n ∧ DX (fun k => w.heap.size ≤ k ∧ k ≠ g) wq p (lx st n m j) ∧ Mk w wq ∧ Bk wq g 55 (enc (lx st n m j).files).toArray) (fun x _ => n - (intOf x).toNat)
        case atStart => exact ⟨0, rfl, Nat.zero_le _, Hd4.out, Hm4.out, Hr4.out⟩
        case round =>
          obtain ⟨j, rfl, hjn, hdq, hmq, hrq⟩ := hrel
          have Hdq := Lib.hid hdq; have Hmq := Lib.hid hmq; have Hrq := Lib.hid hrq; clear hdq hmq hrq
          by_cases hj : j < n
          · have hz := xy_len j
            have hs := Hkk.out.q.small _ (Hkk.out.q.mem (show 0 < 3 by decide))
            have hgs := Hrq.out.lt
            have hws := Hmq.out.size
            go_wp2_with fail
            refine (append_dx Hdq.out (mk_alloc _ _) (fun k hk => by simp at hk; omega) (lx_ok Hkk.out.q (by omega) hjn hn5') (by omega) 0 _ [120, 121] (FrW.new_bytes_m wr [120, 121] #[.int .u8 120, .int .u8 121] 5 2 (2, 3) rfl rfl (by simp [maxLen]) (by omega)) (by decide) (new_own _) _ (lx_succ Hkk.out.q (by omega) hj hn5')).mono ?_
            rintro e w5 ⟨rfl, hd5, hc5⟩
            have hr5 : Bk w5 g 55 (enc (lx st n m j).files).toArray := (Hrq.out.alloc _).keep hc5 fun e => e.2 rfl
            have hm5 := chg_mk (mk_trans Hmq.out (mk_alloc _ _)) hc5
            have hll := lx_len (n := n) (k := m) Hkk.out.q j
            have hla := lx_at (n := n) (k := m) Hkk.out.q j (by omega)
            have c0 : w5.cell? ⟨g, 0, none⟩ = some (.string ⟨((st.file 0).1 ++ xy j).toArray⟩) := by
              rw [hr5.cell, List.getElem?_toArray, show 0 = 0 * 2 from rfl, enc_s _ 0 (by omega), hla]; rfl
            have f0 := hr5.frozen 0
            have hcat := cat_str ((st.file 0).1 ++ xy j) ⟨#[120, 121]⟩
            rw [show (⟨#[120, 121]⟩ : ByteArray).data.toList = [120, 121] from rfl, List.append_assoc, ← xy_succ] at hcat
            have hr6 := s_row hr5 0 (by omega) ((st.file 0).1 ++ xy (j + 1))
            rw [hla, lx_files, Nat.zero_mul] at hr6
            have hlen : ((st.file 0).1 ++ xy j).length ≤ 1000 := by simp; omega
            generalize (st.file 0).1 ++ xy j = B at *
            generalize (st.file 0).1 ++ xy (j + 1) = B2 at *
            have Hd5 := Lib.hid hd5; have Hr5 := Lib.hid hr5; have Hm5 := Lib.hid hm5; have Hr6 := Lib.hid hr6; have Hs := Lib.hid hs; have Hz := Lib.hid hz; clear hd5 hr5 hm5 hr6 hs hz
            clear hc5 hla hll
            dsimp only
            go_wp2_with fail
            go_roundw
            case rel => exact ⟨j + 1, by go_num, by omega, dx_set Hd5.out _ _, mk_setg Hm5.out Hkk.out.g _ _, Hr6.out⟩
            case measure => simp [intOf]; omega
          · obtain rfl : j = n := by omega
            have hz := xy_len j
            have hs := Hkk.out.q.small _ (Hkk.out.q.mem (show 0 < 3 by decide))
            have hgs := Hrq.out.lt
            have hws := Hmq.out.size
            go_wp2_with fail
            refine (append_dx Hdq.out (mk_alloc _ _) (fun k hk => by simp at hk; omega) (lx_ok Hkk.out.q (by omega) hjn hn5') (by omega) 0 _ [122, 122, 122] (FrW.new_bytes_m wr [122, 122, 122] #[.int .u8 122, .int .u8 122, .int .u8 122] 5 3 (3, 4) rfl rfl (by simp [maxLen]) (by omega)) (by decide) (new_own _) _ (zz_append Hkk.out.q (by omega) hn5')).mono ?_
            rintro e w5 ⟨rfl, hd5, hc5⟩
            have hr5 : Bk w5 g 55 (enc (lx st j m j).files).toArray := (Hrq.out.alloc _).keep hc5 fun e => e.2 rfl
            have hm5 := chg_mk (mk_trans Hmq.out (mk_alloc _ _)) hc5
            have hll := lx_len (n := j) (k := m) Hkk.out.q j
            have hla := lx_at (n := j) (k := m) Hkk.out.q j (by omega)
            have c0 : w5.cell? ⟨g, 0, none⟩ = some (.string ⟨((st.file 0).1 ++ xy j).toArray⟩) := by
              rw [hr5.cell, List.getElem?_toArray, show 0 = 0 * 2 from rfl, enc_s _ 0 (by omega), hla]; rfl
            have f0 := hr5.frozen 0
            have hcat := cat_str ((st.file 0).1 ++ xy j) ⟨#[122, 122, 122]⟩
            rw [show (⟨#[122, 122, 122]⟩ : ByteArray).data.toList = [122, 122, 122] from rfl] at hcat
            have hr6 := s_row hr5 0 (by omega) ((st.file 0).1 ++ xy j ++ [122, 122, 122])
            rw [hla, lx_zf, Nat.zero_mul] at hr6
            have hzl := zf_len (n := j) Hkk.out.q
            have hza := zf_at (n := j) Hkk.out.q (by omega)
            have hfz := fin_zero (k := m) (zf st j) (by omega)
            have hff := fin_first (k := m) (zf st j) (by omega)
            rw [hza] at hfz hff
            have hzs := zf_small (n := j) Hkk.out.q hn5'
            have hc0 : cut [m] 0 ((st.file 0).1 ++ xy j ++ [122, 122, 122], (st.file 0).2) = (((st.file 0).1 ++ xy j ++ [122, 122, 122]).take (min ((st.file 0).1 ++ xy j ++ [122, 122, 122]).length ((st.file 0).2 + m)), min ((st.file 0).1 ++ xy j ++ [122, 122, 122]).length ((st.file 0).2 + m)) := rfl
            have hstep0 := fin_step (k := m) (zf st j) 0 (by omega)
            rw [hza] at hstep0
            have hlen : ((st.file 0).1 ++ xy j).length ≤ 1000 := by simp; omega
            have hlen2 : ((st.file 0).1 ++ xy j ++ [122, 122, 122]).length ≤ 1000 := by simp; omega
            have ht2 : (st.file 0).2 ≤ 1000 := by omega
            have ht3 : (st.file 0).2 ≤ ((st.file 0).1 ++ xy j ++ [122, 122, 122]).length := by simp; omega
            obtain ⟨t0, ht0⟩ : ∃ t, (st.file 0).2 = t := ⟨_, rfl⟩
            rw [ht0] at hfz hff hc0 hstep0 ht2 ht3
            generalize hB2 : (st.file 0).1 ++ xy j ++ [122, 122, 122] = B2 at *
            have Hza : Hid (∀ h : 0 < (zf st j).length, (zf st j)[0] = (B2, t0)) := fun h => by rw [zf_at Hkk.out.q h, hB2, ht0]
            generalize (st.file 0).1 ++ xy j = B at *
            obtain ⟨T, hT⟩ : ∃ T, min B2.length (t0 + m) = T := ⟨_, rfl⟩
            rw [hT] at hfz hff hc0
            rw [hc0] at hstep0
            have e1 : IntKind.i64.wrap ((t0 : Int) + (m : Int)) = ((t0 + m : Nat) : Int) := by
              have := IntWalk.i64_in ((t0 : Int) + (m : Int)) (by omega)
              omega
            have e2 : (if t0 + m < B2.length then ((t0 + m : Nat) : Int) else (B2.length : Int)) = (T : Int) := by split <;> omega
            have e3 : (if ((t0 + m : Nat) : Int) < (B2.length : Int) then ((t0 + m : Nat) : Int) else (B2.length : Int)) = (T : Int) := by split <;> omega
            have hTb : T ≤ B2.length := by omega
            have hTi : (T : Int) ≤ (B2.length : Int) := by omega
            have hcu := cut_str B2 T hTb
            have htl : (B2.take T).length = T := by simp; omega
            generalize t0 + m = TK at *
            have hd6 := dx_set hd5 0 (.string ⟨B2.toArray⟩)
            have hm6 := mk_setg hm5 Hkk.out.g 0 (.string ⟨B2.toArray⟩)
            have Hff : Hid (∀ h : 0 < (fin_ m (zf st j) 0).length, (fin_ m (zf st j) 0)[0] = (B2.take T, t0)) := fun h => hff
            clear hff hza hc5 hla hll
            have Hd5 := Lib.hid hd5; have Hr5 := Lib.hid hr5; have Hm5 := Lib.hid hm5; have Hr6 := Lib.hid hr6; have Hs := Lib.hid hs; have Hz := Lib.hid hz; have Hd6 := Lib.hid hd6; have Hm6 := Lib.hid hm6; have Hzl := Lib.hid hzl; have Hfz := Lib.hid hfz; have Hzs := Lib.hid hzs; have Hc0 := Lib.hid hc0; have Hstep0 := Lib.hid hstep0; have HT := Lib.hid hT; have Ht0 := Lib.hid ht0; have HB2 := Lib.hid hB2; clear hd5 hr5 hm5 hr6 hs hz hd6 hm6 hzl hfz hzs hc0 hstep0 hT ht0 hB2
            dsimp only
            go_wp2_with fail
            clear hcat c0 f0
            generalize w5.setCell ⟨g, 0, none⟩ (.string ⟨B2.toArray⟩) = W6 at *
            refine (sync_dx Hd6.out (mk_refl _) (fun k hk => by have h1 := Hr6.out.lt; have h2 := Hm6.out.size; omega) (zz_ok Hkk.out.q (by omega) hn5') (by omega) 0 (zz st j m, 40) (by simp [St.sync, zz_off])).mono ?_
            rintro e w7 ⟨rfl, hd7, hc7⟩
            have hr7 := Hr6.out.keep hc7 fun e => e.2 rfl
            have hm7 := chg_mk Hm6.out hc7
            have Hd7 := Lib.hid hd7; have Hr7 := Lib.hid hr7; have Hm7 := Lib.hid hm7; clear hd7 hr7 hm7
            clear hc7
            dsimp only
            go_wp2_with fail
            refine (restart_dx Hd7.out (mk_refl _) (fun k hk => by have h1 := Hr7.out.lt; have h2 := Hm7.out.size; omega) _ rfl).mono ?_
            rintro e w8 ⟨rfl, hd8, hc8⟩
            have hr8 := Hr7.out.keep hc8 fun e => e.2 rfl
            have hm8 := chg_mk Hm7.out hc8
            have c0 : w8.cell? ⟨g, 0, none⟩ = some (.string ⟨B2.toArray⟩) := by
              rw [hr8.cell, List.getElem?_toArray, show 0 = 0 * 2 from rfl, enc_s _ 0 (by have := Hzl.out; omega), Hza.out]; rfl
            have c1 : w8.cell? ⟨g, 1, none⟩ = some (.int .i64 (t0 : Int)) := by
              rw [hr8.cell, List.getElem?_toArray, show 1 = 0 * 2 + 1 from rfl, enc_n _ 0 (by have := Hzl.out; omega), Hza.out]
            have f0 := hr8.frozen 0
            have hr9 := s_row hr8 0 (by have := Hzl.out; omega) (B2.take T)
            rw [Hza.out, Nat.zero_mul, Hfz.out] at hr9
            have hd9 := dx_set hd8 0 (.string ⟨(B2.take T).toArray⟩)
            have hm9 := mk_setg hm8 Hkk.out.g 0 (.string ⟨(B2.take T).toArray⟩)
            have Hd8 := Lib.hid hd8; have Hr8 := Lib.hid hr8; have Hm8 := Lib.hid hm8; have Hr9 := Lib.hid hr9; have Hd9 := Lib.hid hd9; have Hm9 := Lib.hid hm9; clear hd8 hr8 hm8 hr9 hd9 hm9
            clear hc8
            go_wp2_with fail
            go_loopw [29] (fun x wq => ∃ i : Nat, x = .int .i64 (i : Int) ∧ i ≤ 3 ∧ DX (fun k => w.heap.size ≤ k ∧ k ≠ g) wq p (zz st j m).restart ∧ Mk w wq ∧ Bk wq g 55 (enc (fin_ m (zf st j) i)).toArray) (fun x _ => 3 - (intOf x).toNat)
            case atStart => exact ⟨0, rfl, by omega, Hd9.out, Hm9.out, Hr9.out⟩
            case round =>
              obtain ⟨i, rfl, hi3, hdi, hmi, hri⟩ := hrel
              have hzl := Hzl.out
              have hfl := fin_len (k := m) (zf st j) i
              rw [hzl] at hfl
              by_cases hi : i < 3
              · by_cases hi0 : i = 0
                · subst hi0
                  have c0 : wr.cell? ⟨g, 0, none⟩ = some (.string ⟨(B2.take T).toArray⟩) := by
                    have h := enc_s (fin_ m (zf st j) 0) 0 (by omega)
                    rw [Hff.out] at h
                    rw [hri.cell, List.getElem?_toArray]; exact h
                  have f1 := hri.frozen 1
                  have c1 : wr.cell? ⟨g, 1, none⟩ = some (.int .i64 (t0 : Int)) := by
                    have h := enc_n (fin_ m (zf st j) 0) 0 (by omega)
                    rw [Hff.out] at h
                    rw [hri.cell, List.getElem?_toArray]; exact h
                  have hr10 := n_row hri 0 (by omega) T
                  rw [Hff.out] at hr10
                  have hr11 : Bk (wr.setCell ⟨g, 1, none⟩ (.int .i64 (T : Int))) g 55 (enc (fin_ m (zf st j) 1)).toArray := by
                    rw [← Hstep0.out]; exact hr10
                  have Hri := Lib.hid hri; have Hdi := Lib.hid hdi; have Hmi := Lib.hid hmi; have Hr10 := Lib.hid hr10; have Hr11 := Lib.hid hr11; clear hri hdi hmi hr10 hr11
                  clear hzl hfl
                  go_wp2
                  go_roundw
                  case rel => exact ⟨1, by go_num, by omega, dx_set Hdi.out _ _, mk_setg Hmi.out Hkk.out.g _ _, Hr11.out⟩
                  case measure => simp [intOf]
                · have hip : 0 < i := by omega
                  have hzx := Hzs.out (zf st j)[i] (List.getElem_mem _)
                  have hnx := fin_next (k := m) (zf st j) i hip (by omega)
                  have hcx := cut_next (k := m) i hip (zf st j)[i] hzx.1
                  have hsx := fin_step (k := m) (zf st j) i (by omega)
                  obtain ⟨x, hx'⟩ : ∃ x, (zf st j)[i] = x := ⟨_, rfl⟩
                  obtain ⟨bs, t⟩ := x
                  rw [hx'] at hzx hnx hcx hsx
                  rw [hcx] at hsx
                  dsimp only at hzx hcx hsx
                  have c0 : wr.cell? ⟨g, i * 2, none⟩ = some (.string ⟨bs.toArray⟩) := by
                    have h := enc_s (fin_ m (zf st j) i) i (by omega)
                    rw [hnx] at h
                    rw [hri.cell, List.getElem?_toArray]; exact h
                  have c1 : wr.cell? ⟨g, i * 2 + 1, none⟩ = some (.int .i64 (t : Int)) := by
                    have h := enc_n (fin_ m (zf st j) i) i (by omega)
                    rw [hnx] at h
                    rw [hri.cell, List.getElem?_toArray]; exact h
                  have f0 := hri.frozen (i * 2)
                  have f1 := hri.frozen (i * 2 + 1)
                  have htb : t ≤ bs.length := hzx.1
                  have hti : (t : Int) ≤ (bs.length : Int) := by omega
                  have hbl : bs.length ≤ 1000 := by omega
                  have hcu := cut_str bs t htb
                  have htl : (bs.take t).length = t := by simp; omega
                  have hr12 := cut_row hri i (by omega) (bs.take t) t
                  rw [hsx] at hr12
                  have hi1 : (0 : Int) < (i : Int) := by omega
                  have hi2 : decide ((0 : Int) < (i : Int)) = true := by simp; omega
                  have Hri := Lib.hid hri; have Hdi := Lib.hid hdi; have Hmi := Lib.hid hmi; have Hr12 := Lib.hid hr12; clear hri hdi hmi hr12
                  clear hnx hcx hsx hzx hx' hzl hfl
                  go_wp2_with fail
                  go_still_tail 12, (by kernel_rfl)
                  go_wp2
                  go_roundw
                  case rel => exact ⟨i + 1, by go_num, by omega, (dx_set (dx_set Hdi.out _ _) _ _).made (mk_drewN _ 1), mk_trans (mk_setg (mk_setg Hmi.out Hkk.out.g _ _) Hkk.out.g _ _) (mk_drewN _ 1), Hr12.out⟩
                  case measure => simp [intOf]; omega
              · obtain rfl : i = 3 := by omega
                have hfa := fin_all (k := m) (zf st j)
                rw [hzl] at hfa
                have hzq := zz_q (k := m) Hkk.out.q hn5'
                have hzf := zz_files (k := m) Hkk.out.q hn5'
                have hK2 : DkW.Kp w g p 63 (fl + 1) (zz st j m).restart wr := by
                  refine ⟨hzq.mono (by omega), by omega, hdi, ?_, hmi, Hkk.out.g⟩
                  rw [hzf]
                  show Bk wr g 55 (enc ((zf st j).mapIdx (cut [m]))).toArray
                  rw [← hfa]; exact hri
                have hsame := Kp.same hK2 (by omega)
                have hrow := hK2.row
                have hrs := hK2.rowsize
                have HK2 := Lib.hid hK2; have Hsame := Lib.hid hsame; have Hrow := Lib.hid hrow; have Hrs := Lib.hid hrs; clear hK2 hsame hrow hrs
                clear hdi hmi hri hfa hzq hzf hzl hfl
                go_wp2_with (first | (refine wpList_load_row rfl 55 (.tmp 10) rfl g rfl 55 _ (0, 0) _ Hrow.out under55 rfl Hrs.out ?_) | fail)
                refine Hsame.out.mono ?_
                rintro e w7 ⟨rfl, hm7⟩
                have hK7 := HK2.out.on hm7
                have hfalls7 := hK7.falls
                have HK7 := Lib.hid hK7; have Hfalls7 := Lib.hid hfalls7; clear hK7 hfalls7
                clear hm7
                go_wp2_with (first | (go_at_call 40; refine Hfalls7.out.mono ?_; rintro e w' ⟨rfl, rfl⟩) | fail)
                go_ret
                exact ⟨rfl, HK7.out.made⟩
end Go.Proofs.DkW
