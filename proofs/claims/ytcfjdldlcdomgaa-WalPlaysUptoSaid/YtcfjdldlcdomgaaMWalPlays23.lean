/- Layer 6, wal: the statements' opens. -/
import Derived.Test.YtcfjdldlcdomgaaMWalPlays22
set_option linter.unusedVariables false
set_option linter.unusedSimpArgs false
namespace Go.Proofs.WlW
open Go Go.RowKit Go.Tk Go.Dk Go.Sp Go.Proofs.DkW

theorem row_at {w : World} {base e n : Nat} {g cap : Nat} {vs : List Value} (h : w.ownsRow base e 1 (.slice (some ⟨g, 0, none⟩) n cap) n vs) {k : Nat} {u : Value} (hk : vs[k]? = some u) : w.cell? ⟨g, k, none⟩ = some u := by
  have := h.cells (g := g) rfl k u hk
  have hadd : (⟨g, 0, none⟩ : Addr).add k = ⟨g, 0 + k, none⟩ := by unfold Addr.add; split <;> simp_all
  rw [hadd, Nat.zero_add] at this
  exact this
theorem wr_bk {w : World} {base x : Nat} {v : Value} {xs : List UInt8} (h : Wr base v xs w) (hx : v.ownBlock = some x) : ∃ cur, Bk w x 5 cur := by
  obtain ⟨n, rfl, ⟨rfl, h0⟩ | ⟨g, off, c, cur, rfl, h1, h2, h3, h4, h5, h6⟩⟩ := h
  · cases hx
  · cases hx; exact ⟨cur, h4⟩
theorem opens_end {S T B : Nat → Prop} {w w1 W wb : World} {gw p q : Nat} {lv mv lv1 mv1 sv rv sv2 rv2 : Value} {rvs rvs2 : List Value} {st : St} {r : St × (Int ⊕ Opened)} (h : WDk S T w gw p q lv mv st) (ho : OutP S w w1 p r lv1 sv rv rvs) (ho2 : OutR T w1 W q r mv1 sv2 rv2 rvs2)
    (hB1 : ∀ x, B x → w.heap.size ≤ x ∧ x < w1.heap.size) (hB3 : ∀ x, B x → ∃ cur, Bk w1 x 5 cur) (hc : Chg B W wb) :
    ∃ lv' mv', WDk S T ((wb.setCell ⟨gw, 1, none⟩ lv1).setCell ⟨gw, 3, none⟩ mv1) gw p q lv' mv' r.1 ∧ LogP w.heap.size S T ((wb.setCell ⟨gw, 1, none⟩ lv1).setCell ⟨gw, 3, none⟩ mv1) p q lv' mv' (logOf r) ∧ Chg (fun k => S k ∨ T k ∨ k = gw) w ((wb.setCell ⟨gw, 1, none⟩ lv1).setCell ⟨gw, 3, none⟩ mv1) := by
  have hgl := h.blk.lt
  have hz1 := ho.chg.size
  have hz2 := ho2.chg.size
  have hgB : ¬ B gw := fun e => by have := (hB1 gw e).1; omega
  have hSB : ∀ k, S k → ¬ B k := fun k hs hb => by have := h.lt k (.inl hs); have := (hB1 k hb).1; omega
  have hTB : ∀ k, T k → ¬ B k := fun k hs hb => by have := h.lt k (.inr hs); have := (hB1 k hb).1; omega
  have hbw := ((h.blk.keep ho.chg h.ne.1).keep ho2.chg h.ne.2).keep hc hgB
  have hs : Chg (fun k => k = gw) wb ((wb.setCell ⟨gw, 1, none⟩ lv1).setCell ⟨gw, 3, none⟩ mv1) := (Chg.set (fun k => k = gw) wb ⟨gw, 1, none⟩ lv1 rfl).thenSet ⟨gw, 3, none⟩ mv1 (.inl rfl)
  have hall : Chg (fun k => S k ∨ T k ∨ k = gw) w ((wb.setCell ⟨gw, 1, none⟩ lv1).setCell ⟨gw, 3, none⟩ mv1) :=
    Chg.trans (Chg.trans (Chg.trans (ho.chg.sub fun k _ e => .inl e) ho2.chg (fun k _ e => .inr (.inl e))) hc (fun k hk e => by have := (hB1 k e).1; omega)) hs (fun k _ e => .inr (.inr e))
  refine ⟨lv1, mv1, ⟨?_, ?_, ?_, fun k hk => by have := h.lt k hk; have := hall.size; omega, h.dis, h.ne⟩, ?_, hall⟩
  · exact ((ho.pd.keep ho2.chg fun k _ => h.dis k).keep hc fun k _ => hSB k).keep hs fun k _ hk e => h.ne.1 (e ▸ hk)
  · exact (ho2.rd.keep hc fun k _ => hTB k).keep hs fun k _ hk e => h.ne.2 (e ▸ hk)
  · exact (hbw.set 1 lv1).set 3 mv1
  · have l1 := ho.log
    have l2 := ho2.log
    have hsv2 : sv2.oneCell' = true := FrW.own_one ho2.sw
    revert l1 l2
    unfold LogP
    cases logOf r with
    | none => exact fun l1 l2 => ⟨l1, l2⟩
    | some L =>
      rintro ⟨g, rfl, hg1, hg2⟩ ⟨g', rfl, hh1, hh2⟩
      have hnB : ¬ B g := fun e => by obtain ⟨cur, hcur⟩ := hB3 g e; have := (Bk.uniq hg1 hcur).1; cases this
      have hgne : g ≠ gw := by omega
      have hhne : g' ≠ gw := by omega
      have hgT : ¬ T g := fun e => by have := h.lt g (.inr e); omega
      refine ⟨g, g', sv2, rfl, rfl, ((hg1.keep ho2.chg hgT).keep hc hnB).keep hs hgne, (hh1.keep hc (fun e => by have := (hB1 g' e).2; omega)).keep hs hhne, ⟨fun e => by have := h.lt g (.inl e); omega, hgT, fun e => by have := h.lt g' (.inl e); omega, fun e => by have := h.lt g' (.inr e); omega⟩, hsv2, hg2, by omega⟩
theorem own_bk {w : World} {base e size n x : Nat} {v : Value} {xs : List Value} (h : w.ownsRow base e size v n xs) (hx : v.ownBlock = some x) : ∃ cur, Bk w x e cur := by
  rcases h.2 with ⟨rfl, _⟩ | ⟨g, cap, cur, rfl, _, hh, _⟩
  · cases hx
  · cases hx; exact ⟨cur, hh⟩
set_option maxHeartbeats 8000000 in
set_option maxRecDepth 100000 in
theorem opens_any {S T : Nat → Prop} {w : World} {gw p q M : Nat} {lv mv : Value} {st : St} (h : WDk S T w gw p q lv mv st) (hok : st.Ok M) (hM : M < 999000) (hlen : ∀ f, (st.file f).1.length ≤ 1048576) :
    Calls Try.prog 49 #[.pointer (some ⟨gw, 0, none⟩)] w fun e w' => e = .returned (.bool true) ∧ ∃ lv' mv', WDk S T w' gw p q lv' mv' (openP st).1 ∧ LogP w.heap.size S T w' p q lv' mv' (logOf (openP st)) ∧ Chg (fun k => S k ∨ T k ∨ k = gw) w w' := by
  have c0 := h.c0
  have hop := open_any h.pd hok hM (fun k hk => h.lt k (.inl hk))
  obtain ⟨hB1, hB2, hB3⟩ := open_bound hlen
  have H := Lib.hid h; have Hok := Lib.hid hok; have Hop := Lib.hid hop; have Hlen := Lib.hid hlen; have HB3 := Lib.hid hB3; clear h hok hop hlen hB3
  go_enter Try.func49, Try.ntmps49
  go_wp2_with fail
  refine Hop.out.mono ?_
  intro e w1 hp
  obtain ⟨lv1, sv, rv, rvs, rfl, ho⟩ := outP hp
  clear hp
  obtain ⟨sa, sc, rfl⟩ := wr_form ho.sw
  obtain ⟨ra, rn, rc, rfl⟩ := own_slice ho.rr
  have hrn : rn = (recsOf (openP st)).length := by obtain ⟨_, a, c, h, _⟩ := own_sl ho.rr; cases h; rfl
  subst hrn
  have hgw : ¬ S gw := H.out.ne.1
  have hb1 := H.out.blk.keep ho.chg hgw
  have c2 : w1.cell? ⟨gw, 2, none⟩ = some (.pointer (some ⟨q, 0, none⟩)) := (hb1.cell 2).trans rfl
  have hrd1 := H.out.rd.keep ho.chg (fun k _ ht hs => H.out.dis k hs ht)
  have hz1 : w.heap.size ≤ w1.heap.size := ho.chg.size
  have hop2 := ropen_any hrd1 Hok.out hM (fun k hk => by have := H.out.lt k (.inr hk); omega) Hlen.out
  have Ho := Lib.hid ho; have Hb1 := Lib.hid hb1; have Hrd1 := Lib.hid hrd1; have Hop2 := Lib.hid hop2; clear ho hb1 hrd1 hop2
  clear c0
  go_wp2_with fail
  refine Hop2.out.mono ?_
  intro e W hp
  obtain ⟨mv1, sv2, rv2, rvs2, rfl, ho2⟩ := outR hp
  clear hp
  obtain ⟨sa2, sc2, rfl, _, _⟩ := (own_sl ho2.sw).form
  obtain ⟨ra2, rn2, rc2, rfl⟩ := own_slice ho2.rr
  have hrn2 : rn2 = (recsOf (openP st)).length := by obtain ⟨_, a, c, h, _⟩ := own_sl ho2.rr; cases h; rfl
  subst hrn2
  have hT : ∀ k, w.heap.size ≤ k → ¬ T k := fun k hk ht => by have := H.out.lt k (.inr ht); omega
  have hS : ∀ k, w.heap.size ≤ k → ¬ S k := fun k hk ht => by have := H.out.lt k (.inl ht); omega
  have hwr : Wr w.heap.size (.slice sa (stateOf (openP st)).length sc) (stateOf (openP st)) W := wr_keep Ho.out.sw ho2.chg (fun k hk => hT k (wr_lt Ho.out.sw hk).1)
  have hrow : W.ownsRow w.heap.size 22 1 (.slice ra (recsOf (openP st)).length rc) (recsOf (openP st)).length rvs := own_keep Ho.out.rr ho2.chg (fun k hk => hT k (Ho.out.rr.lt k hk).1)
  have henc : EncR W w.heap.size (recsOf (openP st)) rvs := Ho.out.er.keep fun v n xs hv => own_keep hv ho2.chg (fun k hk => hT k (hv.lt k hk).1)
  have hcode : (codeOf (openP st) != codeOf (openP st)) = false := by simp
  have k1 := FrW.str_of (wr_sl hwr)
  have k2 := FrW.str_of (own_sl ho2.sw)
  have hz2 : w1.heap.size ≤ W.heap.size := ho2.chg.size
  obtain ⟨m, hm⟩ : ∃ m, (recsOf (openP st)).length = m := ⟨_, rfl⟩
  obtain ⟨sn, hsn⟩ : ∃ m, (stateOf (openP st)).length = m := ⟨_, rfl⟩
  have hlog : (lv1 = .pointer none ∧ mv1 = .pointer none) ∨ (∃ g h, lv1 = .pointer (some ⟨g, 0, none⟩) ∧ mv1 = .pointer (some ⟨h, 0, none⟩)) := by
    have l1 := Ho.out.log
    have l2 := ho2.log
    revert l1 l2
    cases logOf (openP st) with
    | none => exact fun l1 l2 => .inl ⟨l1, l2⟩
    | some L => rintro ⟨g, h1, _⟩ ⟨h, h2, _⟩; exact .inr ⟨g, h, h1, h2⟩
  have hsw2 := own_sl ho2.sw
  have hrow2 := ho2.rr
  have henc2 := ho2.er
  clear hcode
  generalize hcod : codeOf (openP st) = code at *
  generalize hsta : stateOf (openP st) = sta at *
  generalize hrecs : recsOf (openP st) = recs at *
  rw [hm] at hrow hrow2
  rw [hm, hsn]
  rw [hsn] at k1 k2
  have hcode : (code != code) = false := by simp
  have hcode2 : (code == code) = true := by simp
  have hm1 : m ≤ 1048576 := by rw [← hm]; exact hB1
  have hs1 : sn ≤ 1048576 := by rw [← hsn]; exact hB2
  clear hB1 hB2
  have Ho2 := Lib.hid ho2; have Hwr := Lib.hid hwr; have Hrow := Lib.hid hrow; have Henc := Lib.hid henc; have Hsw2 := Lib.hid hsw2; have Hrow2 := Lib.hid hrow2; have Henc2 := Lib.hid henc2; have Hz2 := Lib.hid hz2; have Hm := Lib.hid hm; have Hsn := Lib.hid hsn; have HS := Lib.hid hS; have HT := Lib.hid hT; have Hz1 := Lib.hid hz1; have Hcod := Lib.hid hcod; have Hsta := Lib.hid hsta; have Hrecs := Lib.hid hrecs; have Hlog := Lib.hid hlog; clear ho2 hwr hrow henc hsw2 hrow2 henc2 hz2 hm hsn hS hT hz1 hcod hsta hrecs hlog
  have hne := (own_form (n := m) (w := W) (base := w.heap.size) (e := 22) (size := 1) (xs := rvs) (v := .slice ra m rc) Hrow.out)
  have hne2 := (own_form (n := m) (w := W) (base := w1.heap.size) (e := 22) (size := 1) (xs := rvs2) (v := .slice ra2 m rc2) Hrow2.out)
  have hget : ∀ k, k < m → ∃ rb rb2 d da dc da2 dc2, ra = some ⟨rb, 0, none⟩ ∧ ra2 = some ⟨rb2, 0, none⟩ ∧ recs[k]? = some d ∧ rvs[k]? = some (.slice da d.length dc) ∧ rvs2[k]? = some (.slice da2 d.length dc2) ∧
      W.ownsRow w.heap.size 5 1 (.slice da d.length dc) d.length (bv d) ∧ W.ownsRow w1.heap.size 5 1 (.slice da2 d.length dc2) d.length (bv d) := fun k hk => by
    obtain ⟨rb, _, e1, _⟩ := hne (by omega)
    obtain ⟨rb2, _, e2, _⟩ := hne2 (by omega)
    cases e1; cases e2
    obtain ⟨d, hd⟩ : ∃ d, recs[k]? = some d := ⟨_, List.getElem?_eq_getElem (by rw [Hm.out]; exact hk)⟩
    obtain ⟨dv, h1, h2⟩ := Henc.out.2.1 k _ hd
    obtain ⟨dv2, h3, h4⟩ := Henc2.out k _ hd
    obtain ⟨da, dc, rfl, _⟩ := (own_sl h2).form
    obtain ⟨da2, dc2, rfl, _⟩ := (own_sl h4).form
    exact ⟨rb, rb2, d, da, dc, da2, dc2, rfl, rfl, hd, h1, h3, h2, h4⟩
  have Hget := Lib.hid hget; clear hget
  clear hne hne2
  obtain ⟨B, hBd⟩ : ∃ B : Nat → Prop, ∀ x, B x ↔ ((Value.slice sa sn sc).ownBlock = some x ∨ ∃ dv ∈ rvs, dv.ownBlock = some x) := ⟨_, fun x => Iff.rfl⟩
  have hB1 : ∀ x, B x → w.heap.size ≤ x ∧ x < w1.heap.size := fun x hx => by
    rcases (hBd x).1 hx with hx | ⟨dv, hd, hx⟩
    · exact wr_lt Ho.out.sw (by rw [Hsn.out]; exact hx)
    · obtain ⟨i, hi, rfl⟩ := List.getElem_of_mem hd
      obtain ⟨dv', h1, h2⟩ := Ho.out.er.2.1 i _ (List.getElem?_eq_getElem (by rw [← Ho.out.er.1]; exact hi))
      rw [List.getElem?_eq_getElem hi] at h1
      cases h1
      exact h2.lt x hx
  have hB2 : ∀ x, (Value.slice ra m rc).ownBlock = some x → ¬ B x := fun x hx hb => by
    rcases (hBd x).1 hb with hb | ⟨dv, hd, hb⟩
    · obtain ⟨cur, hcur⟩ := own_bk Hrow.out hx
      exact wr_ne Hwr.out hcur (by decide) (by rw [Hsn.out]; exact hb)
    · obtain ⟨i, hi, rfl⟩ := List.getElem_of_mem hd
      obtain ⟨dv', h1, h2⟩ := Henc.out.2.1 i _ (List.getElem?_eq_getElem (by rw [← Henc.out.1]; exact hi))
      rw [List.getElem?_eq_getElem hi] at h1
      cases h1
      rcases own_types Hrow.out h2 (by decide) with e | e
      · rw [e] at hx; cases hx
      · rw [hx, hb] at e; exact e rfl
  have hBt : ∀ x, B x → ∃ cur, Bk w1 x 5 cur := fun x hx => by
    rcases (hBd x).1 hx with hx | ⟨dv, hd, hx⟩
    · exact wr_bk Ho.out.sw (by rw [Hsn.out]; exact hx)
    · obtain ⟨i, hi, rfl⟩ := List.getElem_of_mem hd
      obtain ⟨dv', h1, h2⟩ := Ho.out.er.2.1 i _ (List.getElem?_eq_getElem (by rw [← Ho.out.er.1]; exact hi))
      rw [List.getElem?_eq_getElem hi] at h1
      cases h1
      exact own_bk h2 hx
  have HBd := Lib.hid hBd; have HB1 := Lib.hid hB1; have HB2 := Lib.hid hB2; have HBt := Lib.hid hBt; clear hBd hB1 hB2 hBt
  rcases Hlog.out with ⟨rfl, rfl⟩ | ⟨g, h, rfl, rfl⟩
  all_goals
    clear Hlog
    go_wp2_with fail
    go_loopw [11] (fun i wr => ∃ k : Nat, i = .int .i64 (k : Int) ∧ k ≤ m ∧ Mk W wr) (fun i _ => m - (intOf i).toNat)
    case atStart => exact ⟨0, rfl, Nat.zero_le _, mk_refl _⟩
    case round =>
      obtain ⟨k, rfl, hk, hmk⟩ := hrel
      by_cases hlt : k < m
      · obtain ⟨rb, rb2, d, da, dc, da2, dc2, rfl, rfl, g1, g2, g3, g4, g5⟩ := Hget.out k hlt
        have ca : ∀ w', Mk wr w' → w'.cell? ⟨rb, k, none⟩ = some (.slice da d.length dc) := fun w' h => row_at (own_mk Hrow.out (mk_trans hmk h)) g2
        have cb : ∀ w', Mk wr w' → w'.cell? ⟨rb2, k, none⟩ = some (.slice da2 d.length dc2) := fun w' h => row_at (own_mk Hrow2.out (mk_trans hmk h)) g3
        have ka : ∀ w', Mk wr w' → (convert 22 9 (.slice da d.length dc)).run Try.prog w' = .ok (.string ⟨d.toArray⟩) w' := fun w' h => FrW.str_of (own_sl (own_mk g4 (mk_trans hmk h)))
        have kb : ∀ w', Mk wr w' → (convert 22 9 (.slice da2 d.length dc2)).run Try.prog w' = .ok (.string ⟨d.toArray⟩) w' := fun w' h => FrW.str_of (own_sl (own_mk g5 (mk_trans hmk h)))
        have Hmk := Lib.hid hmk; have G1 := Lib.hid g1; have G2 := Lib.hid g2; have G3 := Lib.hid g3; have G4 := Lib.hid g4; have G5 := Lib.hid g5; clear hmk g1 g2 g3 g4 g5
        go_wp2_with fail
        refine wp_region_sp (fun _ => false) (fun w' => Mk wr w') (by kernel_rfl) (by kernel_rfl) (mk_refl _) (fun _ _ => mk_trans) ?_
        intro D' hD' hne
        have q1 := @qAt_value Try.prog
        iterate 11 (first | (refine spk (by rfl) (by rfl) (by rfl) (fun K hK => ?_); go_big_quiet_op; first | (refine hK _ ?_; clear hK K) | (apply Exists.intro; refine ⟨fun _ => ?_, hK _ ?_⟩; (exact fun _ => rfl); clear hK K)) | (refine spq (by rfl) (by rfl) (fun K hK => ?_); apply Exists.intro; refine ⟨fun w' hw' => ?_, ?_⟩; (go_simp; exact rfl); (go_simp; refine hK _ ?_; clear hK K)))
        refine sp_nil ?_
        intro w9 hw9
        have hm9 := (hD'.out w9 hw9).1
        clear hD' hne hw9 D' q1 ca cb ka kb
        have Hm9 := Lib.hid hm9; clear hm9
        go_wp2_with fail
        go_roundw
        case rel => exact ⟨k + 1, by go_num, by omega, mk_trans Hmk.out Hm9.out⟩
        case measure => simp [intOf]; omega
      · have hkm : (k : Int) = (m : Int) := by omega
        have Hmk := Lib.hid hmk; have Hkm := Lib.hid hkm; clear hmk hkm
        go_wp2_with fail
        obtain ⟨wa, hwa⟩ : ∃ x, x = wr := ⟨_, rfl⟩
        subst hwa
        go_loopw [12] (fun i wq => ∃ (j : Nat) (xs : List UInt8), i = .int .i64 (j : Int) ∧ j ≤ sn ∧ xs.length = sn ∧ Wr w.heap.size (.slice sa sn sc) xs wq ∧ Chg (fun x => (Value.slice sa sn sc).ownBlock = some x) wa wq) (fun i _ => sn - (intOf i).toNat)
        case atStart =>
          have h0 := wr_mk Hwr.out Hmk.out
          rw [Hsn.out] at h0
          exact ⟨0, sta, rfl, Nat.zero_le _, Hsn.out, h0, Chg.refl _ _⟩
        case round =>
          obtain ⟨j, xs, rfl, hj, hxs, hwj, hcj⟩ := hrel
          by_cases hlj : j < sn
          · obtain ⟨gs, off, c, hv, hcell, hfrz, hset⟩ := wr_at hwj j (by omega)
            obtain ⟨u, hcu⟩ : ∃ u, wr.cell? ⟨gs, off + j, none⟩ = some u := ⟨_, hcell⟩
            clear hcell
            cases hv
            have Hwj := Lib.hid hwj; have Hcj := Lib.hid hcj; have Hset := Lib.hid hset; have Hxs := Lib.hid hxs; clear hwj hcj hset hxs
            go_wp2_with fail
            go_roundw
            case rel => exact ⟨j + 1, _, by go_num, by omega, by simp, Hset.out, Chg.trans Hcj.out (Chg.set (fun x => some gs = some x) _ ⟨gs, off + j, none⟩ _ rfl) (fun _ _ h => h)⟩
            case measure => simp [intOf]; omega
          · have hcW : Chg B W wr := Chg.trans (Chg.of_mk Hmk.out) hcj (fun x _ e => (HBd.out x).2 (.inl e))
            have hrest : ∀ (j : Nat) (dv : Value) (d : List UInt8), rvs[j]? = some dv → recs[j]? = some d → Wr w.heap.size dv d wr := fun j dv d h1 h2 => by
              obtain ⟨dv', h3, h4⟩ := Henc.out.2.1 j d h2
              rw [h1] at h3
              cases h3
              exact wr_keep (own_wr (own_mk h4 Hmk.out)) hcj (fun x hx e => Ho.out.ne dv (List.mem_of_getElem? h1) x hx (by rw [Hsn.out]; exact e))
            have HcW := Lib.hid hcW; have Hrest := Lib.hid hrest; clear hcW hrest
            clear hwj hcj hxs Hkm
            go_wp2_with fail
            go_loopw [13] (fun i wt => ∃ k : Nat, i = .int .i64 (k : Int) ∧ k ≤ m ∧ Chg B W wt ∧ ∀ (j : Nat) (dv : Value) (d : List UInt8), k ≤ j → rvs[j]? = some dv → recs[j]? = some d → Wr w.heap.size dv d wt) (fun i _ => m - (intOf i).toNat)
            case atStart => exact ⟨0, rfl, Nat.zero_le _, HcW.out, fun j dv d _ => Hrest.out j dv d⟩
            case round =>
              obtain ⟨k3, rfl, hk3, hc3, hr3⟩ := hrel
              obtain ⟨wb, hwb⟩ : ∃ x, x = wr := ⟨_, rfl⟩
              subst hwb
              by_cases hl3 : k3 < m
              · obtain ⟨rb, rb2, d, da, dc, da2, dc2, rfl, rfl, g1, g2, g3, g4, g5⟩ := Hget.out k3 hl3
                have hrowb := own_keep Hrow.out hc3 HB2.out
                have hrowb2 := own_keep Hrow2.out hc3 (fun x hx e => by have := (Hrow2.out.lt x hx).1; have := HB1.out x e; omega)
                have hwd := hr3 k3 _ d (Nat.le_refl _) g2 g1
                have hwd2 := own_keep g5 hc3 (fun x hx e => by have := (g5.lt x hx).1; have := HB1.out x e; omega)
                have hd1 : d.length ≤ 1048576 := HB3.out d (List.mem_of_getElem? g1)
                have ca : ∀ w', Mk wb w' → w'.cell? ⟨rb, k3, none⟩ = some (.slice da d.length dc) := fun w' h => row_at (own_mk hrowb h) g2
                have cb : ∀ w', Mk wb w' → w'.cell? ⟨rb2, k3, none⟩ = some (.slice da2 d.length dc2) := fun w' h => row_at (own_mk hrowb2 h) g3
                have ka : ∀ w', Mk wb w' → (convert 22 9 (.slice da d.length dc)).run Try.prog w' = .ok (.string ⟨d.toArray⟩) w' := fun w' h => FrW.str_of (wr_sl (wr_mk hwd h))
                have kb : ∀ w', Mk wb w' → (convert 22 9 (.slice da2 d.length dc2)).run Try.prog w' = .ok (.string ⟨d.toArray⟩) w' := fun w' h => FrW.str_of (own_sl (own_mk hwd2 h))
                have Hc3 := Lib.hid hc3; have Hr3 := Lib.hid hr3; have G1 := Lib.hid g1; have G2 := Lib.hid g2; have G3 := Lib.hid g3; have G4 := Lib.hid g4; have G5 := Lib.hid g5; have Hrowb := Lib.hid hrowb; have Hrowb2 := Lib.hid hrowb2; have Hwd := Lib.hid hwd; have Hwd2 := Lib.hid hwd2; clear hc3 hr3 g1 g2 g3 g4 g5 hrowb hrowb2 hwd hwd2
                go_wp2_with fail
                refine wp_region_sp (fun _ => false) (fun w' => Mk wb w') (by kernel_rfl) (by kernel_rfl) (mk_refl _) (fun _ _ => mk_trans) ?_
                intro D' hD' hne
                have q1 := @qAt_value Try.prog
                iterate 11 (first | (refine spk (by rfl) (by rfl) (by rfl) (fun K hK => ?_); go_big_quiet_op; first | (refine hK _ ?_; clear hK K) | (apply Exists.intro; refine ⟨fun _ => ?_, hK _ ?_⟩; (exact fun _ => rfl); clear hK K)) | (refine spq (by rfl) (by rfl) (fun K hK => ?_); apply Exists.intro; refine ⟨fun w' hw' => ?_, ?_⟩; (go_simp; exact rfl); (go_simp; refine hK _ ?_; clear hK K)))
                refine sp_nil ?_
                intro w9 hw9
                have hm9 := (hD'.out w9 hw9).1
                clear hD' hne hw9 D' q1 ca cb ka kb
                have hw9d := wr_mk Hwd.out hm9
                obtain ⟨dn, hdn⟩ : ∃ n, d.length = n := ⟨_, rfl⟩
                have hBd9 : ∀ x, (Value.slice da d.length dc).ownBlock = some x → B x := fun x hx => (HBd.out x).2 (.inr ⟨_, List.mem_of_getElem? G2.out, hx⟩)
                have hc9 := Hc3.out.thenMk hm9
                have Hm9 := Lib.hid hm9; have Hw9d := Lib.hid hw9d; have HBd9 := Lib.hid hBd9; have Hc9 := Lib.hid hc9; clear hm9 hw9d hBd9 hc9
                go_wp2_with fail
                go_loopw [14] (fun i wu => ∃ (j : Nat) (xs : List UInt8), i = .int .i64 (j : Int) ∧ j ≤ d.length ∧ xs.length = d.length ∧ Wr w.heap.size (.slice da d.length dc) xs wu ∧ Chg (fun x => (Value.slice da d.length dc).ownBlock = some x) w9 wu) (fun i _ => d.length - (intOf i).toNat)
                case atStart => exact ⟨0, d, rfl, Nat.zero_le _, rfl, Hw9d.out, Chg.refl _ _⟩
                case round =>
                  obtain ⟨j, xs, rfl, hj, hxs, hwj, hcj⟩ := hrel
                  have hcx := Chg.trans Hc9.out hcj (fun x _ e => HBd9.out x e)
                  have ce := row_at (own_keep Hrow.out hcx HB2.out) G2.out
                  by_cases hlj : j < d.length
                  · obtain ⟨gs, off, c, hv, hcell, hfrz, hset⟩ := wr_at hwj j (by omega)
                    obtain ⟨u, hcu⟩ : ∃ u, wr.cell? ⟨gs, off + j, none⟩ = some u := ⟨_, hcell⟩
                    clear hcell
                    obtain rfl : da = some ⟨gs, off, none⟩ := (Value.slice.inj hv).1
                    have Hwj := Lib.hid hwj; have Hcj := Lib.hid hcj; have Hset := Lib.hid hset; have Hxs := Lib.hid hxs; have Hcx := Lib.hid hcx; have Hv := Lib.hid hv; clear hwj hcj hset hxs hcx hv
                    go_wp2_with fail
                    go_roundw
                    case rel => exact ⟨j + 1, _, by go_num, by omega, by rw [List.length_set]; exact Hxs.out, Hset.out, Chg.trans Hcj.out (Chg.set (fun x => some gs = some x) _ ⟨gs, off + j, none⟩ _ rfl) (fun _ _ h => h)⟩
                    case measure => simp [intOf]; omega
                  · have hbd := HBd.out
                    have hrest : ∀ (j : Nat) (dv : Value) (d : List UInt8), k3 + 1 ≤ j → rvs[j]? = some dv → recs[j]? = some d → Wr w.heap.size dv d wr := fun j dv d' hj h1 h2 => by
                      refine wr_keep (wr_mk (Hr3.out j dv d' (by omega) h1 h2) Hm9.out) hcj (fun x hx e => ?_)
                      obtain ⟨hlj, e1⟩ := List.getElem?_eq_some_iff.1 h1
                      obtain ⟨hlk, e2⟩ := List.getElem?_eq_some_iff.1 G2.out
                      have := List.pairwise_iff_getElem.1 Henc.out.2.2 k3 j hlk hlj (by omega) x (by rw [e2]; exact e)
                      rw [e1] at this
                      exact this hx
                    have Hwj := Lib.hid hwj; have Hcj := Lib.hid hcj; have Hxs := Lib.hid hxs; have Hcx := Lib.hid hcx; have Hrest := Lib.hid hrest; clear hwj hcj hxs hcx hrest
                    go_wp2_with fail
                    go_roundw
                    case rel => exact ⟨k3 + 1, by go_num, by omega, Hcx.out, Hrest.out⟩
                    case measure => simp [intOf]; omega
              · have hkm3 : (k3 : Int) = (m : Int) := by omega
                have hgwB : ¬ B gw := fun e => by have := (HB1.out gw e).1; have := H.out.blk.lt; omega
                have hbw := (Hb1.out.keep Ho2.out.chg (H.out.ne.2)).keep hc3 hgwB
                have d1 : wb.cell? ⟨gw, 1, none⟩ = some lv := (hbw.cell 1).trans rfl
                have d3 : wb.cell? ⟨gw, 3, none⟩ = some mv := (hbw.cell 3).trans rfl
                have f1 := hbw.frozen 1
                have f3 := hbw.frozen 3
                have Hc3 := Lib.hid hc3; have Hr3 := Lib.hid hr3; have Hbw := Lib.hid hbw; have Hkm3 := Lib.hid hkm3; clear hc3 hr3 hbw hkm3
                go_wp2_with fail
                go_ret
                exact ⟨rfl, opens_end H.out Ho.out Ho2.out HB1.out HBt.out Hc3.out⟩
end Go.Proofs.WlW
