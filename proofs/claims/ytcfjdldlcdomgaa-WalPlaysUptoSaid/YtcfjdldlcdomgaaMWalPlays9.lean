/- Layer 6, wal: the walk of look. Layer 6, wal: the iterator behind Scan once more: the lists that it hands on lie each in a block of its own; frames of a beginning. -/
import Derived.Test.YtcfjdldlcdomgaaMWalPlays8
import Derived.Test.YtcfjdldlcdomgaaMWalPlays6
set_option linter.unusedVariables false
set_option linter.unusedSimpArgs false
namespace Go.Proofs.WlW
open Go Go.RowKit Go.Tk Go.Dk Go.Sp Go.Proofs.DkW
attribute [local go_sem] Oper.semAt_some

/-- Bytes that somebody may write over: a piece of a row of his own. -/
def Wr (base : Nat) (v : Value) (xs : List UInt8) (w : World) : Prop :=
  ∃ n, xs.length = n ∧ (v = .slice none 0 0 ∧ n = 0 ∨ ∃ g off c cur, v = .slice (some ⟨g, off, none⟩) n c ∧ n ≤ c ∧ c ≤ maxLen ∧ base ≤ g ∧ w.heap[g]? = some (.cells cur 5 (0, 0)) ∧ off + n ≤ cur.size ∧ (cur.toList.drop off).take n = bv xs)
def Lk (w : World) (xs : List UInt8) (e : Ending) (w' : World) : Prop :=
  Mk w w' ∧ match lookP xs with
  | none => ∃ (g c s n : Int) (u v : Value), e = .returned (.tuple #[.agg #[.int .u64 g, .int .i64 c, .int .i64 s, u, v, .int .i64 n], .bool false]) ∧ u.oneCell' = true ∧ v.oneCell' = true
  | some (g, c, s, state, n) => ∃ u v, e = .returned (.tuple #[.agg #[.int .u64 (g : Int), .int .i64 (c : Int), .int .i64 (s : Int), u, v, .int .i64 (n : Int)], .bool true]) ∧
      w'.ownsRow w.heap.size 5 1 u xs.length (bv xs) ∧ Wr w.heap.size v state w' ∧ ∀ k, u.ownBlock = some k → v.ownBlock = some k → False

theorem own_keep {T : Nat → Prop} {w w' : World} {base : Nat} {e : TypeId} {size : Nat} {v : Value} {n : Nat} {xs : List Value} (h : w.ownsRow base e size v n xs) (hc : Chg T w w') (hn : ∀ k, v.ownBlock = some k → ¬ T k) : w'.ownsRow base e size v n xs := by
  refine ⟨h.1, ?_⟩
  rcases h.2 with h2 | ⟨g, cap, cur, hv, hg, hh, r⟩
  · exact .inl h2
  · exact .inr ⟨g, cap, cur, hv, hg, (hc.block g (Array.getElem?_eq_some_iff.1 hh).1 (hn g (by rw [hv]; rfl))).trans hh, r⟩
theorem wr_of {w : World} {base g n c o : Nat} {xs : List UInt8} (h : w.ownsRow base 5 1 (.slice (some ⟨g, 0, none⟩) n c) n (bv xs)) (hx : xs.length = n) (k : Nat) (hk : k ≤ n) (ho : o = k ∨ n = k ∧ o = 0) : Wr base (.slice (some ⟨g, o, none⟩) (n - k) (c - k)) (xs.drop k) w := by
  rcases h.2 with ⟨h2, _⟩ | ⟨g', cap, cur, hv, hg, hh, h1, h2, h3, h4⟩
  · cases h2
  · cases hv
    refine ⟨n - k, by simp [hx], .inr ⟨g, o, c - k, cur, rfl, by omega, by omega, hg, hh, by omega, ?_⟩⟩
    rcases ho with rfl | ⟨rfl, rfl⟩
    · rw [Nat.mul_one] at h4
      have h5 : (cur.toList.take n).drop o = (bv xs).drop o := by rw [h4]
      rw [List.drop_take] at h5
      rw [h5]
      simp [bv, List.map_drop]
    · simp [bv, ← hx]
theorem chg_setRow (w : World) (g : Nat) (cs : Array Value) : Chg (fun k => k = g) w (w.setRow g cs) :=
  ⟨rfl, rfl, rfl, by simp [World.setRow], fun k hk hn => by simp only [World.setRow, Array.getElem?_modify]; rw [if_neg (fun e => hn e.symm)]⟩

theorem info171 : (Try.prog.info? 171).map (·.size) = some 6 := by kernel_rfl
theorem wpList_store_row {P : Program} {w : World} {ops : Array Oper} {rest : List Oper} {o : Oper} {a : Act} {Q : Exit → Act → World → Prop} (hgd : o.guard = none) (ty : TypeId) (x v : Operand) (ho : o.op = .store ty x v)
    (g : Nat) (hx : a.eval x = .pointer (some ⟨g, 0, none⟩)) (cs : Array Value) (hv : a.eval v = .agg cs) (hrun : (storeVar ty ⟨g, 0, none⟩ (.agg cs)).run P w = .ok () (w.setRow g cs))
    (h : wpList P ops Q rest (a.put o.dst undef) (w.setRow g cs)) : wpList P ops Q (o :: rest) a w := by
  refine wpList_plain hgd fun K hK => ?_
  unfold Oper.wp
  simp only [execOp, ho, hx, hv, Instr.storeAt, Instr.sureAddr, Sem.run_bind, Sem.run_pure, Result.andThen_ok, hrun]
  exact hK _ _ h
theorem info169 : (Try.prog.info? 169).map (·.size) = some 3 := by kernel_rfl
theorem struct_of {t : TypeId} (h : (Try.prog.underlying t).map (fun d => match d with | .struct _ | .array _ _ => true | _ => false) = some true) : ∃ d, Try.prog.underlying t = some d ∧ (match d with | .struct _ | .array _ _ => true | _ => false) = true := by
  obtain ⟨d, h1, h2⟩ := Option.map_eq_some_iff.1 h
  exact ⟨d, h1, h2⟩
theorem load171 {w : World} {g : Nat} {t : TypeId} {cs : Array Value} (h : Bk w g t cs) (hs : cs.size = 6) : (loadVar 171 ⟨g, 0, none⟩).run Try.prog w = .ok (.agg cs) w :=
  by
  obtain ⟨d, h1, h2⟩ := struct_of (t := 171) (by kernel_rfl)
  exact run_loadVar_row w g t 171 cs (0, 0) d h h1 (by cases d <;> first | rfl | cases h2) (by rw [info171, hs])
theorem load169 {w : World} {g : Nat} {t : TypeId} {cs : Array Value} (h : Bk w g t cs) (hs : cs.size = 3) : (loadVar 169 ⟨g, 0, none⟩).run Try.prog w = .ok (.agg cs) w :=
  by
  obtain ⟨d, h1, h2⟩ := struct_of (t := 169) (by kernel_rfl)
  exact run_loadVar_row w g t 169 cs (0, 0) d h h1 (by cases d <;> first | rfl | cases h2) (by rw [info169, hs])
theorem results_row_tmp {P : Program} {fn : Func} {p t : Tmp} {ty : TypeId} (h : fn.results = #[.cell p ty, .tmp t]) (tmps : Array Value) (w : World) (g : Nat) (v u : Value) (hp : tmps.getD p undef = .pointer (some ⟨g, 0, none⟩)) (hu : tmps.getD t undef = u)
    (hl : (loadVar ty ⟨g, 0, none⟩).run P w = .ok v w) : (results fn tmps).run P w = .ok (.tuple #[v, u]) w := by
  have hp' : tmps[p]?.getD undef = .pointer (some ⟨g, 0, none⟩) := by simpa using hp
  have hu' : tmps[t]?.getD undef = u := by simpa using hu
  simp [results, h, hp', hu', asAddr, hl]
/-- The end of look: the result lies in a block. -/
theorem look_end {R : Ending → World → Prop} {a : Act} {w : World} {g : Nat} {cs : Array Value} {b : Bool} {t : TypeId} (hp : a.tmps.getD 4 undef = .pointer (some ⟨g, 0, none⟩)) (hu : a.tmps.getD 5 undef = .bool b) (hd : a.defers = [])
    (h : Bk w g t cs) (hs : cs.size = 6) (hR : R (.returned (.tuple #[.agg cs, .bool b])) w) : bodyPost Try.prog Try.f119 R .ret a w :=
  bodyPost_ret (v := .tuple #[.agg cs, .bool b]) (results_row_tmp rfl _ _ g _ _ hp hu (load171 h hs)) hd hR
def zero6 : Array Value := #[.int .u64 0, .int .i64 0, .int .i64 0, .slice none 0 0, .slice none 0 0, .int .i64 0]
theorem Lk.no {w w' : World} {xs : List UInt8} (h : lookP xs = none) (hm : Mk w w') : Lk w xs (.returned (.tuple #[.agg zero6, .bool false])) w' := by
  refine ⟨hm, ?_⟩
  rw [h]
  exact ⟨0, 0, 0, 0, _, _, rfl, rfl, rfl⟩
theorem set6 {w : World} {g : Nat} {t : TypeId} {cs : Array Value} (h : Bk w g t cs) (hs : cs.size = 6) : (storeVar 171 ⟨g, 0, none⟩ (.agg zero6)).run Try.prog w = .ok () (w.setRow g zero6) :=
  Tk.run_storeVar_row w g t 171 cs zero6 h (by rw [hs]; rfl) (by rw [info171]; rfl) (by intro v hv; simp [zero6] at hv; rcases hv with rfl | rfl | rfl | rfl <;> rfl)
theorem qAt_load {P : Program} {lt : Bool} {w : World} {v : Value} {o : Oper} {a : Act} {ty : TypeId} {x : Operand} {g : Nat} (ho : o.op = .load ty x) (hx : a.eval x = .pointer (some ⟨g, 0, none⟩)) (hv : (loadVar ty ⟨g, 0, none⟩).run P w = .ok v w) :
    qAt P lt w v ((execOp a.eval o).run P w) := by
  simp only [execOp, ho, hx, Instr.loadAt, Instr.sureAddr, Sem.run_bind, Sem.run_pure, Result.andThen_ok, hv]
  exact ⟨rfl, rfl⟩
theorem sAt_storeRow {P : Program} {R : Value → World → Prop} {w w1 : World} {v : Value} {o : Oper} {a : Act} {ty : TypeId} {x u : Operand} {g : Nat} (ho : o.op = .store ty x u) (hx : a.eval x = .pointer (some ⟨g, 0, none⟩)) (hu : a.eval u = v)
    (hv : (storeVar ty ⟨g, 0, none⟩ v).run P w = .ok () w1) (h : R undef w1) : sAt P R ((execOp a.eval o).run P w) := by
  simp only [execOp, ho, hx, hu, Instr.storeAt, Instr.sureAddr, Sem.run_bind, Sem.run_pure, Result.andThen_ok, hv]
  exact h
set_option maxHeartbeats 3000000 in
set_option maxRecDepth 100000 in
theorem look_any {S : Nat → Prop} {w : World} {p : Nat} {st : St} {M : Nat} (h : PD S w p st) (hok : st.Ok M) (hoff : st.off = false) (f : Nat) (hf : f ≤ 8) :
    Calls Try.prog 119 #[.pointer (some ⟨p, 0, none⟩), .int .i64 (f : Int)] w (Lk w (st.file f).1) := by
  obtain ⟨W0, hW0⟩ : ∃ W0, w.alloc (.cells #[.int .u64 0, .int .i64 0, .int .i64 0, .slice none 0 0, .slice none 0 0, .int .i64 0] 171) = W0 := ⟨_, rfl⟩
  have hres : Bk W0 w.heap.size 171 zero6 := by rw [← hW0]; exact Bk.new w 171 _
  have hz0 : W0.heap.size = w.heap.size + 1 := by rw [← hW0]; simp
  have hm0 : Mk w W0 := by rw [← hW0]; exact mk_alloc _ _
  have h0 := h.made hm0
  have hsz := size_any (f : Int) h0
  have hst6 := fun (w' : World) (hm : Mk W0 w') => set6 (hres.mk hm) rfl
  cases hi : st.is (f : Int)
  · have h1 : st.size (f : Int) = -1 := by simp [St.size, hi]
    have h2 : st.read (f : Int) 0 0 = ([], 1) := by simp [St.read, hi, hoff]
    have hfile : (st.file f).1 = [] := by
      simp [St.is] at hi
      simp [St.file, List.getD_eq_getElem?_getD, List.getElem?_eq_none (show st.files.length ≤ f by omega)]
    have hfn : FrW.frameOf [] = none := by unfold FrW.frameOf; rw [if_pos (by decide)]
    have hlp : lookP [] = none := by unfold lookP; rw [hfn]
    rw [h1] at hsz
    have hrd := read_any h0 hok (f : Int) 0 0
    rw [h2] at hrd
    have H := Lib.hid h; have H0 := Lib.hid h0; have Hok := Lib.hid hok; have Hsz := Lib.hid hsz; have Hfile := Lib.hid hfile; have Hlp := Lib.hid hlp; have H1 := Lib.hid h1; have H2 := Lib.hid h2; have Hrd := Lib.hid hrd; have Hi := Lib.hid hi; have Hm0 := Lib.hid hm0; have Hres := Lib.hid hres; have Hz0 := Lib.hid hz0; have Hst6 := Lib.hid hst6; have Hfn := Lib.hid hfn; clear h h0 hok hsz hfile hlp h1 h2 hrd hi hm0 hres hz0 hst6 hfn
    go_enter Try.func119, Try.ntmps119
    go_wp2_with (first | (go_at_call 83; refine Hsz.out.mono ?_; rintro e w' ⟨rfl, rfl⟩) | fail)
    refine Hrd.out.mono ?_
    rintro e w1 ⟨v1, rfl, ho1, hm1⟩
    dsimp only
    have hb1 : Bs w1 v1 [] := own_sl ho1
    have Ho1 := Lib.hid ho1; have Hm1 := Lib.hid hm1; have Hb1 := Lib.hid hb1; clear ho1 hm1 hb1
    go_wp2_with fail
    refine (FrW.Get_any w1 v1 [] Hb1.out (by decide)).mono ?_
    intro e w2 hp
    unfold FrW.GetPost at hp
    simp only [Hfn.out] at hp
    obtain ⟨hm2, dv, hod, rfl⟩ := hp
    clear hod
    have hst := Hst6.out w2 (mk_trans Hm1.out hm2)
    have hr2 := Hres.out.mk (mk_trans Hm1.out hm2)
    have Hm2 := Lib.hid hm2; have Hr2 := Lib.hid hr2; clear hm2 hr2
    have Hst := Lib.hid hst; clear hst
    go_wp2_with (first | (refine wpList_store_row rfl 171 (.tmp 4) (.tmp 49) rfl w.heap.size rfl zero6 rfl Hst.out ?_) | fail)
    refine look_end rfl rfl rfl (show Bk _ w.heap.size 171 zero6 from setRow_has _ _ _ _ _ Hr2.out) rfl ?_
    rw [Hfile.out]
    exact Lk.no Hlp.out (mk_setRow (mk_trans Hm0.out (mk_trans Hm1.out Hm2.out)) (Nat.le_refl _) _)
  · obtain ⟨f', hf', hfl⟩ := is_nat hi
    obtain rfl : f = f' := by omega
    have h1 : st.size (f : Int) = ((st.file f).1.length : Int) := by simp [St.size, hi]
    have h2 := read_all hoff hfl
    have hfo := file_ok hok f
    rw [h1] at hsz
    have hrd := read_any h0 hok (f : Int) 0 ((st.file f).1.length : Int)
    rw [h2] at hrd
    generalize hxs : (st.file f).1 = xs at *
    have hxl : xs.length ≤ 16777216 := hfo.2
    have hmax : (if (xs.length : Int) < 0 then (0 : Int) else (xs.length : Int)) = (xs.length : Int) := by split <;> omega
    have hmax2 : (if 0 < (xs.length : Int) then (xs.length : Int) else 0) = (xs.length : Int) := by split <;> omega
    have hmax3 : (if 0 < xs.length then (xs.length : Int) else 0) = (xs.length : Int) := by split <;> omega
    have H := Lib.hid h; have H0 := Lib.hid h0; have Hok := Lib.hid hok; have Hsz := Lib.hid hsz; have H1 := Lib.hid h1; have H2 := Lib.hid h2; have Hrd := Lib.hid hrd; have Hi := Lib.hid hi; have Hm0 := Lib.hid hm0; have Hres := Lib.hid hres; have Hz0 := Lib.hid hz0; have Hst6 := Lib.hid hst6; have Hxs := Lib.hid hxs; have Hfo := Lib.hid hfo; clear h h0 hok hsz h1 h2 hrd hi hm0 hres hz0 hst6 hxs hfo
    have HG := Lib.hid (fun (w1 : World) (v1 : Value) (hb1 : Bs w1 v1 xs) => FrW.Get_any w1 v1 xs hb1 (by omega))
    rcases hfr : FrW.frameOf xs with _ | ⟨k, dat, n⟩
    · have hlp : lookP xs = none := by unfold lookP; rw [hfr]
      have Hlp := Lib.hid hlp; have Hfr := Lib.hid hfr; clear hlp hfr
      go_enter Try.func119, Try.ntmps119
      go_wp2_with (first | (go_at_call 83; refine Hsz.out.mono ?_; rintro e w' ⟨rfl, rfl⟩) | fail)
      refine Hrd.out.mono ?_
      rintro e w1 ⟨v1, rfl, ho1, hm1⟩
      dsimp only
      have hb1 : Bs w1 v1 xs := own_sl ho1
      have Ho1 := Lib.hid ho1; have Hm1 := Lib.hid hm1; have Hb1 := Lib.hid hb1; clear ho1 hm1 hb1
      go_wp2_with fail
      refine (HG.out w1 v1 Hb1.out).mono ?_
      intro e w2 hp
      unfold FrW.GetPost at hp
      simp only [Hfr.out] at hp
      obtain ⟨hm2, dv, hod, rfl⟩ := hp
      clear hod
      have hst := Hst6.out w2 (mk_trans Hm1.out hm2)
      have hr2 := Hres.out.mk (mk_trans Hm1.out hm2)
      have Hm2 := Lib.hid hm2; have Hr2 := Lib.hid hr2; have Hst := Lib.hid hst; clear hm2 hr2 hst
      (go_wp2_with (first | (refine wpList_store_row rfl 171 (.tmp 4) (.tmp 49) rfl w.heap.size rfl zero6 rfl Hst.out ?_) | fail); refine look_end rfl rfl rfl (show Bk _ w.heap.size 171 zero6 from setRow_has _ _ _ _ _ Hr2.out) rfl ?_; exact Lk.no Hlp.out (mk_setRow (mk_trans Hm0.out (mk_trans Hm1.out Hm2.out)) (Nat.le_refl _) _))
    · have hfl2 := FrW.frame_len hfr
      have hdl : dat.length ≤ 4194304 := hfl2.2.2
      have hn9 : n = dat.length + 9 := hfl2.1
      subst hn9
      have hnz : (((dat.length : Int) + 9) == 0) = false := by simp; omega
      have Hfr := Lib.hid hfr; have Hfl2 := Lib.hid hfl2; clear hfr hfl2
      have HLP := Lib.hid (show lookP xs = _ from rfl)
      by_cases hk1 : k = 1
      · subst hk1
        by_cases hd24 : dat.length < 24
        · have hlp : lookP xs = none := by unfold lookP; rw [Hfr.out]; dsimp only; rw [if_neg (by omega)]
          have Hlp := Lib.hid hlp; clear hlp
          go_enter Try.func119, Try.ntmps119
          go_wp2_with (first | (go_at_call 83; refine Hsz.out.mono ?_; rintro e w' ⟨rfl, rfl⟩) | fail)
          refine Hrd.out.mono ?_
          rintro e w1 ⟨v1, rfl, ho1, hm1⟩
          dsimp only
          have hb1 : Bs w1 v1 xs := own_sl ho1
          obtain ⟨va, vc, rfl, _, _⟩ := hb1.form
          have Ho1 := Lib.hid ho1; have Hm1 := Lib.hid hm1; have Hb1 := Lib.hid hb1; clear ho1 hm1 hb1
          go_wp2_with fail
          refine (HG.out w1 _ Hb1.out).mono ?_
          intro e w2 hp
          unfold FrW.GetPost at hp
          simp only [Hfr.out] at hp
          obtain ⟨hm2, dv, hod, rfl⟩ := hp
          obtain ⟨da, dc, rfl, _, _⟩ := (own_sl hod).form
          have hst := Hst6.out w2 (mk_trans Hm1.out hm2)
          have hr2 := Hres.out.mk (mk_trans Hm1.out hm2)
          have Hm2 := Lib.hid hm2; have Hr2 := Lib.hid hr2; have Hst := Lib.hid hst; have Hod := Lib.hid hod; clear hm2 hr2 hst hod
          (go_wp2_with (first | (refine wpList_store_row rfl 171 (.tmp 4) (.tmp 49) rfl w.heap.size rfl zero6 rfl Hst.out ?_) | fail); refine look_end rfl rfl rfl (show Bk _ w.heap.size 171 zero6 from setRow_has _ _ _ _ _ Hr2.out) rfl ?_; exact Lk.no Hlp.out (mk_setRow (mk_trans Hm0.out (mk_trans Hm1.out Hm2.out)) (Nat.le_refl _) _))
        · have hd24' : 24 ≤ dat.length := by omega
          have hd24f : decide ((dat.length : Int) < 24) = false := by simp; omega
          by_cases hmg : dat.take 8 = magic
          · have hcvv : ((⟨(dat.take 8).toArray⟩ : ByteArray)) = ⟨#[116, 117, 114, 110, 107, 101, 121, 49]⟩ := by rw [hmg]; rfl
            obtain ⟨gen, hgen⟩ : ∃ g, numB ((dat.take 16).drop 8) = g := ⟨_, rfl⟩
            obtain ⟨cp, hcp⟩ : ∃ g, numB ((dat.take 20).drop 16) = g := ⟨_, rfl⟩
            obtain ⟨sl, hsl⟩ : ∃ g, numB ((dat.take 24).drop 20) = g := ⟨_, rfl⟩
            have hgl : gen < 18446744073709551616 := by rw [← hgen]; exact Nat.lt_of_lt_of_le (numB_lt _) (by rw [show ((dat.take 16).drop 8).length = 8 by simp; omega]; decide)
            have hcl : cp < 4294967296 := by rw [← hcp]; exact Nat.lt_of_lt_of_le (numB_lt _) (by rw [show ((dat.take 20).drop 16).length = 4 by simp; omega]; decide)
            have hsll : sl < 4294967296 := by rw [← hsl]; exact Nat.lt_of_lt_of_le (numB_lt _) (by rw [show ((dat.take 24).drop 20).length = 4 by simp; omega]; decide)
            have hlp : lookP xs = if 0 < gen ∧ rightB cp sl = true then some (gen, cp, sl, dat.drop 24, dat.length + 9) else none := by
              unfold lookP
              rw [Hfr.out]
              dsimp only
              rw [hgen, hcp, hsl]
              by_cases hb : 0 < gen ∧ rightB cp sl = true
              · rw [if_pos hb, if_pos ⟨rfl, hd24', hmg, hb.1, hb.2⟩]
              · rw [if_neg hb, if_neg (fun h => hb ⟨h.2.2.2.1, h.2.2.2.2⟩)]
            have Hlp := Lib.hid hlp; have Hgen := Lib.hid hgen; have Hcp := Lib.hid hcp; have Hsl := Lib.hid hsl; clear hlp hgen hcp hsl
            go_enter Try.func119, Try.ntmps119
            go_wp2_with (first | (go_at_call 83; refine Hsz.out.mono ?_; rintro e w' ⟨rfl, rfl⟩) | fail)
            refine Hrd.out.mono ?_
            rintro e w1 ⟨v1, rfl, ho1, hm1⟩
            dsimp only
            have hb1 : Bs w1 v1 xs := own_sl ho1
            obtain ⟨va, vc, rfl, _, _⟩ := hb1.form
            have Ho1 := Lib.hid ho1; have Hm1 := Lib.hid hm1; have Hb1 := Lib.hid hb1; clear ho1 hm1 hb1
            go_wp2_with fail
            refine (HG.out w1 _ Hb1.out).mono ?_
            intro e w2 hp
            unfold FrW.GetPost at hp
            simp only [Hfr.out] at hp
            obtain ⟨hm2, dv, hod, rfl⟩ := hp
            obtain ⟨da, dc, rfl, _, _⟩ := (own_sl hod).form
            have hst := Hst6.out w2 (mk_trans Hm1.out hm2)
            have hr2 := Hres.out.mk (mk_trans Hm1.out hm2)
            have Hm2 := Lib.hid hm2; have Hr2 := Lib.hid hr2; have Hst := Lib.hid hst; have Hod := Lib.hid hod; clear hm2 hr2 hst hod
            have hcv : (convert 22 9 (.slice da 8 dc)).run Try.prog w2 = .ok (.string ⟨#[116, 117, 114, 110, 107, 101, 121, 49]⟩) w2 := by
              rw [← hcvv]
              exact FrW.str_of (by have := FrW.Sl.taken (show Bs w2 (.slice da dat.length dc) dat from own_sl Hod.out) 8 (by omega); rw [Bs, show (dat.take 8).length = 8 by simp; omega] at this; exact this)
            clear hcvv
            obtain ⟨dg, dc', hde, hdc1, hdc2, hdg1, hdg2⟩ := own_form Hod.out (by omega)
            cases hde
            clear hdg1 hdg2
            have hB1 := Lib.hid (fun (w' : World) (hm : Mk w2 w') => show Bs w' (.slice (some ⟨dg, 8, none⟩) 8 (dc - 8)) ((dat.take 16).drop 8) from FrW.sub_some ((own_sl Hod.out).mk hm) rfl 8 16 8 (dc - 8) 8 (by omega) (by omega) rfl (by omega) (by omega) rfl)
            have hB2 := Lib.hid (fun (w' : World) (hm : Mk w2 w') => show Bs w' (.slice (some ⟨dg, 16, none⟩) 4 (dc - 16)) ((dat.take 20).drop 16) from FrW.sub_some ((own_sl Hod.out).mk hm) rfl 16 20 4 (dc - 16) 16 (by omega) (by omega) rfl (by omega) (by omega) rfl)
            have hB3 := Lib.hid (fun (w' : World) (hm : Mk w2 w') => show Bs w' (.slice (some ⟨dg, 20, none⟩) 4 (dc - 20)) ((dat.take 24).drop 20) from FrW.sub_some ((own_sl Hod.out).mk hm) rfl 20 24 4 (dc - 20) 20 (by omega) (by omega) rfl (by omega) (by omega) rfl)
            go_wp2_with fail
            refine wp_region_sp (fun j => j == 12 || j == 13) (fun w' => Mk w2 w') (by kernel_rfl) (by kernel_rfl) (mk_refl _) (fun _ _ => mk_trans) ?_
            intro D hD hne
            have q1 := @qAt_value Try.prog
            iterate 2 (first | (refine spk (by rfl) (by rfl) (by rfl) (fun K hK => ?_); go_big_quiet_op; first | (refine hK _ ?_; clear hK K) | (apply Exists.intro; refine ⟨fun _ => ?_, hK _ ?_⟩; (exact fun _ => rfl); clear hK K)) | (refine spq (by rfl) (by rfl) (fun K hK => ?_); apply Exists.intro; refine ⟨fun w' hw' => ?_, ?_⟩; (go_simp; exact rfl); (go_simp; refine hK _ ?_; clear hK K)))
            (refine spq (by rfl) (by rfl) (fun K hK => ?_); apply Exists.intro; refine ⟨fun w' hw' => ?_, ?_⟩; (have q2 := @qAt_enter Try.prog; go_simp; refine ⟨rfl, (get_any w' _ _ (hB1.out w' hw') (by simp; omega)).mono fun e w'' ⟨h1, h2⟩ => by subst h2; rw [h1, Hgen.out]; exact ⟨rfl, mk_refl _⟩⟩); (go_simp; refine hK _ ?_; clear hK K))
            iterate 2 (first | (refine spk (by rfl) (by rfl) (by rfl) (fun K hK => ?_); go_big_quiet_op; first | (refine hK _ ?_; clear hK K) | (apply Exists.intro; refine ⟨fun _ => ?_, hK _ ?_⟩; (exact fun _ => rfl); clear hK K)) | (refine spq (by rfl) (by rfl) (fun K hK => ?_); apply Exists.intro; refine ⟨fun w' hw' => ?_, ?_⟩; (go_simp; exact rfl); (go_simp; refine hK _ ?_; clear hK K)))
            (refine spq (by rfl) (by rfl) (fun K hK => ?_); apply Exists.intro; refine ⟨fun w' hw' => ?_, ?_⟩; (have q2 := @qAt_enter Try.prog; go_simp; refine ⟨rfl, (get_any w' _ _ (hB2.out w' hw') (by simp; omega)).mono fun e w'' ⟨h1, h2⟩ => by subst h2; rw [h1, Hcp.out]; exact ⟨rfl, mk_refl _⟩⟩); (go_simp; refine hK _ ?_; clear hK K))
            iterate 3 (first | (refine spk (by rfl) (by rfl) (by rfl) (fun K hK => ?_); go_big_quiet_op; first | (refine hK _ ?_; clear hK K) | (apply Exists.intro; refine ⟨fun _ => ?_, hK _ ?_⟩; (exact fun _ => rfl); clear hK K)) | (refine spq (by rfl) (by rfl) (fun K hK => ?_); apply Exists.intro; refine ⟨fun w' hw' => ?_, ?_⟩; (go_simp; exact rfl); (go_simp; refine hK _ ?_; clear hK K)))
            (refine spq (by rfl) (by rfl) (fun K hK => ?_); apply Exists.intro; refine ⟨fun w' hw' => ?_, ?_⟩; (have q2 := @qAt_enter Try.prog; go_simp; refine ⟨rfl, (get_any w' _ _ (hB3.out w' hw') (by simp; omega)).mono fun e w'' ⟨h1, h2⟩ => by subst h2; rw [h1, Hsl.out]; exact ⟨rfl, mk_refl _⟩⟩); (go_simp; refine hK _ ?_; clear hK K))
            iterate 2 (first | (refine spk (by rfl) (by rfl) (by rfl) (fun K hK => ?_); go_big_quiet_op; first | (refine hK _ ?_; clear hK K) | (apply Exists.intro; refine ⟨fun _ => ?_, hK _ ?_⟩; (exact fun _ => rfl); clear hK K)) | (refine spq (by rfl) (by rfl) (fun K hK => ?_); apply Exists.intro; refine ⟨fun w' hw' => ?_, ?_⟩; (go_simp; exact rfl); (go_simp; refine hK _ ?_; clear hK K)))
            refine sps (by rfl) (by rfl) (fun v w' => ∃ g1, v = .pointer (some ⟨g1, 0, none⟩) ∧ w2.heap.size ≤ g1 ∧ Mk w2 w' ∧ Bk w' g1 169 #[.int .u64 0, .int .i64 0, .int .i64 0]) (fun v w1 w2 ⟨g, h1, h2, h3, h4⟩ k => ⟨g, h1, h2, mk_trans h3 k, h4.mk k⟩) (fun v w' ⟨_, _, _, h, _⟩ => h) (fun w' hw' => ?_) (fun K dv hdv hK => ?_)
            · have HM := Lib.hid (hD.out w' hw').1
              have sA := @sAt_value
              go_simp
              exact ⟨HM.out.size, mk_trans HM.out (mk_alloc _ _), Bk.new _ _ _⟩
            obtain ⟨w0, g1, rfl, hg1, h0, h0'⟩ := hdv
            clear h0 h0' w0 hne
            go_simp
            refine hK _ ?_
            clear hK K
            refine sps (by rfl) (by rfl) (fun v w' => v = undef ∧ Mk w2 w' ∧ Bk w' g1 169 #[.int .u64 gen, .int .i64 cp, .int .i64 sl]) (fun v w1 w2 ⟨h1, h3, h4⟩ k => ⟨h1, mk_trans h3 k, h4.mk k⟩) (fun v w' ⟨_, h, _⟩ => h) (fun w' hw' => ?_) (fun K dv hdv hK => ?_)
            · obtain ⟨g, he, _, hm, hb⟩ := hw'
              cases he
              refine sAt_storeRow rfl rfl rfl (Tk.run_storeVar_row w' g1 169 169 _ #[.int .u64 gen, .int .i64 cp, .int .i64 sl] hb rfl (by rw [info169]; rfl) (by intro v hv; simp at hv; rcases hv with rfl | rfl | rfl <;> rfl)) ?_
              exact ⟨rfl, mk_setRow hm hg1 _, setRow_has _ _ _ _ _ hb⟩
            obtain ⟨w0, rfl, h0, h0'⟩ := hdv
            clear h0 h0' w0
            go_simp
            refine hK _ ?_
            clear hK K
            refine sp_nil ?_
            rintro w3 ⟨_, hm3, hb3⟩
            clear hD D q1
            have Hm3 := Lib.hid hm3; have Hb3 := Lib.hid hb3; clear hm3 hb3
            go_wp2_with fail
            have hz2 : w.heap.size < w2.heap.size := by have := Hm1.out.size; have := Hm2.out.size; have := Hz0.out; omega
            have Hr3 := Lib.hid (Hr2.out.mk Hm3.out)
            have hbw := Lib.hid (fun (w' : World) (hc : Chg (fun k => k = w.heap.size) w3 w') => Bk.keep Hb3.out hc (fun (e : g1 = w.heap.size) => by omega))
            have c0 : ∀ w', Chg (fun k => k = w.heap.size) w3 w' → w'.cell? ⟨g1, 0, none⟩ = some (.int .u64 gen) := fun w' h => ((hbw.out w' h).cell 0).trans rfl
            have c1 : ∀ w', Chg (fun k => k = w.heap.size) w3 w' → w'.cell? ⟨g1, 1, none⟩ = some (.int .i64 cp) := fun w' h => ((hbw.out w' h).cell 1).trans rfl
            have c2 : ∀ w', Chg (fun k => k = w.heap.size) w3 w' → w'.cell? ⟨g1, 2, none⟩ = some (.int .i64 sl) := fun w' h => ((hbw.out w' h).cell 2).trans rfl
            obtain ⟨o24, hif, ho24⟩ : ∃ o, (if dc = 24 then some (⟨dg, 0, none⟩ : Addr) else some ⟨dg, 24, none⟩) = some ⟨dg, o, none⟩ ∧ (o = 24 ∨ dat.length = 24 ∧ o = 0) := by
              by_cases hd : dc = 24
              · exact ⟨0, by rw [if_pos hd], .inr ⟨by omega, rfl⟩⟩
              · exact ⟨24, by rw [if_neg hd], .inl rfl⟩
            by_cases hg0 : 0 < gen
            · have hg0' : decide ((0 : Int) < (gen : Int)) = true := by simp; omega
              refine wp_region_sp (fun j => j == 16) (fun w' => Chg (fun k => k = w.heap.size) w3 w') (by kernel_rfl) (by kernel_rfl) (Chg.refl _ _) (fun _ _ => Chg.thenMk) ?_
              intro D hD hne
              have q1 := @qAt_value Try.prog
              refine spq (by rfl) (by rfl) (fun K hK => ?_)
              refine ⟨_, fun w' hw' => qAt_load rfl rfl (load169 (hbw.out w' hw') rfl), hK _ ?_⟩
              clear hK K
              iterate 13 (first | (refine spk (by rfl) (by rfl) (by rfl) (fun K hK => ?_); go_big_quiet_op; first | (refine hK _ ?_; clear hK K) | (apply Exists.intro; refine ⟨fun _ => ?_, hK _ ?_⟩; (exact fun _ => rfl); clear hK K)) | (refine spq (by rfl) (by rfl) (fun K hK => ?_); apply Exists.intro; refine ⟨fun w' hw' => ?_, ?_⟩; (go_simp; exact rfl); (go_simp; refine hK _ ?_; clear hK K)))
              (refine spq (by rfl) (by rfl) (fun K hK => ?_); apply Exists.intro; refine ⟨fun w' hw' => ?_, ?_⟩; (have q2 := @qAt_enter Try.prog; go_simp; refine ⟨rfl, (right_any w' _ _).mono fun e w'' ⟨h1, h2⟩ => by subst h2; rw [h1]; exact ⟨rfl, mk_refl _⟩⟩); (go_simp; refine hK _ ?_; clear hK K))
              iterate 1 (first | (refine spk (by rfl) (by rfl) (by rfl) (fun K hK => ?_); go_big_quiet_op; first | (refine hK _ ?_; clear hK K) | (apply Exists.intro; refine ⟨fun _ => ?_, hK _ ?_⟩; (exact fun _ => rfl); clear hK K)) | (refine spq (by rfl) (by rfl) (fun K hK => ?_); apply Exists.intro; refine ⟨fun w' hw' => ?_, ?_⟩; (go_simp; exact rfl); (go_simp; refine hK _ ?_; clear hK K)))
              refine sps (by rfl) (by rfl) (fun v w' => v = undef ∧ Chg (fun k => k = w.heap.size) w3 w' ∧ Bk w' w.heap.size 171 #[.int .u64 gen, .int .i64 cp, .int .i64 sl, .slice va xs.length vc, .slice (some ⟨dg, o24, none⟩) (dat.length - 24) (dc - 24), .int .i64 ((dat.length : Int) + 9)]) (fun v w1 w2 ⟨h1, h3, h4⟩ k => ⟨h1, Chg.thenMk h3 k, h4.mk k⟩) (fun v w' ⟨_, h, _⟩ => h) (fun w' hw' => ?_) (fun K dv hdv hK => ?_)
              · obtain ⟨hc, hm⟩ := hD.out w' hw'
                refine sAt_storeRow rfl rfl rfl (Tk.run_storeVar_row w' w.heap.size 171 171 zero6 #[.int .u64 gen, .int .i64 cp, .int .i64 sl, .slice va xs.length vc, .slice (some ⟨dg, o24, none⟩) (dat.length - 24) (dc - 24), .int .i64 ((dat.length : Int) + 9)] (Hr3.out.mk hc) rfl (by rw [info171]; rfl) (by intro v hv; simp at hv; rcases hv with rfl | rfl | rfl | rfl | rfl | rfl <;> rfl)) ?_
                exact ⟨rfl, Chg.trans (Chg.of_mk hc) (chg_setRow _ _ _) (fun _ _ h => h), setRow_has _ _ _ _ _ (Hr3.out.mk hc)⟩
              obtain ⟨w0, rfl, h0, h0'⟩ := hdv
              clear h0 h0' w0 hne
              go_simp
              refine hK _ ?_
              clear hK K
              iterate 1 (first | (refine spk (by rfl) (by rfl) (by rfl) (fun K hK => ?_); go_big_quiet_op; first | (refine hK _ ?_; clear hK K) | (apply Exists.intro; refine ⟨fun _ => ?_, hK _ ?_⟩; (exact fun _ => rfl); clear hK K)) | (refine spq (by rfl) (by rfl) (fun K hK => ?_); apply Exists.intro; refine ⟨fun w' hw' => ?_, ?_⟩; (go_simp; exact rfl); (go_simp; refine hK _ ?_; clear hK K)))
              refine sp_nil ?_
              rintro w4 ⟨_, hc4, hb4⟩
              clear hD D q1
              have hm4 : Mk w w4 := (Chg.trans (Chg.of_mk (mk_trans Hm0.out (mk_trans Hm1.out (mk_trans Hm2.out Hm3.out)))) hc4 (fun _ _ h => h)).to_mk (fun k hk e => by omega)
              have Hm4 := Lib.hid hm4; have Hb4 := Lib.hid hb4; have Hc4 := Lib.hid hc4; clear hm4 hb4 hc4
              go_wp2_with fail
              refine look_end rfl rfl rfl Hb4.out rfl ?_
              refine ⟨Hm4.out, ?_⟩
              rw [Hlp.out]
              by_cases hr : rightB cp sl = true
              · rw [if_pos ⟨hg0, hr⟩]
                have hzw : w.heap.size < W0.heap.size := by have := Hz0.out; omega
                have hva : ∀ k, (Value.slice va xs.length vc).ownBlock = some k → W0.heap.size ≤ k ∧ k < w1.heap.size := fun k hk => Ho1.out.lt k hk
                have hdg : w1.heap.size ≤ dg := (Hod.out.lt dg rfl).1
                have hw01 := Hm1.out.size
                refine ⟨_, _, by rw [hr]; rfl, own_base (own_keep (own_mk Ho1.out (mk_trans Hm2.out Hm3.out)) Hc4.out fun k hk e => ?_) (by omega), wr_of (own_base (own_keep (own_mk Hod.out Hm3.out) Hc4.out fun k hk e => ?_) (by omega)) rfl 24 (by omega) ho24, fun k h1 h2 => ?_⟩
                · have := (hva k hk).1; have e' : k = w.heap.size := e; omega
                · have e' : k = w.heap.size := e; cases hk; have e2 : dg = w.heap.size := e'; omega
                · cases h2; have := (hva dg h1).2; omega
              · rw [if_neg (fun h => hr h.2)]
                refine ⟨_, _, _, _, _, _, by rw [show rightB cp sl = false by simpa using hr], rfl, rfl⟩
            · obtain rfl : gen = 0 := by omega
              refine wp_region_sp (fun j => j == 16) (fun w' => Chg (fun k => k = w.heap.size) w3 w') (by kernel_rfl) (by kernel_rfl) (Chg.refl _ _) (fun _ _ => Chg.thenMk) ?_
              intro D hD hne
              have q1 := @qAt_value Try.prog
              refine spq (by rfl) (by rfl) (fun K hK => ?_)
              refine ⟨_, fun w' hw' => qAt_load rfl rfl (load169 (hbw.out w' hw') rfl), hK _ ?_⟩
              clear hK K
              iterate 9 (first | (refine spk (by rfl) (by rfl) (by rfl) (fun K hK => ?_); go_big_quiet_op; first | (refine hK _ ?_; clear hK K) | (apply Exists.intro; refine ⟨fun _ => ?_, hK _ ?_⟩; (exact fun _ => rfl); clear hK K)) | (refine spq (by rfl) (by rfl) (fun K hK => ?_); apply Exists.intro; refine ⟨fun w' hw' => ?_, ?_⟩; (go_simp; exact rfl); (go_simp; refine hK _ ?_; clear hK K)))
              iterate 5 (refine spskip (by rfl) (fun K hK => ?_); go_simp; refine hK _ ?_; clear hK K)
              iterate 1 (first | (refine spk (by rfl) (by rfl) (by rfl) (fun K hK => ?_); go_big_quiet_op; first | (refine hK _ ?_; clear hK K) | (apply Exists.intro; refine ⟨fun _ => ?_, hK _ ?_⟩; (exact fun _ => rfl); clear hK K)) | (refine spq (by rfl) (by rfl) (fun K hK => ?_); apply Exists.intro; refine ⟨fun w' hw' => ?_, ?_⟩; (go_simp; exact rfl); (go_simp; refine hK _ ?_; clear hK K)))
              refine sps (by rfl) (by rfl) (fun v w' => v = undef ∧ Chg (fun k => k = w.heap.size) w3 w' ∧ Bk w' w.heap.size 171 #[.int .u64 (0 : Nat), .int .i64 cp, .int .i64 sl, .slice va xs.length vc, .slice (some ⟨dg, o24, none⟩) (dat.length - 24) (dc - 24), .int .i64 ((dat.length : Int) + 9)]) (fun v w1 w2 ⟨h1, h3, h4⟩ k => ⟨h1, Chg.thenMk h3 k, h4.mk k⟩) (fun v w' ⟨_, h, _⟩ => h) (fun w' hw' => ?_) (fun K dv hdv hK => ?_)
              · obtain ⟨hc, hm⟩ := hD.out w' hw'
                refine sAt_storeRow rfl rfl rfl (Tk.run_storeVar_row w' w.heap.size 171 171 zero6 #[.int .u64 (0 : Nat), .int .i64 cp, .int .i64 sl, .slice va xs.length vc, .slice (some ⟨dg, o24, none⟩) (dat.length - 24) (dc - 24), .int .i64 ((dat.length : Int) + 9)] (Hr3.out.mk hc) rfl (by rw [info171]; rfl) (by intro v hv; simp at hv; rcases hv with rfl | rfl | rfl | rfl | rfl | rfl <;> rfl)) ?_
                exact ⟨rfl, Chg.trans (Chg.of_mk hc) (chg_setRow _ _ _) (fun _ _ h => h), setRow_has _ _ _ _ _ (Hr3.out.mk hc)⟩
              obtain ⟨w0, rfl, h0, h0'⟩ := hdv
              clear h0 h0' w0 hne
              go_simp
              refine hK _ ?_
              clear hK K
              iterate 1 (first | (refine spk (by rfl) (by rfl) (by rfl) (fun K hK => ?_); go_big_quiet_op; first | (refine hK _ ?_; clear hK K) | (apply Exists.intro; refine ⟨fun _ => ?_, hK _ ?_⟩; (exact fun _ => rfl); clear hK K)) | (refine spq (by rfl) (by rfl) (fun K hK => ?_); apply Exists.intro; refine ⟨fun w' hw' => ?_, ?_⟩; (go_simp; exact rfl); (go_simp; refine hK _ ?_; clear hK K)))
              refine sp_nil ?_
              rintro w4 ⟨_, hc4, hb4⟩
              clear hD D q1
              have hm4 : Mk w w4 := (Chg.trans (Chg.of_mk (mk_trans Hm0.out (mk_trans Hm1.out (mk_trans Hm2.out Hm3.out)))) hc4 (fun _ _ h => h)).to_mk (fun k hk e => by omega)
              have Hm4 := Lib.hid hm4; have Hb4 := Lib.hid hb4; have Hc4 := Lib.hid hc4; clear hm4 hb4 hc4
              go_wp2_with fail
              refine look_end rfl rfl rfl Hb4.out rfl ?_
              refine ⟨Hm4.out, ?_⟩
              rw [Hlp.out, if_neg (fun h => absurd h.1 (Nat.lt_irrefl _))]
              exact ⟨_, _, _, _, _, _, rfl, rfl, rfl⟩
          · have hlp : lookP xs = none := by unfold lookP; rw [Hfr.out]; dsimp only; rw [if_neg (by intro h; exact hmg h.2.2.1)]
            have Hlp := Lib.hid hlp; clear hlp
            go_enter Try.func119, Try.ntmps119
            go_wp2_with (first | (go_at_call 83; refine Hsz.out.mono ?_; rintro e w' ⟨rfl, rfl⟩) | fail)
            refine Hrd.out.mono ?_
            rintro e w1 ⟨v1, rfl, ho1, hm1⟩
            dsimp only
            have hb1 : Bs w1 v1 xs := own_sl ho1
            obtain ⟨va, vc, rfl, _, _⟩ := hb1.form
            have Ho1 := Lib.hid ho1; have Hm1 := Lib.hid hm1; have Hb1 := Lib.hid hb1; clear ho1 hm1 hb1
            go_wp2_with fail
            refine (HG.out w1 _ Hb1.out).mono ?_
            intro e w2 hp
            unfold FrW.GetPost at hp
            simp only [Hfr.out] at hp
            obtain ⟨hm2, dv, hod, rfl⟩ := hp
            obtain ⟨da, dc, rfl, _, _⟩ := (own_sl hod).form
            have hst := Hst6.out w2 (mk_trans Hm1.out hm2)
            have hr2 := Hres.out.mk (mk_trans Hm1.out hm2)
            have Hm2 := Lib.hid hm2; have Hr2 := Lib.hid hr2; have Hst := Lib.hid hst; have Hod := Lib.hid hod; clear hm2 hr2 hst hod
            have hcv : (convert 22 9 (.slice da 8 dc)).run Try.prog w2 = .ok (.string ⟨(dat.take 8).toArray⟩) w2 := FrW.str_of (by have := FrW.Sl.taken (show Bs w2 (.slice da dat.length dc) dat from own_sl Hod.out) 8 (by omega); rw [Bs, show (dat.take 8).length = 8 by simp; omega] at this; exact this)
            have hmg2 : (!(List.take 8 dat == [116, 117, 114, 110, 107, 101, 121, 49])) = true := by
              have : ¬ List.take 8 dat = [116, 117, 114, 110, 107, 101, 121, 49] := hmg
              simpa using this
            (go_wp2_with (first | (refine wpList_store_row rfl 171 (.tmp 4) (.tmp 49) rfl w.heap.size rfl zero6 rfl Hst.out ?_) | fail); refine look_end rfl rfl rfl (show Bk _ w.heap.size 171 zero6 from setRow_has _ _ _ _ _ Hr2.out) rfl ?_; exact Lk.no Hlp.out (mk_setRow (mk_trans Hm0.out (mk_trans Hm1.out Hm2.out)) (Nat.le_refl _) _))
      · have hk2 : ((k.toNat : Int) != 1) = true := by
          have : ¬ k.toNat = 1 := fun h => hk1 (UInt8.toNat_inj.1 h)
          simp; omega
        have hlp : lookP xs = none := by unfold lookP; rw [Hfr.out]; dsimp only; rw [if_neg (by intro h; exact hk1 h.1)]
        have Hlp := Lib.hid hlp; clear hlp
        go_enter Try.func119, Try.ntmps119
        go_wp2_with (first | (go_at_call 83; refine Hsz.out.mono ?_; rintro e w' ⟨rfl, rfl⟩) | fail)
        refine Hrd.out.mono ?_
        rintro e w1 ⟨v1, rfl, ho1, hm1⟩
        dsimp only
        have hb1 : Bs w1 v1 xs := own_sl ho1
        obtain ⟨va, vc, rfl, _, _⟩ := hb1.form
        have Ho1 := Lib.hid ho1; have Hm1 := Lib.hid hm1; have Hb1 := Lib.hid hb1; clear ho1 hm1 hb1
        go_wp2_with fail
        refine (HG.out w1 _ Hb1.out).mono ?_
        intro e w2 hp
        unfold FrW.GetPost at hp
        simp only [Hfr.out] at hp
        obtain ⟨hm2, dv, hod, rfl⟩ := hp
        obtain ⟨da, dc, rfl, _, _⟩ := (own_sl hod).form
        have hst := Hst6.out w2 (mk_trans Hm1.out hm2)
        have hr2 := Hres.out.mk (mk_trans Hm1.out hm2)
        have Hm2 := Lib.hid hm2; have Hr2 := Lib.hid hr2; have Hst := Lib.hid hst; have Hod := Lib.hid hod; clear hm2 hr2 hst hod
        (go_wp2_with (first | (refine wpList_store_row rfl 171 (.tmp 4) (.tmp 49) rfl w.heap.size rfl zero6 rfl Hst.out ?_) | fail); refine look_end rfl rfl rfl (show Bk _ w.heap.size 171 zero6 from setRow_has _ _ _ _ _ Hr2.out) rfl ?_; exact Lk.no Hlp.out (mk_setRow (mk_trans Hm0.out (mk_trans Hm1.out Hm2.out)) (Nat.le_refl _) _))
end Go.Proofs.WlW

namespace Go.Proofs.FrW
open Go Go.RowKit Go.Tk Go.Sp Go.Rg
def NxD (xs : List UInt8) (pre : List Item) (x : Item) : Prop := NxI xs pre x ∧ ∀ y ∈ pre, ∀ k, y.2.2.ownBlock = some k → x.2.2.ownBlock ≠ some k
set_option maxRecDepth 100000 in
theorem scan2_seq (w : World) (gb lo hi : Nat) (v : Value) (xs : List UInt8) (hc : w.cell? ⟨gb, 0, none⟩ = some v) (hv : Bs w v xs) (hgb : lo ≤ gb ∧ gb < hi) (hvb : ∀ k, v.ownBlock = some k → lo ≤ k ∧ k < hi) (hhi : hi ≤ w.heap.size) (hxl : xs.length ≤ 140737488355328) :
    SeqG Try.prog 82 #[.pointer (some ⟨gb, 0, none⟩)] encI GI (NxD xs) (KpI lo hi) (fun ys => ys.map key = framesOf xs) (fun pre => pre.map key <+: framesOf xs) w := by
  intro n l J Jx W hW hJ hJx hY h0
  have hcW : W.cell? ⟨gb, 0, none⟩ = some v := (hW.cell (p := ⟨gb, 0, none⟩) (by show gb < _; omega)).trans hc
  have hvW : Bs W v xs := hv.mk hW
  have hhiW : hi ≤ W.heap.size := by have := hW.size; omega
  refine callsIn_of_wp Try.func82 rfl trivial ?_ rfl
  simp only [Try.ntmps82, List.size_toArray, List.length_cons, List.length_nil, Nat.reduceAdd, Nat.reduceSub, Array.replicate_succ, Array.replicate_zero, List.push_toArray, List.append_toArray, List.nil_append, List.cons_append]
  have HY := Lib.hid hY
  have HJ := Lib.hid hJ
  have HJx := Lib.hid hJx
  have HV := Lib.hid hvW
  have HVB := Lib.hid hvb
  have HW := Lib.hid hW
  have H0 := Lib.hid h0
  clear hY hJ hJx hvW hvb hW h0 hv hc
  gi_wp2
  gi_loopw [3] (fun rv wr => ∃ (pre : List Item) (ys : List UInt8), Bs wr rv ys ∧ (∀ k, rv.ownBlock = some k → lo ≤ k ∧ k < hi) ∧ framesOf xs = pre.map key ++ framesOf ys ∧ ys.length ≤ xs.length ∧ J pre wr ∧ hi ≤ wr.heap.size ∧ W.heap.size ≤ wr.heap.size ∧ (∀ y ∈ pre, ∀ k, y.2.2.ownBlock = some k → k < wr.heap.size))
    (fun rv _ => lenOf rv)
  case atStart => exact ⟨[], xs, HV.out, HVB.out, rfl, Nat.le_refl _, H0.out, hhiW, Nat.le_refl _, fun _ h => by cases h⟩
  case round =>
    obtain ⟨pre, ys, hbs, hob, hfr, hyl, hJp, hsz, hsz2, hpre⟩ := hrel
    obtain ⟨a, cap, hrv, hc1, hc2⟩ := hbs.form
    subst hrv
    have HS := Lib.hid hbs
    have HOB := Lib.hid hob
    have HFR := Lib.hid hfr
    have HJP := Lib.hid hJp
    have HPR := Lib.hid hpre
    clear hbs hob hfr hJp hpre
    rcases hf : frameOf ys with _ | ⟨k, dat, m⟩
    · have HF := Lib.hid hf
      clear hf
      gi_wp2_with (first | (refine ⟨trivial, ?_⟩; gi_at_call 78; refine (callsIn_wide.2 (first_any _ _ ys HS.out (by omega))).mono ?_; intro e w1 hp; unfold FirstPost at hp; rw [HF.out] at hp; obtain ⟨hm, rfl⟩ := hp; have HM := Lib.hid hm; clear hm))
      refine ⟨trivial, ?_⟩
      gi_wp2_with (fail)
      refine ⟨fun _ _ => trivial, ?_⟩
      gi_wp2_with (fail)
      refine bodyPost_ret (results_none rfl _ _ _) rfl ?_
      refine ⟨⟨_, rfl⟩, .inl ⟨pre, ?_, HJ.out _ _ _ HJP.out HM.out⟩⟩
      rw [HFR.out, framesOf_none HF.out, List.append_nil]
    · obtain ⟨hm1, hm2, hm3⟩ := frame_len hf
      obtain ⟨b, off, rfl, _⟩ := HS.out.cellAt (by omega)
      have hm9 : 9 ≤ m := by omega
      have hmne : ((m : Int) == 0) = false := by simp; omega
      have HF := Lib.hid hf
      clear hf hm1
      gi_wp2_with (first | (refine ⟨trivial, ?_⟩; gi_at_call 78; refine (callsIn_wide.2 (first_any _ _ ys HS.out (by omega))).mono ?_; intro e w1 hp; unfold FirstPost at hp; rw [HF.out] at hp; obtain ⟨hm, dv0, rfl, hbs⟩ := hp; have HM := Lib.hid hm; have HS1 := Lib.hid (hbs.mk hm); clear hm hbs) | (refine ⟨trivial, ?_⟩; gi_at_call 79; refine (callsIn_wide.2 (clone_any _ _ dat HS1.out (by omega))).mono ?_; rintro e w2 ⟨dv, rfl, ho2, hm2⟩; have HO2 := Lib.hid ho2; have HM2 := Lib.hid hm2; clear ho2 hm2; obtain ⟨fn, tmps, assign, body, hy, hR⟩ := HY.out pre (k, dat, dv) w2 (HJ.out _ _ _ HJP.out (mk_trans HM.out HM2.out)) ⟨(by unfold NxI; rw [HFR.out, framesOf_some HF.out]; exact ⟨framesOf (ys.drop m), by simp [key]⟩), fun y hy k hk e => by have h1 := HPR.out y hy k hk; have h2 := (HO2.out.lt k e).1; have h3 := HM.out.size; omega⟩ (own_base HO2.out (by have := HM.out.size; omega)); dsimp only [encI] at hy; have HR := Lib.hid hR; clear hR))
      refine HR.out.mono ?_
      rintro e W3 (⟨rfl, hJ3, hk3⟩ | ⟨rfl, hJx3⟩)
      · have hpr3 : ∀ y ∈ pre ++ [(k, dat, dv)], ∀ j, y.2.2.ownBlock = some j → j < W3.heap.size := by
          have hs3 : w2.heap.size ≤ W3.heap.size := hk3.1
          have hs2 : wr.heap.size ≤ w2.heap.size := (mk_trans HM.out HM2.out).size
          intro y hy j hj
          rcases List.mem_append.1 hy with hy | hy
          · have := HPR.out y hy j hj; omega
          · obtain rfl := List.mem_singleton.1 hy
            have := (HO2.out.lt j hj).2; omega
        have HPR3 := Lib.hid hpr3
        clear hpr3
        have HJ3 := Lib.hid hJ3
        have HK3 := Lib.hid hk3
        clear hJ3 hk3 hy HR
        have hB3 : Bs W3 (.slice (some ⟨b, off, none⟩) ys.length cap) ys := bs_kp (HS.out.mk (mk_trans HM.out HM2.out)) HOB.out HK3.out
        have hlen : (ys.drop m).length = ys.length - m := by simp
        have hs3 : w2.heap.size ≤ W3.heap.size := HK3.out.1
        have hs2 : wr.heap.size ≤ w2.heap.size := (mk_trans HM.out HM2.out).size
        have hnext : framesOf xs = (pre ++ [(k, dat, dv)]).map key ++ framesOf (ys.drop m) := by rw [HFR.out, framesOf_some HF.out]; simp [key]
        have HN := Lib.hid hnext
        have HB3 := Lib.hid hB3
        have HLen := Lib.hid hlen
        clear hB3 hnext hlen
        by_cases hcm : cap = m
        · gi_wp2
          refine ⟨⟨pre ++ [(k, dat, dv)], ys.drop m, ?_, fun j hj => HOB.out j hj, HN.out, by rw [HLen.out]; omega, HJ3.out, by omega, by omega, HPR3.out⟩, ?_⟩
          · have e : ys.drop m = [] := List.drop_eq_nil_of_le (by omega)
            rw [e, show ys.length - m = 0 by omega]
            exact bs_empty _ _
          · simp [lenOf]; omega
        · gi_wp2
          refine ⟨⟨pre ++ [(k, dat, dv)], ys.drop m, ?_, fun j hj => HOB.out j hj, HN.out, by rw [HLen.out]; omega, HJ3.out, by omega, by omega, HPR3.out⟩, ?_⟩
          · have := sub_some HB3.out rfl m ys.length (ys.length - m) (cap - m) (off + m) (by omega) (by omega) rfl (by omega) (by omega) rfl
            rwa [List.take_length] at this
          · simp [lenOf]; omega
      · have HJX3 := Lib.hid hJx3
        clear hJx3 hy HR
        gi_wp2
        refine bodyPost_ret (results_none rfl _ _ _) rfl ?_
        refine ⟨⟨_, rfl⟩, .inr ⟨pre ++ [(k, dat, dv)], ?_, HJX3.out⟩⟩
        rw [HFR.out, framesOf_some HF.out]
        exact ⟨framesOf (ys.drop m), by simp [key]⟩

end Go.Proofs.FrW
