/- Layer 6, wal: the statements' world of two disks and two logs; born, files. Layer 6, wal: what both Opens tell, side by side; bytes that are written over. -/
import Derived.Test.YtcfjdldlcdomgaaMWalPlays21
set_option linter.unusedVariables false
set_option linter.unusedSimpArgs false
namespace Go.Proofs.WlW
open Go Go.RowKit Go.Tk Go.Dk Go.Sp Go.Proofs.DkW

theorem RD.trim {S : Nat → Prop} {w : World} {p : Nat} {st : St} (h : RD S w p st) : RD (fun k => S k ∧ k < w.heap.size) w p st := by
  obtain ⟨F, U, q, c, cs, vs, bn, ops, kv, kl, h⟩ := h
  exact ⟨fun k => F k ∧ k < w.heap.size, fun k => U k ∧ k < w.heap.size, q, c, cs, vs, bn, ops, kv, kl, h.head, h.files.sub fun k hk hf => ⟨hf, hk⟩, h.keeps, fun k hp hk => ⟨h.kvb k hp hk, is_lt h.keeps hp hk⟩, h.fuse, ⟨h.sp, h.head.lt⟩,
    fun k hk => ⟨⟨(h.fs k hk.1).1, hk.2⟩, (h.fs k hk.1).2⟩, fun k hk => ⟨⟨(h.us k hk.1).1, hk.2⟩, (h.us k hk.1).2⟩, fun k hk hu => h.disj k hk.1 hu.1, h.hc⟩
def gwC (p q : Nat) (lv mv : Value) : Array Value := #[.pointer (some ⟨p, 0, none⟩), lv, .pointer (some ⟨q, 0, none⟩), mv]
/-- What of the statements' world are disks and the block that names them. -/
structure WDk (S T : Nat → Prop) (w : World) (gw p q : Nat) (lv mv : Value) (st : St) : Prop where
  pd : PD S w p st
  rd : RD T w q st
  blk : Bk w gw 91 (gwC p q lv mv)
  lt : ∀ k, S k ∨ T k → k < w.heap.size
  dis : ∀ k, S k → ¬ T k
  ne : ¬ S gw ∧ ¬ T gw
section
variable {S T U : Nat → Prop} {w w' : World} {gw p q M : Nat} {lv mv : Value} {st : St}
theorem WDk.made (h : WDk S T w gw p q lv mv st) (hm : Mk w w') : WDk S T w' gw p q lv mv st :=
  ⟨h.pd.made hm, h.rd.made hm, h.blk.mk hm, fun k hk => by have := h.lt k hk; have := hm.size; omega, h.dis, h.ne⟩
theorem WDk.keep (h : WDk S T w gw p q lv mv st) (hc : Chg U w w') (hn : ∀ k, U k → ¬ S k ∧ ¬ T k ∧ k ≠ gw) : WDk S T w' gw p q lv mv st :=
  ⟨h.pd.keep hc (fun k _ hs hu => (hn k hu).1 hs), h.rd.keep hc (fun k _ hs hu => (hn k hu).2.1 hs), h.blk.keep hc (fun hu => (hn gw hu).2.2 rfl), fun k hk => by have := h.lt k hk; have := hc.size; omega, h.dis, h.ne⟩
theorem WDk.c0 (h : WDk S T w gw p q lv mv st) : w.cell? ⟨gw, 0, none⟩ = some (.pointer (some ⟨p, 0, none⟩)) := (h.blk.cell 0).trans rfl
theorem WDk.c1 (h : WDk S T w gw p q lv mv st) : w.cell? ⟨gw, 1, none⟩ = some lv := (h.blk.cell 1).trans rfl
theorem WDk.c2 (h : WDk S T w gw p q lv mv st) : w.cell? ⟨gw, 2, none⟩ = some (.pointer (some ⟨q, 0, none⟩)) := (h.blk.cell 2).trans rfl
theorem WDk.c3 (h : WDk S T w gw p q lv mv st) : w.cell? ⟨gw, 3, none⟩ = some mv := (h.blk.cell 3).trans rfl
theorem RD.c0 (h : RD T w q st) : ∃ a c, w.cell? ⟨q, 0, none⟩ = some (.slice a st.files.length c) ∧ st.files.length ≤ c := by
  obtain ⟨F, U, q', c, cs, vs, bn, ops, kv, kl, h⟩ := h
  exact ⟨_, _, RDw.c0 h, h.hc.1⟩

set_option maxHeartbeats 1000000 in
set_option maxRecDepth 100000 in
theorem born_any (w : World) (n : Nat) (h0 : 1 ≤ n) (h1 : n ≤ 8) : Calls Try.prog 47 #[.int .i64 (n : Int)] w fun e w' => ∃ gw p q S T, e = .returned (.tuple #[.pointer (some ⟨gw, 0, none⟩), .bool true]) ∧
    WDk S T w' gw p q (.pointer none) (.pointer none) (fresh n) ∧ Mk w w' ∧ (∀ k, S k ∨ T k ∨ k = gw → w.heap.size ≤ k) := by
  go_enter Try.func47, Try.ntmps47
  go_wp2_with fail
  refine (new_any w n h0 h1).mono ?_
  rintro e w1 ⟨p, rfl, hd, hm1⟩
  have Hd := Lib.hid hd; have Hm1 := Lib.hid hm1; clear hd hm1
  go_wp2_with fail
  refine (rnew_any w1 n h0 h1).mono ?_
  rintro e w2 ⟨q, rfl, hr, hm2⟩
  have Hr := Lib.hid hr; have Hm2 := Lib.hid hm2; clear hr hm2
  go_wp2_with fail
  go_ret2
  have hp := PD.trim Hd.out
  have hq := RD.trim Hr.out
  have hz1 := Hm1.out.size
  have hz2 := Hm2.out.size
  refine ⟨w2.heap.size, p, q, _, _, rfl, ⟨(hp.made Hm2.out).made (mk_alloc _ _), hq.made (mk_alloc _ _), Bk.new w2 91 _, fun k hk => ?_, fun k hs ht => ?_, ?_, ?_⟩, mk_trans Hm1.out (mk_trans Hm2.out (mk_alloc _ _)), fun k hk => ?_⟩
  · simp; rcases hk with hk | hk <;> omega
  · omega
  · omega
  · omega
  · rcases hk with hk | hk | hk <;> omega
set_option maxHeartbeats 4000000 in
set_option maxRecDepth 100000 in
theorem files_any (h : WDk S T w gw p q lv mv st) (hok : st.Ok M) : Calls Try.prog 50 #[.pointer (some ⟨gw, 0, none⟩)] w fun e w' => e = .returned (.bool true) ∧ Mk w w' := by
  have hmany := hok.many
  have H := Lib.hid h; have Hok := Lib.hid hok; clear h hok
  go_enter Try.func50, Try.ntmps50
  go_wp2_with fail
  go_loopw [3] (fun i wr => ∃ k : Nat, i = .int .i64 (k : Int) ∧ k ≤ st.files.length ∧ Mk w wr) (fun i _ => st.files.length - (intOf i).toNat)
  case atStart => exact ⟨0, rfl, Nat.zero_le _, mk_refl _⟩
  case round =>
    obtain ⟨k, rfl, hk, hm⟩ := hrel
    have h1 := H.out.made hm
    have c0 := h1.c0
    have c2 := h1.c2
    obtain ⟨qa, qc, d0, hqc⟩ := RD.c0 h1.rd
    by_cases hlt : k < st.files.length
    · have hi : st.is (k : Int) = true := by simp [St.is]; omega
      have hsz : st.size (k : Int) = ((st.file k).1.length : Int) := by simp [St.size, hi]
      have hla : st.lasts (k : Int) = ((st.file k).2 : Int) := by simp [St.lasts, hi]
      have s1 := rsize_any (k : Int) h1.rd
      have s2 := fun n => size_any (k : Int) (h1.pd.made (mk_drewN wr n))
      have s3 := fun n => lasts_any (k : Int) (h1.pd.made (mk_drewN wr n))
      have s4 := fun n => rlasts_any (k : Int) (h1.rd.made (mk_drewN wr n))
      rw [hsz] at s1
      simp only [hsz] at s2
      simp only [hla] at s3 s4
      have hx1 := (file_ok Hok.out k).2
      have hr1 := fun w' (h : PD S w' p st) => read_any h Hok.out (k : Int) 0 ((st.file k).1.length : Int)
      have hr2 := fun w' (h : RD T w' q st) => rread_any h Hok.out (k : Int) 0 ((st.file k).1.length : Int)
      generalize st.read (k : Int) 0 ((st.file k).1.length : Int) = r at *
      obtain ⟨bs, er⟩ := r
      generalize (st.file k).1.length = n at *
      generalize (st.file k).2 = la at *
      have n1 : ((n : Int) != (n : Int)) = false := by simp
      have n2 : ((la : Int) != (la : Int)) = false := by simp
      have n3 : (er != er) = false := by simp
      have H1 := Lib.hid h1; have Hm := Lib.hid hm; have S1 := Lib.hid s1; have S2 := Lib.hid s2; have S3 := Lib.hid s3; have S4 := Lib.hid s4; have Hr1 := Lib.hid hr1; have Hr2 := Lib.hid hr2; have Hi := Lib.hid hi; have Hsz := Lib.hid hsz; have Hla := Lib.hid hla; clear h1 hm s1 s2 s3 s4 hr1 hr2 hi hsz hla
      go_wp2_with fail
      refine S1.out.mono ?_
      rintro e w' ⟨rfl, rfl⟩
      go_wp2_with fail
      go_quiet (first | (go_at_call 83; exact q_same (S2.out _)) | (go_at_call 84; exact q_same (S3.out _)) | (go_at_call 103; exact q_same (S4.out _)))
      have hmd := mk_drewN wr nq
      generalize wr.drewN nq = W at *
      have h2 := H1.out.made hmd
      have d0 := h2.c0
      have d2 := h2.c2
      have hq1 := Hr1.out W h2.pd
      have H2 := Lib.hid h2; have Hmd := Lib.hid hmd; have Hq1 := Lib.hid hq1; clear h2 hmd hq1
      go_wp2_with fail
      refine Hq1.out.mono ?_
      rintro e w3 ⟨v3, rfl, ho3, hm3⟩
      obtain ⟨a3, b3, rfl, _, _⟩ := (own_sl ho3).form
      have h3 := H2.out.made hm3
      have e0 := h3.c0
      have e2 := h3.c2
      have hq2 := Hr2.out w3 h3.rd
      have H3 := Lib.hid h3; have Hm3 := Lib.hid hm3; have Hq2 := Lib.hid hq2; have Ho3 := Lib.hid ho3; clear h3 hm3 hq2 ho3
      go_wp2_with fail
      refine Hq2.out.mono ?_
      rintro e w4 ⟨v4, rfl, ho4, hm4⟩
      obtain ⟨a4, b4, rfl, _, _⟩ := (own_sl ho4).form
      have k1 := FrW.str_of ((own_sl Ho3.out).mk hm4)
      have k2 := FrW.str_of (own_sl ho4)
      have hmW := mk_trans Hm.out (mk_trans Hmd.out (mk_trans Hm3.out hm4))
      have Hm4 := Lib.hid hm4; have Ho4 := Lib.hid ho4; have HmW := Lib.hid hmW; clear hm4 ho4 hmW
      go_wp2_with fail
      go_roundw
      case rel => exact ⟨k + 1, by go_num, by omega, HmW.out⟩
      case measure => simp [intOf]; omega
    · have hkl : (k : Int) = (st.files.length : Int) := by omega
      have on := RD.on h1.rd
      have fl := RD.fl h1.rd
      have s1 := fun n => alive_any (h1.pd.made (mk_drewN wr n))
      have s2 := fun n => falls_any (h1.pd.made (mk_drewN wr n))
      have n1 : ((!st.off) == (!st.off)) = true := by simp
      have n2 : ((st.falls : Int) == (st.falls : Int)) = true := by simp
      obtain ⟨oo, hoo⟩ : ∃ o, (!st.off) = o := ⟨_, rfl⟩
      simp only [hoo] at *
      have H1 := Lib.hid h1; have Hm := Lib.hid hm; have S1 := Lib.hid s1; have S2 := Lib.hid s2; have Hkl := Lib.hid hkl; have Hoo := Lib.hid hoo; clear h1 hm s1 s2 hkl hoo
      go_wp2_with fail
      go_quiet (first | (go_at_call 37; exact q_same (S1.out _)) | (go_at_call 40; exact q_same (S2.out _)))
      go_wp2
      go_ret
      exact ⟨rfl, mk_trans Hm.out (mk_drewN _ _)⟩
end
end Go.Proofs.WlW

namespace Go.Proofs.WlW
open Go Go.RowKit Go.Tk Go.Dk Go.Sp Go.Proofs.DkW

def rlC (q : Nat) (L : Lg) (sv : Value) : Array Value := #[.pointer (some ⟨q, 0, none⟩), .int .i64 (L.falls : Int), .int .i64 (L.live : Int), .int .u64 (L.gen : Int), .int .i64 (L.cap : Int), .int .i64 (L.slots : Int), sv]
/-- The two logs of the statements' world. -/
def LogP (base : Nat) (S T : Nat → Prop) (w : World) (p q : Nat) (lv mv : Value) : Option Lg → Prop
  | none => lv = .pointer none ∧ mv = .pointer none
  | some L => ∃ g h sv, lv = .pointer (some ⟨g, 0, none⟩) ∧ mv = .pointer (some ⟨h, 0, none⟩) ∧ Bk w g 175 (lgC p L) ∧ Bk w h 204 (rlC q L sv) ∧ (¬ S g ∧ ¬ T g ∧ ¬ S h ∧ ¬ T h) ∧ sv.oneCell' = true ∧ base ≤ g ∧ base ≤ h
def logOf (r : St × (Int ⊕ Opened)) : Option Lg := match r.2 with | .inl _ => none | .inr o => some (lgOf o r.1.falls)
def codeOf (r : St × (Int ⊕ Opened)) : Int := match r.2 with | .inl n => n | .inr _ => 0
def stateOf (r : St × (Int ⊕ Opened)) : List UInt8 := match r.2 with | .inl _ => [] | .inr o => o.state
def recsOf (r : St × (Int ⊕ Opened)) : List (List UInt8) := match r.2 with | .inl _ => [] | .inr o => o.recs
/-- What the program's Open has told. -/
structure OutP (S : Nat → Prop) (w w1 : World) (p : Nat) (r : St × (Int ⊕ Opened)) (lv sv rv : Value) (rvs : List Value) : Prop where
  pd : PD S w1 p r.1
  chg : Chg S w w1
  sw : Wr w.heap.size sv (stateOf r) w1
  rr : w1.ownsRow w.heap.size 22 1 rv (recsOf r).length rvs
  er : EncR w1 w.heap.size (recsOf r) rvs
  ne : ∀ dv ∈ rvs, ∀ k, dv.ownBlock = some k → sv.ownBlock ≠ some k
  log : match logOf r with | none => lv = .pointer none | some L => ∃ g, lv = .pointer (some ⟨g, 0, none⟩) ∧ Bk w1 g 175 (lgC p L) ∧ w.heap.size ≤ g
structure OutR (T : Nat → Prop) (w w1 : World) (q : Nat) (r : St × (Int ⊕ Opened)) (mv sv rv : Value) (rvs : List Value) : Prop where
  rd : RD T w1 q r.1
  chg : Chg T w w1
  sw : w1.ownsRow w.heap.size 5 1 sv (stateOf r).length (bv (stateOf r))
  rr : w1.ownsRow w.heap.size 22 1 rv (recsOf r).length rvs
  er : ∀ (i : Nat) (d : List UInt8), (recsOf r)[i]? = some d → ∃ dv, rvs[i]? = some dv ∧ w1.ownsRow w.heap.size 5 1 dv d.length (bv d)
  log : match logOf r with | none => mv = .pointer none | some L => ∃ h, mv = .pointer (some ⟨h, 0, none⟩) ∧ Bk w1 h 204 (rlC q L sv) ∧ w.heap.size ≤ h
theorem outP {S : Nat → Prop} {w w1 : World} {p : Nat} {st : St} {e : Ending} (h : OpenPost S w p st e w1) : ∃ lv sv rv rvs, e = .returned (.tuple #[lv, sv, rv, .int .i64 (codeOf (openP st))]) ∧ OutP S w w1 p (openP st) lv sv rv rvs := by
  obtain ⟨hd, hc, h⟩ := h
  revert h
  generalize openP st = r at *
  obtain ⟨s', o⟩ := r
  cases o with
  | inl n => intro h; exact ⟨_, _, _, [], h, hd, hc, ⟨0, rfl, .inl ⟨rfl, rfl⟩⟩, World.ownsRow_nil _ _ _ _, EncR.nil _ _, fun dv h => by simp at h, rfl⟩
  | inr o => rintro ⟨gl, sv, rv, rvs, he, hgl, hb, h1, h2, h3, h4⟩; exact ⟨_, _, _, rvs, he, hd, hc, h1, h2, h3, h4, gl, rfl, hb, hgl⟩
theorem outR {T : Nat → Prop} {w w1 : World} {q : Nat} {st : St} {e : Ending} (h : ROpenPost T w q st e w1) : ∃ mv sv rv rvs, e = .returned (.tuple #[mv, sv, rv, .int .i64 (codeOf (openP st))]) ∧ OutR T w w1 q (openP st) mv sv rv rvs := by
  obtain ⟨hd, hc, h⟩ := h
  revert h
  generalize openP st = r at *
  obtain ⟨s', o⟩ := r
  cases o with
  | inl n => intro h; exact ⟨_, _, _, [], h, hd, hc, World.ownsRow_nil _ _ _ _, World.ownsRow_nil _ _ _ _, fun i d h => by simp [recsOf] at h, rfl⟩
  | inr o => rintro ⟨gl, sv, rv, rvs, he, hgl, hb, h1, h2, h3⟩; exact ⟨_, _, _, rvs, he, hd, hc, h1, h2, h3, gl, rfl, hb, hgl⟩
section
variable {w w' : World} {base : Nat} {v : Value} {xs : List UInt8}
theorem own_wr (h : w.ownsRow base 5 1 v xs.length (bv xs)) : Wr base v xs w := by
  obtain ⟨h1, h2 | ⟨g, cap, cur, hv, hg, hh, hn, hc, hs, ht⟩⟩ := h
  · exact ⟨xs.length, rfl, .inl ⟨h2.1, h2.2⟩⟩
  · rw [Nat.mul_one] at ht hs
    exact ⟨xs.length, rfl, .inr ⟨g, 0, cap, cur, hv, hn, hc, hg, hh, by omega, by rw [List.drop_zero]; exact ht⟩⟩
theorem bv_set (xs : List UInt8) (i : Nat) (c : UInt8) : bv (xs.set i c) = (bv xs).set i (.int .u8 (c.toNat : Int)) := by simp [bv, List.map_set]
/-- One byte of such a piece is written over. -/
theorem wr_at (h : Wr base v xs w) (i : Nat) (hi : i < xs.length) : ∃ g off c, v = .slice (some ⟨g, off, none⟩) xs.length c ∧ w.cell? ⟨g, off + i, none⟩ = some (.int .u8 (xs[i].toNat : Int)) ∧ w.frozen? ⟨g, off + i, none⟩ = false ∧
    Wr base v (xs.set i 7) (w.setCell ⟨g, off + i, none⟩ (.int .u8 7)) := by
  obtain ⟨n, rfl, ⟨rfl, h0⟩ | ⟨g, off, c, cur, rfl, h1, h2, h3, h4, h5, h6⟩⟩ := h
  · omega
  · refine ⟨g, off, c, rfl, ?_, frozen_of_row _ _ _ _ _ h4, xs.length, by simp, .inr ⟨g, off, c, cur.setIfInBounds (off + i) (.int .u8 7), rfl, h1, h2, h3, Bk.set (t := 5) h4 _ _, by simpa using h5, ?_⟩⟩
    · rw [cell_of_row _ _ _ _ _ _ h4, ← bv_get xs i hi, ← h6, List.getElem?_take, if_pos hi, List.getElem?_drop]; simp
    · rw [bv_set, ← h6, Array.toList_setIfInBounds, List.drop_set, if_neg (by omega), List.take_set, show off + i - off = i by omega]
      rfl
theorem wr_form (h : Wr base v xs w) : ∃ a c, v = .slice a xs.length c := by
  obtain ⟨n, rfl, ⟨rfl, h0⟩ | ⟨g, off, c, cur, rfl, _⟩⟩ := h
  · exact ⟨_, _, by rw [h0]⟩
  · exact ⟨_, _, rfl⟩
end
theorem frames_each (l : List (UInt8 × List UInt8)) : ∀ f ∈ l, f.2.length ≤ FrW.wholeOf l := by
  induction l with
  | nil => intro f h; simp at h
  | cons x l ih =>
    intro f hf
    simp only [FrW.wholeOf]
    rcases List.mem_cons.1 hf with rfl | h
    · omega
    · have := ih f h; omega
theorem open_bound {st : St} {B : Nat} (h : ∀ f, (st.file f).1.length ≤ B) : (recsOf (openP st)).length ≤ B ∧ (stateOf (openP st)).length ≤ B ∧ ∀ d ∈ recsOf (openP st), d.length ≤ B := by
  unfold openP
  split
  · simp [recsOf, stateOf]
  · cases hc : chooseP (st.is 1) (lookP (st.file 0).1) (lookP (st.file 1).1) with
    | inl n => simp [recsOf, stateOf]
    | inr x =>
      obtain ⟨live, g, c, s, state, n⟩ := x
      simp only []
      split
      · simp [recsOf, stateOf]
      · split
        · simp [recsOf, stateOf]
        · obtain ⟨_, hl⟩ := choose_live hc
          have hlk : lookP (st.file live).1 = some (g, c, s, state, n) := by rcases hl with ⟨rfl, e⟩ | ⟨rfl, e⟩ <;> exact e
          obtain ⟨dat, hfr, hd, rfl, _⟩ := look_some hlk
          obtain ⟨h1, h2, h3⟩ := FrW.frame_len hfr
          have hb := h live
          have hw := FrW.wholeOf_le _ (st.file live).1 (Nat.le_refl _)
          have hcn := frames_count' (st.file live).1
          refine ⟨by simp [recsOf]; omega, by simp [stateOf]; omega, ?_⟩
          intro d hd'
          simp only [recsOf, List.mem_map] at hd'
          obtain ⟨f, hf, rfl⟩ := hd'
          have := frames_each _ f (List.mem_of_mem_tail hf)
          omega
end Go.Proofs.WlW
