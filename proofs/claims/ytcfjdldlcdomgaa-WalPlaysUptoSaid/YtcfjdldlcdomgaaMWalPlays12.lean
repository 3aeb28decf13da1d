/- Layer 4, disk: the walks of what asks the document's disk. Layer 4, disk: the walk of the document's fails. Layer 4, disk: the walks of the document's Append, Sync and Truncate. -/
import Derived.Test.YtcfjdldlcdomgaaMWalPlays4
set_option linter.unusedVariables false
set_option linter.unusedSimpArgs false
namespace Go.Proofs.DkW
open Go Go.RowKit Go.Tk Go.Dk

section
variable {S F U : Nat → Prop} {w : World} {p q c : Nat} {cs : Array Value} {vs : Nat → Value} {bn : Bool} {ops : Int} {kv : Value} {kl : List Int} {st : St}
theorem RDw.c0 (h : RDw S F U w p q c cs vs bn ops kv kl st) : w.cell? ⟨p, 0, none⟩ = some (.slice (some ⟨q, 0, none⟩) st.files.length c) := (h.head.cell 0).trans rfl
theorem RDw.c1 (h : RDw S F U w p q c cs vs bn ops kv kl st) : w.cell? ⟨p, 1, none⟩ = some (.bool !st.off) := (h.head.cell 1).trans rfl
theorem RDw.c2 (h : RDw S F U w p q c cs vs bn ops kv kl st) : w.cell? ⟨p, 2, none⟩ = some (.int .i64 (st.falls : Int)) := (h.head.cell 2).trans rfl
theorem RDw.c3 (h : RDw S F U w p q c cs vs bn ops kv kl st) : w.cell? ⟨p, 3, none⟩ = some (.bool bn) := (h.head.cell 3).trans rfl
theorem RDw.c4 (h : RDw S F U w p q c cs vs bn ops kv kl st) : w.cell? ⟨p, 4, none⟩ = some (.int .i64 ops) := (h.head.cell 4).trans rfl
theorem RDw.c5 (h : RDw S F U w p q c cs vs bn ops kv kl st) : w.cell? ⟨p, 5, none⟩ = some kv := (h.head.cell 5).trans rfl

theorem ralive_any (h : RD S w p st) : Calls Try.prog 104 #[.pointer (some ⟨p, 0, none⟩)] w fun e w' => e = .returned (.bool (!st.off)) ∧ w = w' := by
  obtain ⟨F, U, q, c, cs, vs, bn, ops, kv, kl, h⟩ := h
  have h1 := RDw.c1 h
  clear h
  go_enter Try.func104, Try.ntmps104
  go_wp2
  go_ret
  exact ⟨rfl, rfl⟩
theorem rfalls_any (h : RD S w p st) : Calls Try.prog 105 #[.pointer (some ⟨p, 0, none⟩)] w fun e w' => e = .returned (.int .i64 (st.falls : Int)) ∧ w = w' := by
  obtain ⟨F, U, q, c, cs, vs, bn, ops, kv, kl, h⟩ := h
  have h1 := RDw.c2 h
  clear h
  go_enter Try.func105, Try.ntmps105
  go_wp2
  go_ret
  exact ⟨rfl, rfl⟩
theorem ris_any (f : Int) (h : RD S w p st) : Calls Try.prog 146 #[.pointer (some ⟨p, 0, none⟩), .int .i64 f] w fun e w' => e = .returned (.bool (st.is f)) ∧ w = w' := by
  obtain ⟨F, U, q, c, cs, vs, bn, ops, kv, kl, h⟩ := h
  have h1 := RDw.c0 h
  clear h
  by_cases h0 : 0 ≤ f
  · go_enter Try.func146, Try.ntmps146
    go_wp2
    go_ret
    exact ⟨by simp [St.is, h0], rfl⟩
  · have h2 : decide (0 ≤ f) = false := by simpa using h0
    go_enter Try.func146, Try.ntmps146
    go_wp2
    go_ret
    exact ⟨by simp [St.is, h2], rfl⟩
theorem may_any (f : Int) (h : RD S w p st) : Calls Try.prog 111 #[.pointer (some ⟨p, 0, none⟩), .int .i64 f] w fun e w' => e = .returned (.int .i64 (if st.off then 40 else if st.is f then 0 else 1)) ∧ w = w' := by
  have hi := ris_any f h
  have HI := Lib.hid hi
  clear hi
  obtain ⟨F, U, q, c, cs, vs, bn, ops, kv, kl, h⟩ := h
  have h1 := RDw.c1 h
  clear h
  cases ho : st.off
  · rw [ho] at h1
    cases hq : st.is f
    all_goals
      go_enter Try.func111, Try.ntmps111
      go_wp2_with (go_at_call 146; refine HI.out.mono ?_; rintro e w' ⟨rfl, rfl⟩)
      go_ret
      exact ⟨by simp, rfl⟩
  · rw [ho] at h1
    go_enter Try.func111, Try.ntmps111
    go_wp2
    go_ret
    exact ⟨by simp, rfl⟩
/-- A file's two cells. -/
theorem RDw.at_ (h : RDw S F U w p q c cs vs bn ops kv kl st) (f : Nat) (hf : f < st.files.length) :
    ∃ a m, vs f = .slice a (st.file f).1.length m ∧ (st.file f).1.length ≤ m ∧ m ≤ maxLen ∧ w.cell? ⟨q, f * 2, none⟩ = some (.slice a (st.file f).1.length m) ∧ w.cell? ⟨q, f * 2 + 1, none⟩ = some (.int .i64 ((st.file f).2 : Int)) := by
  have e : st.file f = st.files[f] := by simp [St.file, hf]
  rw [e]
  have ho := h.files.own f hf
  obtain ⟨a, m, hv, h1, h2⟩ := (own_sl ho).form
  refine ⟨a, m, hv, h1, h2, ?_, ?_⟩
  · rw [h.files.row.cell, h.files.sl f hf, hv]
  · rw [h.files.row.cell, h.files.last f hf]
theorem rsize_any (f : Int) (h : RD S w p st) : Calls Try.prog 102 #[.pointer (some ⟨p, 0, none⟩), .int .i64 f] w fun e w' => e = .returned (.int .i64 (st.size f)) ∧ w = w' := by
  have hi := ris_any f h
  have HI := Lib.hid hi
  clear hi
  obtain ⟨F, U, q, c, cs, vs, bn, ops, kv, kl, h⟩ := h
  have h1 := RDw.c0 h
  cases hq : st.is f
  · clear h
    rw [hq] at HI
    go_enter Try.func102, Try.ntmps102
    go_wp2_with (go_at_call 146; refine HI.out.mono ?_; rintro e w' ⟨rfl, rfl⟩)
    go_ret
    exact ⟨by simp [St.size, hq], rfl⟩
  · rw [hq] at HI
    have hq' := hq
    simp only [St.is, Bool.and_eq_true, decide_eq_true_eq] at hq'
    obtain ⟨f, rfl⟩ := Int.eq_ofNat_of_zero_le hq'.1
    obtain ⟨a, m, hv, hm1, hm2, hs1, hs2⟩ := RDw.at_ h f (by omega)
    have hlt := hq'.2
    clear hq' h hv hs2
    go_enter Try.func102, Try.ntmps102
    go_wp2_with (go_at_call 146; refine HI.out.mono ?_; rintro e w' ⟨rfl, rfl⟩)
    go_ret
    exact ⟨by simp [St.size, hq], rfl⟩
theorem rlasts_any (f : Int) (h : RD S w p st) : Calls Try.prog 103 #[.pointer (some ⟨p, 0, none⟩), .int .i64 f] w fun e w' => e = .returned (.int .i64 (st.lasts f)) ∧ w = w' := by
  have hi := ris_any f h
  have HI := Lib.hid hi
  clear hi
  obtain ⟨F, U, q, c, cs, vs, bn, ops, kv, kl, h⟩ := h
  have h1 := RDw.c0 h
  cases hq : st.is f
  · clear h
    rw [hq] at HI
    go_enter Try.func103, Try.ntmps103
    go_wp2_with (go_at_call 146; refine HI.out.mono ?_; rintro e w' ⟨rfl, rfl⟩)
    go_ret
    exact ⟨by simp [St.lasts, hq], rfl⟩
  · rw [hq] at HI
    have hq' := hq
    simp only [St.is, Bool.and_eq_true, decide_eq_true_eq] at hq'
    obtain ⟨f, rfl⟩ := Int.eq_ofNat_of_zero_le hq'.1
    obtain ⟨a, m, hv, hm1, hm2, hs1, hs2⟩ := RDw.at_ h f (by omega)
    have hlt := hq'.2
    clear hq' h hv hs1
    go_enter Try.func103, Try.ntmps103
    go_wp2_with (go_at_call 146; refine HI.out.mono ?_; rintro e w' ⟨rfl, rfl⟩)
    go_ret
    exact ⟨by simp [St.lasts, hq], rfl⟩
/-- The head has been written. -/
theorem RDw.headed {w' : World} (h : RDw S F U w p q c cs vs bn ops kv kl st) {off : Bool} {falls : Nat} {bn' : Bool} {ops' : Int}
    (hb : Bk w' p 159 #[.slice (some ⟨q, 0, none⟩) st.files.length c, .bool !off, .int .i64 (falls : Int), .bool bn', .int .i64 ops', kv]) (hc : Chg (fun k => k = p) w w') :
    RDw S F U w' p q c cs vs bn' ops' kv kl { files := st.files, off := off, falls := falls, fuse := if bn' then some (ops', kl) else none } :=
  ⟨hb, h.files.keep hc fun k _ hk e => (h.fs k hk).2 e, is_keep h.keeps hc fun k _ hp hk e => (h.us k (h.kvb k hp hk)).2 e, h.kvb, rfl, h.sp, h.fs, h.us, h.disj, h.hc⟩
/-- The document's disk behind an op: one that burns leaves the fuse. -/
def afterBurn (st : St) : St := if st.burnt = true then st else st.lit
theorem afterBurn_yes {st : St} (h : st.burnt = true) : afterBurn st = st := by unfold afterBurn; rw [if_pos h]
theorem afterBurn_no {st : St} (h : st.burnt = false) : afterBurn st = st.lit := by unfold afterBurn; rw [h]; rfl
theorem rburns_any {M : Nat} (h : RDw S F U w p q c cs vs bn ops kv kl st) (hok : st.Ok M) : Calls Try.prog 112 #[.pointer (some ⟨p, 0, none⟩)] w fun e w' => e = .returned (.bool st.burnt) ∧
    (∃ ops', RDw S F U w' p q c cs vs bn ops' kv kl (afterBurn st)) ∧ Chg (fun k => k = p) w w' := by
  have c3 := RDw.c3 h
  have c4 := RDw.c4 h
  have f4 := h.head.frozen 4
  cases hbn : bn with
  | false =>
    subst hbn
    have hf : st.fuse = none := h.fuse
    have e1 : st.burnt = false := by simp [St.burnt, hf]
    have e2 : st.lit = st := by cases st; simp_all [St.lit]
    have e3 := afterBurn_no e1
    rw [e2] at e3
    have H := Lib.hid h; have Hok := Lib.hid hok; have E1 := Lib.hid e1; have E2 := Lib.hid e2; have E3 := Lib.hid e3; clear h hok e1 e2 e3
    go_enter Try.func112, Try.ntmps112
    go_wp2
    go_ret
    rw [E1.out, E3.out]
    exact ⟨rfl, ⟨ops, H.out⟩, Chg.refl _ _⟩
  | true =>
    subst hbn
    have hf : st.fuse = some (ops, kl) := h.fuse
    obtain ⟨h0, h1⟩ := hok.ops ops kl hf
    by_cases hz : ops = 0
    · subst hz
      have e1 : st.burnt = true := by simp [St.burnt, hf]
      have e3 := afterBurn_yes e1
      have H := Lib.hid h; have Hok := Lib.hid hok; have E1 := Lib.hid e1; have E3 := Lib.hid e3; clear h hok e1 e3
      go_enter Try.func112, Try.ntmps112
      go_wp2
      go_ret
      rw [E1.out, E3.out]
      exact ⟨rfl, ⟨0, H.out⟩, Chg.refl _ _⟩
    · have e1 : st.burnt = false := by simp [St.burnt, hf]; omega
      have hz2 : (ops == 0) = false := by simpa using hz
      have hp : 0 ≤ ops - 1 := by omega
      have hh := h.head.set 4 (.int .i64 (ops - 1))
      have hlit : st.lit = { files := st.files, off := st.off, falls := st.falls, fuse := some (ops - 1, kl) } := by simp [St.lit, hf]
      have e3 := afterBurn_no e1
      have H := Lib.hid h; have Hok := Lib.hid hok; have Hh := Lib.hid hh; have Hlit := Lib.hid hlit; have E1 := Lib.hid e1; have E3 := Lib.hid e3; clear h hok hh hlit e1 e3
      clear hz hf
      go_enter Try.func112, Try.ntmps112
      go_wp2
      go_ret
      rw [E1.out, E3.out]
      refine ⟨rfl, ⟨ops - 1, ?_⟩, Chg.set _ _ _ _ rfl⟩
      rw [Hlit.out]
      exact RDw.headed H.out (bn' := true) (by simpa using Hh.out) (Chg.set _ _ _ _ rfl)
theorem rrestart_any (h : RD S w p st) : Calls Try.prog 99 #[.pointer (some ⟨p, 0, none⟩)] w fun e w' => e = .returned (.tuple #[]) ∧ RD S w' p st.restart ∧ Chg S w w' := by
  obtain ⟨F, U, q, c, cs, vs, bn, ops, kv, kl, h⟩ := h
  have h1 := RDw.c1 h
  have h2 := RDw.c3 h
  have f1 := h.head.frozen 1
  have f3 := h.head.frozen 3
  have H := Lib.hid h; clear h
  go_enter Try.func99, Try.ntmps99
  go_wp2
  go_end0
  refine ⟨rfl, ⟨F, U, q, c, cs, vs, false, ops, kv, kl, RDw.headed H.out (off := false) (falls := st.falls) (bn' := false) (ops' := ops) ?_ ?_⟩, ?_⟩
  · simpa using (H.out.head.set 1 (.bool true)).set 3 (.bool false)
  · exact ((Chg.refl (fun k => k = p) w).thenSet _ _ (.inl rfl)).thenSet _ _ (.inl rfl)
  · exact ((Chg.refl _ _).thenSet _ _ (.inl H.out.sp)).thenSet _ _ (.inl H.out.sp)
end
end Go.Proofs.DkW

namespace Go.Proofs.DkW
open Go Go.RowKit Go.Tk Go.Dk

set_option maxHeartbeats 1000000 in
set_option maxRecDepth 100000 in
theorem fails_any {S F U : Nat → Prop} {w : World} {p q c : Nat} {cs : Array Value} {vs : Nat → Value} {bn : Bool} {ops : Int} {kv0 : Value} {kl0 : List Int} {st : St} (h : RDw S F U w p q c cs vs bn ops kv0 kl0 st) {M : Nat} (hok : st.Ok0 M) (hM : M ≤ 1000000)
    (kv : Value) (kl : List Int) (hk : Is w kv kl) (hkb : ∀ k, 0 < kl.length → kv.ownBlock = some k → k ≠ q ∧ k ≠ p) :
    Calls Try.prog 113 #[.pointer (some ⟨p, 0, none⟩), kv] w fun e w' => e = .returned (.tuple #[]) ∧ (∃ cs vs, RDw S F U w' p q c cs vs false ops kv0 kl0 (st.fall kl)) ∧ Chg (fun k => k = q ∨ k = p) w w' := by
  obtain ⟨ka, kc, rfl, hkc1, hkc2⟩ := hk.form
  have hpq : ¬ p = q := fun e => (h.fs q h.files.at_).2 e.symm
  have hqp : ¬ q = p := fun e => hpq e.symm
  have Hk := Lib.hid hk; have Hkb := Lib.hid hkb; have Hok := Lib.hid hok; have H := Lib.hid h; clear hk hkb hok h
  go_enter Try.func113, Try.ntmps113
  go_wp2
  go_loopw [4] (fun i wr => ∃ k : Nat, i = .int .i64 (k : Int) ∧ k ≤ st.files.length ∧ (∃ cs vs, RDw S F U wr p q c cs vs bn ops kv0 kl0 (part st kl k)) ∧ Chg (fun k => k = q) w wr) (fun i _ => st.files.length - (intOf i).toNat)
  case atStart => exact ⟨0, rfl, Nat.zero_le _, by rw [part_zero]; exact ⟨cs, vs, H.out⟩, Chg.refl _ _⟩
  case round =>
    obtain ⟨k, rfl, hk, ⟨cs1, vs1, h⟩, hc⟩ := hrel
    have Hc := Lib.hid hc; clear hc
    have hlen : (part st kl k).files.length = st.files.length := by simp [part]
    have g0 := RDw.c0 h
    rw [hlen] at g0
    by_cases hlt : k < st.files.length
    · obtain ⟨a, m, hv, hm1, hm2, s1, s2⟩ := RDw.at_ h k (by omega)
      rw [part_file] at hv hm1 s1 s2
      have hb := Hok.out.file (st.file k) (by simp [St.file, hlt])
      have f1 := h.files.row.frozen (k * 2)
      have f2 := h.files.row.frozen (k * 2 + 1)
      have H1 := Lib.hid h
      have HV := Lib.hid hv
      clear h hv hlen
      have hk8 := Hok.out.many
      have hb1 : ((st.file k).2 : Int) ≤ ((st.file k).1.length : Int) := by omega
      have hb2 : ((st.file k).1.length : Int) ≤ 16777216 := by omega
      have hb3 : (0 : Int) ≤ ((st.file k).2 : Int) := by omega
      have HFK : Hid (fallFile kl k (st.file k) = ((st.file k).1.take ((st.file k).2 + kept kl k (st.file k).1.length (st.file k).2), (st.file k).2 + kept kl k (st.file k).1.length (st.file k).2)) := rfl
      obtain ⟨E, hE⟩ : ∃ E, kept kl k (st.file k).1.length (st.file k).2 = E := ⟨_, rfl⟩
      obtain ⟨n, hn⟩ : ∃ n, (st.file k).1.length = n := ⟨_, rfl⟩
      obtain ⟨t, ht⟩ : ∃ t, (st.file k).2 = t := ⟨_, rfl⟩
      rw [hn] at hm1 s1 hb hb1 hb2 hE
      rw [ht] at s2 hb hb1 hb3 hE
      have HN := Lib.hid hn
      have HT := Lib.hid ht
      have HE := Lib.hid hE
      clear hn ht
      unfold kept at hE
      have hdone : ∀ (T : Nat) (wq : World) (_ : t + E = T) (_ : Mk wr wq), ∀ w3, w3 = ((wq.setCell ⟨q, k * 2, none⟩ (.slice a T m)).drew.setCell ⟨q, k * 2 + 1, none⟩ (.int .i64 (T : Int))) →
          (∃ cs vs, RDw S F U w3 p q c cs vs bn ops kv0 kl0 (part st kl (k + 1))) ∧ Chg (fun k => k = q) w w3 := by
        rintro T wq hT hmq w3 rfl
        have hpk : k < (part st kl k).files.length := by simp [part]; omega
        have hpf : (part st kl k).files[k] = st.file k := by rw [← part_file st kl k]; simp [St.file, hpk]
        have hcc : Chg (fun k => k = q) wr ((wq.setCell ⟨q, k * 2, none⟩ (.slice a T m)).drew.setCell ⟨q, k * 2 + 1, none⟩ (.int .i64 (T : Int))) :=
          (((Chg.of_mk (S := fun k => k = q) hmq).thenSet ⟨q, k * 2, none⟩ (.slice a T m) (.inl rfl)).drew).thenSet _ _ (.inl rfl)
        have hTn : T ≤ n := by omega
        have hz := H1.out.files.size
        refine ⟨⟨(cs1.setIfInBounds (k * 2) (.slice a T m)).setIfInBounds (k * 2 + 1) (.int .i64 (T : Int)), fun i => if i = k then .slice a T m else vs1 i, ?_⟩, Hc.out.trans hcc fun _ _ e => e⟩
        rw [part_succ _ _ _ hlt, HFK.out, HN.out, HT.out, HE.out, hT]
        refine RDw.cut H1.out hpk hcc (((H1.out.files.row.mk hmq).set _ _).set _ _) ?_ ?_ ?_ ?_ (Files.own_cut H1.out.files hpk hpf HV.out (by have := HN.out; omega) hcc) (fun k' hk' => by rw [HV.out]; cases a <;> exact hk')
        · rw [Array.size_setIfInBounds, Array.size_setIfInBounds]
        · rw [Array.getElem?_setIfInBounds_ne (by omega), Array.getElem?_setIfInBounds_self_of_lt (by omega)]
        · rw [Array.getElem?_setIfInBounds_self_of_lt (by rw [Array.size_setIfInBounds]; omega)]
        · exact fun j h1 h2 => by rw [Array.getElem?_setIfInBounds_ne (by omega), Array.getElem?_setIfInBounds_ne (by omega)]
      have Hdone := Lib.hid hdone; clear hdone
      by_cases hkl : k < kl.length
      · have hkr : Is wr (.slice ka kl.length kc) kl := is_keep Hk.out Hc.out fun k _ hp hk e => (Hkb.out k hp hk).1 e
        obtain ⟨kb, koff, rfl, hkd⟩ := hkr.cellAt (by omega)
        have hck := hkd k _ (iv_get kl k hkl)
        have hki : (k : Int) < (kl.length : Int) := by omega
        have hki2 : decide ((k : Int) < (kl.length : Int)) = true := by simp; omega
        have hki3 : decide (k < kl.length) = true := by simp; omega
        obtain ⟨y, hy⟩ : ∃ y, kl[k] = y := ⟨_, rfl⟩
        have hyd : kl.getD k 0 = y := by rw [← hy]; simp [hkl]
        rw [hyd] at hE
        rw [hy] at hck
        by_cases hy0 : 0 < y
        · have e2 : (if ((n - t : Nat) : Int) < y then ((n - t : Nat) : Int) else y) = (E : Int) := by split <;> omega
          have e1 : IntKind.i64.wrap ((n : Int) - (t : Int)) = ((n - t : Nat) : Int) := by
            have := IntWalk.i64_in ((n : Int) - (t : Int)) (by omega)
            omega
          have e4 : IntKind.i64.wrap ((t : Int) + (E : Int)) = ((t + E : Nat) : Int) := by
            have := IntWalk.i64_in ((t : Int) + (E : Int)) (by omega)
            omega
          have hT : t + E ≤ n := by omega
          clear hkr hkd hy hyd hE
          generalize n - t = D at *
          obtain ⟨T, hTT⟩ : ∃ T, t + E = T := ⟨_, rfl⟩
          rw [hTT] at e4 hT
          have HTT := Lib.hid hTT; clear hTT
          have hT2 : (T : Int) ≤ (m : Int) := by omega
          have hT3 : T ≤ m := by omega
          go_wp2_with fail
          go_quiet (fail)
          go_wp2_with fail
          have s1q : (wr.drewN nq).cell? ⟨q, k * 2, none⟩ = some (.slice a n m) := s1
          have s2q : (wr.drewN nq).cell? ⟨q, k * 2 + 1, none⟩ = some (.int .i64 (t : Int)) := s2
          have f1q : (wr.drewN nq).frozen? ⟨q, k * 2, none⟩ = false := f1
          have f2q : (wr.drewN nq).frozen? ⟨q, k * 2 + 1, none⟩ = false := f2
          have g0q : (wr.drewN nq).cell? ⟨p, 0, none⟩ = some (.slice (some ⟨q, 0, none⟩) st.files.length c) := g0
          have hmq : Mk wr (wr.drewN nq) := mk_drewN _ _
          have hdn := Hdone.out T (wr.drewN nq) HTT.out hmq
          have Hmq := Lib.hid hmq; have Hdn := Lib.hid hdn; clear hmq hdn
          clear s1 s2 f1 f2 g0
          generalize wr.drewN nq = wq at *
          go_still_tail 17, (by kernel_rfl)
          go_wp2
          go_roundw
          case rel =>
            obtain ⟨h1, h2⟩ := Hdn.out _ rfl
            exact ⟨k + 1, by go_num, by omega, h1, h2⟩
          case measure => simp [intOf]; omega
        · have hT2 : (t : Int) ≤ (m : Int) := by omega
          have hT3 : t ≤ m := by omega
          have HTT : Hid (t + E = t) := by show t + E = t; omega
          have hyf : decide (0 < y) = false := by simp; omega
          clear hkr hkd hy hyd hE
          go_wp2_with fail
          have s1q : (wr).cell? ⟨q, k * 2, none⟩ = some (.slice a n m) := s1
          have s2q : (wr).cell? ⟨q, k * 2 + 1, none⟩ = some (.int .i64 (t : Int)) := s2
          have f1q : (wr).frozen? ⟨q, k * 2, none⟩ = false := f1
          have f2q : (wr).frozen? ⟨q, k * 2 + 1, none⟩ = false := f2
          have g0q : (wr).cell? ⟨p, 0, none⟩ = some (.slice (some ⟨q, 0, none⟩) st.files.length c) := g0
          have hmq : Mk wr (wr) := mk_refl _
          have hdn := Hdone.out t (wr) HTT.out hmq
          have Hmq := Lib.hid hmq; have Hdn := Lib.hid hdn; clear hmq hdn
          skip
          go_still_tail 17, (by kernel_rfl)
          go_wp2
          go_roundw
          case rel =>
            obtain ⟨h1, h2⟩ := Hdn.out _ rfl
            exact ⟨k + 1, by go_num, by omega, h1, h2⟩
          case measure => simp [intOf]; omega
      · have hT2 : (t : Int) ≤ (m : Int) := by omega
        have hT3 : t ≤ m := by omega
        have hyd : kl.getD k 0 = 0 := by simp [hkl]
        rw [hyd] at hE
        have HTT : Hid (t + E = t) := by show t + E = t; omega
        have hkf : decide ((k : Int) < (kl.length : Int)) = false := by simp; omega
        have hkf2 : decide (k < kl.length) = false := by simp; omega
        clear hE hyd
        go_wp2_with fail
        have s1q : (wr).cell? ⟨q, k * 2, none⟩ = some (.slice a n m) := s1
        have s2q : (wr).cell? ⟨q, k * 2 + 1, none⟩ = some (.int .i64 (t : Int)) := s2
        have f1q : (wr).frozen? ⟨q, k * 2, none⟩ = false := f1
        have f2q : (wr).frozen? ⟨q, k * 2 + 1, none⟩ = false := f2
        have g0q : (wr).cell? ⟨p, 0, none⟩ = some (.slice (some ⟨q, 0, none⟩) st.files.length c) := g0
        have hmq : Mk wr (wr) := mk_refl _
        have hdn := Hdone.out t (wr) HTT.out hmq
        have Hmq := Lib.hid hmq; have Hdn := Lib.hid hdn; clear hmq hdn
        skip
        go_still_tail 17, (by kernel_rfl)
        go_wp2
        go_roundw
        case rel =>
          obtain ⟨h1, h2⟩ := Hdn.out _ rfl
          exact ⟨k + 1, by go_num, by omega, h1, h2⟩
        case measure => simp [intOf]; omega
    · obtain rfl : k = st.files.length := by omega
      have g1 := RDw.c1 h
      have g2 := RDw.c2 h
      have g3 := RDw.c3 h
      have f1 := h.head.frozen 1
      have f2 := h.head.frozen 2
      have f3 := h.head.frozen 3
      have hfl := Hok.out.falls
      have hfs : (part st kl st.files.length).falls = st.falls := rfl
      rw [hfs] at g2
      have H1 := Lib.hid h
      clear h hlen hfs
      go_wp2
      go_end0
      refine ⟨rfl, ⟨cs1, vs1, ?_⟩, ((((Hc.out.sub (fun k _ e => .inl e)).thenSet _ _ (.inl (.inr rfl))).thenSet _ _ (.inl (.inr rfl))).thenSet _ _ (.inl (.inr rfl)))⟩
      rw [← part_all]
      refine RDw.headed H1.out (off := true) (falls := st.falls + 1) (bn' := false) (ops' := ops) ?_ ?_
      · simpa using ((H1.out.head.set 1 (.bool false)).set 2 (.int .i64 (st.falls + 1))).set 3 (.bool false)
      · exact (((Chg.refl (fun k => k = p) wr).thenSet _ _ (.inl rfl)).thenSet _ _ (.inl rfl)).thenSet _ _ (.inl rfl)
end Go.Proofs.DkW

namespace Go.Proofs.DkW
open Go Go.RowKit Go.Tk Go.Dk Go.Sp
attribute [local go_sem] Oper.semAt_some

theorem afterBurn_files (st : St) : (afterBurn st).files = st.files := by unfold afterBurn; split <;> rfl
theorem afterBurn_file (st : St) (f : Nat) : (afterBurn st).file f = st.file f := by unfold St.file; rw [afterBurn_files]
theorem afterBurn_ok {st : St} {M : Nat} (h : st.Ok M) : (afterBurn st).Ok0 M := by
  unfold afterBurn; split
  · exact h.toOk0
  · exact lit_ok h
/-- A fuse that burns: what is kept, and the fall. -/
theorem RDw.falls {S F U : Nat → Prop} {w : World} {p q c : Nat} {cs : Array Value} {vs : Nat → Value} {bn : Bool} {ops : Int} {kv : Value} {kl : List Int} {st : St} {M : Nat}
    (hP : RDw S F U w p q c cs vs bn ops kv kl st) (hok : st.Ok0 M) (hM : M ≤ 1000000) :
    ∃ ka kc, kv = .slice ka kl.length kc ∧ w.cell? ⟨p, 5, none⟩ = some (.slice ka kl.length kc) ∧
      Calls Try.prog 113 #[.pointer (some ⟨p, 0, none⟩), .slice ka kl.length kc] w fun e w' => e = .returned (.tuple #[]) ∧ (∃ cs vs, RDw S F U w' p q c cs vs false ops kv kl (st.fall kl)) ∧ Chg (fun k => k = q ∨ k = p) w w' := by
  obtain ⟨ka, kc, rfl, _, _⟩ := hP.keeps.form
  exact ⟨ka, kc, rfl, RDw.c5 hP, fails_any hP hok hM _ kl hP.keeps fun k hp hk => ⟨fun e => hP.disj k (e ▸ hP.files.at_) (hP.kvb k hp hk), fun e => (hP.us k (hP.kvb k hp hk)).2 e⟩⟩
theorem keeps_of {S F U : Nat → Prop} {w : World} {p q c : Nat} {cs : Array Value} {vs : Nat → Value} {bn : Bool} {ops : Int} {kv : Value} {kl : List Int} {st : St}
    (h : RDw S F U w p q c cs vs bn ops kv kl st) (hb : st.burnt = true) : st.keeps = kl := by
  obtain ⟨n, k, hf⟩ := burnt_some hb
  have h2 := h.fuse
  rw [hf] at h2
  unfold St.keeps
  rw [hf]
  cases bn with
  | false => cases h2
  | true => simp at h2; exact h2.2
theorem put_fall (s : St) (k : Nat) (x : List UInt8 × Nat) (kl : List Int) : ((afterBurn s).put k x).fall kl = (s.lit.put k x).fall kl := by
  unfold afterBurn; split <;> rfl
theorem burn_fall (s : St) (kl : List Int) : (afterBurn s).fall kl = s.lit.fall kl := by
  unfold afterBurn; split <;> rfl

set_option maxHeartbeats 1000000 in
set_option maxRecDepth 100000 in
theorem rsync_any {S : Nat → Prop} {w : World} {p : Nat} {st : St} {M : Nat} (h : RD S w p st) (hok : st.Ok M) (hM : M ≤ 1000000) (f : Int) :
    Calls Try.prog 92 #[.pointer (some ⟨p, 0, none⟩), .int .i64 f] w fun e w' => e = .returned (.int .i64 (st.sync f).2) ∧ RD S w' p (st.sync f).1 ∧ Chg S w w' := by
  have hr := may_any f h
  have hpd := h
  obtain ⟨F, U, q, c, cs, vs, bn, ops, kv, kl, h⟩ := h
  cases ho : st.off
  · cases hi : st.is f
    · rw [ho, hi] at hr
      have Hr := Lib.hid hr; clear hr
      go_enter Try.func92, Try.ntmps92
      go_wp2_with (first | (go_at_call 111; refine Hr.out.mono ?_; rintro e w' ⟨rfl, rfl⟩) | fail)
      go_ret
      exact ⟨by simp [St.sync, ho, hi], by simpa [St.sync, ho, hi] using hpd, Chg.refl _ _⟩
    · rw [ho, hi] at hr
      obtain ⟨k, rfl, hk⟩ := is_nat hi
      have he : st.sync (k : Int) = if st.burnt then (st.lit.fall st.keeps, 40) else (st.lit.put k ((st.file k).1, (st.file k).1.length), 0) := by
        simp only [St.sync, ho, hi, Int.toNat_natCast]; simp
      have hbu := rburns_any h hok
      have Hk : Hid (k < st.files.length) := hk
      have H0 := Lib.hid h
      have Hr := Lib.hid hr; have He := Lib.hid he; have Hpd := Lib.hid hpd; have Hok := Lib.hid hok; have Hbu := Lib.hid hbu; clear hr he hpd hok hbu
      clear h ho hi
      rcases hbt : st.burnt with _ | _
      · rw [hbt] at He Hbu
        rw [afterBurn_no hbt] at Hbu
        go_enter Try.func92, Try.ntmps92
        go_wp2_with (first | (go_at_call 111; refine Hr.out.mono ?_; rintro e w' ⟨rfl, rfl⟩) | fail)
        refine Hbu.out.mono ?_
        rintro e w1 ⟨rfl, ⟨ops', h1⟩, hc1⟩
        have hq : k < st.lit.files.length := hk
        have g0 := RDw.c0 h1
        obtain ⟨a, m, hv, hm1, hm2, s1, s2⟩ := RDw.at_ h1 k hq
        rw [lit_file] at hv hm1 s1 s2
        rw [lit_files] at g0
        have hfr := h1.files.row.frozen (k * 2 + 1)
        have Hv := Lib.hid hv
        have H1 := Lib.hid h1; have Hc1 := Lib.hid hc1; clear h1 hc1
        clear hv hbt
        go_wp2_with fail
        go_still_tail 16, (by kernel_rfl)
        go_wp2
        go_ret
        have hcc : Chg (fun k => k = q) w1 (w1.setCell ⟨q, k * 2 + 1, none⟩ (.int .i64 ((st.file k).1.length : Int))).drew := ((Chg.refl (fun k => k = q) w1).thenSet _ _ (.inl rfl)).drew
        have hz := H1.out.files.size
        have hsl := H1.out.files.sl k hq
        have ho := H1.out.files.own k hq
        rw [He.out]
        refine ⟨rfl, ⟨F, U, q, c, _, fun i => if i = k then vs k else vs i, bn, ops', kv, kl, RDw.cut H1.out hq hcc (H1.out.files.row.set _ _) ?_ ?_ ?_ ?_ (row_keep (by rw [St.file_eq hq] at ho; exact ho) hcc fun g hg => (H1.out.files.blk k g hq hg).2) (fun g hg => hg)⟩, ?_⟩
        · rw [Array.size_setIfInBounds]
        · rw [Array.getElem?_setIfInBounds_ne (by omega)]; exact hsl
        · rw [Array.getElem?_setIfInBounds_self_of_lt (by omega)]
        · exact fun j h1 h2 => by rw [Array.getElem?_setIfInBounds_ne (by omega)]
        · exact (Hc1.out.sub fun _ _ h => h ▸ H1.out.sp).trans hcc fun g _ e => e ▸ (H1.out.fs _ H1.out.files.at_).1
      · have hkk := keeps_of H0.out hbt
        rw [hbt] at He Hbu
        have Hkk := Lib.hid hkk; clear hkk
        clear hbt
        go_enter Try.func92, Try.ntmps92
        go_wp2_with (first | (go_at_call 111; refine Hr.out.mono ?_; rintro e w' ⟨rfl, rfl⟩) | fail)
        refine Hbu.out.mono ?_
        rintro e w1 ⟨rfl, ⟨ops', h1⟩, hc1⟩
        obtain ⟨ka, kc, rfl, c5, hfall⟩ := RDw.falls h1 (afterBurn_ok Hok.out) hM
        rw [burn_fall] at hfall
        have H1 := Lib.hid h1; have Hc1 := Lib.hid hc1; have Hfall := Lib.hid hfall; clear h1 hc1 hfall
        go_wp2_with fail
        refine Hfall.out.mono ?_
        rintro e w4 ⟨rfl, ⟨cs4, vs4, hP4⟩, hc4⟩
        go_wp2
        go_ret
        rw [He.out, Hkk.out]
        refine ⟨rfl, ⟨_, _, _, _, _, _, _, _, _, _, hP4⟩, (Hc1.out.sub fun _ _ h => h ▸ H1.out.sp).trans hc4 fun x hx e => ?_⟩
        rcases e with rfl | rfl
        · exact (H1.out.fs _ H1.out.files.at_).1
        · exact H1.out.sp
  · rw [ho] at hr
    have Hr := Lib.hid hr; clear hr
    go_enter Try.func92, Try.ntmps92
    go_wp2_with (first | (go_at_call 111; refine Hr.out.mono ?_; rintro e w' ⟨rfl, rfl⟩) | fail)
    go_ret
    exact ⟨by simp [St.sync, ho], by simpa [St.sync, ho] using hpd, Chg.refl _ _⟩

set_option maxHeartbeats 1000000 in
set_option maxRecDepth 100000 in
theorem rtruncate_any {S : Nat → Prop} {w : World} {p : Nat} {st : St} {M : Nat} (h : RD S w p st) (hok : st.Ok M) (hM : M ≤ 1000000) (f n : Int) :
    Calls Try.prog 93 #[.pointer (some ⟨p, 0, none⟩), .int .i64 f, .int .i64 n] w fun e w' => e = .returned (.int .i64 (st.truncate f n).2) ∧ RD S w' p (st.truncate f n).1 ∧ Chg S w w' := by
  have hr := may_any f h
  have hpd := h
  obtain ⟨F, U, q, c, cs, vs, bn, ops, kv, kl, h⟩ := h
  cases ho : st.off
  · cases hi : st.is f
    · rw [ho, hi] at hr
      have Hr := Lib.hid hr; clear hr
      go_enter Try.func93, Try.ntmps93
      go_wp2_with (first | (go_at_call 111; refine Hr.out.mono ?_; rintro e w' ⟨rfl, rfl⟩) | fail)
      go_ret
      exact ⟨by simp [St.truncate, ho, hi], by simpa [St.truncate, ho, hi] using hpd, Chg.refl _ _⟩
    · rw [ho, hi] at hr
      obtain ⟨k, rfl, hk⟩ := is_nat hi
      have g0 := RDw.c0 h
      obtain ⟨a, m, hv, hm1, hm2, s1, s2⟩ := RDw.at_ h k hk
      have hb3 := hok.file (st.file k) (by rw [← St.file_eq hk]; exact List.getElem_mem _)
      by_cases hn : n < 0 ∨ ((st.file k).1.length : Int) < n
      · have he : st.truncate (k : Int) n = (st, 1) := by simp only [St.truncate, ho, hi, Int.toNat_natCast]; simp [hn]
        have Hr := Lib.hid hr; have He := Lib.hid he; have Hpd := Lib.hid hpd; have Hv := Lib.hid hv; clear hr he hpd hv
        rcases Int.lt_or_le n 0 with h0 | h0
        · have hd : decide (n < 0) = true := by simpa using h0
          clear hn
          go_enter Try.func93, Try.ntmps93
          go_wp2_with (first | (go_at_call 111; refine Hr.out.mono ?_; rintro e w' ⟨rfl, rfl⟩) | fail)
          go_ret
          rw [He.out]
          exact ⟨rfl, Hpd.out, Chg.refl _ _⟩
        · have hd : decide (n < 0) = false := by simpa using h0
          have hd2 : ((st.file k).1.length : Int) < n := by omega
          clear hn
          go_enter Try.func93, Try.ntmps93
          go_wp2_with (first | (go_at_call 111; refine Hr.out.mono ?_; rintro e w' ⟨rfl, rfl⟩) | fail)
          go_ret
          rw [He.out]
          exact ⟨rfl, Hpd.out, Chg.refl _ _⟩
      · obtain ⟨n, rfl⟩ := Int.eq_ofNat_of_zero_le (show 0 ≤ n by omega)
        have he : st.truncate (k : Int) (n : Int) = if st.burnt then (st.lit.fall st.keeps, 40) else (st.lit.put k ((st.file k).1.take n, min (st.file k).2 n), 0) := by
          simp only [St.truncate, ho, hi, Int.toNat_natCast, if_neg hn]; simp
        have hn1 : (n : Int) ≤ ((st.file k).1.length : Int) := by omega
        have hn3 : ¬ ((st.file k).1.length : Int) < (n : Int) := by omega
        have hn2 : n ≤ (st.file k).1.length := by omega
        have hbu := rburns_any h hok
        have Hk : Hid (k < st.files.length) := hk
        have H0 := Lib.hid h
        have Hr := Lib.hid hr; have He := Lib.hid he; have Hpd := Lib.hid hpd; have Hok := Lib.hid hok; have Hbu := Lib.hid hbu; have Hv := Lib.hid hv; have Hn := Lib.hid hn; clear hr he hpd hok hbu hv hn
        clear h ho hi
        rcases hbt : st.burnt with _ | _
        · rw [hbt] at He Hbu
          rw [afterBurn_no hbt] at Hbu
          go_enter Try.func93, Try.ntmps93
          go_wp2_with (first | (go_at_call 111; refine Hr.out.mono ?_; rintro e w' ⟨rfl, rfl⟩) | fail)
          refine Hbu.out.mono ?_
          rintro e w1 ⟨rfl, ⟨ops', h1⟩, hc1⟩
          have hq : k < st.lit.files.length := hk
          clear s1 s2 g0
          obtain ⟨a', m', hv, _, _, s1, s2⟩ := RDw.at_ h1 k hq
          have g0 := RDw.c0 h1
          rw [lit_file] at hv s1 s2
          rw [lit_files] at g0
          rw [Hv.out] at hv
          obtain ⟨rfl, rfl⟩ : a' = a ∧ m' = m := by cases hv; exact ⟨rfl, rfl⟩
          clear hv
          have hf0 := h1.files.row.frozen (k * 2)
          have hf1 := h1.files.row.frozen (k * 2 + 1)
          have hnm : (n : Int) ≤ (m' : Int) := by omega
          have hnm2 : n ≤ m' := by omega
          obtain ⟨t, ht⟩ : ∃ t, (st.file k).2 = t := ⟨_, rfl⟩
          rw [ht] at s2
          obtain ⟨T, hT⟩ : ∃ T, min t n = T := ⟨_, rfl⟩
          have e1 : (if (n : Int) < (t : Int) then (n : Int) else (t : Int)) = (T : Int) := by split <;> omega
          have e2 : (if n < t then (n : Int) else (t : Int)) = (T : Int) := by split <;> omega
          have hpq : ¬ p = q := fun e => (h1.fs q h1.files.at_).2 e.symm
          have H1 := Lib.hid h1; have Hc1 := Lib.hid hc1; have Ht := Lib.hid ht; have HT := Lib.hid hT; clear h1 hc1 ht hT
          clear hbt
          go_wp2_with fail
          go_still_tail 17, (by kernel_rfl)
          have k1 : (w1.setCell ⟨q, k * 2, none⟩ (.slice a' n m')).drew.cell? ⟨q, k * 2, none⟩ = some (.slice a' n m') := by go_simp
          have k2 : (w1.setCell ⟨q, k * 2, none⟩ (.slice a' n m')).drew.cell? ⟨q, k * 2 + 1, none⟩ = some (.int .i64 (t : Int)) := by go_simp
          have k3 : (w1.setCell ⟨q, k * 2, none⟩ (.slice a' n m')).drew.frozen? ⟨q, k * 2 + 1, none⟩ = false := by go_simp
          have k0 : (w1.setCell ⟨q, k * 2, none⟩ (.slice a' n m')).drew.cell? ⟨p, 0, none⟩ = some (.slice (some ⟨q, 0, none⟩) st.files.length c) := by go_simp
          have k4 : Chg (fun k => k = q) w1 (w1.setCell ⟨q, k * 2, none⟩ (.slice a' n m')).drew := ((Chg.refl (fun k => k = q) w1).thenSet _ _ (.inl rfl)).drew
          have k5 : Bk (w1.setCell ⟨q, k * 2, none⟩ (.slice a' n m')).drew q 163 (cs.setIfInBounds (k * 2) (.slice a' n m')) := H1.out.files.row.set _ _
          have K4 := Lib.hid k4
          have K5 := Lib.hid k5
          go_wp2_with fail
          clear k4 k5 s1 s2 hf0 hf1 g0
          generalize (w1.setCell ⟨q, k * 2, none⟩ (.slice a' n m')).drew = w2 at *
          go_still_tail 17, (by kernel_rfl)
          go_wp2
          go_ret
          have hcc : Chg (fun k => k = q) w1 (w2.setCell ⟨q, k * 2 + 1, none⟩ (.int .i64 (T : Int))).drew := (K4.out.thenSet _ _ (.inl rfl)).drew
          have hz := H1.out.files.size
          rw [He.out, Ht.out, HT.out]
          refine ⟨rfl, ⟨F, U, q, c, _, fun i => if i = k then .slice a' n m' else vs i, bn, ops', kv, kl, RDw.cut H1.out hq hcc (K5.out.set _ _) ?_ ?_ ?_ ?_ (Files.own_cut H1.out.files hq (St.file_eq hq) Hv.out hn2 hcc) (fun g hg => by rw [Hv.out]; cases a' <;> exact hg)⟩, ?_⟩
          · rw [Array.size_setIfInBounds, Array.size_setIfInBounds]
          · rw [Array.getElem?_setIfInBounds_ne (by omega), Array.getElem?_setIfInBounds_self_of_lt (by omega)]
          · rw [Array.getElem?_setIfInBounds_self_of_lt (by rw [Array.size_setIfInBounds]; omega)]
          · exact fun j h1 h2 => by rw [Array.getElem?_setIfInBounds_ne (by omega), Array.getElem?_setIfInBounds_ne (by omega)]
          · exact (Hc1.out.sub fun _ _ h => h ▸ H1.out.sp).trans hcc fun g _ e => e ▸ (H1.out.fs _ H1.out.files.at_).1
        · have hkk := keeps_of H0.out hbt
          rw [hbt] at He Hbu
          have Hkk := Lib.hid hkk; clear hkk
          clear hbt
          go_enter Try.func93, Try.ntmps93
          go_wp2_with (first | (go_at_call 111; refine Hr.out.mono ?_; rintro e w' ⟨rfl, rfl⟩) | fail)
          refine Hbu.out.mono ?_
          rintro e w1 ⟨rfl, ⟨ops', h1⟩, hc1⟩
          obtain ⟨ka, kc, rfl, c5, hfall⟩ := RDw.falls h1 (afterBurn_ok Hok.out) hM
          rw [burn_fall] at hfall
          have H1 := Lib.hid h1; have Hc1 := Lib.hid hc1; have Hfall := Lib.hid hfall; clear h1 hc1 hfall
          go_wp2_with fail
          refine Hfall.out.mono ?_
          rintro e w4 ⟨rfl, ⟨cs4, vs4, hP4⟩, hc4⟩
          go_wp2
          go_ret
          rw [He.out, Hkk.out]
          refine ⟨rfl, ⟨_, _, _, _, _, _, _, _, _, _, hP4⟩, (Hc1.out.sub fun _ _ h => h ▸ H1.out.sp).trans hc4 fun x hx e => ?_⟩
          rcases e with rfl | rfl
          · exact (H1.out.fs _ H1.out.files.at_).1
          · exact H1.out.sp
  · rw [ho] at hr
    have Hr := Lib.hid hr; clear hr
    go_enter Try.func93, Try.ntmps93
    go_wp2_with (first | (go_at_call 111; refine Hr.out.mono ?_; rintro e w' ⟨rfl, rfl⟩) | fail)
    go_ret
    exact ⟨by simp [St.truncate, ho], by simpa [St.truncate, ho] using hpd, Chg.refl _ _⟩
end Go.Proofs.DkW
