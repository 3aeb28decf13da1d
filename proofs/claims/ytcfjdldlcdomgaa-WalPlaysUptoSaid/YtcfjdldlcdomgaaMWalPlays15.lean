/- Layer 6, wal: the document's Open. -/
import Derived.Test.YtcfjdldlcdomgaaMWalPlays14
set_option linter.unusedVariables false
set_option linter.unusedSimpArgs false
namespace Go.Proofs.WlW
open Go Go.RowKit Go.Tk Go.Dk Go.Sp Go.Proofs.DkW
attribute [local go_sem] Oper.semAt_some
def ROpenPost (S : Nat → Prop) (w : World) (p : Nat) (st : St) (e : Ending) (w' : World) : Prop :=
  RD S w' p (openP st).1 ∧ Chg S w w' ∧ match (openP st).2 with
  | .inl n => e = .returned (.tuple #[.pointer none, .slice none 0 0, .slice none 0 0, .int .i64 n])
  | .inr o => ∃ gl sv rv rvs, e = .returned (.tuple #[.pointer (some ⟨gl, 0, none⟩), sv, rv, .int .i64 0]) ∧ w.heap.size ≤ gl ∧
      Bk w' gl 204 #[.pointer (some ⟨p, 0, none⟩), .int .i64 ((openP st).1.falls : Int), .int .i64 (o.live : Int), .int .u64 (o.gen : Int), .int .i64 (o.cap : Int), .int .i64 (o.slots : Int), sv] ∧
      w'.ownsRow w.heap.size 5 1 sv o.state.length (bv o.state) ∧ w'.ownsRow w.heap.size 22 1 rv o.recs.length rvs ∧
      ∀ (i : Nat) (d : List UInt8), o.recs[i]? = some d → ∃ dv, rvs[i]? = some dv ∧ w'.ownsRow w.heap.size 5 1 dv d.length (bv d)
theorem ROpenPost.err {S : Nat → Prop} {w w' : World} {p : Nat} {st : St} {n : Int} (ho : openP st = (st, .inl n)) (hm : Mk w w') (h : RD S w p st) : ROpenPost S w p st (.returned (.tuple #[.pointer none, .slice none 0 0, .slice none 0 0, .int .i64 n])) w' := by
  unfold ROpenPost
  rw [ho]
  exact ⟨h.made hm, Chg.of_mk hm, rfl⟩
def RHd (base : Nat) (xs : List UInt8) (cs : Array Value) (w' : World) : Prop := match lookP xs with
  | none => True
  | some (g, c, s, state, _) => ∃ v, cs = #[.int .u64 (g : Int), .int .i64 (c : Int), .int .i64 (s : Int), v] ∧ w'.ownsRow base 5 1 v state.length (bv state)
theorem RHd.mk {base : Nat} {xs : List UInt8} {cs : Array Value} {w w' : World} (h : RHd base xs cs w) (hm : Mk w w') : RHd base xs cs w' := by
  unfold RHd at *
  revert h
  cases lookP xs with
  | none => exact fun _ => trivial
  | some q => obtain ⟨g, c, s, state, n⟩ := q; rintro ⟨v, h1, h2⟩; exact ⟨v, h1, own_mk h2 hm⟩
theorem new_one (w : World) (u : Value) (e : TypeId) : Sl (w.alloc (.cells #[u] e)) 1 (.slice (some ⟨w.heap.size, 0, none⟩) 1 1) 1 [u] := by
  refine ⟨rfl, _, _, rfl, Nat.le_refl _, by simp [maxLen], (fun h => by cases h), fun _ => ⟨_, _, rfl, fun j x hx => ?_⟩⟩
  rw [World.cell?_alloc_mark (fr := (0, 0)), Nat.zero_add]
  rw [← hx]
  simp
theorem RD.on {S : Nat → Prop} {w : World} {p : Nat} {st : St} (h : RD S w p st) : w.cell? ⟨p, 1, none⟩ = some (.bool (!st.off)) := by
  obtain ⟨F, U, q, c, cs, vs, bn, ops, kv, kl, h⟩ := h
  exact RDw.c1 h
theorem RD.fl {S : Nat → Prop} {w : World} {p : Nat} {st : St} (h : RD S w p st) : w.cell? ⟨p, 2, none⟩ = some (.int .i64 (st.falls : Int)) := by
  obtain ⟨F, U, q, c, cs, vs, bn, ops, kv, kl, h⟩ := h
  exact RDw.c2 h
theorem trunc_40 {st : St} {f n : Int} (h1 : st.off = false) (h2 : st.is f = true) (h3 : 0 ≤ n) (h4 : n ≤ ((st.file f.toNat).1.length : Int)) : (st.truncate f n).2 = 0 ∨ (st.truncate f n).2 = 40 := by
  unfold St.truncate
  rw [if_neg (by rw [h1]; decide), if_neg (by rw [h2]; decide), if_neg (by omega)]
  split
  · exact .inr rfl
  · exact .inl rfl
theorem trunc_on {st : St} {f n : Int} (h : (st.truncate f n).2 = 0) : st.off = false ∧ (st.truncate f n).1.off = false ∧ ∀ g, (st.truncate f n).1.is g = st.is g := by
  unfold St.truncate at *
  split at h
  · cases h
  · rename_i h1
    split at h
    · cases h
    · rename_i h2
      split at h
      · cases h
      · rename_i h3
        split at h
        · cases h
        · rename_i h4
          rw [if_neg h1, if_neg h2, if_neg h3, if_neg h4]
          refine ⟨by simpa using h1, by simpa [St.put, St.lit] using h1, fun g => by simp [St.is, St.put, St.lit]⟩
theorem size_is {st : St} {f : Int} (h : 0 < st.size f) : st.is f = true := by
  unfold St.size at h
  split at h
  · omega
  · rename_i h1; simpa using h1
theorem broken_no {g c : Nat} {fs : List (UInt8 × List UInt8)} {wh : Nat} (hw : FrW.wholeOf fs = wh) (h1 : ¬ 9223372036854775808 ≤ g) (h2 : ¬ c < wh) (h3 : ∀ j f, 1 ≤ j → j < fs.length → fs[j]? = some f → f.1 = 2) : brokenP g c fs = false := by
  unfold brokenP
  rw [hw, decide_eq_false h1, decide_eq_false h2, Bool.false_or, Bool.false_or, List.any_eq_false]
  intro f hf
  obtain ⟨i, hi, rfl⟩ := List.getElem_of_mem hf
  simp only [List.length_tail] at hi
  have := h3 (i + 1) fs[i + 1] (by omega) (by omega) (List.getElem?_eq_getElem (by omega))
  simp only [List.getElem_tail]
  rw [this]
  decide
theorem cut1 {st : St} {M live wh : Nat} (hok : st.Ok M) (hoff : st.off = false) (hlive : live ≤ 1) (hi : st.is 1 = true) (hwh : wh ≤ (st.file live).1.length) :
    ∃ s1 e1, (if wh < (st.file live).1.length then st.truncate live wh else (st, 0)) = (s1, e1) ∧ s1.Ok (M + 1) ∧ (e1 = 0 ∨ e1 = 40) ∧
      cutP st live wh = (if e1 = 0 then (if 0 < s1.size (1 - (live : Int)) then s1.truncate (1 - (live : Int)) 0 else (s1, 0)) else (s1, e1)) := by
  obtain ⟨s1, e1, h⟩ : ∃ s1 e1, (if wh < (st.file live).1.length then st.truncate live wh else (st, 0)) = (s1, e1) := ⟨_, _, rfl⟩
  have hil : st.is live = true := by
    have h0 := hok.some
    obtain rfl | rfl : live = 0 ∨ live = 1 := by omega
    · simp [St.is, h0]
    · exact hi
  have hs1 : s1.Ok (M + 1) ∧ (e1 = 0 ∨ e1 = 40) ∧ (e1 = 0 → s1.off = false) := by
    by_cases hA : wh < (st.file live).1.length
    · rw [if_pos hA] at h
      have h1 := truncate_ok hok (live : Int) (wh : Int)
      have h2 := trunc_40 hoff hil (Int.natCast_nonneg wh) (by simpa using Nat.le_of_lt hA)
      have h3 := @trunc_on st (live : Int) (wh : Int)
      rw [h] at h1 h2 h3
      exact ⟨h1, h2, fun e => (h3 e).2.1⟩
    · rw [if_neg hA] at h
      cases h
      exact ⟨Ok_mono hok (by omega), .inl rfl, fun _ => hoff⟩
  obtain ⟨h1, h2, h3⟩ := hs1
  refine ⟨s1, e1, h, h1, h2, ?_⟩
  unfold cutP
  simp only [h]
  by_cases he : e1 = 0
  · rw [if_neg (by simpa using he), if_pos he]
    subst he
    by_cases hB : 0 < s1.size (1 - (live : Int))
    · rw [if_pos hB, if_pos hB]
      have := trunc_40 (st := s1) (f := 1 - (live : Int)) (n := 0) (h3 rfl) (size_is hB) (Int.le_refl _) (by omega)
      generalize s1.truncate (1 - (live : Int)) 0 = r at *
      obtain ⟨a, b⟩ := r
      dsimp only at this ⊢
      rcases this with rfl | rfl <;> rfl
    · rw [if_neg hB, if_neg hB]
  · rw [if_pos (by simpa using he), if_neg he, (h2.resolve_left he)]
theorem ropen_ret {R : Ending → World → Prop} {a : Act} {w : World} {v2 v3 v4 v5 : Value} (h2 : a.tmps.getD 2 undef = v2) (h3 : a.tmps.getD 3 undef = v3) (h4 : a.tmps.getD 4 undef = v4) (h5 : a.tmps.getD 5 undef = v5) (hd : a.defers = [])
    (hR : R (.returned (.tuple #[v2, v3, v4, v5])) w) : bodyPost Try.prog Try.f114 R .ret a w := by
  refine bodyPost_ret (v := .tuple #[v2, v3, v4, v5]) ?_ hd hR
  have h2' : a.tmps[2]?.getD undef = v2 := by simpa using h2
  have h3' : a.tmps[3]?.getD undef = v3 := by simpa using h3
  have h4' : a.tmps[4]?.getD undef = v4 := by simpa using h4
  have h5' : a.tmps[5]?.getD undef = v5 := by simpa using h5
  simp [results, show Try.f114.results = #[.tmp 2, .tmp 3, .tmp 4, .tmp 5] from rfl, h2', h3', h4', h5']
set_option maxHeartbeats 8000000 in
set_option maxRecDepth 100000 in
theorem ropen_any {S : Nat → Prop} {w : World} {p : Nat} {st : St} {M : Nat} (h : RD S w p st) (hok : st.Ok M) (hM : M < 999000) (hS : ∀ k, S k → k < w.heap.size) (hlen : ∀ f, (st.file f).1.length ≤ 1048576) :
    Calls Try.prog 114 #[.pointer (some ⟨p, 0, none⟩)] w (ROpenPost S w p st) := by
  have hon := RD.on h
  cases hoff : st.off
  rotate_left
  · rw [hoff] at hon
    have ho : openP st = (st, .inl 40) := by unfold openP; rw [if_pos hoff]
    have H := Lib.hid h; have Hok := Lib.hid hok; have Hoff := Lib.hid hoff; have HS := Lib.hid hS; have Ho := Lib.hid ho; clear h hok hoff hS ho
    go_enter Try.func114, Try.ntmps114
    go_wp2
    refine ropen_ret rfl rfl rfl rfl rfl ?_
    exact ROpenPost.err Ho.out (mk_refl _) H.out
  · rw [hoff] at hon
    have hw0 := rwhole_any h hok hoff 0 (by omega)
    have H := Lib.hid h; have Hok := Lib.hid hok; have Hoff := Lib.hid hoff; have HS := Lib.hid hS; have Hw0 := Lib.hid hw0; clear h hok hoff hS hw0
    go_enter Try.func114, Try.ntmps114
    go_wp2_with fail
    refine Hw0.out.mono ?_
    rintro e w1 ⟨v1, rfl, ho1, hm1⟩
    obtain ⟨a1, c1, rfl, _, _⟩ := (own_sl ho1).form
    have Ho1 := Lib.hid ho1; have Hm1 := Lib.hid hm1; clear ho1 hm1
    clear hon
    go_wp2_with fail
    refine (rwhole_any (H.out.made Hm1.out) Hok.out Hoff.out 1 (by omega)).mono ?_
    rintro e w2 ⟨v2, rfl, ho2, hm2⟩
    obtain ⟨a2, c2, rfl, _, _⟩ := (own_sl ho2).form
    have Ho2 := Lib.hid ho2; have Hm2 := Lib.hid hm2; clear ho2 hm2
    go_wp2_with fail
    refine (head_any w2 _ (st.file 0).1 ((own_sl Ho1.out).mk Hm2.out) (file_ok Hok.out 0).2).mono ?_
    rintro e w3 ⟨hm3, cs1, rfl, hs1, hone1, hd1⟩
    obtain ⟨b1, hb1⟩ : ∃ b, (lookP (st.file 0).1).isSome = b := ⟨_, rfl⟩
    rw [hb1]
    have hst := set200 (Bk.new w3 200 zero4) rfl hs1 hone1
    have Hm3 := Lib.hid hm3; have Hs1 := Lib.hid hs1; have Hone1 := Lib.hid hone1; have Hd1 := Lib.hid hd1; have Hst := Lib.hid hst; have Hb1 := Lib.hid hb1; clear hm3 hs1 hone1 hd1 hst hb1
    go_wp2_with (first | (refine wpList_store_row rfl 200 (.tmp 8) (.tmp 32) rfl w3.heap.size rfl cs1 rfl Hst.out ?_) | fail)
    have hm4 : Mk w3 ((w3.alloc (.cells #[.int .u64 0, .int .i64 0, .int .i64 0, .slice none 0 0] 200)).setRow w3.heap.size cs1) := mk_setRow (mk_alloc _ _) (Nat.le_refl _) _
    have hx8 : Bk ((w3.alloc (.cells #[.int .u64 0, .int .i64 0, .int .i64 0, .slice none 0 0] 200)).setRow w3.heap.size cs1) w3.heap.size 200 cs1 := setRow_has _ _ _ _ _ (Bk.new w3 200 zero4)
    generalize (w3.alloc (.cells #[.int .u64 0, .int .i64 0, .int .i64 0, .slice none 0 0] 200)).setRow w3.heap.size cs1 = W4 at *
    have Hm4 := Lib.hid hm4; have Hx8 := Lib.hid hx8; clear hm4 hx8
    refine (head_any W4 _ (st.file 1).1 ((own_sl Ho2.out).mk (mk_trans Hm3.out Hm4.out)) (file_ok Hok.out 1).2).mono ?_
    rintro e w5 ⟨hm5, cs2, rfl, hs2, hone2, hd2⟩
    obtain ⟨b2, hb2⟩ : ∃ b, (lookP (st.file 1).1).isSome = b := ⟨_, rfl⟩
    rw [hb2]
    have hst2 := set200 (Bk.new w5 200 zero4) rfl hs2 hone2
    have Hm5 := Lib.hid hm5; have Hs2 := Lib.hid hs2; have Hone2 := Lib.hid hone2; have Hd2 := Lib.hid hd2; have Hst2 := Lib.hid hst2; have Hb2 := Lib.hid hb2; clear hm5 hs2 hone2 hd2 hst2 hb2
    go_upto_region 8 with (first | (refine wpList_store_row rfl 200 (.tmp 10) (.tmp 37) rfl w5.heap.size rfl cs2 rfl Hst2.out ?_) | fail)
    have hm6 : Mk w5 ((w5.alloc (.cells #[.int .u64 0, .int .i64 0, .int .i64 0, .slice none 0 0] 200)).setRow w5.heap.size cs2) := mk_setRow (mk_alloc _ _) (Nat.le_refl _) _
    have hx10 : Bk ((w5.alloc (.cells #[.int .u64 0, .int .i64 0, .int .i64 0, .slice none 0 0] 200)).setRow w5.heap.size cs2) w5.heap.size 200 cs2 := setRow_has _ _ _ _ _ (Bk.new w5 200 zero4)
    generalize (w5.alloc (.cells #[.int .u64 0, .int .i64 0, .int .i64 0, .slice none 0 0] 200)).setRow w5.heap.size cs2 = W6 at *
    have hst3 := set200 (Bk.new W6 200 zero4) rfl Hs1.out Hone1.out
    have hx8' := Hx8.out.mk (mk_trans Hm5.out hm6)
    have Hm6 := Lib.hid hm6; have Hx10 := Lib.hid hx10; have Hst3 := Lib.hid hst3; have Hx8' := Lib.hid hx8'; clear hm6 hx10 hst3 hx8'
    go_upto_block 0 with (first | (refine WlW.wpList_load_row rfl 200 (.tmp 8) rfl w3.heap.size rfl _ (load200 Hx8'.out Hs1.out) ?_) | (refine wpList_store_row rfl 200 (.tmp 13) (.tmp 39) rfl W6.heap.size rfl cs1 rfl Hst3.out ?_) | fail)
    have hm7 : Mk W6 ((W6.alloc (.cells #[.int .u64 0, .int .i64 0, .int .i64 0, .slice none 0 0] 200)).setRow W6.heap.size cs1) := mk_setRow (mk_alloc _ _) (Nat.le_refl _) _
    have hx13 : Bk ((W6.alloc (.cells #[.int .u64 0, .int .i64 0, .int .i64 0, .slice none 0 0] 200)).setRow W6.heap.size cs1) W6.heap.size 200 cs1 := setRow_has _ _ _ _ _ (Bk.new W6 200 zero4)
    generalize (W6.alloc (.cells #[.int .u64 0, .int .i64 0, .int .i64 0, .slice none 0 0] 200)).setRow W6.heap.size cs1 = W7 at *
    have m67 := hm7
    have m57 := mk_trans Hm6.out hm7
    have m47 := mk_trans Hm5.out m57
    have m37 := mk_trans Hm4.out m47
    have m27 := mk_trans Hm3.out m37
    have hx8'' := Hx8'.out.mk m67
    have hx10' := Hx10.out.mk m67
    have ho1' := own_mk Ho1.out (mk_trans Hm2.out m27)
    have ho2' := own_mk Ho2.out m27
    have hmW : Mk w W7 := mk_trans Hm1.out (mk_trans Hm2.out m27)
    have hd1' := RHd.mk (show RHd w2.heap.size (st.file 0).1 cs1 w3 from Hd1.out) m37
    have hd2' := RHd.mk (show RHd W4.heap.size (st.file 1).1 cs2 w5 from Hd2.out) m57
    have hw1s : w.heap.size ≤ w1.heap.size := Hm1.out.size
    have hw2s : w.heap.size ≤ w2.heap.size := by have := Hm2.out.size; omega
    have hW4 : w.heap.size ≤ W4.heap.size := by have := Hm3.out.size; have := Hm4.out.size; omega
    have hW6 : w.heap.size ≤ W6.heap.size := by have := Hm5.out.size; have := Hm6.out.size; omega
    generalize hg8 : w3.heap.size = g8 at *
    generalize hg10 : w5.heap.size = g10 at *
    generalize hg13 : W6.heap.size = g13 at *
    have Hx8'' := Lib.hid hx8''; have Hx10' := Lib.hid hx10'; have Hx13 := Lib.hid hx13; have Ho1' := Lib.hid ho1'; have Ho2' := Lib.hid ho2'; have HmW := Lib.hid hmW; have Hd1' := Lib.hid hd1'; have Hd2' := Lib.hid hd2'; have Hw1s := Lib.hid hw1s; have Hw2s := Lib.hid hw2s; have HW4 := Lib.hid hW4; clear hx8'' hx10' hx13 ho1' ho2' hmW hd1' hd2' hw1s hw2s hW4
    clear hm7 m67 m57 m47 m37 m27 Hm1 Hm2 Hm3 Hm4 Hm5 Hm6 Hd1 Hd2 Hst Hst2 Hst3 Hx8 Hx8' Hx10 hg8 hg10 hg13 Ho1 Ho2
    go_cut [12, 14] (fun s12 s14 wc => ∃ (live : Nat) (hd : Hp) (v : Value), s12 = .int .i64 (live : Int) ∧ chooseP (st.is 1) (lookP (st.file 0).1) (lookP (st.file 1).1) = .inr (live, hd) ∧
      Bk wc g13 200 #[.int .u64 (hd.1 : Int), .int .i64 (hd.2.1 : Int), .int .i64 (hd.2.2.1 : Int), v] ∧ wc.ownsRow w.heap.size 5 1 v hd.2.2.2.1.length (bv hd.2.2.2.1) ∧
      wc.ownsRow w.heap.size 5 1 s14 (st.file live).1.length (bv (st.file live).1) ∧ Mk w wc)
    case first =>
      have hsz := rsize_any 1 (H.out.made HmW.out)
      cases hi : st.is 1
      · rw [show st.size 1 = -1 by simp [St.size, hi]] at hsz
        have ho : openP st = (st, .inl 61) := by unfold openP; rw [if_neg (by rw [Hoff.out]; decide), hi]; rfl
        have Hsz := Lib.hid hsz; have Ho := Lib.hid ho; have Hi := Lib.hid hi; clear hsz ho hi
        go_wp2_with (first | (go_at_call 102; refine Hsz.out.mono ?_; rintro e w' ⟨rfl, rfl⟩) | fail)
        refine ropen_ret rfl rfl rfl rfl rfl ?_
        exact ROpenPost.err Ho.out HmW.out H.out
      · rw [show st.size 1 = ((st.file 1).1.length : Int) by simp [St.size, hi]] at hsz
        rcases ha : lookP (st.file 0).1 with _ | ⟨ga, ca, sa, ta, na⟩
        · obtain rfl : false = b1 := by rw [← Hb1.out, ha]; rfl
          rcases hb : lookP (st.file 1).1 with _ | ⟨gb, cb, sb, tb, nb⟩
          · obtain rfl : false = b2 := by rw [← Hb2.out, hb]; rfl
            have ho : openP st = (st, .inl 61) := by unfold openP; rw [if_neg (by rw [Hoff.out]; decide), hi, ha, hb]; rfl
            have Hsz := Lib.hid hsz; have Ho := Lib.hid ho; have Hi := Lib.hid hi; have Ha := Lib.hid ha; have Hb := Lib.hid hb; clear hsz ho hi ha hb
            go_wp2_with (first | (go_at_call 102; refine Hsz.out.mono ?_; rintro e w' ⟨rfl, rfl⟩) | fail)
            refine ropen_ret rfl rfl rfl rfl rfl ?_
            exact ROpenPost.err Ho.out HmW.out H.out
          · obtain rfl : true = b2 := by rw [← Hb2.out, hb]; rfl
            have ch : chooseP (st.is 1) (lookP (st.file 0).1) (lookP (st.file 1).1) = .inr (1, gb, cb, sb, tb, nb) := by rw [hi, ha, hb]; rfl
            have Hsz := Lib.hid hsz; have Hi := Lib.hid hi; have Ha := Lib.hid ha; have Hb := Lib.hid hb; have Ch := Lib.hid ch; clear hsz hi ha hb ch
            go_wp2_with (first | (go_at_call 102; refine Hsz.out.mono ?_; rintro e w' ⟨rfl, rfl⟩) | (refine WlW.wpList_load_row rfl 200 (.tmp 10) rfl g10 rfl (.agg cs2) (load200 Hx10'.out Hs2.out) ?_) | (refine wpList_store_row rfl 200 (.tmp 13) (.tmp 78) rfl g13 rfl cs2 rfl (set200 Hx13.out Hs1.out Hs2.out Hone2.out) ?_) | fail)
            go_meet
            have hd := Hd2'.out; unfold RHd at hd
            rw [Hb.out] at hd
            obtain ⟨v, rfl, o1⟩ := hd
            exact ⟨1, (gb, cb, sb, tb, nb), v, rfl, Ch.out, setRow_has _ _ _ _ _ Hx13.out, own_setRow (own_base o1 HW4.out) Hx13.out (by decide) _, own_setRow (own_base Ho2'.out Hw1s.out) Hx13.out (by decide) _, mk_setRow HmW.out (by omega) _⟩
        · obtain rfl : true = b1 := by rw [← Hb1.out, ha]; rfl
          rcases hb : lookP (st.file 1).1 with _ | ⟨gb, cb, sb, tb, nb⟩
          · obtain rfl : false = b2 := by rw [← Hb2.out, hb]; rfl
            have ch : chooseP (st.is 1) (lookP (st.file 0).1) (lookP (st.file 1).1) = .inr (0, ga, ca, sa, ta, na) := by rw [hi, ha, hb]; rfl
            have Hsz := Lib.hid hsz; have Hi := Lib.hid hi; have Ha := Lib.hid ha; have Hb := Lib.hid hb; have Ch := Lib.hid ch; clear hsz hi ha hb ch
            go_wp2_with (first | (go_at_call 102; refine Hsz.out.mono ?_; rintro e w' ⟨rfl, rfl⟩) | fail)
            go_meet
            have hd := Hd1'.out; unfold RHd at hd
            rw [Ha.out] at hd
            obtain ⟨v, rfl, o1⟩ := hd
            exact ⟨0, (ga, ca, sa, ta, na), v, rfl, Ch.out, Hx13.out, own_base o1 Hw2s.out, Ho1'.out, HmW.out⟩
          · obtain rfl : true = b2 := by rw [← Hb2.out, hb]; rfl
            have hc6 : W7.cell? ⟨g8, 0, none⟩ = some (.int .u64 (ga : Int)) := by
              have hd := Hd1'.out; unfold RHd at hd
              rw [ha] at hd
              obtain ⟨v, e, _⟩ := hd
              have := Hx8''.out
              rw [e] at this
              exact (this.cell 0).trans rfl
            have hc8 : W7.cell? ⟨g10, 0, none⟩ = some (.int .u64 (gb : Int)) := by
              have hd := Hd2'.out; unfold RHd at hd
              rw [hb] at hd
              obtain ⟨v, e, _⟩ := hd
              have := Hx10'.out
              rw [e] at this
              exact (this.cell 0).trans rfl
            by_cases hg : ga = gb
            · have ho : openP st = (st, .inl 62) := by unfold openP; rw [if_neg (by rw [Hoff.out]; decide), hi, ha, hb]; simp [chooseP, hg]
              subst hg
              have Hsz := Lib.hid hsz; have Ho := Lib.hid ho; have Hi := Lib.hid hi; have Ha := Lib.hid ha; have Hb := Lib.hid hb; clear hsz ho hi ha hb
              go_wp2_with (first | (go_at_call 102; refine Hsz.out.mono ?_; rintro e w' ⟨rfl, rfl⟩) | fail)
              refine ropen_ret rfl rfl rfl rfl rfl ?_
              exact ROpenPost.err Ho.out HmW.out H.out
            · have hg1 : ((ga : Int) == (gb : Int)) = false := by simp; omega
              by_cases hlt : ga < gb
              · have ch : chooseP (st.is 1) (lookP (st.file 0).1) (lookP (st.file 1).1) = .inr (1, gb, cb, sb, tb, nb) := by rw [hi, ha, hb]; simp [chooseP, hg, hlt]
                have hg2 : decide ((ga : Int) < (gb : Int)) = true := by simp; omega
                have Hsz := Lib.hid hsz; have Hi := Lib.hid hi; have Ha := Lib.hid ha; have Hb := Lib.hid hb; have Ch := Lib.hid ch; have Hg := Lib.hid hg; clear hsz hi ha hb ch hg
                go_wp2_with (first | (go_at_call 102; refine Hsz.out.mono ?_; rintro e w' ⟨rfl, rfl⟩) | (refine WlW.wpList_load_row rfl 200 (.tmp 10) rfl g10 rfl (.agg cs2) (load200 Hx10'.out Hs2.out) ?_) | (refine wpList_store_row rfl 200 (.tmp 13) (.tmp 78) rfl g13 rfl cs2 rfl (set200 Hx13.out Hs1.out Hs2.out Hone2.out) ?_) | fail)
                go_meet
                have hd := Hd2'.out; unfold RHd at hd
                rw [Hb.out] at hd
                obtain ⟨v, rfl, o1⟩ := hd
                exact ⟨1, (gb, cb, sb, tb, nb), v, rfl, Ch.out, setRow_has _ _ _ _ _ Hx13.out, own_setRow (own_base o1 HW4.out) Hx13.out (by decide) _, own_setRow (own_base Ho2'.out Hw1s.out) Hx13.out (by decide) _, mk_setRow HmW.out (by omega) _⟩
              · have ch : chooseP (st.is 1) (lookP (st.file 0).1) (lookP (st.file 1).1) = .inr (0, ga, ca, sa, ta, na) := by rw [hi, ha, hb]; simp [chooseP, hg, hlt]
                have hg2 : decide ((ga : Int) < (gb : Int)) = false := by simp; omega
                have Hsz := Lib.hid hsz; have Hi := Lib.hid hi; have Ha := Lib.hid ha; have Hb := Lib.hid hb; have Ch := Lib.hid ch; have Hg := Lib.hid hg; clear hsz hi ha hb ch hg
                go_wp2_with (first | (go_at_call 102; refine Hsz.out.mono ?_; rintro e w' ⟨rfl, rfl⟩) | fail)
                go_meet
                have hd := Hd1'.out; unfold RHd at hd
                rw [Ha.out] at hd
                obtain ⟨v, rfl, o1⟩ := hd
                exact ⟨0, (ga, ca, sa, ta, na), v, rfl, Ch.out, Hx13.out, own_base o1 Hw2s.out, Ho1'.out, HmW.out⟩
    case rest =>
      obtain ⟨live, ⟨g, c, s, state, n⟩, v, rfl, ch, hb13, hov, hox, hm⟩ := hcut
      obtain ⟨wd, hwd⟩ : ∃ x, x = wc := ⟨_, rfl⟩
      subst hwd
      obtain ⟨hi1, hlv⟩ := choose_live ch
      have hlk : lookP (st.file live).1 = some (g, c, s, state, n) := by rcases hlv with ⟨rfl, h⟩ | ⟨rfl, h⟩ <;> exact h
      have hlive : live ≤ 1 := by rcases hlv with ⟨rfl, h⟩ | ⟨rfl, h⟩ <;> omega
      obtain ⟨dat, hfr, hd24, rfl, hg0, hgl, hc1, hc2, hs1', hs2'⟩ := look_some hlk
      have hff := FrW.framesOf_some hfr
      have hxl := hlen live
      have hwl := FrW.wholeOf_le _ (st.file live).1 (Nat.le_refl _)
      have hop : openP st = (if brokenP g c (FrW.framesOf (st.file live).1) then (st, .inl 62) else
          if (cutP st live (FrW.wholeOf (FrW.framesOf (st.file live).1))).2 ≠ 0 then ((cutP st live (FrW.wholeOf (FrW.framesOf (st.file live).1))).1, .inl (cutP st live (FrW.wholeOf (FrW.framesOf (st.file live).1))).2) else
          ((cutP st live (FrW.wholeOf (FrW.framesOf (st.file live).1))).1, .inr ⟨live, g, c, s, dat.drop 24, (FrW.framesOf (st.file live).1).tail.map (·.2), FrW.wholeOf (FrW.framesOf (st.file live).1)⟩)) := by
        unfold openP
        rw [if_neg (by rw [Hoff.out]; decide), ch]
      generalize hxs : (st.file live).1 = xs at *
      generalize hwh : FrW.wholeOf (FrW.framesOf xs) = wh at *
      have hsc := FrW.scanR_any wd _ xs (own_sl hox) hxl
      rw [hwh] at hsc
      obtain ⟨xa, xc, rfl, hxc1, hxc2⟩ := (own_sl hox).form
      generalize hfs : FrW.framesOf xs = fs at *
      have hfl : fs.length ≤ 1048576 := by have := frames_count' xs; rw [hfs] at this; omega
      have Ch := Lib.hid ch; have Hb13 := Lib.hid hb13; have Hov := Lib.hid hov; have Hox := Lib.hid hox; have Hm := Lib.hid hm; have Hlv := Lib.hid hlv; have Hlk := Lib.hid hlk; have Hfr := Lib.hid hfr; have Hff := Lib.hid hff; have Hop := Lib.hid hop; have Hxs := Lib.hid hxs; have Hwh := Lib.hid hwh; have Hsc := Lib.hid hsc; have Hi1 := Lib.hid hi1; have Hfs := Lib.hid hfs; clear ch hb13 hov hox hm hlv hlk hfr hff hop hxs hwh hsc hi1 hfs
      clear hlen
      go_wp2_with fail
      refine Hsc.out.mono ?_
      rintro e w8 ⟨fv, vs, rfl, hof, hen, hm8⟩
      obtain ⟨fa, fc, rfl, hfc1, hfc2⟩ := (own_sl hof).form
      have e0 : w8.cell? ⟨g13, 0, none⟩ = some (.int .u64 (g : Int)) := ((Hb13.out.mk hm8).cell 0).trans rfl
      have e1 : w8.cell? ⟨g13, 1, none⟩ = some (.int .i64 (c : Int)) := ((Hb13.out.mk hm8).cell 1).trans rfl
      have Hof := Lib.hid hof; have Hen := Lib.hid hen; have Hm8 := Lib.hid hm8; clear hof hen hm8
      by_cases hbr : 9223372036854775808 ≤ g ∨ c < wh
      · have ho : openP st = (st, .inl 62) := by
          rw [Hop.out]
          have : brokenP g c fs = true := by unfold brokenP; rw [Hwh.out]; rcases hbr with h | h <;> simp [h]
          rw [this]; rfl
        have hmk := mk_trans Hm.out Hm8.out
        have Ho := Lib.hid ho; have Hmk := Lib.hid hmk; clear ho hmk
        by_cases e2 : 9223372036854775808 ≤ g
        · have e3 : decide ((9223372036854775808 : Int) ≤ (g : Int)) = true := by simp; omega
          clear hbr
          go_wp2_with fail
          refine ropen_ret rfl rfl rfl rfl rfl ?_
          exact ROpenPost.err Ho.out Hmk.out H.out
        · have e3 : decide ((9223372036854775808 : Int) ≤ (g : Int)) = false := by simp; omega
          have e4 : c < wh := hbr.resolve_left e2
          clear hbr
          go_wp2_with fail
          refine ropen_ret rfl rfl rfl rfl rfl ?_
          exact ROpenPost.err Ho.out Hmk.out H.out
      · have e3 : decide ((9223372036854775808 : Int) ≤ (g : Int)) = false := by simp; omega
        have e4 : ¬ c < wh := fun h => hbr (.inr h)
        clear hbr
        have hfs1 : 1 ≤ fs.length := by rw [Hff.out]; simp
        obtain ⟨i0, j0, j1, j2, j3⟩ := FrW.info_of info22
        obtain ⟨fb, fbc, hfe, _, _, _, _⟩ := own_form Hof.out (by omega)
        cases hfe
        have J0 := Lib.hid j0; have J1 := Lib.hid j1; have J2 := Lib.hid j2; have J3 := Lib.hid j3; clear j0 j1 j2 j3
        go_wp2_with fail
        go_loopw [17, 18] (fun r i wr => ∃ (k : Nat) (rvs : List Value), i = .int .i64 (k : Int) ∧ 1 ≤ k ∧ k ≤ fs.length ∧ Mk w8 wr ∧ wr.ownsRow w8.heap.size 22 1 r (k - 1) rvs ∧
          (∀ (j : Nat) (d : List UInt8), j + 1 < k → (fs[j + 1]?).map (·.2) = some d → ∃ dv, rvs[j]? = some dv ∧ wr.ownsRow wd.heap.size 5 1 dv d.length (bv d)) ∧ (∀ j f, 1 ≤ j → j < k → fs[j]? = some f → f.1 = 2))
          (fun _ i _ => fs.length - (intOf i).toNat)
        case atStart => exact ⟨1, [], rfl, Nat.le_refl _, hfs1, mk_refl _, World.ownsRow_nil _ _ _ _, fun j d h => by omega, fun j f h1 h2 => by omega⟩
        case round =>
          obtain ⟨k, rvs, rfl, hk1, hk2, hmr, hor, hdr, hkr⟩ := hrel
          have Hmr := Lib.hid hmr; have Hor := Lib.hid hor; have Hdr := Lib.hid hdr; have Hkr := Lib.hid hkr; clear hmr hor hdr hkr
          by_cases hlt : k < fs.length
          · have hat := FrW.EncF.at k hlt Hen.out
            obtain ⟨hk0, dv, hk3, hdv⟩ := hat
            obtain ⟨da, dc, rfl, _, _⟩ := (own_sl hdv).form
            have hcs := (own_mk Hof.out Hmr.out).cells (g := fb) rfl
            have ca : wr.cell? ⟨fb, k * 2, none⟩ = some (.int .u8 ((fs[k]).1.toNat : Int)) := by have := hcs _ _ hk0; by_cases h0 : k * 2 = 0 <;> simp_all [Addr.add]
            have cb : wr.cell? ⟨fb, k * 2 + 1, none⟩ = some (.slice da (fs[k]).2.length dc) := by have := hcs _ _ hk3; simpa [Addr.add] using this
            have Hk0 := Lib.hid hk0; have Hk3 := Lib.hid hk3; have Hdv := Lib.hid hdv; clear hk0 hk3 hdv
            clear hcs
            by_cases hk2' : (fs[k]).1 = 2
            · rw [hk2'] at ca
              go_wp2_with (first | (at_builtin; refine wpList_append_sl rfl (.tmp 106) (.tmp 112) 46 rfl w8.heap.size 22 i0 (.slice none 0 0) 1 24 Try.underlying46 J0.out J1.out J2.out J3.out rfl (by decide) _ _ _ rfl (own_mk Hor.out (mk_alloc _ _)) _ 1 _ rfl (new_one wr _ _) (by intro u hu; simp at hu; subst hu; rfl) (by unfold maxLen; omega) (by omega) (by have := Hmr.out.size; simp; omega) ?_; intro v' w9 ho9 hg9 _ hf9; have Ho9 := Lib.hid ho9; have Hg9 := Lib.hid hg9; clear ho9 hg9 hf9) | fail)
              go_roundw
              case measure => simp [intOf]; omega
              case rel =>
                have keep : ∀ {b n : Nat} {v : Value} {xs : List Value}, wr.ownsRow b 5 1 v n xs → w9.ownsRow b 5 1 v n xs := fun hv => (own_mk hv (mk_alloc wr _)).kept Hg9.out (own_types hv Hor.out (by decide))
                have hrl : rvs.length = k - 1 := by have := Hor.out.1; omega
                refine ⟨k + 1, rvs ++ [.slice da (fs[k]).2.length dc], by go_num, by omega, by omega, mk_own' (mk_trans Hmr.out (mk_alloc wr _)) (fun r e => (Hor.out.lt r e).1) Hg9.out, by rw [show k + 1 - 1 = k - 1 + 1 by omega]; exact Ho9.out, fun j d hj hd => ?_, fun j f h1 h2 hf => ?_⟩
                · by_cases hjk : j + 1 < k
                  · obtain ⟨dv, h1, h2⟩ := Hdr.out j d hjk hd
                    exact ⟨dv, by rw [List.getElem?_append_left (by omega)]; exact h1, keep h2⟩
                  · obtain rfl : j = k - 1 := by omega
                    have e1 : k - 1 + 1 = k := by omega
                    rw [e1, List.getElem?_eq_getElem hlt] at hd
                    simp at hd
                    subst hd
                    exact ⟨_, by rw [← hrl]; simp, keep (own_mk Hdv.out Hmr.out |> fun h => own_base h (by have := Hm8.out.size; omega))⟩
                · by_cases hjk : j < k
                  · exact Hkr.out j f h1 hjk hf
                  · obtain rfl : j = k := by omega
                    rw [List.getElem?_eq_getElem hlt] at hf
                    cases hf
                    exact hk2'
            · have hkk : (((fs[k]).1.toNat : Int) != 2) = true := by
                have : ¬ (fs[k]).1.toNat = 2 := fun h => hk2' (UInt8.toNat_inj.1 h)
                simp; omega
              go_wp2_with fail
              have ho : openP st = (st, .inl 62) := by
                rw [Hop.out]
                have : brokenP g c fs = true := by
                  unfold brokenP
                  rw [Bool.or_eq_true]
                  refine .inr (List.any_eq_true.2 ⟨fs[k], ?_, by simpa using hk2'⟩)
                  have h1 : fs.tail[k - 1]'(by simp; omega) = fs[k] := by simp only [List.getElem_tail, show k - 1 + 1 = k by omega]
                  rw [← h1]
                  exact List.getElem_mem _
                rw [this]; rfl
              refine ropen_ret rfl rfl rfl rfl rfl ?_
              exact ROpenPost.err ho (mk_trans Hm.out (mk_trans Hm8.out Hmr.out)) H.out
          · obtain rfl : k = fs.length := by omega
            have hmk := mk_trans Hm.out (mk_trans Hm8.out Hmr.out)
            have hpd := RD.made H.out hmk
            have Hmk := Lib.hid hmk; have Hpd := Lib.hid hpd; clear hmk hpd
            obtain ⟨s1, e1, ht1, hok1, he1, hcut1⟩ := cut1 (wh := wh) Hok.out Hoff.out hlive Hi1.out (by rw [Hxs.out]; exact hwl)
            rw [Hxs.out] at ht1
            have hkr := Hkr.out
            have hdr := Hdr.out
            have hor := Hor.out
            have hof' := own_mk Hof.out Hmr.out
            have hb13' := Hb13.out.mk (mk_trans Hm8.out Hmr.out)
            have hov' := own_mk Hov.out (mk_trans Hm8.out Hmr.out)
            have hnS : ∀ x, w.heap.size ≤ x → ¬ S x := fun x hx e => by have := HS.out x e; omega
            have Ht1 := Lib.hid ht1; have Hok1 := Lib.hid hok1; have Hcut1 := Lib.hid hcut1; have Hkr := Lib.hid hkr; have Hdr := Lib.hid hdr; have Hor := Lib.hid hor; have Hof' := Lib.hid hof'; have Hb13' := Lib.hid hb13'; have Hov' := Lib.hid hov'; have HnS := Lib.hid hnS; have He1 := Lib.hid he1; clear ht1 hok1 hcut1 hkr hdr hor hof' hb13' hov' hnS he1
            clear Hmr Hdr Hkr Hor
            go_upto_if 117 with fail
            go_cut [19] (fun s19 wx => s19 = .int .i64 e1 ∧ RD S wx p s1 ∧ Chg S wr wx)
            case first =>
              by_cases hA : wh < xs.length
              · have ht2 : st.truncate live wh = (s1, e1) := by rw [← Ht1.out, if_pos hA]
                have hA2 : decide ((wh : Int) < (xs.length : Int)) = true := by simp; omega
                have Ht2 := Lib.hid ht2; clear ht2
                go_wp2_with fail
                refine (rtruncate_any Hpd.out Hok.out (by omega) (live : Int) (wh : Int)).mono ?_
                rintro e w1' ⟨rfl, hp1, hc1⟩
                rw [Ht2.out] at hp1 ⊢
                have Hp1 := Lib.hid hp1; have Hc1 := Lib.hid hc1; clear hp1 hc1
                go_wp2_with fail
                go_meet
                exact ⟨rfl, Hp1.out, Hc1.out⟩
              · have ht2 : (st, (0 : Int)) = (s1, e1) := by rw [← Ht1.out, if_neg hA]
                have hA2 : decide ((wh : Int) < (xs.length : Int)) = false := by simp; omega
                have Ht2 := Lib.hid ht2; clear ht2
                go_wp2_with fail
                go_meet
                cases Ht2.out
                exact ⟨rfl, Hpd.out, Chg.refl _ _⟩
            case rest =>
              obtain ⟨rfl, hp1, hc1⟩ := hcut
              obtain ⟨we, hwe⟩ : ∃ x, x = wc := ⟨_, rfl⟩
              subst hwe
              have hcutx := Hcut1.out
              have Hp1 := Lib.hid hp1; have Hc1 := Lib.hid hc1; clear hp1 hc1
              rcases He1.out with rfl | rfl
              · rw [if_pos rfl] at hcutx
                have hsize := rsize_any (1 - (live : Int)) Hp1.out
                generalize hsz : s1.size (1 - (live : Int)) = sz at *
                have Hcutx := Lib.hid hcutx; have Hsz := Lib.hid hsz; have Hsize := Lib.hid hsize; clear hcutx hsz hsize
                go_upto_if 130 with (first | (go_at_call 102; refine Hsize.out.mono ?_; rintro e w' ⟨rfl, rfl⟩) | fail)
                go_cut [19] (fun s19 wx => s19 = .int .i64 (cutP st live wh).2 ∧ RD S wx p (cutP st live wh).1 ∧ Chg S we wx)
                case first =>
                  by_cases hB : 0 < sz
                  · have hB2 : decide (0 < sz) = true := by simpa using hB
                    go_wp2_with fail
                    refine (rtruncate_any Hp1.out Hok1.out (by omega) (1 - (live : Int)) 0).mono ?_
                    rintro e w2 ⟨rfl, hp2, hc2⟩
                    have Hp2 := Lib.hid hp2; have Hc2 := Lib.hid hc2; clear hp2 hc2
                    go_wp2_with fail
                    go_meet
                    rw [Hcutx.out, if_pos hB]
                    exact ⟨rfl, Hp2.out, Hc2.out⟩
                  · have hB2 : decide (0 < sz) = false := by simpa using hB
                    go_wp2_with fail
                    go_meet
                    rw [Hcutx.out, if_neg (by omega)]
                    exact ⟨rfl, Hp1.out, Chg.refl _ _⟩
                case rest =>
                  obtain ⟨rfl, hp2, hc2⟩ := hcut
                  obtain ⟨wf, hwf⟩ : ∃ x, x = wc := ⟨_, rfl⟩
                  subst hwf
                  have hcf := Chg.trans Hc1.out hc2 (fun _ _ h => h)
                  clear Hp1 Hc1 Hcutx Hsz Hsize
                  by_cases he : (cutP st live wh).2 = 0
                  · rw [he]
                    have hb13w := (Hb13'.out.keep hcf (HnS.out _ (by omega)))
                    have hbw := Lib.hid (fun (w' : World) (hm : Mk wf w') => hb13w.mk hm)
                    have hfl2 := fun (w' : World) (hm : Mk wf w') => (hm.cell (p := ⟨p, 2, none⟩) (World.block_lt_of_cell? wf _ (RD.fl hp2))).trans (RD.fl hp2)
                    obtain ⟨va, vc, rfl, _, _⟩ := (own_sl Hov.out).form
                    have c3 : ∀ w', Mk wf w' → w'.cell? ⟨g13, 3, none⟩ = some (.slice va (dat.drop 24).length vc) := fun w' h => ((hbw.out w' h).cell 3).trans rfl
                    have hop3 : openP st = ((cutP st live wh).1, .inr ⟨live, g, c, s, dat.drop 24, fs.tail.map (·.2), wh⟩) := by
                      rw [Hop.out, broken_no Hwh.out (by have := of_decide_eq_false e3; omega) e4 Hkr.out, if_neg (by decide), if_neg (by simpa using he)]
                    have Hb13w := Lib.hid hb13w; have He := Lib.hid he; have Hop3 := Lib.hid hop3; have Hcf := Lib.hid hcf; have Hp2 := Lib.hid hp2; clear hb13w he hop3 hcf hp2
                    clear hc2
                    go_wp2_with fail
                    refine wp_region_sp (fun j => j == 8) (fun w' => Mk wf w') (by kernel_rfl) (by kernel_rfl) (mk_refl _) (fun _ _ => mk_trans) ?_
                    intro D' hD' hne
                    have q1 := @qAt_value Try.prog
                    iterate 6 (first | (refine spk (by rfl) (by rfl) (by rfl) (fun K hK => ?_); go_big_quiet_op; first | (refine hK _ ?_; clear hK K) | (apply Exists.intro; refine ⟨fun _ => ?_, hK _ ?_⟩; (exact fun _ => rfl); clear hK K)) | (refine spq (by rfl) (by rfl) (fun K hK => ?_); apply Exists.intro; refine ⟨fun w' hw' => ?_, ?_⟩; (go_simp; exact rfl); (go_simp; refine hK _ ?_; clear hK K)))
                    refine spq (by rfl) (by rfl) (fun K hK => ?_)
                    refine ⟨_, fun w' hw' => qAt_load rfl rfl (load200 (hbw.out w' hw') rfl), hK _ ?_⟩
                    clear hK K
                    iterate 1 (first | (refine spk (by rfl) (by rfl) (by rfl) (fun K hK => ?_); go_big_quiet_op; first | (refine hK _ ?_; clear hK K) | (apply Exists.intro; refine ⟨fun _ => ?_, hK _ ?_⟩; (exact fun _ => rfl); clear hK K)) | (refine spq (by rfl) (by rfl) (fun K hK => ?_); apply Exists.intro; refine ⟨fun w' hw' => ?_, ?_⟩; (go_simp; exact rfl); (go_simp; refine hK _ ?_; clear hK K)))
                    refine sps (by rfl) (by rfl) (fun bv' w' => ∃ gl, bv' = .pointer (some ⟨gl, 0, none⟩) ∧ wf.heap.size ≤ gl ∧ Mk wf w' ∧ Bk w' gl 204 #[.pointer (some ⟨p, 0, none⟩), .int .i64 ((cutP st live wh).1.falls : Int), .int .i64 (live : Int), .int .u64 (g : Int), .int .i64 (c : Int), .int .i64 (s : Int), .slice va (dat.drop 24).length vc]) (fun v w1 w2 ⟨g, h1, h2, h3, h4⟩ k => ⟨g, h1, h2, mk_trans h3 k, h4.mk k⟩) (fun v w' ⟨_, _, _, h, _⟩ => h) (fun w' hw' => ?_) (fun K dv hdv hK => ?_)
                    · have hmk' := (hD'.out w' hw').1
                      refine sAt_box (cs := #[.pointer (some ⟨p, 0, none⟩), .int .i64 ((cutP st live wh).1.falls : Int), .int .i64 (live : Int), .int .u64 (g : Int), .int .i64 (c : Int), .int .i64 (s : Int), .slice va (dat.drop 24).length vc]) rfl (by simp [Act.eval]) ?_
                      exact ⟨_, rfl, hmk'.size, mk_trans hmk' (mk_alloc _ _), Bk.new _ _ _⟩
                    obtain ⟨w0, gl, rfl, hgl, h0, h0'⟩ := hdv
                    clear h0 h0' w0 hne
                    go_simp
                    refine hK _ ?_
                    clear hK K
                    iterate 7 (first | (refine spk (by rfl) (by rfl) (by rfl) (fun K hK => ?_); go_big_quiet_op; first | (refine hK _ ?_; clear hK K) | (apply Exists.intro; refine ⟨fun _ => ?_, hK _ ?_⟩; (exact fun _ => rfl); clear hK K)) | (refine spq (by rfl) (by rfl) (fun K hK => ?_); apply Exists.intro; refine ⟨fun w' hw' => ?_, ?_⟩; (go_simp; exact rfl); (go_simp; refine hK _ ?_; clear hK K)))
                    refine sp_nil ?_
                    rintro w9 ⟨gl', he', hgl', hm9, hb9⟩
                    cases he'
                    clear hD' D' q1 c3 hfl2
                    have Hm9 := Lib.hid hm9; have Hb9 := Lib.hid hb9; clear hm9 hb9
                    go_wp2_with fail
                    refine ropen_ret rfl rfl rfl rfl rfl ?_
                    unfold ROpenPost
                    rw [Hop3.out]
                    have kp : ∀ {e : TypeId} {b n sz : Nat} {v : Value} {xs : List Value}, w.heap.size ≤ b → wr.ownsRow b e sz v n xs → w9.ownsRow b e sz v n xs := fun hb hv => own_mk (own_keep hv Hcf.out (fun k hk => HnS.out k (by have := (hv.lt k hk).1; omega))) Hm9.out
                    have z1 : w.heap.size ≤ wr.heap.size := Hmk.out.size
                    have z2 : wr.heap.size ≤ wf.heap.size := Hcf.out.size
                    have z3 : w.heap.size ≤ wd.heap.size := Hm.out.size
                    have z4 : wd.heap.size ≤ w8.heap.size := Hm8.out.size
                    have hl24 : (dat.drop 24).length = dat.length - 24 := by simp
                    have hmap : (fs.tail.map (·.2)).length = fs.length - 1 := by simp
                    refine ⟨RD.made Hp2.out Hm9.out, Chg.thenMk (Chg.trans (Chg.of_mk Hmk.out) Hcf.out (fun _ _ h => h)) Hm9.out, gl, _, _, rvs, rfl, by omega, ?_, ?_, ?_, ?_⟩
                    · have h := Hb9.out; rw [hl24] at h; exact h
                    · have h := kp (Nat.le_refl _) Hov'.out
                      show w9.ownsRow w.heap.size 5 1 (.slice va (dat.length - 24) vc) (dat.drop 24).length (bv (dat.drop 24))
                      rw [hl24] at h ⊢; exact h
                    · show w9.ownsRow w.heap.size 22 1 _ (fs.tail.map (·.2)).length rvs
                      rw [hmap]
                      exact own_base (kp (by omega) Hor.out) (by omega)
                    · intro i d hd
                      have hd' : (fs[i + 1]?).map (·.2) = some d := by simpa using hd
                      have hlt' : i + 1 < fs.length := by
                        by_cases h : i + 1 < fs.length
                        · exact h
                        · rw [List.getElem?_eq_none (by omega)] at hd'; cases hd'
                      obtain ⟨dv, h1, h2⟩ := Hdr.out i d hlt' hd'
                      exact ⟨dv, h1, own_base (kp (by omega) h2) (by omega)⟩
                  · have hop3 : openP st = ((cutP st live wh).1, .inl (cutP st live wh).2) := by
                      rw [Hop.out, broken_no Hwh.out (by have := of_decide_eq_false e3; omega) e4 Hkr.out, if_neg (by decide), if_pos (by simpa using he)]
                    have he3 : ((cutP st live wh).2 != 0) = true := by simpa using he
                    generalize hcp : (cutP st live wh).2 = ce at *
                    have Hop3 := Lib.hid hop3; have Hp2 := Lib.hid hp2; have Hcf := Lib.hid hcf; have He := Lib.hid he; have Hcp := Lib.hid hcp; clear hop3 hp2 hcf he hcp
                    go_wp2_with fail
                    refine ropen_ret rfl rfl rfl rfl rfl ?_
                    unfold ROpenPost
                    rw [Hop3.out]
                    exact ⟨Hp2.out, Chg.trans (Chg.of_mk Hmk.out) Hcf.out (fun _ _ h => h), rfl⟩
              · rw [if_neg (by decide)] at hcutx
                have hop3 : openP st = (s1, .inl 40) := by
                  rw [Hop.out, broken_no Hwh.out (by have := of_decide_eq_false e3; omega) e4 Hkr.out, if_neg (by decide), hcutx, if_pos (by simp)]
                have Hop3 := Lib.hid hop3; have Hcutx := Lib.hid hcutx; clear hop3 hcutx
                go_wp2_with fail
                refine ropen_ret rfl rfl rfl rfl rfl ?_
                unfold ROpenPost
                rw [Hop3.out]
                exact ⟨Hp1.out, Chg.trans (Chg.of_mk Hmk.out) Hc1.out (fun _ _ h => h), rfl⟩
end Go.Proofs.WlW
