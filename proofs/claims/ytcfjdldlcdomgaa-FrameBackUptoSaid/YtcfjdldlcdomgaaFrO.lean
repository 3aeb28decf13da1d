/- The walks of layer 5, frame: the document's Scan. -/
import Derived.Test.YtcfjdldlcdomgaaFrM
namespace Go.Proofs.FrW
open Go Go.RowKit Go.Tk Go.Sp Go.Rg Go.Lib Go.Shelf

theorem info44 : (Try.prog.info? 44).map (fun i => (i.zero, i.size, i.bytes)) = some (some (.agg #[.int .u8 0, .slice none 0 0]), 2, 32) := by kernel_rfl
theorem under40 : Try.prog.underlying 40 = some (.slice 44) := by kernel_rfl

/-- Frames as they lie in a list of frames: each kind, and a list of its own beside row 'ob'. -/
def EncF (W : World) (base : Nat) (ob : Option Nat) : List (UInt8 × List UInt8) → List Value → Prop
  | [], vs => vs = []
  | (k, d) :: l, vs => ∃ dv r, vs = .int .u8 (k.toNat : Int) :: dv :: r ∧ W.ownsRow base 5 1 dv d.length (bv d) ∧ (dv.ownBlock = none ∨ dv.ownBlock ≠ ob) ∧ EncF W base ob l r

theorem EncF.grown {W W' : World} {base : Nat} {ob : Option Nat} (hg : W.grownBy W' ob) : ∀ {l : List (UInt8 × List UInt8)} {vs : List Value}, EncF W base ob l vs → EncF W' base ob l vs
  | [], _, h => h
  | (_, _) :: _, _, ⟨dv, r, h1, h2, h3, h4⟩ => ⟨dv, r, h1, h2.kept hg h3, h3, EncF.grown hg h4⟩
theorem EncF.mk {W W' : World} {base : Nat} {ob : Option Nat} (hm : Mk W W') : ∀ {l : List (UInt8 × List UInt8)} {vs : List Value}, EncF W base ob l vs → EncF W' base ob l vs
  | [], _, h => h
  | (_, _) :: _, _, ⟨dv, r, h1, h2, h3, h4⟩ => ⟨dv, r, h1, own_mk h2 hm, h3, EncF.mk hm h4⟩
theorem EncF.step {W W' : World} {base : Nat} {v v' : Value} (hg : W.grownBy W' v.ownBlock) (hf : Tk.Fr W v v') : ∀ {l : List (UInt8 × List UInt8)} {vs : List Value}, EncF W base v.ownBlock l vs → EncF W' base v'.ownBlock l vs
  | [], _, h => h
  | (_, _) :: _, _, ⟨dv, r, h1, h2, h3, h4⟩ => ⟨dv, r, h1, h2.kept hg h3, ne_symm (fr_ne hf (ne_symm h3) (fun k hk => (h2.lt k hk).2)), EncF.step hg hf h4⟩
theorem EncF.snoc {W : World} {base : Nat} {ob : Option Nat} {k : UInt8} {d : List UInt8} {dv : Value} (h2 : W.ownsRow base 5 1 dv d.length (bv d)) (h3 : dv.ownBlock = none ∨ dv.ownBlock ≠ ob) :
    ∀ {l : List (UInt8 × List UInt8)} {vs : List Value}, EncF W base ob l vs → EncF W base ob (l ++ [(k, d)]) (vs ++ [.int .u8 (k.toNat : Int), dv])
  | [], _, h => by cases h; exact ⟨dv, [], rfl, h2, h3, rfl⟩
  | (_, _) :: _, _, ⟨dv', r, h1, h2', h3', h4⟩ => ⟨dv', r ++ [.int .u8 (k.toNat : Int), dv], by rw [h1]; rfl, h2', h3', EncF.snoc h2 h3 h4⟩
theorem EncF.at {W : World} {base : Nat} {ob : Option Nat} : ∀ {l : List (UInt8 × List UInt8)} {vs : List Value} (i : Nat) (hi : i < l.length), EncF W base ob l vs →
    vs[i * 2]? = some (.int .u8 ((l[i]).1.toNat : Int)) ∧ ∃ dv, vs[i * 2 + 1]? = some dv ∧ W.ownsRow base 5 1 dv (l[i]).2.length (bv (l[i]).2)
  | [], _, i, hi, _ => by simp at hi
  | (k, d) :: l, _, 0, _, ⟨dv, r, h1, h2, _, _⟩ => by subst h1; exact ⟨rfl, dv, rfl, h2⟩
  | (k, d) :: l, _, i + 1, hi, ⟨dv, r, h1, _, _, h4⟩ => by
    subst h1
    have := EncF.at i (by simpa using hi) h4
    simp only [show (i + 1) * 2 = i * 2 + 1 + 1 by omega, List.getElem?_cons_succ, List.getElem_cons_succ]
    exact this
theorem own_one {w : World} {base : Nat} {v : Value} {n : Nat} {xs : List Value} (h : w.ownsRow base 5 1 v n xs) : v.oneCell' = true := by
  obtain ⟨a, cap, rfl, _, _⟩ := (own_sl h).form
  rfl
theorem new_two (w : World) (u v : Value) (e : TypeId) : Sl (w.alloc (.cells #[u, v] e)) 2 (.slice (some ⟨w.heap.size, 0, none⟩) 1 1) 1 [u, v] := by
  refine ⟨rfl, _, _, rfl, Nat.le_refl _, by simp [maxLen], (fun h => by cases h), fun _ => ⟨_, _, rfl, fun j x hx => ?_⟩⟩
  rw [World.cell?_alloc_mark (fr := (0, 0)), Nat.zero_add]
  rw [← hx]
  exact (Array.getElem?_toList (xs := #[u, v])).symm

theorem drop_bs {w : World} {a : Option Addr} {cap : Nat} {xs : List UInt8} (h : Bs w (.slice a xs.length cap) xs) (n : Nat) (hn : n < xs.length) : ∃ b off, a = some ⟨b, off, none⟩ ∧ Bs w (.slice (some ⟨b, off + n, none⟩) (xs.length - n) (cap - n)) (xs.drop n) := by
  obtain ⟨b, off, rfl, _⟩ := h.cellAt (by omega)
  obtain ⟨_, _, he, h1, h2⟩ := h.form
  cases he
  refine ⟨b, off, rfl, ?_⟩
  have := sub_some h rfl n xs.length (xs.length - n) (cap - n) (off + n) (by omega) (by omega) rfl (by omega) (by omega) rfl
  rwa [List.take_length] at this

theorem own_mk2 {w w' : World} {base n size : Nat} {e : TypeId} {v : Value} {xs : List Value} (h : w.ownsRow base e size v n xs) (hm : Mk w w') : w'.ownsRow base e size v n xs := own_mk h hm
theorem own_ne' {w w' : World} {b1 b2 n1 n2 s1 s2 : Nat} {e1 e2 : TypeId} {v1 v2 : Value} {xs ys : List Value} (h1 : w.ownsRow b1 e1 s1 v1 n1 xs) (h2 : w'.ownsRow b2 e2 s2 v2 n2 ys) (hb : w.heap.size ≤ b2) : v1.ownBlock = none ∨ v1.ownBlock ≠ v2.ownBlock := by
  rcases e : v1.ownBlock with _ | k
  · exact .inl rfl
  · refine .inr fun e2 => ?_
    have := (h1.lt k e).2
    have := (h2.lt k e2.symm).1
    omega
theorem bs_nil {w : World} {a : Option Addr} {cap : Nat} (h : a = none → cap = 0) (hc : cap ≤ maxLen) : Bs w (.slice a 0 cap) [] := ⟨rfl, _, _, rfl, Nat.zero_le _, hc, h, fun hp => absurd hp (by simp)⟩
theorem bs_drop {w : World} {a : Option Addr} {cap : Nat} {xs : List UInt8} (h : Bs w (.slice a xs.length cap) xs) (n : Nat) (hn : n ≤ xs.length) (hc : ¬ cap = n) : Bs w (.slice (Option.map (fun x => x.add n) a) (xs.length - n) (cap - n)) (xs.drop n) := by
  have h' := h
  obtain ⟨_, a', c', he, h1, h2, h3, h4⟩ := h'
  cases he
  rcases Nat.lt_or_ge n xs.length with hl | hl
  · obtain ⟨b, off, rfl, hb⟩ := drop_bs h n hl
    have e : Option.map (fun x : Addr => x.add n) (some ⟨b, off, none⟩) = some ⟨b, off + n, none⟩ := by
      by_cases h0 : n = 0 <;> simp [Addr.add, h0]
    rw [e]; exact hb
  · rw [List.drop_eq_nil_of_le hl, show xs.length - n = 0 by omega]
    refine bs_nil (fun ha => ?_) (by omega)
    cases a with
    | none => have := h3 rfl; omega
    | some x => simp at ha

theorem info_of {P : Program} {e : TypeId} {z : Option Value} {s b : Nat} (h : (P.info? e).map (fun i => (i.zero, i.size, i.bytes)) = some (z, s, b)) : ∃ i, P.info? e = some i ∧ i.zero = z ∧ i.size = s ∧ i.bytes = b := by
  cases hi : P.info? e with
  | none => simp [hi] at h
  | some i => simp [hi] at h; exact ⟨i, rfl, h.1, h.2.1, h.2.2⟩
theorem wpList_append_two {w : World} {ops : Array Oper} {rest : List Oper} {o : Oper} {a : Act} {Q : Exit → Act → World → Prop} (hgd : o.guard = none) (s x : Operand)
    (ho : o.op = .call { callee := .builtin .append, args := #[s, x], argTypes := #[40, 40] })
    {base : Nat} {v : Value} {n : Nat} {xs : List Value} (hs : a.eval s = v) (hown : w.ownsRow base 44 2 v n xs)
    {xv : Value} {m : Nat} {news : List Value} (hxe : a.eval x = xv) (hx : Sl w 2 xv m news) (h1 : ∀ u ∈ news, u.oneCell' = true)
    (hb : n + m ≤ 4398046511104) (hbase : base ≤ w.heap.size)
    (h : ∀ v' w', w'.ownsRow base 44 2 v' (n + m) (xs ++ news) → w.grownBy w' v.ownBlock → Tk.Fr w v v' → wpList Try.prog ops Q rest (a.put o.dst v') w') :
    wpList Try.prog ops Q (o :: rest) a w := by
  obtain ⟨i0, hi1, hz0, hz1, hz2⟩ := info_of info44
  exact wpList_append_sl hgd s x 40 ho base 44 i0 (.agg #[.int .u8 0, .slice none 0 0]) 2 32 under40 hi1 hz0 hz1 hz2 rfl (by decide) v n xs hs hown xv m news hxe hx h1 (by simp only [maxLen]; omega) (by omega) hbase (fun v' w' g1 g2 _ g4 => h v' w' g1 g2 g4)

set_option maxHeartbeats 400000 in
set_option maxRecDepth 100000 in
theorem scanR_any (w : World) (v : Value) (xs : List UInt8) (h : Bs w v xs) (hb : xs.length ≤ 1048576) :
    Calls Try.prog 28 #[v] w fun e w' => ∃ fv vs, e = .returned (.tuple #[fv, .int .i64 (wholeOf (framesOf xs) : Int)]) ∧ w'.ownsRow w.heap.size 44 2 fv (framesOf xs).length vs ∧ EncF w' w.heap.size fv.ownBlock (framesOf xs) vs ∧ Mk w w' := by
  obtain ⟨a, cap, rfl, hc1, hc2⟩ := h.form
  have H := Lib.hid h
  clear h
  go_enter Try.func28, Try.ntmps28
  go_wp2_with fail
  go_loopw [4, 5] (fun o i wr => ∃ (pre : List (UInt8 × List UInt8)) (vs : List Value) (n : Nat), i = .int .i64 (n : Int) ∧ n = wholeOf pre ∧ n ≤ xs.length ∧ pre.length ≤ n ∧ framesOf xs = pre ++ framesOf (xs.drop n) ∧ wr.ownsRow w.heap.size 44 2 o pre.length vs ∧ EncF wr w.heap.size o.ownBlock pre vs ∧ Mk w wr)
    (fun _ i _ => xs.length - (intOf i).toNat)
  case atStart => exact ⟨[], [], 0, rfl, rfl, by omega, by simp, rfl, World.ownsRow_nil _ _ _ _, rfl, mk_refl _⟩
  case round =>
    obtain ⟨pre, vs, n, rfl, hn, hnl, hpl, hfr, ho, he, hm⟩ := hrel
    have HN := Lib.hid hn
    have HFR := Lib.hid hfr
    have HO := Lib.hid ho
    have HE := Lib.hid he
    have HM := Lib.hid hm
    clear hn hfr ho he hm
    by_cases hcn : cap = n
    · have hx : xs.drop n = [] := List.drop_eq_nil_of_le (by omega)
      have hS : Bs wr (.slice a (xs.length - n) 0) [] := by rw [show xs.length - n = 0 by omega]; exact bs_nil (fun _ => rfl) (by simp [maxLen])
      have hnone : framesOf ([] : List UInt8) = [] := framesOf_none (by decide +kernel)
      rw [hx, hnone, List.append_nil] at HFR
      have HS := Lib.hid hS
      clear hS hx hnone
      go_wp2_with (go_at_call 25; refine (getR_any _ _ [] HS.out (by simp)).mono ?_; intro e w1 hp; unfold GetPost at hp; rw [show frameOf [] = none from by decide +kernel] at hp; dsimp only at hp; obtain ⟨hm1, dv, _, rfl⟩ := hp; have HM1 := Lib.hid hm1; clear hm1)
      go_ret2
      refine ⟨u4, vs, by rw [HFR.out, ← HN.out]; rfl, ?_, ?_, mk_trans HM.out HM1.out⟩
      · rw [HFR.out]; exact own_mk2 HO.out HM1.out
      · rw [HFR.out]; exact HE.out.mk HM1.out
    · have HS := Lib.hid ((bs_drop H.out n hnl hcn).mk HM.out)
      rcases hf : frameOf (xs.drop n) with _ | ⟨k, dat, m⟩
      · rw [framesOf_none hf, List.append_nil] at HFR
        have HF := Lib.hid hf
        clear hf
        go_wp2_with (go_at_call 25; refine (getR_any _ _ (xs.drop n) HS.out (by simp; omega)).mono ?_; intro e w1 hp; unfold GetPost at hp; rw [HF.out] at hp; dsimp only at hp; obtain ⟨hm1, dv, _, rfl⟩ := hp; have HM1 := Lib.hid hm1; clear hm1)
        go_ret2
        refine ⟨u4, vs, by rw [HFR.out, ← HN.out]; rfl, ?_, ?_, mk_trans HM.out HM1.out⟩
        · rw [HFR.out]; exact own_mk2 HO.out HM1.out
        · rw [HFR.out]; exact HE.out.mk HM1.out
      · obtain ⟨hm1, hm2, hm3⟩ := frame_len hf
        rw [framesOf_some hf, List.drop_drop] at HFR
        rw [List.length_drop] at hm2
        have HF := Lib.hid hf
        have H1 := Lib.hid hm1
        have hm9 : 9 ≤ m := by omega
        have hmne : ((m : Int) == 0) = false := by simp; omega
        clear hf hm1
        go_wp2_with (first | (go_at_call 25; refine (getR_any _ _ (xs.drop n) HS.out (by simp; omega)).mono ?_; intro e w1 hp; unfold GetPost at hp; rw [HF.out] at hp; dsimp only at hp; obtain ⟨hm1', dv, hod, rfl⟩ := hp; obtain ⟨da, dc, rfl, _, _⟩ := (own_sl hod).form; have HM1 := Lib.hid hm1'; have HOD := Lib.hid hod; clear hm1' hod) | (at_builtin; refine wpList_append_two rfl (.tmp 21) (.tmp 25) rfl rfl (own_mk HO.out (mk_trans HM1.out (mk_alloc _ _))) rfl (new_two w1 (.int .u8 (k.toNat : Int)) (.slice da dat.length dc) 44) (by intro u hu; simp at hu; rcases hu with rfl | rfl; rfl; exact own_one HOD.out) (by omega) (by have := HM.out.size; have := HM1.out.size; simp; omega) ?_; intro v2 w2 ho2 hg2 hf2; have HO2 := Lib.hid ho2; have HG2 := Lib.hid (alloc_grown (show (w1.alloc _).grownBy w2 u4.ownBlock from hg2)); have HF2 := Lib.hid (show Tk.Fr w1 u4 v2 from own_fresh_alloc hf2); clear ho2 hg2 hf2))
        have hne : (Value.slice da dat.length dc).ownBlock = none ∨ (Value.slice da dat.length dc).ownBlock ≠ u4.ownBlock := ne_symm (own_ne' HO.out HOD.out (Nat.le_refl _))
        have hod := own_base HOD.out HM.out.size
        have he := EncF.step HG2.out HF2.out (EncF.snoc (k := k) hod hne (HE.out.mk HM1.out))
        refine ⟨⟨pre ++ [(k, dat)], _, n + m, by simp, ?_, by omega, by simp; omega, ?_, by simpa using HO2.out, he, mk_own (mk_trans HM.out HM1.out) (own_mk HO.out HM1.out) HG2.out⟩, ?_⟩
        · rw [wholeOf_append, ← HN.out]; simp [wholeOf]; exact H1.out
        · rw [HFR.out]; simp
        · simp [intOf]; omega
#print axioms scanR_any
end Go.Proofs.FrW
