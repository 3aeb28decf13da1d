/- Layer 6, wal: the walk of WalPlays. What the readings of arguments give: bytes as a list, the bound of the second form. What the readings of arguments give: slices of structs. -/
import Derived.Test.YtcfjdldlcdomgaaMWalPlays28
import Derived.Test.YtcfjdldlcdomgaaMWalPlays0
import Derived.Test.YtcfjdldlcdomgaaRows
import Derived.WalkKit
import Derived.ProofKit
import Derived.OpenShut
import Derived.ShutString
import Derived.ChangeOld
import Derived.Below
import Derived.JoinedCond
set_option linter.unusedVariables false
set_option linter.unusedSimpArgs false
namespace Go.Proofs.WlW
open Go Go.RowKit Go.Tk Go.Dk Go.Sp Go.Proofs.DkW

def ovL (o : WOp × Value) : List Value := [.int .i64 o.1.kind, .int .i64 o.1.n, .int .i64 o.1.m, o.2]
/-- The operations as they lie in memory. -/
def Os (w : World) (v : Value) (os : List (WOp × Value)) : Prop :=
  Sl w 4 v os.length (os.flatMap ovL) ∧ ∀ o ∈ os, Bs w o.2 o.1.b ∧ -9223372036854775808 ≤ o.1.n ∧ o.1.n ≤ 9223372036854775807
theorem ov_get : ∀ (os : List (WOp × Value)) (k : Nat) (h : k < os.length), (os.flatMap ovL)[k * 4]? = some (.int .i64 os[k].1.kind) ∧ (os.flatMap ovL)[k * 4 + 1]? = some (.int .i64 os[k].1.n) ∧
    (os.flatMap ovL)[k * 4 + 2]? = some (.int .i64 os[k].1.m) ∧ (os.flatMap ovL)[k * 4 + 3]? = some os[k].2
  | o :: os, 0, _ => ⟨rfl, rfl, rfl, rfl⟩
  | o :: os, k + 1, h => by
    have := ov_get os k (by simpa using h)
    rw [show (k + 1) * 4 = k * 4 + 1 + 1 + 1 + 1 by omega]
    simpa [ovL, List.flatMap_cons] using this
theorem op_at {w : World} {a : Option Addr} {n c : Nat} {os : List (WOp × Value)} (h : Os w (.slice a n c) os) (k : Nat) (hk : k < os.length) :
    n = os.length ∧ ∃ b off, a = some ⟨b, off, none⟩ ∧ b < w.heap.size ∧ ∀ w', Mk w w' → w'.cell? ⟨b, off + k * 4, none⟩ = some (.int .i64 os[k].1.kind) ∧ w'.cell? ⟨b, off + k * 4 + 1, none⟩ = some (.int .i64 os[k].1.n) ∧
      w'.cell? ⟨b, off + k * 4 + 2, none⟩ = some (.int .i64 os[k].1.m) ∧ w'.cell? ⟨b, off + k * 4 + 3, none⟩ = some os[k].2 := by
  have hn : n = os.length := by
    obtain ⟨_, a', c', he, _⟩ := h.1
    cases he; rfl
  subst hn
  obtain ⟨b, off, rfl, hc⟩ := h.1.cellAt (by omega)
  obtain ⟨h1, h2, h3, h4⟩ := ov_get os k hk
  have c1 := hc _ _ h1
  have hlt := World.block_lt_of_cell? w _ c1
  refine ⟨rfl, b, off, rfl, hlt, fun w' hm => ?_⟩
  have he : ∀ o, w'.cell? ⟨b, o, none⟩ = w.cell? ⟨b, o, none⟩ := fun o => hm.cell (p := ⟨b, o, none⟩) hlt
  rw [he, he, he, he]
  exact ⟨c1, by have := hc _ _ h2; rwa [← Nat.add_assoc] at this, by have := hc _ _ h3; rwa [← Nat.add_assoc] at this, by have := hc _ _ h4; rwa [← Nat.add_assoc] at this⟩
theorem bs_lt {w : World} {v : Value} {xs : List UInt8} (h : Bs w v xs) : ∀ x, v.ownBlock = some x → 0 < xs.length → x < w.heap.size := fun x hx h0 => by
  obtain ⟨a, c, rfl, _, _⟩ := h.form
  obtain ⟨b, off, rfl, hc⟩ := Sl.cellAt h h0
  cases hx
  exact World.block_lt_of_cell? w _ (hc 0 (.int .u8 xs[0].toNat) (by simp [bv, List.getElem?_eq_getElem h0]))
theorem fresh_inv (n : Nat) (h0 : 1 ≤ n) (h1 : n ≤ 8) : WInv (fresh n) none 0 := ⟨fresh_ok n h0 h1, fun f => by
    have : ∀ x ∈ (fresh n).files, x.1.length = 0 := fun x hx => by
      have hx2 : x = ([], 0) := (List.mem_replicate.1 hx).2
      subst hx2; rfl
    unfold St.file
    rw [List.getD_eq_getElem?_getD]
    cases h : (fresh n).files[f]? with
    | none => simp [h]
    | some x => have := this x (List.mem_of_getElem? h); simpa [h] using this, fun L hL => by cases hL⟩
theorem i64_and3 (n : Int) : bits .and .i64 n 3 = n % 4 := by
  have h127 : (BitVec.ofInt 64 3).toNat = 2 ^ 2 - 1 := by decide
  have key : (BitVec.ofInt 64 n &&& BitVec.ofInt 64 3).toNat = (n % ((2 ^ 64 : Nat) : Int)).toNat % 2 ^ 2 := by
    rw [BitVec.toNat_and, BitVec.toNat_ofInt, h127, Nat.and_two_pow_sub_one_eq_mod]
  show IntKind.i64.wrap ((BitVec.ofInt 64 n &&& BitVec.ofInt 64 3).toNat : Nat) = n % 4
  rw [key, IntKind.wrap_i64]
  omega
theorem and3 (files : Int) : ∃ n : Nat, n ≤ 3 ∧ bits BinOp.and IntKind.i64 files 3 = (n : Int) := ⟨(files % 4).toNat, by omega, by rw [i64_and3]; omega⟩
set_option maxHeartbeats 4000000 in
set_option maxRecDepth 100000 in
theorem walPlays_any (w : World) (files : Int) (v : Value) (os : List (WOp × Value)) (h : Os w v os) (hl : os.length ≤ 1048576) :
    Calls Try.prog 12 #[.int .i64 files, v] w fun e w' => e = .returned (.bool true) ∧ Mk w w' := by
  obtain ⟨a0, c0, rfl, _, _⟩ := h.1.form
  obtain ⟨n, hn3, hn⟩ := and3 files
  have H := Lib.hid h; clear h
  go_enter Try.func12, Try.ntmps12
  go_wp2_with fail
  refine (wshown_any w).mono ?_
  rintro e w1 ⟨rfl, hm1⟩
  have Hm1 := Lib.hid hm1; clear hm1
  go_wp2_with fail
  have hbn := born_any w1 (1 + n) (by omega) (by omega)
  rw [show ((1 + n : Nat) : Int) = 1 + (n : Int) by omega] at hbn
  refine hbn.mono ?_
  rintro e w2 ⟨gw, p, q, S, T, rfl, hd, hm2, hbase⟩
  have hmw := mk_trans Hm1.out hm2
  have hz1 := Hm1.out.size
  have hb0 : ∀ k, S k ∨ T k ∨ k = gw → w.heap.size ≤ k := fun k hk => by have := hbase k hk; omega
  have Hd := Lib.hid hd; have Hmw := Lib.hid hmw; have Hb0 := Lib.hid hb0; clear hd hmw hb0
  clear hm2 hbase Hm1 hbn
  go_wp2_with fail
  go_loopw [8] (fun i wr => ∃ (k : Nat) (st : St) (lo : Option Lg), i = .int .i64 (k : Int) ∧ k ≤ os.length ∧ k ≤ 300 ∧ WS (fun x => w.heap.size ≤ x) w.heap.size wr gw p q st lo ∧ WInv st lo k ∧ Mk w wr) (fun i _ => 300 - (intOf i).toNat)
  case atStart => exact ⟨0, _, none, rfl, Nat.zero_le _, Nat.zero_le _, ⟨S, T, _, _, Hd.out, ⟨rfl, rfl⟩, Hb0.out⟩, fresh_inv (1 + n) (by omega) (by omega), Hmw.out⟩
  case round =>
    obtain ⟨k, st, lo, rfl, hkl, hk3, hws, hinv, hm⟩ := hrel
    have Hws := Lib.hid hws; have Hinv := Lib.hid hinv; have Hm := Lib.hid hm; clear hws hinv hm
    by_cases hlt : k < os.length ∧ k < 300
    · obtain ⟨hlt, h300⟩ := hlt
      obtain ⟨_, b0, off0, ha0, hb0lt, hcs⟩ := op_at H.out k hlt
      subst ha0
      obtain ⟨c1, c2, c3, c4⟩ := hcs wr Hm.out
      obtain ⟨hbs, hi1⟩ := H.out.2 _ (List.getElem_mem hlt)
      obtain ⟨O, hO⟩ : ∃ O, os[k] = O := ⟨_, rfl⟩
      rw [hO] at c1 c2 c3 c4 hbs hi1
      obtain ⟨o, u⟩ := O
      dsimp only at c1 c2 c3 c4 hbs hi1
      have Hbs := Lib.hid hbs; have Hi1 := Lib.hid hi1; have Hcs := Lib.hid hcs; have HO := Lib.hid hO; clear hbs hi1 hcs hO
      go_wp2_with fail
      obtain ⟨S', T', lv', mv', hd', hl', hb'⟩ := Hws.out
      refine (step_any hd' hl' hb' k hk3 Hinv.out o u (Hbs.out.mk Hm.out) (bs_lt Hbs.out) Hm.out.size Hi1.out).mono ?_
      rintro e w' ⟨rfl, hws', hc'⟩
      have hinv' := step_inv Hinv.out o Hi1.out.2
      have hm' : Mk w w' := Chg.to_mk (S := fun x => w.heap.size ≤ x) (Chg.trans (Chg.of_mk Hm.out) hc' (fun _ _ e => e)) (fun x hx e => by omega)
      have Hws' := Lib.hid hws'; have Hinv' := Lib.hid hinv'; have Hm' := Lib.hid hm'; clear hws' hinv' hm'
      clear hc'
      go_wp2_with fail
      exact ⟨⟨k + 1, _, _, by simp, by omega, by omega, Hws'.out, Hinv'.out, Hm'.out⟩, by simp only [intOf]; omega⟩
    · by_cases hlt2 : k < os.length
      · have h3 : k = 300 := by omega
        go_wp2_with fail
        go_ret
        exact ⟨rfl, Hm.out⟩
      · have h3 : k = os.length := by omega
        go_wp2_with fail
        go_ret
        exact ⟨rfl, Hm.out⟩
end Go.Proofs.WlW

namespace Go.Proofs.Ytcfjdldlcdomgaa.Up
open Go Go.ChangeShapes Go.WideShapes Go.ChangeAt Go.RowKit Go.Tk

theorem own : ownKnob Try.prog.godebug = none := by kernel_rfl
theorem laidOut : laidOutB Try.prog = true := by kernel_rfl

theorem one_le {H : Type} (d : DataW H) : 1 ≤ Rows.uptoBulk d := by
  cases d with
  | lit l => cases l <;> simp [Rows.uptoBulk]
  | nil => simp [Rows.uptoBulk]
  | ptr d => simp [Rows.uptoBulk]
  | slice elems spare => simp [Rows.uptoBulk]
  | agg parts => simp [Rows.uptoBulk]
  | iface t d => simp [Rows.uptoBulk]
  | map entries => simp [Rows.uptoBulk]
  | held h => simp [Rows.uptoBulk]
theorem length_le {H : Type} (l : List (DataW H)) : l.length ≤ Rows.uptoBulkAll l := by
  induction l with
  | nil => simp [Rows.uptoBulkAll]
  | cons x r ih => have := one_le x; simp only [Rows.uptoBulkAll, List.length_cons]; omega
theorem bound {H : Type} {l : List (DataW H)} (hk : Rows.uptoSmall H l = true) : Rows.uptoBulkAll l ≤ 1048576 := by
  simpa [Rows.uptoSmall] using hk

/-- Integers that fit a byte are bytes. -/
theorem byte_of {n : Int} (h : (Lit.int .u8 n).wf = true) : ∃ c : UInt8, n = (c.toNat : Int) := by
  have h2 : 0 ≤ n ∧ n < 256 := by
    simp only [Lit.wf, Bool.and_eq_true, decide_eq_true_eq] at h
    have e1 : IntKind.u8.min = 0 := by kernel_rfl
    have e2 : IntKind.u8.max = 255 := by kernel_rfl
    omega
  refine ⟨UInt8.ofNat n.toNat, ?_⟩
  rw [UInt8.toNat_ofNat_of_lt' (by show n.toNat < 256; omega)]
  omega
theorem bytes_of : ∀ zs : List Int, (∀ n ∈ zs, (Lit.int .u8 n).wf = true) → ∃ xs : List UInt8, zs.map (Value.int .u8) = bv xs ∧ xs.length = zs.length := by
  intro zs
  induction zs with
  | nil => exact fun _ => ⟨[], rfl, rfl⟩
  | cons z r ih =>
    intro h
    obtain ⟨c, rfl⟩ := byte_of (h z (by simp))
    obtain ⟨xs, hx, hl⟩ := ih fun n hn => h n (by simp [hn])
    exact ⟨c :: xs, by simp [bv] at hx ⊢; exact hx, by simp [hl]⟩

section
variable {H : Type} {enc : TypeId × Value → H} {W : World} {base : Nat} {v : Value} {d : DataW H} {p : List MemPlace} {sp hd : Nat → Bool}

theorem bulk_lits (k : IntKind) (zs : List Int) : (lits (H := H) k zs).length = zs.length := by simp [lits]

set_option maxRecDepth 100000 in
theorem bytes_open (hv : Value.okWide Try.prog W .any base 22 v) (h : DataW.Trod enc Try.prog W 0 (fun _ => true) true 22 v d p) :
    ∃ xs, Bs W v xs ∧ xs.length + 1 ≤ Rows.uptoBulk d := by
  obtain ⟨a, len, cap, rfl⟩ := okWide_slice Try.underlying22 hv
  obtain ⟨fuel, hf⟩ := h
  rcases open_ints Try.underlying22 Try.underlying5 (by kernel_rfl) hf with ⟨hcs, hx⟩ | ⟨x, l, c, zs, hcs, _, hl, hm, hz, hx, hcell, hwz⟩
  · simp [Value.cells] at hcs
    obtain ⟨rfl, rfl, rfl⟩ := hcs
    exact ⟨[], ⟨rfl, none, 0, rfl, Nat.le_refl _, Nat.zero_le _, fun _ => rfl, fun h => absurd h (by simp)⟩, one_le d⟩
  · simp [Value.cells] at hcs
    obtain ⟨rfl, rfl, rfl⟩ := hcs
    simp only [if_true] at hz
    obtain ⟨xs, hb, hlx⟩ := bytes_of zs hwz
    have hd : d = .slice (lits .u8 (zs.take len)) (lits .u8 (zs.drop len)) := (Prod.mk.inj hx).1
    refine ⟨xs.take len, ?_, ?_⟩
    · have hl2 : (xs.take len).length = len := by simp; omega
      refine ⟨by rw [bv_length]; omega, some x, cap, by rw [hl2], by omega, hm, (fun h => by cases h), fun hp => ?_⟩
      obtain ⟨b, off, spot⟩ := x
      have h0 := hcell 0 (by omega)
      have hs : spot = none := by
        cases spot with
        | none => rfl
        | some s =>
          simp only [Addr.add, if_true, World.cell?] at h0
          split at h0 <;> simp at h0
      subst hs
      refine ⟨b, off, rfl, fun j u hu => ?_⟩
      have hj : j < (bv (xs.take len)).length := (List.getElem?_eq_some_iff.1 hu).1
      rw [bv_length] at hj
      have e1 : (bv (xs.take len))[j]? = some (.int .u8 (zs.getD j 0)) := by
        have : bv (xs.take len) = (bv xs).take len := by simp [bv, List.map_take]
        rw [this, List.getElem?_take, if_pos (by omega), ← hb, List.getElem?_map, List.getD_eq_getElem?_getD, List.getElem?_eq_getElem (by omega)]
        rfl
      rw [e1] at hu
      have hc := hcell j (by omega)
      rw [← hu, ← hc]
      by_cases hj0 : j = 0 <;> simp [hj0, Addr.add]
    · subst hd
      have h1 := length_le (lits (H := H) .u8 (zs.take len))
      rw [bulk_lits] at h1
      simp only [Rows.uptoBulk]
      have h2 : (xs.take len).length = (zs.take len).length := by simp; omega
      omega
end
end Go.Proofs.Ytcfjdldlcdomgaa.Up

namespace Go.Proofs.Ytcfjdldlcdomgaa.Up
open Go Go.ChangeShapes Go.WideShapes Go.ChangeAt Go.RowKit Go.Tk

theorem flat_at {size : Nat} : ∀ (rows : List (List Value)), (∀ r ∈ rows, r.length = size) → ∀ (i j : Nat), j < size → rows.flatten[i * size + j]? = (rows[i]?).bind (·[j]?)
  | [], _, i, j, _ => by simp
  | r :: rows, h, 0, j, hj => by
    have hr := h r (by simp)
    simp only [List.flatten_cons, Nat.zero_mul, Nat.zero_add, List.getElem?_cons_zero, Option.bind_some]
    rw [List.getElem?_append_left (by omega)]
  | r :: rows, h, i + 1, j, hj => by
    have hr := h r (by simp)
    have := flat_at rows (fun r h' => h r (by simp [h'])) i j hj
    simp only [List.flatten_cons, List.getElem?_cons_succ]
    rw [List.getElem?_append_right (by rw [hr, Nat.add_mul]; omega), show (i + 1) * size + j - r.length = i * size + j by rw [hr, Nat.add_mul]; omega]
    exact this
theorem addr_add (b o k : Nat) : (⟨b, o, none⟩ : Addr).add k = ⟨b, o + k, none⟩ := by
  unfold Addr.add; split <;> simp_all
theorem choose3 {α β : Type} (q : Nat → α → β → Prop) : ∀ n : Nat, (∀ i, i < n → ∃ a b, q i a b) → ∃ (xa : List α) (xb : List β), xa.length = n ∧ xb.length = n ∧ ∀ (i : Nat) (h1 : i < xa.length) (h2 : i < xb.length), q i xa[i] xb[i]
  | 0, _ => ⟨[], [], rfl, rfl, fun i h => by simp at h⟩
  | n + 1, h => by
    obtain ⟨xa, xb, h1, h2, h3⟩ := choose3 q n fun i hi => h i (by omega)
    obtain ⟨a, b, hab⟩ := h n (by omega)
    refine ⟨xa ++ [a], xb ++ [b], by simp [h1], by simp [h2], fun i g1 g2 => ?_⟩
    by_cases hi : i < n
    · rw [List.getElem_append_left (by omega), List.getElem_append_left (by omega)]; exact h3 i (by omega) (by omega)
    · obtain rfl : i = n := by simp [h1] at g1; omega
      rw [List.getElem_append_right (by omega), List.getElem_append_right (by omega)]
      simpa [h1, h2] using hab
theorem sum_le {H β : Type} (wt : β → Nat) : ∀ (bs : List β) (ds : List (DataW H)), bs.length = ds.length → (∀ (i : Nat) (h1 : i < bs.length) (h2 : i < ds.length), wt bs[i] + 1 ≤ Rows.uptoBulk ds[i]) → (bs.map wt).sum + bs.length ≤ Rows.uptoBulkAll ds
  | [], [], _, _ => by simp [Rows.uptoBulkAll]
  | b :: bs, d :: ds, hl, h => by
    have h0 := h 0 (by simp) (by simp)
    have := sum_le wt bs ds (by simpa using hl) fun i h1 h2 => h (i + 1) (by simp; omega) (by simp; omega)
    simp only [List.getElem_cons_zero] at h0
    simp only [List.map_cons, List.sum_cons, List.length_cons, Rows.uptoBulkAll]
    omega
section
variable {H : Type} {enc : TypeId × Value → H} {W : World} {base : Nat} {v : Value} {d : DataW H} {p : List MemPlace}

/-- A struct's fields: their types, where they begin. -/
def fieldsOf : TypeDesc → Option (List (TypeId × Nat))
  | .struct fs => some (fs.toList.map fun f => (f.type, f.offset))
  | _ => none
theorem trod_fields {t : TypeId} {l : List (TypeId × Nat)} (hu : (Try.prog.underlying t).bind fieldsOf = some l) {fuel : Nat} {cs : List Value} {x : DataW H × List MemPlace} (h : DataW.trod enc Try.prog W 0 (fun _ => true) true fuel t cs = some x) :
    ∃ (xs : List (DataW H × List MemPlace)) (n : Nat), x.1 = .agg (xs.map (·.1)) ∧ xs.length = l.length ∧
      ∀ (i ty off : Nat), l[i]? = some (ty, off) → DataW.trod enc Try.prog W 0 (fun _ => true) true n ty ((cs.drop off).take (Try.prog.cellsOf ty)) = xs[i]? := by
  obtain ⟨d, hd, hl⟩ := Option.bind_eq_some_iff.1 hu
  cases d with
  | struct fs =>
    simp only [fieldsOf, Option.some.injEq] at hl
    obtain ⟨xs, n, _, rfl, _, hlen, hf⟩ := DataW.trod_struct hd h
    refine ⟨xs, n, rfl, by rw [hlen, ← hl, List.length_map, Array.length_toList], fun i ty off hi => ?_⟩
    rw [← hl, List.getElem?_map, Array.getElem?_toList] at hi
    cases hfi : fs[i]? with
    | none => rw [hfi] at hi; cases hi
    | some f =>
      rw [hfi] at hi
      simp only [Option.map_some, Option.some.injEq, Prod.mk.injEq] at hi
      obtain ⟨rfl, rfl⟩ := hi
      exact hf i f hfi
  | _ => cases hl
set_option maxRecDepth 100000 in
/-- A slice whose elements read one by one. -/
theorem rows_open {β : Type} {t e size : Nat} (ht : Try.prog.underlying t = some (.slice e)) (hce : Try.prog.cellsOf e = size) (hsz : 0 < size) (R : List Value → β → Prop) (wt : β → Nat)
    (hR : ∀ (fuel : Nat) (cs : List Value) (x : DataW H × List MemPlace), cs.length = size → DataW.trod enc Try.prog W 0 (fun _ => true) true fuel e cs = some x → ∃ b, R cs b ∧ wt b + 1 ≤ Rows.uptoBulk x.1)
    (hv : Value.okWide Try.prog W .any base t v) (h : DataW.Trod enc Try.prog W 0 (fun _ => true) true t v d p) :
    ∃ (rows : List (List Value)) (bs : List β), rows.length = bs.length ∧ (∀ r ∈ rows, r.length = size) ∧ Sl W size v bs.length rows.flatten ∧ (∀ (i : Nat) (h1 : i < rows.length) (h2 : i < bs.length), R rows[i] bs[i]) ∧
      (bs.map wt).sum + bs.length + 1 ≤ Rows.uptoBulk d := by
  obtain ⟨a, l, cap, rfl⟩ := okWide_slice ht hv
  obtain ⟨fuel, hf⟩ := h
  rcases DataW.trod_slice ht hf with ⟨hcs, hx⟩ | ⟨x, len, cap', elems, rest, n, _, hcs, hx, _, hl, hm, hlen, hel, _, _⟩
  · simp [Value.cells] at hcs
    obtain ⟨rfl, rfl, rfl⟩ := hcs
    exact ⟨[], [], rfl, by simp, ⟨by simp, none, 0, rfl, Nat.le_refl _, Nat.zero_le _, fun _ => rfl, fun h => absurd h (by simp)⟩, by simp, one_le d⟩
  · simp [Value.cells] at hcs
    obtain ⟨rfl, rfl, rfl⟩ := hcs
    have hd : d = .slice (elems.map (·.1)) (rest.map (·.1)) := (Prod.mk.inj hx).1
    have each : ∀ i, i < l → ∃ (cs : List Value) (b : β), cs.length = size ∧ (∀ j, j < size → W.cell? ((x.add (i * size)).add j) = cs[j]?) ∧ R cs b ∧ ∀ (h2 : i < elems.length), wt b + 1 ≤ Rows.uptoBulk elems[i].1 := by
      intro i hi
      have h1 := hel i hi
      rw [List.getElem?_eq_getElem (by omega), hce, Option.bind_eq_some_iff] at h1
      obtain ⟨cs, hc, hy⟩ := h1
      obtain ⟨_, hcl, hcc⟩ := World.cells?_some hc
      obtain ⟨b, hb, hw⟩ := hR n cs _ hcl hy
      exact ⟨cs, b, hcl, hcc, hb, fun _ => hw⟩
    obtain ⟨rows, bs, hv1, hL1, hall⟩ := choose3 (fun i cs b => cs.length = size ∧ (∀ j, j < size → W.cell? ((x.add (i * size)).add j) = cs[j]?) ∧ R cs b ∧ ∀ (h2 : i < elems.length), wt b + 1 ≤ Rows.uptoBulk elems[i].1) l each
    have hrl : ∀ r ∈ rows, r.length = size := by
      intro r hr
      obtain ⟨i, hi, rfl⟩ := List.getElem_of_mem hr
      exact (hall i hi (by omega)).1
    have hfl : rows.flatten.length = bs.length * size := by
      have : ∀ (rs : List (List Value)), (∀ r ∈ rs, r.length = size) → rs.flatten.length = rs.length * size := by
        intro rs
        induction rs with
        | nil => intro _; simp
        | cons r rs ih =>
          intro h
          rw [List.flatten_cons, List.length_append, ih fun r h' => h r (by simp [h']), h r (by simp), List.length_cons, Nat.add_mul]
          omega
      rw [this rows hrl, hv1, hL1]
    refine ⟨rows, bs, by omega, hrl, ⟨hfl, some x, cap, by rw [hL1], by omega, hm, (fun h => by cases h), fun hp => ?_⟩, fun i h1 h2 => (hall i h1 h2).2.2.1, ?_⟩
    · obtain ⟨b, off, spot⟩ := x
      have h0 := (hall 0 (by omega) (by omega)).2.1 0 hsz
      have hs : spot = none := by
        cases spot with
        | none => rfl
        | some s =>
          have hr0 := hrl rows[0] (List.getElem_mem (by omega))
          rw [Nat.zero_mul, List.getElem?_eq_getElem (by omega)] at h0
          simp only [Addr.add, if_true, World.cell?] at h0
          split at h0 <;> simp at h0
      subst hs
      refine ⟨b, off, rfl, fun j u hu => ?_⟩
      have hj : j < rows.flatten.length := (List.getElem?_eq_some_iff.1 hu).1
      have hji : j / size < l := by
        rw [hfl, hL1] at hj
        exact Nat.div_lt_of_lt_mul (by rw [Nat.mul_comm]; exact hj)
      have hjm : j % size < size := Nat.mod_lt _ hsz
      have ej : j = j / size * size + j % size := by rw [Nat.mul_comm]; exact (Nat.div_add_mod j size).symm
      have h1 := (hall (j / size) (by omega) (by omega)).2.1 (j % size) hjm
      have h2 := flat_at rows hrl (j / size) (j % size) hjm
      rw [← ej, hu, List.getElem?_eq_getElem (by omega), Option.bind_some] at h2
      rw [← h2] at h1
      have ea : ((⟨b, off, none⟩ : Addr).add (j / size * size)).add (j % size) = ⟨b, off + j, none⟩ := by
        rw [addr_add, addr_add]
        congr 1
        omega
      rw [ea] at h1
      exact h1
    · subst hd
      have h1 := sum_le wt bs (elems.map (·.1)) (by rw [List.length_map]; omega) fun i h1 h2 => by
        have h3 : i < elems.length := by rw [List.length_map] at h2; exact h2
        have := (hall i (by omega) h1).2.2.2 h3
        rw [List.getElem_map]; exact this
      simp only [Rows.uptoBulk]
      omega
end
end Go.Proofs.Ytcfjdldlcdomgaa.Up
