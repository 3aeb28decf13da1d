/- Layer 6, wal: the walk of Open. -/
import Derived.Test.YtcfjdldlcdomgaaMWalPlays10
import Derived.Test.YtcfjdldlcdomgaaMWalPlays7
import Derived.Deep.DeepCutAuto
import Derived.Deep.CutRange
import Derived.Deep.CutBlock
import Derived.WalkMore
import Derived.Deep.MidRow
set_option linter.unusedVariables false
set_option linter.unusedSimpArgs false
namespace Go.Proofs.WlW
open Go Go.RowKit Go.Tk Go.Dk Go.Sp Go.Rg Go.Proofs.DkW
attribute [local go_sem] Oper.semAt_some
theorem setH {w : World} {g : Nat} {t : TypeId} {cs cs' : Array Value} (h : Bk w g t cs) (hs : cs.size = 6) (hs' : cs'.size = 6) (h1 : ∀ v ∈ cs', v.oneCell' = true) : (storeVar 171 ⟨g, 0, none⟩ (.agg cs')).run Try.prog w = .ok () (w.setRow g cs') :=
  Tk.run_storeVar_row w g t 171 cs cs' h (by rw [hs, hs']) (by rw [info171, hs']) (by intro v hv; exact h1 v (by simpa using hv))
theorem wr_mk {w w' : World} {base : Nat} {v : Value} {xs : List UInt8} (h : Wr base v xs w) (hm : Mk w w') : Wr base v xs w' := by
  obtain ⟨n, h1, h2 | ⟨g, off, c, cur, h2, h3, h4, h5, h6, h7⟩⟩ := h
  · exact ⟨n, h1, .inl h2⟩
  · exact ⟨n, h1, .inr ⟨g, off, c, cur, h2, h3, h4, h5, (hm.block g (Array.getElem?_eq_some_iff.1 h6).1).trans h6, h7⟩⟩
theorem wr_base {w : World} {base base' : Nat} {v : Value} {xs : List UInt8} (h : Wr base v xs w) (hb : base' ≤ base) : Wr base' v xs w := by
  obtain ⟨n, h1, h2 | ⟨g, off, c, cur, h2, h3, h4, h5, h6, h7⟩⟩ := h
  · exact ⟨n, h1, .inl h2⟩
  · exact ⟨n, h1, .inr ⟨g, off, c, cur, h2, h3, h4, by omega, h6, h7⟩⟩
theorem wr_keep {T : Nat → Prop} {w w' : World} {base : Nat} {v : Value} {xs : List UInt8} (h : Wr base v xs w) (hc : Chg T w w') (hn : ∀ k, v.ownBlock = some k → ¬ T k) : Wr base v xs w' := by
  obtain ⟨n, h1, h2 | ⟨g, off, c, cur, h2, h3, h4, h5, h6, h7⟩⟩ := h
  · exact ⟨n, h1, .inl h2⟩
  · exact ⟨n, h1, .inr ⟨g, off, c, cur, h2, h3, h4, h5, (hc.block g (Array.getElem?_eq_some_iff.1 h6).1 (hn g (by rw [h2]; rfl))).trans h6, h7⟩⟩
theorem wr_lt {w : World} {base : Nat} {v : Value} {xs : List UInt8} (h : Wr base v xs w) {k : Nat} (hk : v.ownBlock = some k) : base ≤ k ∧ k < w.heap.size := by
  obtain ⟨n, h1, ⟨rfl, _⟩ | ⟨g, off, c, cur, rfl, h3, h4, h5, h6, h7⟩⟩ := h
  · cases hk
  · cases hk; exact ⟨h5, (Array.getElem?_eq_some_iff.1 h6).1⟩
theorem own_setRow {w : World} {base n g : Nat} {v : Value} {xs : List Value} {t : TypeId} {cs : Array Value} (h : w.ownsRow base 5 1 v n xs) (hb : Bk w g t cs) (ht : t ≠ 5) (cs' : Array Value) : (w.setRow g cs').ownsRow base 5 1 v n xs := by
  refine own_keep h (chg_setRow w g cs') fun k hk e => ?_
  obtain rfl : k = g := e
  rcases h.2 with ⟨rfl, _⟩ | ⟨g, cap, cur, rfl, h1, h2, _⟩
  · cases hk
  · cases hk; exact ht (Bk.uniq hb h2).1
theorem wr_setRow {w : World} {base g : Nat} {v : Value} {xs : List UInt8} {t : TypeId} {cs : Array Value} (h : Wr base v xs w) (hb : Bk w g t cs) (ht : t ≠ 5) (cs' : Array Value) : Wr base v xs (w.setRow g cs') := by
  refine wr_keep h (chg_setRow w g cs') fun k hk e => ?_
  obtain rfl : k = g := e
  obtain ⟨n, h1, ⟨rfl, _⟩ | ⟨g, off, c, cur, rfl, h3, h4, h5, h6, h7⟩⟩ := h
  · cases hk
  · cases hk; exact ht (Bk.uniq hb h6).1
theorem Hd.mk {w w' : World} {base : Nat} {xs : List UInt8} {cs : Array Value} (h : Hd base xs cs w) (hm : Mk w w') : Hd base xs cs w' := by
  unfold Hd at *
  split
  · trivial
  · rename_i he
    rw [he] at h
    obtain ⟨u, v, h1, h2, h3, h4⟩ := h
    exact ⟨u, v, h1, own_mk h2 hm, wr_mk h3 hm, h4⟩
theorem wpList_load_row {P : Program} {w : World} {ops : Array Oper} {rest : List Oper} {o : Oper} {a : Act} {Q : Exit → Act → World → Prop} (hgd : o.guard = none) (ty : TypeId) (x : Operand) (ho : o.op = .load ty x)
    (g : Nat) (hx : a.eval x = .pointer (some ⟨g, 0, none⟩)) (v : Value) (hrun : (loadVar ty ⟨g, 0, none⟩).run P w = .ok v w)
    (h : wpList P ops Q rest (a.put o.dst v) w) : wpList P ops Q (o :: rest) a w := by
  refine wpList_plain hgd fun K hK => ?_
  unfold Oper.wp
  simp only [execOp, ho, hx, Instr.loadAt, Instr.sureAddr, Sem.run_bind, Sem.run_pure, Result.andThen_ok, hrun]
  exact hK _ _ h
theorem results_open {tmps : Array Value} {w : World} {g : Nat} {v2 v3 v v5 : Value} (h2 : tmps.getD 2 undef = v2) (h3 : tmps.getD 3 undef = v3) (h4 : tmps.getD 4 undef = .pointer (some ⟨g, 0, none⟩)) (h5 : tmps.getD 5 undef = v5)
    (hb : (loadVar 46 ⟨g, 0, none⟩).run Try.prog w = .ok v w) : (results Try.f53 tmps).run Try.prog w = .ok (.tuple #[v2, v3, v, v5]) w := by
  have h2' : tmps[2]?.getD undef = v2 := by simpa using h2
  have h3' : tmps[3]?.getD undef = v3 := by simpa using h3
  have h4' : tmps[4]?.getD undef = .pointer (some ⟨g, 0, none⟩) := by simpa using h4
  have h5' : tmps[5]?.getD undef = v5 := by simpa using h5
  simp [results, show Try.f53.results = #[.tmp 2, .tmp 3, .cell 4 46, .tmp 5] from rfl, h2', h3', h4', h5', asAddr, hb]
theorem open_end {R : Ending → World → Prop} {a : Act} {w : World} {g : Nat} {v2 v3 v v5 : Value} (h2 : a.tmps.getD 2 undef = v2) (h3 : a.tmps.getD 3 undef = v3) (h4 : a.tmps.getD 4 undef = .pointer (some ⟨g, 0, none⟩)) (h5 : a.tmps.getD 5 undef = v5)
    (hd : a.defers = []) (hb : (loadVar 46 ⟨g, 0, none⟩).run Try.prog w = .ok v w) (hR : R (.returned (.tuple #[v2, v3, v, v5])) w) : Exit.noGoto (bodyPostM Fence.wide 0 Try.prog Try.f53 R) .ret a w := by
  obtain ⟨tmps, defers⟩ := a
  subst hd
  exact ⟨_, results_open h2 h3 h4 h5 hb, hR⟩
theorem load46 {w : World} {g : Nat} {v : Value} (h : Bk w g 46 #[v]) : (loadVar 46 ⟨g, 0, none⟩).run Try.prog w = .ok v w := by
  have hc : w.cell? ⟨g, 0, none⟩ = some v := (h.cell 0).trans rfl
  go_simp
theorem OpenPost.err {S : Nat → Prop} {w w' : World} {p : Nat} {st : St} {n : Int} (ho : openP st = (st, .inl n)) (hm : Mk w w') (h : PD S w p st) : OpenPost S w p st (.returned (.tuple #[.pointer none, .slice none 0 0, .slice none 0 0, .int .i64 n])) w' := by
  unfold OpenPost
  rw [ho]
  exact ⟨h.made hm, Chg.of_mk hm, rfl⟩
-- LEM
/-- How things stand while the records are gathered. -/
structure Ol (wL W : World) (g4 g12 : Nat) (brk : Bool) (rv : Value) (ds : List (List UInt8)) (vs : List Value) : Prop where
  made : Chg (fun k => k = g4 ∨ k = g12) wL W
  b4 : Bk W g4 46 #[rv]
  b12 : Bk W g12 4 #[.bool brk]
  own : W.ownsRow wL.heap.size 22 1 rv ds.length vs
  enc : EncR W wL.heap.size ds vs
  one : ∀ v ∈ vs, v.oneCell' = true
theorem own_other {W W' : World} {row : Option Nat} (hg : W.grownBy W' row) (hr : ∀ r, row = some r → ∃ o : Obj, W.heap[r]? = some o ∧ o.isCells = false) {base : Nat} {e : TypeId} {size n : Nat} {v : Value} {xs : List Value} (h : W.ownsRow base e size v n xs) : W'.ownsRow base e size v n xs := by
  refine World.ownsRow.kept h hg ?_
  rcases h.2 with ⟨hv, _⟩ | ⟨g, cap, cur, hv, _, hgg, _⟩
  · rw [hv]; exact .inl rfl
  · refine .inr fun e => ?_
    rw [hv] at e
    obtain ⟨o, ho, hc⟩ := hr g e.symm
    rw [hgg] at ho
    cases ho
    cases hc
theorem Bk.other' {W W' : World} {row : Option Nat} {b : Nat} {t : TypeId} {cs : Array Value} (hg : W.grownBy W' row) (hr : ∀ r, row = some r → ∃ o : Obj, W.heap[r]? = some o ∧ o.isCells = false) (h : Bk W b t cs) : Bk W' b t cs := by
  refine (hg.block b h.lt fun e => ?_).trans h
  obtain ⟨o, ho, hc⟩ := hr b e.symm
  unfold Bk at h
  rw [h] at ho
  cases ho
  cases hc
theorem Ol.from {wL W W' : World} {g4 g12 : Nat} {brk : Bool} {rv : Value} {ds : List (List UInt8)} {vs : List Value} (h : Ol wL W g4 g12 brk rv ds vs) {row : Option Nat} (hg : W.grownBy W' row)
    (hr : ∀ r, row = some r → wL.heap.size ≤ r ∧ ∃ o : Obj, W.heap[r]? = some o ∧ o.isCells = false) : Ol wL W' g4 g12 brk rv ds vs :=
  ⟨Chg.thenGrown h.made hg fun x e => .inr (hr x e).1, Bk.other' hg (fun r e => (hr r e).2) h.b4, Bk.other' hg (fun r e => (hr r e).2) h.b12, own_other hg (fun r e => (hr r e).2) h.own,
    h.enc.keep fun v n xs => own_other hg fun r e => (hr r e).2, h.one⟩
theorem own_types {W : World} {b1 b2 n1 n2 s1 s2 : Nat} {e1 e2 : TypeId} {v1 v2 : Value} {xs ys : List Value} (h1 : W.ownsRow b1 e1 s1 v1 n1 xs) (h2 : W.ownsRow b2 e2 s2 v2 n2 ys) (hne : e1 ≠ e2) : v1.ownBlock = none ∨ v1.ownBlock ≠ v2.ownBlock := by
  rcases h1.2 with ⟨rfl, _⟩ | ⟨g, cap, cur, rfl, _, hh, _⟩
  · exact .inl rfl
  · refine .inr fun e => ?_
    rcases h2.2 with ⟨rfl, _⟩ | ⟨g', cap', cur', rfl, _, hh', _⟩
    · cases e
    · cases e
      rw [hh] at hh'
      cases hh'
      exact hne rfl
theorem Ol.add {wL W w2 : World} {g4 g12 : Nat} {rv v' dv : Value} {ds : List (List UInt8)} {vs : List Value} {dat1 : List UInt8} {o : Obj} (h : Ol wL W g4 g12 false rv ds vs) (hg4 : g4 < wL.heap.size) (hg12 : g12 < wL.heap.size) (hne : g12 ≠ g4)
    (hgr : (W.alloc o).grownBy w2 rv.ownBlock) (hown : w2.ownsRow wL.heap.size 22 1 v' (ds.length + 1) (vs ++ [dv])) (hd : W.ownsRow wL.heap.size 5 1 dv dat1.length (bv dat1)) (hdis : ∀ u ∈ vs, ∀ k, u.ownBlock = some k → dv.ownBlock ≠ some k) :
    Ol wL (w2.setCell ⟨g4, 0, none⟩ v') g4 g12 false v' (ds ++ [dat1]) (vs ++ [dv]) ∧ KeepsOthers W (w2.setCell ⟨g4, 0, none⟩ v') ∧ (∀ lo, g4 < lo → FrW.KpI lo wL.heap.size W (w2.setCell ⟨g4, 0, none⟩ v')) := by
  have hsz : wL.heap.size ≤ W.heap.size := h.made.size
  have hrow : ∀ r, rv.ownBlock = some r → wL.heap.size ≤ r := fun r hr => (h.own.lt r hr).1
  have kept : ∀ v n xs, W.ownsRow wL.heap.size 5 1 v n xs → (w2.setCell ⟨g4, 0, none⟩ v').ownsRow wL.heap.size 5 1 v n xs := fun v n xs hv =>
    ownsRow_setCell_below ((own_mk hv (mk_alloc W o)).kept hgr (own_types hv h.own (by decide))) hg4 _
  have b4 : Bk w2 g4 46 #[rv] := (hgr.block g4 (by simp; omega) fun e => by have := hrow g4 e.symm; omega).trans (h.b4.alloc o)
  have b12 : Bk w2 g12 4 #[.bool false] := (hgr.block g12 (by simp; omega) fun e => by have := hrow g12 e.symm; omega).trans (h.b12.alloc o)
  refine ⟨⟨?_, b4.set 0 v', b12.other _ hne, ?_, (h.enc.keep kept).snoc (kept _ _ _ hd) hdis, ?_⟩, ?_, ?_⟩
  · exact (Chg.thenGrown (Chg.thenMk h.made (mk_alloc W o)) hgr fun x e => .inr (hrow x e)).then (Chg.set _ w2 ⟨g4, 0, none⟩ v' (.inl (.inl rfl)))
  · have := ownsRow_setCell_below hown (a := ⟨g4, 0, none⟩) hg4 v'
    simpa using this
  · intro v hv
    rcases List.mem_append.1 hv with hv | hv
    · exact h.one v hv
    · obtain rfl := List.mem_singleton.1 hv; exact FrW.own_one hd
  · refine ((KeepsOthers.alloc W o).trans (KeepsOthers.of_grownBy hgr fun j ob e hj => ?_)).trans (KeepsOthers.setCell _ _ _)
    rcases (own_mk h.own (mk_alloc W o)).2 with ⟨hv, _⟩ | ⟨g, cap, cur, hv, _, hgg, _⟩
    · rw [hv] at e; cases e
    · rw [hv] at e; cases e
      rw [hgg] at hj; cases hj; rfl
  · intro lo hlo
    refine ⟨by have := hgr.size; simp at this ⊢; omega, fun k h1 h2 => ?_⟩
    have e1 : (w2.setCell ⟨g4, 0, none⟩ v').heap[k]? = w2.heap[k]? := Below.heap_setCell _ _ _ _ (by show k ≠ g4; omega)
    have e2 : w2.heap[k]? = (W.alloc o).heap[k]? := hgr.block k (by simp; omega) fun e => by have := hrow k e.symm; omega
    rw [e1, e2]
    exact (mk_alloc W o).block k (by omega)
theorem Ol.bad {wL W : World} {g4 g12 : Nat} {rv : Value} {b : Bool} {ds : List (List UInt8)} {vs : List Value} (h : Ol wL W g4 g12 b rv ds vs) (hg12 : g12 < wL.heap.size) (hne : g4 ≠ g12) :
    Ol wL (W.setCell ⟨g12, 0, none⟩ (.bool true)) g4 g12 true rv ds vs ∧ KeepsOthers W (W.setCell ⟨g12, 0, none⟩ (.bool true)) ∧ (∀ lo, g12 < lo → FrW.KpI lo wL.heap.size W (W.setCell ⟨g12, 0, none⟩ (.bool true))) := by
  refine ⟨⟨h.made.then (Chg.set _ W ⟨g12, 0, none⟩ (.bool true) (.inl (.inr rfl))), h.b4.other _ hne, h.b12.set 0 _, ownsRow_setCell_below h.own hg12 _, h.enc.keep fun v n xs hv => ownsRow_setCell_below hv hg12 _, h.one⟩, KeepsOthers.setCell _ _ _, fun lo hlo => ⟨by simp, fun k h1 h2 => ?_⟩⟩
  exact Below.heap_setCell _ _ _ _ (by show k ≠ g12; omega)
theorem info22 : (Try.prog.info? 22).map (fun i => (i.zero, i.size, i.bytes)) = some (some (.slice none 0 0), 1, 24) := by kernel_rfl
def IvP (wL : World) (g4 g12 : Nat) (brk : Bool) (pre : List FrW.Item) (W : World) : Prop :=
  ∃ b rv ds vs, Ol wL W g4 g12 b rv ds vs ∧ b = (brk || (pre.map FrW.key).any (fun f => f.1 != 2)) ∧ (b = false → ds = (pre.map FrW.key).map (·.2) ∧ vs = pre.map (·.2.2))
def IxP (wL : World) (g4 g12 : Nat) (brk : Bool) (ys : List UInt8) (cd : Code) (_ : List FrW.Item) (W : World) : Prop :=
  cd = .exit 1 ∧ ∃ rv ds vs, Ol wL W g4 g12 true rv ds vs ∧ (brk || (FrW.framesOf ys).any (fun f => f.1 != 2)) = true
theorem frames_count' (js : List UInt8) : (FrW.framesOf js).length ≤ js.length := by
  have h1 := FrW.wholeOf_le _ js (Nat.le_refl _)
  have h2 : ∀ l : List (UInt8 × List UInt8), l.length ≤ FrW.wholeOf l := by
    intro l
    induction l with
    | nil => simp
    | cons p l ih => simp [FrW.wholeOf]; omega
  exact Nat.le_trans (h2 _) h1
theorem open_endD {R : Ending → World → Prop} {tmps : Array Value} {w : World} {D g : Nat} {v2 v3 v v5 : Value} (h2 : tmps.getD 2 undef = v2) (h3 : tmps.getD 3 undef = v3) (h4 : tmps.getD 4 undef = .pointer (some ⟨g, 0, none⟩)) (h5 : tmps.getD 5 undef = v5)
    (hK : w.heap[D]? = some (.deferred (some []))) (hb : Bk w g 46 #[v]) (hR : R (.returned (.tuple #[v2, v3, v, v5])) (w.putObj D (.deferred none))) :
    Exit.noGoto (bodyPostM Fence.wide 0 Try.prog Try.f53 R) .ret { tmps := tmps, defers := [{ target := .collected D, args := #[] }] } w := by
  have hb' : Bk (w.putObj D (.deferred none)) g 46 #[v] := (World.putObj_heap_other (fun e => by subst e; unfold Bk at hb; rw [hb] at hK; cases hK)).trans hb
  show bodyPostM Fence.wide 0 Try.prog Try.f53 R .ret _ w
  refine ⟨by simp, .inl ⟨_, _, rfl, run_takeDeferred hK, ?_⟩⟩
  exact ⟨_, results_open h2 h3 h4 h5 (load46 hb'), hR⟩
theorem mk_putD {w W : World} {D : Nat} (h : Mk w W) (hD : w.heap.size ≤ D) (o : Obj) : Mk w (W.putObj D o) := h.grown (grownBy_putObj' W D o) h.size (fun k e => by cases e; exact hD)
theorem chg_putD {S : Nat → Prop} {w W : World} {D : Nat} (h : Chg S w W) (hD : w.heap.size ≤ D) (o : Obj) : Chg S w (W.putObj D o) := h.thenGrown (grownBy_putObj' W D o) (fun k e => by cases e; exact .inr hD)
theorem tail_any {xs : List UInt8} {k : UInt8} {d : List UInt8} {r : List (UInt8 × List UInt8)} {g c wh : Nat} {b : Bool} (h : FrW.framesOf xs = (k, d) :: r) (hw : FrW.wholeOf (FrW.framesOf xs) = wh) (hb : b = (decide (9223372036854775808 ≤ g) || decide (c < wh))) : brokenP g c (FrW.framesOf xs) = (b || r.any (fun f => f.1 != 2)) := by
  unfold brokenP
  rw [hw, hb, h]
  rfl
theorem own_slice {w : World} {base : Nat} {e : TypeId} {size : Nat} {v : Value} {n : Nat} {xs : List Value} (h : w.ownsRow base e size v n xs) : ∃ a m c, v = .slice a m c := by
  obtain ⟨a, cap, rfl, _, _⟩ := (own_sl h).form
  exact ⟨_, _, _, rfl⟩
theorem EncR.ge {W : World} {base : Nat} {ds : List (List UInt8)} {vs : List Value} (h : EncR W base ds vs) {dv : Value} (hd : dv ∈ vs) {k : Nat} (hk : dv.ownBlock = some k) : base ≤ k := by
  obtain ⟨i, hi, rfl⟩ := List.getElem_of_mem hd
  obtain ⟨d, hd⟩ : ∃ d, ds[i]? = some d := ⟨_, List.getElem?_eq_getElem (by rw [← h.1]; exact hi)⟩
  obtain ⟨dv, h1, h2⟩ := h.2.1 i d hd
  rw [List.getElem?_eq_getElem hi] at h1
  cases h1
  exact (h2.lt k hk).1
theorem EncR.base {W : World} {base base' : Nat} {ds : List (List UInt8)} {vs : List Value} (h : EncR W base ds vs) (hb : base' ≤ base) : EncR W base' ds vs :=
  ⟨h.1, fun i d hi => by obtain ⟨dv, h1, h2⟩ := h.2.1 i d hi; exact ⟨dv, h1, own_base h2 hb⟩, h.2.2⟩
theorem end_chg {w : World} {a g o D : Nat} {v : Value} {ob : Obj} (hg : a ≤ g) (hD : a ≤ D) : Chg (fun k => a ≤ k) w ((w.setCell ⟨g, o, none⟩ v).putObj D ob) :=
  Chg.trans (Chg.set (fun k => a ≤ k) w ⟨g, o, none⟩ v hg) (Chg.of_grown (S := fun k => a ≤ k) (grownBy_putObj' _ D ob) (fun k e _ => by cases e; exact hD)) (fun _ _ h => h)
theorem sAt_box {P : Program} {R : Value → World → Prop} {w : World} {cs : Array Value} {o : Oper} {a : Act} {ty : TypeId} {u : Operand} (ho : o.op = .box ty u) (hu : a.eval u = .agg cs)
    (h : R (.pointer (some ⟨w.heap.size, 0, none⟩)) (w.alloc (.cells cs ty))) : sAt P R ((execOp a.eval o).run P w) := by
  have e : (execOp a.eval o).run P w = .ok (.value (.pointer (some ⟨w.heap.size, 0, none⟩))) (w.alloc (.cells cs ty)) := by
    simp only [execOp, ho, hu]
    simp [go_sem, Value.cells]
  rw [e]
  exact h
theorem load169m {w : World} {g : Nat} {t : TypeId} {x y z a b c : Value} (h : Bk w g t #[x, y, z, a, b, c]) : (loadVar 169 ⟨g, 0, none⟩).run Try.prog w = .ok (.agg #[x, y, z]) w := by
  obtain ⟨d, h1, h2⟩ : ∃ d, Try.prog.underlying 169 = some d ∧ d.isRow = true := by
    have : (Try.prog.underlying 169).map (fun d => d.isRow) = some true := by kernel_rfl
    obtain ⟨d, h1, h2⟩ := Option.map_eq_some_iff.1 this
    exact ⟨d, h1, h2⟩
  refine run_loadVar_mid w g 0 169 [x, y, z] d (fun j v hj => ?_) h1 h2 info169
  rw [Nat.zero_add]
  have e := h.cell j
  rw [e]
  match j, hj with
  | 0, hj => simpa using hj
  | 1, hj => simpa using hj
  | 2, hj => simpa using hj
-- END
set_option maxHeartbeats 8000000 in
set_option maxRecDepth 100000 in
theorem open_any {S : Nat → Prop} {w : World} {p : Nat} {st : St} {M : Nat} (h : PD S w p st) (hok : st.Ok M) (hM : M < 999000) (hS : ∀ k, S k → k < w.heap.size) :
    Calls Try.prog 53 #[.pointer (some ⟨p, 0, none⟩)] w (OpenPost S w p st) := by
  have h0 := h.made (mk_alloc w (.cells #[.slice none 0 0] 46))
  have hal := alive_any h0
  have hb46 : Bk (w.alloc (.cells #[.slice none 0 0] 46)) w.heap.size 46 #[.slice none 0 0] := Bk.new _ _ _
  generalize hW0 : w.alloc (.cells #[.slice none 0 0] 46) = W0 at *
  have hm0 : Mk w W0 := by rw [← hW0]; exact mk_alloc _ _
  have hz0 : W0.heap.size = w.heap.size + 1 := by rw [← hW0]; simp
  cases hoff : st.off
  rotate_left
  · rw [hoff] at hal
    have l4 := hb46.frozen 0
    have l5 : W0.cell? ⟨w.heap.size, 0, none⟩ = some (.slice none 0 0) := (hb46.cell 0).trans rfl
    have ho : openP st = (st, .inl 40) := by unfold openP; rw [if_pos hoff]
    have H := Lib.hid h; have H0 := Lib.hid h0; have Hok := Lib.hid hok; have Hal := Lib.hid hal; have Hb46 := Lib.hid hb46; have Hm0 := Lib.hid hm0; have Hz0 := Lib.hid hz0; have Hoff := Lib.hid hoff; have HS := Lib.hid hS; have Ho := Lib.hid ho; clear h h0 hok hal hb46 hm0 hz0 hoff hS ho
    refine calls_of_marks Try.func53 rfl ?_; simp only [Try.ntmps53, List.size_toArray, List.length_cons, List.length_nil, Nat.reduceAdd, Nat.reduceSub, Array.replicate_succ, Array.replicate_zero, List.push_toArray, List.append_toArray, List.nil_append, List.cons_append]; go_wp2_with fail; go_step3
    go_wp2_with (first | (go_at_call 37; refine Hal.out.mono ?_; rintro e w' ⟨rfl, rfl⟩) | fail)
    refine open_end rfl rfl rfl rfl rfl (load46 (Hb46.out.set 0 _)) ?_
    exact OpenPost.err Ho.out (Hm0.out.setCell (Nat.le_refl _) _) H.out
  · rw [hoff] at hal
    have hlk := look_any h0 hok hoff 0 (by omega)
    have H := Lib.hid h; have H0 := Lib.hid h0; have Hok := Lib.hid hok; have Hal := Lib.hid hal; have Hb46 := Lib.hid hb46; have Hm0 := Lib.hid hm0; have Hz0 := Lib.hid hz0; have Hoff := Lib.hid hoff; have HS := Lib.hid hS; have Hlk := Lib.hid hlk; clear h h0 hok hal hb46 hm0 hz0 hoff hS hlk
    refine calls_of_marks Try.func53 rfl ?_; simp only [Try.ntmps53, List.size_toArray, List.length_cons, List.length_nil, Nat.reduceAdd, Nat.reduceSub, Array.replicate_succ, Array.replicate_zero, List.push_toArray, List.append_toArray, List.nil_append, List.cons_append]; go_wp2_with fail; go_step3
    go_wp2_with (first | (go_at_call 37; refine Hal.out.mono ?_; rintro e w' ⟨rfl, rfl⟩) | fail)
    refine Hlk.out.mono ?_
    intro e w1 hl
    obtain ⟨cs1, rfl, hm1, hs1, ho1, hd1⟩ := Lk.nf hl
    clear hl
    have hst := setH (Bk.new w1 171 zero6) rfl hs1 ho1
    obtain ⟨b1, hb1⟩ : ∃ b, (lookP (st.file 0).1).isSome = b := ⟨_, rfl⟩
    rw [hb1]
    have Hm1 := Lib.hid hm1; have Hs1 := Lib.hid hs1; have Ho1 := Lib.hid ho1; have Hd1 := Lib.hid hd1; have Hst := Lib.hid hst; have Hb1 := Lib.hid hb1; clear hm1 hs1 ho1 hd1 hst hb1
    go_wp2_with (first | (refine wpList_store_row rfl 171 (.tmp 6) (.tmp 21) rfl w1.heap.size rfl cs1 rfl Hst.out ?_) | fail)
    have hm2 : Mk w1 ((w1.alloc (.cells zero6 171)).setRow w1.heap.size cs1) := mk_setRow (mk_alloc _ _) (Nat.le_refl _) _
    have hx6 : Bk ((w1.alloc (.cells zero6 171)).setRow w1.heap.size cs1) w1.heap.size 171 cs1 := setRow_has _ _ _ _ _ (Bk.new w1 171 zero6)
    change Calls _ _ _ ((w1.alloc (.cells zero6 171)).setRow w1.heap.size cs1) _
    generalize (w1.alloc (.cells zero6 171)).setRow w1.heap.size cs1 = W2 at *
    have Hm2 := Lib.hid hm2; have Hx6 := Lib.hid hx6; clear hm2 hx6
    refine (look_any (H0.out.made (mk_trans Hm1.out Hm2.out)) Hok.out Hoff.out 1 (by omega)).mono ?_
    intro e w3 hl
    obtain ⟨cs2, rfl, hm3, hs2, ho2, hd2⟩ := Lk.nf hl
    clear hl
    have hst2 := setH (Bk.new w3 171 zero6) rfl hs2 ho2
    obtain ⟨b2, hb2⟩ : ∃ b, (lookP (st.file 1).1).isSome = b := ⟨_, rfl⟩
    rw [hb2]
    have Hm3 := Lib.hid hm3; have Hs2 := Lib.hid hs2; have Ho2 := Lib.hid ho2; have Hd2 := Lib.hid hd2; have Hst2 := Lib.hid hst2; have Hb2 := Lib.hid hb2; clear hm3 hs2 ho2 hd2 hst2 hb2
    go_upto_block 0 with (first | (refine wpList_store_row rfl 171 (.tmp 8) (.tmp 26) rfl w3.heap.size rfl cs2 rfl Hst2.out ?_) | fail)
    have hm4 : Mk w3 ((w3.alloc (.cells #[.int .u64 0, .int .i64 0, .int .i64 0, .slice none 0 0, .slice none 0 0, .int .i64 0] 171)).setRow w3.heap.size cs2) := mk_setRow (mk_alloc _ _) (Nat.le_refl _) _
    have hx8 : Bk ((w3.alloc (.cells #[.int .u64 0, .int .i64 0, .int .i64 0, .slice none 0 0, .slice none 0 0, .int .i64 0] 171)).setRow w3.heap.size cs2) w3.heap.size 171 cs2 := setRow_has _ _ _ _ _ (Bk.new w3 171 zero6)
    have hz4 : w3.heap.size < ((w3.alloc (.cells #[.int .u64 0, .int .i64 0, .int .i64 0, .slice none 0 0, .slice none 0 0, .int .i64 0] 171)).setRow w3.heap.size cs2).heap.size := hx8.lt
    generalize (w3.alloc (.cells #[.int .u64 0, .int .i64 0, .int .i64 0, .slice none 0 0, .slice none 0 0, .int .i64 0] 171)).setRow w3.heap.size cs2 = W4 at *
    have hx6' := Hx6.out.mk (mk_trans Hm3.out hm4)
    have hd1' := (Hd1.out.mk (mk_trans Hm2.out (mk_trans Hm3.out hm4)))
    have hd2' := (Hd2.out.mk hm4)
    have hz6 : w.heap.size < w1.heap.size := by have := Hm1.out.size; have := Hz0.out; omega
    have hz8 : w1.heap.size < w3.heap.size := by have := Hx6.out.lt; have := Hm3.out.size; omega
    have hmW : Mk w W4 := mk_trans Hm0.out (mk_trans Hm1.out (mk_trans Hm2.out (mk_trans Hm3.out hm4)))
    have h46' := Hb46.out.mk (mk_trans Hm1.out (mk_trans Hm2.out (mk_trans Hm3.out hm4)))
    have hb2w : W0.heap.size ≤ w3.heap.size := by have := Hm1.out.size; have := Hm2.out.size; have := Hm3.out.size; omega
    generalize hg6 : w1.heap.size = g6 at *
    generalize hg8 : w3.heap.size = g8 at *
    have hW2 : w.heap.size + 1 ≤ W2.heap.size := by have := Hm1.out.size; have := Hm2.out.size; have := Hz0.out; omega
    have Hx8 := Lib.hid hx8; have Hx6' := Lib.hid hx6'; have Hd1' := Lib.hid hd1'; have Hd2' := Lib.hid hd2'; have HmW := Lib.hid hmW; have H46' := Lib.hid h46'; have HW2 := Lib.hid hW2; clear hx8 hx6' hd1' hd2' hmW h46' hW2
    clear Hm1 Hm2 Hm3 hm4 Hd1 Hd2 Hst Hst2 Hx6 hg6 hg8
    go_cut [10] from 28 to 68 (fun s10 wc => ∃ (live : Nat) (hd : Hp) (cs : Array Value), s10 = .int .i64 (live : Int) ∧ chooseP (st.is 1) (lookP (st.file 0).1) (lookP (st.file 1).1) = .inr (live, hd) ∧
      Bk wc g6 171 cs ∧ Bk wc w.heap.size 46 #[.slice none 0 0] ∧ Mk w wc ∧ g8 < wc.heap.size ∧
      ∃ u v, cs = #[.int .u64 (hd.1 : Int), .int .i64 (hd.2.1 : Int), .int .i64 (hd.2.2.1 : Int), u, v, .int .i64 (hd.2.2.2.2 : Int)] ∧
      wc.ownsRow (w.heap.size + 1) 5 1 u (st.file live).1.length (bv (st.file live).1) ∧ Wr (w.heap.size + 1) v hd.2.2.2.1 wc ∧ (∀ k, u.ownBlock = some k → v.ownBlock = some k → False))
    case first =>
      have l4 := H46'.out.frozen 0
      have l5 : W4.cell? ⟨w.heap.size, 0, none⟩ = some (.slice none 0 0) := (H46'.out.cell 0).trans rfl
      have hsz := size_any 1 (H.out.made HmW.out)
      cases hi : st.is 1
      · rw [show st.size 1 = -1 by simp [St.size, hi]] at hsz
        have ho : openP st = (st, .inl 61) := by unfold openP; rw [if_neg (by rw [Hoff.out]; decide), hi]; rfl
        have Hsz := Lib.hid hsz; have Ho := Lib.hid ho; have Hi := Lib.hid hi; clear hsz ho hi
        go_wp2_with (first | (go_at_call 83; refine Hsz.out.mono ?_; rintro e w' ⟨rfl, rfl⟩) | fail)
        refine open_end rfl rfl rfl rfl rfl (load46 (Bk.set H46'.out 0 _)) ?_
        exact OpenPost.err Ho.out (HmW.out.setCell (Nat.le_refl _) _) H.out
      · rw [show st.size 1 = ((st.file 1).1.length : Int) by simp [St.size, hi]] at hsz
        generalize hl1 : (st.file 1).1.length = len1 at *
        rcases ha : lookP (st.file 0).1 with _ | ⟨ga, ca, sa, ta, na⟩
        · obtain rfl : false = b1 := by rw [← Hb1.out, ha]; rfl
          rcases hb : lookP (st.file 1).1 with _ | ⟨gb, cb, sb, tb, nb⟩
          · obtain rfl : false = b2 := by rw [← Hb2.out, hb]; rfl
            have ho : openP st = (st, .inl 61) := by unfold openP; rw [if_neg (by rw [Hoff.out]; decide), hi, ha, hb]; rfl
            have Hsz := Lib.hid hsz; have Ho := Lib.hid ho; have Hi := Lib.hid hi; have Ha := Lib.hid ha; have Hb := Lib.hid hb; clear hsz ho hi ha hb
            go_wp2_with (first | (go_at_call 83; refine Hsz.out.mono ?_; rintro e w' ⟨rfl, rfl⟩) | fail)
            refine open_end rfl rfl rfl rfl rfl (load46 (Bk.set H46'.out 0 _)) ?_
            exact OpenPost.err Ho.out (HmW.out.setCell (Nat.le_refl _) _) H.out
          · obtain rfl : true = b2 := by rw [← Hb2.out, hb]; rfl
            have ch : chooseP (st.is 1) (lookP (st.file 0).1) (lookP (st.file 1).1) = .inr (1, gb, cb, sb, tb, nb) := by rw [hi, ha, hb]; rfl
            have Hsz := Lib.hid hsz; have Hi := Lib.hid hi; have Ha := Lib.hid ha; have Hb := Lib.hid hb; have Ch := Lib.hid ch; clear hsz hi ha hb ch
            go_wp2_with (first | (go_at_call 83; refine Hsz.out.mono ?_; rintro e w' ⟨rfl, rfl⟩) | (refine wpList_load_row rfl 171 (.tmp 8) rfl g8 rfl (.agg cs2) (load171 Hx8.out Hs2.out) ?_) | (refine wpList_store_row rfl 171 (.tmp 6) (.tmp 69) rfl g6 rfl cs2 rfl (setH Hx6'.out Hs1.out Hs2.out Ho2.out) ?_) | fail)
            go_meet
            have hd := Hd2'.out
            unfold Hd at hd
            rw [Hb.out] at hd
            obtain ⟨u, v, rfl, o1, o2, o3⟩ := hd
            refine ⟨1, (gb, cb, sb, tb, nb), _, rfl, Ch.out, setRow_has _ _ _ _ _ Hx6'.out, Bk.keep H46'.out (chg_setRow _ _ _) (fun (e : w.heap.size = g6) => by omega), mk_setRow HmW.out (by omega) _, by simpa [World.setRow] using Hx8.out.lt, u, v, rfl, own_setRow (own_base o1 HW2.out) Hx6'.out (by decide) _, wr_setRow (wr_base o2 HW2.out) Hx6'.out (by decide) _, o3⟩
        · obtain rfl : true = b1 := by rw [← Hb1.out, ha]; rfl
          rcases hb : lookP (st.file 1).1 with _ | ⟨gb, cb, sb, tb, nb⟩
          · obtain rfl : false = b2 := by rw [← Hb2.out, hb]; rfl
            have ch : chooseP (st.is 1) (lookP (st.file 0).1) (lookP (st.file 1).1) = .inr (0, ga, ca, sa, ta, na) := by rw [hi, ha, hb]; rfl
            have Hsz := Lib.hid hsz; have Hi := Lib.hid hi; have Ha := Lib.hid ha; have Hb := Lib.hid hb; have Ch := Lib.hid ch; clear hsz hi ha hb ch
            go_wp2_with (first | (go_at_call 83; refine Hsz.out.mono ?_; rintro e w' ⟨rfl, rfl⟩) | fail)
            go_meet
            have hd := Hd1'.out
            unfold Hd at hd
            rw [Ha.out] at hd
            obtain ⟨u, v, rfl, o1, o2, o3⟩ := hd
            have h1 := Hz0.out
            exact ⟨0, (ga, ca, sa, ta, na), _, rfl, Ch.out, Hx6'.out, H46'.out, HmW.out, Hx8.out.lt, u, v, rfl, own_base o1 (by omega), wr_base o2 (by omega), o3⟩
          · obtain rfl : true = b2 := by rw [← Hb2.out, hb]; rfl
            have hc6 : W4.cell? ⟨g6, 0, none⟩ = some (.int .u64 (ga : Int)) := by
              have hd := Hd1'.out
              unfold Hd at hd
              rw [ha] at hd
              obtain ⟨u, v, e, _⟩ := hd
              have := Hx6'.out
              rw [e] at this
              exact (this.cell 0).trans rfl
            have hc8 : W4.cell? ⟨g8, 0, none⟩ = some (.int .u64 (gb : Int)) := by
              have hd := Hd2'.out
              unfold Hd at hd
              rw [hb] at hd
              obtain ⟨u, v, e, _⟩ := hd
              have := Hx8.out
              rw [e] at this
              exact (this.cell 0).trans rfl
            by_cases hg : ga = gb
            · have ho : openP st = (st, .inl 62) := by unfold openP; rw [if_neg (by rw [Hoff.out]; decide), hi, ha, hb]; simp [chooseP, hg]
              subst hg
              have Hsz := Lib.hid hsz; have Ho := Lib.hid ho; have Hi := Lib.hid hi; have Ha := Lib.hid ha; have Hb := Lib.hid hb; clear hsz ho hi ha hb
              go_wp2_with (first | (go_at_call 83; refine Hsz.out.mono ?_; rintro e w' ⟨rfl, rfl⟩) | fail)
              refine open_end rfl rfl rfl rfl rfl (load46 (Bk.set H46'.out 0 _)) ?_
              exact OpenPost.err Ho.out (HmW.out.setCell (Nat.le_refl _) _) H.out
            · have hg1 : ((ga : Int) == (gb : Int)) = false := by simp; omega
              by_cases hlt : ga < gb
              · have ch : chooseP (st.is 1) (lookP (st.file 0).1) (lookP (st.file 1).1) = .inr (1, gb, cb, sb, tb, nb) := by rw [hi, ha, hb]; simp [chooseP, hg, hlt]
                have hg2 : decide ((ga : Int) < (gb : Int)) = true := by simp; omega
                have Hsz := Lib.hid hsz; have Hi := Lib.hid hi; have Ha := Lib.hid ha; have Hb := Lib.hid hb; have Ch := Lib.hid ch; have Hg := Lib.hid hg; clear hsz hi ha hb ch hg
                go_wp2_with (first | (go_at_call 83; refine Hsz.out.mono ?_; rintro e w' ⟨rfl, rfl⟩) | (refine wpList_load_row rfl 171 (.tmp 8) rfl g8 rfl (.agg cs2) (load171 Hx8.out Hs2.out) ?_) | (refine wpList_store_row rfl 171 (.tmp 6) (.tmp 69) rfl g6 rfl cs2 rfl (setH Hx6'.out Hs1.out Hs2.out Ho2.out) ?_) | fail)
                go_meet
                have hd := Hd2'.out
                unfold Hd at hd
                rw [Hb.out] at hd
                obtain ⟨u, v, rfl, o1, o2, o3⟩ := hd
                refine ⟨1, (gb, cb, sb, tb, nb), _, rfl, Ch.out, setRow_has _ _ _ _ _ Hx6'.out, Bk.keep H46'.out (chg_setRow _ _ _) (fun (e : w.heap.size = g6) => by omega), mk_setRow HmW.out (by omega) _, by simpa [World.setRow] using Hx8.out.lt, u, v, rfl, own_setRow (own_base o1 HW2.out) Hx6'.out (by decide) _, wr_setRow (wr_base o2 HW2.out) Hx6'.out (by decide) _, o3⟩
              · have ch : chooseP (st.is 1) (lookP (st.file 0).1) (lookP (st.file 1).1) = .inr (0, ga, ca, sa, ta, na) := by rw [hi, ha, hb]; simp [chooseP, hg, hlt]
                have hg2 : decide ((ga : Int) < (gb : Int)) = false := by simp; omega
                have Hsz := Lib.hid hsz; have Hi := Lib.hid hi; have Ha := Lib.hid ha; have Hb := Lib.hid hb; have Ch := Lib.hid ch; have Hg := Lib.hid hg; clear hsz hi ha hb ch hg
                go_wp2_with (first | (go_at_call 83; refine Hsz.out.mono ?_; rintro e w' ⟨rfl, rfl⟩) | fail)
                go_meet
                have hd := Hd1'.out
                unfold Hd at hd
                rw [Ha.out] at hd
                obtain ⟨u, v, rfl, o1, o2, o3⟩ := hd
                have h1 := Hz0.out
                exact ⟨0, (ga, ca, sa, ta, na), _, rfl, Ch.out, Hx6'.out, H46'.out, HmW.out, Hx8.out.lt, u, v, rfl, own_base o1 (by omega), wr_base o2 (by omega), o3⟩
    case rest =>
      obtain ⟨live, ⟨g, c, s, state, n⟩, cs, rfl, ch, hb6, h46, hm, hg8, u, v, rfl, ho, hw, hdis⟩ := hcut
      obtain ⟨wd, hwd⟩ : ∃ x, x = wc := ⟨_, rfl⟩
      subst hwd
      obtain ⟨hi1, hlv⟩ := choose_live ch
      have hlk : lookP (st.file live).1 = some (g, c, s, state, n) := by rcases hlv with ⟨rfl, h⟩ | ⟨rfl, h⟩ <;> exact h
      have hlive : live ≤ 1 := by rcases hlv with ⟨rfl, h⟩ | ⟨rfl, h⟩ <;> omega
      obtain ⟨dat, hfr, hd24, rfl, hg0, hgl, hc1, hc2, hs1', hs2'⟩ := look_some hlk
      obtain ⟨hff, hnw, hfb⟩ := FrW.frames_behind hfr
      have hlen := FrW.frame_len hfr
      have hxl := (file_ok Hok.out live).2
      have hwl := FrW.wholeOf_le _ (st.file live).1 (Nat.le_refl _)
      have hop : openP st = (if brokenP g c (FrW.framesOf (st.file live).1) then (st, .inl 62) else
          if (cutP st live (FrW.wholeOf (FrW.framesOf (st.file live).1))).2 ≠ 0 then ((cutP st live (FrW.wholeOf (FrW.framesOf (st.file live).1))).1, .inl (cutP st live (FrW.wholeOf (FrW.framesOf (st.file live).1))).2) else
          ((cutP st live (FrW.wholeOf (FrW.framesOf (st.file live).1))).1, .inr ⟨live, g, c, s, dat.drop 24, (FrW.framesOf (st.file live).1).tail.map (·.2), FrW.wholeOf (FrW.framesOf (st.file live).1)⟩)) := by
        unfold openP
        rw [if_neg (by rw [Hoff.out]; decide), ch]
      generalize hxs : (st.file live).1 = xs at *
      generalize hwh : FrW.wholeOf (FrW.framesOf xs) = wh at *
      obtain ⟨ub, uc, hue, huc1, huc2, _, _⟩ := own_form ho (by omega)
      subst hue
      have hwa := FrW.whole_any wd _ xs (own_sl ho) (by omega)
      rw [hwh] at hwa
      have c0 : wd.cell? ⟨g6, 0, none⟩ = some (.int .u64 (g : Int)) := (hb6.cell 0).trans rfl
      have c1 : wd.cell? ⟨g6, 1, none⟩ = some (.int .i64 (c : Int)) := (hb6.cell 1).trans rfl
      have c3 : wd.cell? ⟨g6, 3, none⟩ = some (.slice (some ⟨ub, 0, none⟩) xs.length uc) := (hb6.cell 3).trans rfl
      have Ch := Lib.hid ch; have Hb6 := Lib.hid hb6; have H46 := Lib.hid h46; have Hm := Lib.hid hm; have Ho := Lib.hid ho; have Hw := Lib.hid hw; have Hdis := Lib.hid hdis; have Hlv := Lib.hid hlv; have Hlk := Lib.hid hlk; have Hfr := Lib.hid hfr; have Hff := Lib.hid hff; have Hfb := Lib.hid hfb; have Hop := Lib.hid hop; have Hxs := Lib.hid hxs; have Hwh := Lib.hid hwh; have Hwa := Lib.hid hwa; have Hi1 := Lib.hid hi1; have Hlen := Lib.hid hlen; clear ch hb6 h46 hm ho hw hdis hlv hlk hfr hff hfb hop hxs hwh hwa hi1 hlen
      go_wp2_with fail
      refine Hwa.out.mono ?_
      rintro e w5 ⟨rfl, hm5⟩
      dsimp only
      have d0 := (hm5.cell (p := ⟨g6, 0, none⟩) Hb6.out.lt).trans c0
      have d1 := (hm5.cell (p := ⟨g6, 1, none⟩) Hb6.out.lt).trans c1
      have d3 := (hm5.cell (p := ⟨g6, 3, none⟩) Hb6.out.lt).trans c3
      have d5 : w5.cell? ⟨g6, 5, none⟩ = some (.int .i64 (n : Int)) := (hm5.cell (p := ⟨g6, 5, none⟩) Hb6.out.lt).trans ((Hb6.out.cell 5).trans rfl)
      clear c0 c1 c3
      have Hm5 := Lib.hid hm5; clear hm5
      go_upto_region 13 with fail
      go_cut [12] from 73 to 83 (fun s12 wx => ∃ (brk : Bool) (g12 : Nat), s12 = .pointer (some ⟨g12, 0, none⟩) ∧ Bk wx g12 4 #[.bool brk] ∧ Mk w5 wx ∧ w5.heap.size ≤ g12 ∧ brk = (decide (9223372036854775808 ≤ g) || decide (c < wh)))
      case first =>
        have q1 := @qAt_value Try.prog
        by_cases e1 : 9223372036854775808 ≤ g
        · have e2 : decide ((9223372036854775808 : Int) ≤ (g : Int)) = true := by simp; omega
          go_wp2_with fail
          go_meet
          exact ⟨true, w5.heap.size, rfl, Bk.new _ _ _, mk_alloc _ _, Nat.le_refl _, by simp [e1]⟩
        · have e2 : decide ((9223372036854775808 : Int) ≤ (g : Int)) = false := by simp; omega
          by_cases e3 : c < wh
          · have e4 : decide ((c : Int) < (wh : Int)) = true := by simp; omega
            go_wp2_with fail
            go_meet
            exact ⟨true, w5.heap.size, rfl, Bk.new _ _ _, mk_alloc _ _, Nat.le_refl _, by simp [e3]⟩
          · have e4 : decide ((c : Int) < (wh : Int)) = false := by simp; omega
            go_wp2_with fail
            go_meet
            exact ⟨false, w5.heap.size, rfl, Bk.new _ _ _, mk_alloc _ _, Nat.le_refl _, by simp [e1, e3]⟩
      case rest =>
        obtain ⟨brk, g12, rfl, hb12, hm6, hg12, hbrk⟩ := hcut
        have f0 := (hm6.cell (p := ⟨g6, 0, none⟩) (by have := Hb6.out.lt; have := Hm5.out.size; show g6 < _; omega)).trans d0
        have f3 := (hm6.cell (p := ⟨g6, 3, none⟩) (by have := Hb6.out.lt; have := Hm5.out.size; show g6 < _; omega)).trans d3
        have f5 := (hm6.cell (p := ⟨g6, 5, none⟩) (by have := Hb6.out.lt; have := Hm5.out.size; show g6 < _; omega)).trans d5
        clear d0 d1 d3 d5
        obtain ⟨o14, hif, ho14⟩ : ∃ o, (if uc = n then some (⟨ub, 0, none⟩ : Addr) else some ⟨ub, n, none⟩) = some ⟨ub, o, none⟩ ∧ (o = n ∨ xs.length = n ∧ o = 0) := by
          have := Hlen.out
          by_cases hd : uc = n
          · exact ⟨0, by rw [if_pos hd], .inr ⟨by omega, rfl⟩⟩
          · exact ⟨n, by rw [if_neg hd], .inl rfl⟩
        have hbh : Bs wd (.slice (some ⟨ub, o14, none⟩) (wh - n) (uc - n)) ((xs.take wh).drop n) := by
          rcases ho14 with rfl | ⟨h1, rfl⟩
          · exact FrW.sub_some (own_sl Ho.out) rfl o14 wh (wh - o14) (uc - o14) o14 (by omega) (by omega) rfl (by omega) (by omega) (by omega)
          · have h2 : wh = n := by omega
            rw [h2, Nat.sub_self, show (xs.take n).drop n = [] by simp]
            exact FrW.bs_nil (fun h => by cases h) (by omega)
        have hsc := FrW.scan_any wc _ _ (hbh.mk (mk_trans Hm5.out hm6)) (by simp; omega)
        have Hb12 := Lib.hid hb12; have Hm6 := Lib.hid hm6; have Hbrk := Lib.hid hbrk; have Hsc := Lib.hid hsc; have Hbh := Lib.hid hbh; clear hb12 hm6 hbrk hsc hbh
        clear ho14
        go_wp2_with fail
        go_step3
        go_wp2_with fail
        refine Hsc.out.mono ?_
        rintro e wL ⟨gb, v1, rfl, hcl, hbs, hgb, hob, hmL⟩
        dsimp only
        have hfy : FrW.framesOf ((xs.take wh).drop n) = FrW.framesOf (xs.drop n) := Hfb.out
        have hyl : ((xs.take wh).drop n).length ≤ 16777216 := by simp; omega
        generalize hys : (xs.take wh).drop n = ys at *
        have hzL : wc.heap.size ≤ wL.heap.size := hmL.size
        have hz5 : wd.heap.size ≤ w5.heap.size := Hm5.out.size
        have hz6 : w5.heap.size ≤ wc.heap.size := Hm6.out.size
        have hzd : w.heap.size < wd.heap.size := by have := Hm.out.size; omega
        have hg12' : g12 < wc.heap.size := Hb12.out.lt
        have hol : Ol wL wL w.heap.size g12 brk (.slice none 0 0) [] [] :=
          ⟨Chg.refl _ _, H46.out.mk (mk_trans Hm5.out (mk_trans Hm6.out hmL)), Hb12.out.mk hmL, World.ownsRow_nil _ _ _ _, EncR.nil _ _, fun v h => by cases h⟩
        have Hcl := Lib.hid hcl; have Hbs := Lib.hid hbs; have Hgb := Lib.hid hgb; have Hob := Lib.hid hob; have HmL := Lib.hid hmL; have Hfy := Lib.hid hfy; have Hys := Lib.hid hys; have Hol := Lib.hid hol; clear hcl hbs hgb hob hmL hfy hys hol
        clear f0 f3 f5 hif
        go_wp2_with fail
        refine wp_range (gf := 82) (lb := #[.pointer (some ⟨gb, 0, none⟩)]) rfl (enters_of Try.func82 (by kernel_rfl) rfl)
          (FrW.scan2_seq wL gb wc.heap.size wL.heap.size v1 ys Hcl.out Hbs.out Hgb.out Hob.out (Nat.le_refl _) (by omega)) (fun h k => h.trans k)
          (fun W l o hl => ⟨by simp, fun k _ h2 => World.putObj_heap_other (by omega)⟩) (fun _ => rfl) (FrW.own_from _)
          (IvP wL w.heap.size g12 brk) (IxP wL w.heap.size g12 brk ys)
          (fun s W W' row hs hg hr => by obtain ⟨b, rv, ds, vs, h1, h2⟩ := hs; exact ⟨b, rv, ds, vs, h1.from hg hr, h2⟩)
          (fun cd s W W' row hs hg hr => by obtain ⟨h0, rv, ds, vs, h1, h2⟩ := hs; exact ⟨h0, rv, ds, vs, h1.from hg hr, h2⟩)
          ⟨brk, _, [], [], Hol.out, by simp, fun _ => ⟨rfl, rfl⟩⟩ ?act ?assign ?body ?done ?stop
        case assign =>
          intro l x W K hK
          simp only [FrW.encI]
          gi_wp2
          exact hK
        case body =>
          rintro l pre ⟨k, dat1, dv⟩ W hiv hnx hgi
          obtain ⟨b, rv, ds, vs, hO, hb, hgood⟩ := hiv
          dsimp only at hgi ⊢
          obtain ⟨hnx1, hnx2⟩ := hnx
          have hgi' : W.ownsRow wL.heap.size 5 1 dv dat1.length (bv dat1) := own_base hgi (by omega)
          obtain ⟨da, dc, hdv, _, _⟩ := (own_sl hgi').form
          subst hdv
          have c12 : W.cell? ⟨g12, 0, none⟩ = some (.bool b) := (hO.b12.cell 0).trans rfl
          have f12 := hO.b12.frozen 0
          have c4 : W.cell? ⟨w.heap.size, 0, none⟩ = some rv := (hO.b4.cell 0).trans rfl
          have f4 := hO.b4.frozen 0
          cases b
          · obtain ⟨rfl, rfl⟩ := hgood rfl
            by_cases hk2 : k = 2
            · subst hk2
              have hpl : pre.length < 16777217 := by
                have h1 := frames_count' ys
                have h2 := hnx1.length_le
                simp at h2
                omega
              obtain ⟨i0, j0, j1, j2, j3⟩ := FrW.info_of info22
              have HO := Lib.hid hO; have Hb := Lib.hid hb; have Hnx1 := Lib.hid hnx1; have Hnx2 := Lib.hid hnx2; have Hgi := Lib.hid hgi; have Hgi' := Lib.hid hgi'; have J0 := Lib.hid j0; have J1 := Lib.hid j1; have J2 := Lib.hid j2; have J3 := Lib.hid j3; clear hO hb hnx1 hnx2 hgi hgi' j0 j1 j2 j3
              clear hgood
              gi_wp2_with (first | (gi_at_builtin; refine wpListIn_append_own _ rfl (.tmp 93) (.tmp 95) 46 rfl wL.heap.size 22 i0 (.slice none 0 0) 1 24 Try.underlying46 J0.out J1.out J2.out J3.out rfl (by decide) rv _ _ rfl (own_mk HO.out.own (mk_alloc W _)) ⟨W.heap.size, 0, none⟩ 1 1 [.slice da dat1.length dc] rfl rfl ?c1 ?c2 ?c3 ?c4 ?c5 ?_) | fail)
              case c2 => rfl
              case c3 => unfold maxLen; omega
              case c4 => omega
              case c5 => have := HO.out.made.size; omega
              intro v' w9 ho9 hg9 _
              obtain ⟨rg, rc, rfl, _, _, _, _⟩ := own_form ho9 (by omega)
              have b4n : Bk w9 w.heap.size 46 #[rv] := (hg9.block w.heap.size (by have := HO.out.b4.lt; simp; omega) fun e => by have := (HO.out.own.lt _ e.symm).1; omega).trans (HO.out.b4.alloc _)
              have c4n : w9.cell? ⟨w.heap.size, 0, none⟩ = some rv := (b4n.cell 0).trans rfl
              have f4n := b4n.frozen 0
              have Ho9 := Lib.hid ho9; have Hg9 := Lib.hid hg9; clear ho9 hg9
              clear c4 f4
              gi_wp2
              obtain ⟨k1, k2, k3⟩ := Ol.add (dat1 := dat1) (v' := .slice (some ⟨rg, 0, none⟩) (pre.length + 1) rc) HO.out (by omega) (by omega) (show g12 ≠ w.heap.size by omega) Hg9.out (by simpa using Ho9.out) Hgi'.out (fun y hy k hk => by
                obtain ⟨z, hz, rfl⟩ := List.mem_map.1 hy
                exact Hnx2.out z hz k hk)
              refine ⟨k2, k3 _ (by omega), false, _, _, _, k1, ?_, fun _ => ⟨by simp [FrW.key], by simp⟩⟩
              have := Hb.out
              rw [List.map_append, List.any_append, ← Bool.or_assoc, ← this]
              rfl
            · have hkk : ((k.toNat : Int) != 2) = true := by
                have : ¬ k.toNat = 2 := fun h => hk2 (UInt8.toNat_inj.1 h)
                simp; omega
              have HO := Lib.hid hO; have Hb := Lib.hid hb; have Hnx1 := Lib.hid hnx1; have Hnx2 := Lib.hid hnx2; have Hgi := Lib.hid hgi; have Hgi' := Lib.hid hgi'; have Hk2 := Lib.hid hk2; clear hO hb hnx1 hnx2 hgi hgi' hk2
              clear hgood
              gi_wp2
              obtain ⟨k1, k2, k3⟩ := Ol.bad HO.out (by omega) (show w.heap.size ≠ g12 by omega)
              refine ⟨k2, k3 _ (by omega), true, rv, _, _, k1, ?_, fun h => by cases h⟩
              have := Hk2.out
              simp [FrW.key, this]
          · have HO := Lib.hid hO; have Hb := Lib.hid hb; have Hnx1 := Lib.hid hnx1; have Hnx2 := Lib.hid hnx2; have Hgi := Lib.hid hgi; have Hgi' := Lib.hid hgi'; clear hO hb hnx1 hnx2 hgi hgi'
            clear hgood
            gi_wp2
            refine ⟨KeepsOthers.refl _, rfl, rv, ds, vs, HO.out, ?_⟩
            obtain ⟨rest, hrest⟩ := Hnx1.out
            rw [← hrest]
            cases brk
            · have h1 : (pre.map FrW.key).any (fun f => f.1 != 2) = true := by simpa only [Bool.false_or] using Hb.out.symm
              rw [Bool.false_or, List.any_append, List.any_append, h1]; rfl
            · rfl
        case done =>
          intro D ys1 W hD hS1 hiv hK
          obtain ⟨b, rv, ds, vs, hO, hb, hgood⟩ := hiv
          rw [hS1] at hb
          cases b
          · have hgood' := hgood rfl
            obtain ⟨hd1, hd2⟩ := hgood'
            rw [hS1] at hd1
            have hop2 : openP st = (if (cutP st live wh).2 ≠ 0 then ((cutP st live wh).1, .inl (cutP st live wh).2) else ((cutP st live wh).1, .inr ⟨live, g, c, s, dat.drop 24, ds, wh⟩)) := by
              rw [Hop.out, tail_any Hff.out Hwh.out Hbrk.out, ← Hfy.out, ← hb, hd1, Hfy.out, Hff.out]; rfl
            have hmk : Mk w W := (Chg.trans (Chg.of_mk (mk_trans Hm.out (mk_trans Hm5.out (mk_trans Hm6.out HmL.out)))) hO.made (fun x hx e => e)).to_mk (fun x hx e => by rcases e with e | e <;> omega)
            have hpd := H.out.made hmk
            have hg6W : Bk W g6 171 #[.int .u64 (g : Int), .int .i64 (c : Int), .int .i64 (s : Int), .slice (some ⟨ub, 0, none⟩) xs.length uc, v, .int .i64 (n : Int)] :=
              (Hb6.out.mk (mk_trans Hm5.out (mk_trans Hm6.out HmL.out))).keep hO.made (fun e => by have := Hb6.out.lt; rcases e with e | e <;> omega)
            have c12 : W.cell? ⟨g12, 0, none⟩ = some (.bool false) := (hO.b12.cell 0).trans rfl
            have c63 : W.cell? ⟨g6, 3, none⟩ = some (.slice (some ⟨ub, 0, none⟩) xs.length uc) := (hg6W.cell 3).trans rfl
            clear hgood hS1 hb hd1
            have HO := Lib.hid hO; have Hmk := Lib.hid hmk; have Hop2 := Lib.hid hop2; have HK := Lib.hid hK; have Hpd := Lib.hid hpd; have Hg6W := Lib.hid hg6W; have Hd2 := Lib.hid hd2; clear hO hmk hop2 hK hpd hg6W hd2
            go_upto_region 23 with fail
            go_cut [128] from 103 to 127 (fun s128 wx => s128 = .bool (decide ((cutP st live wh).2 ≠ 0)) ∧ PD S wx p (cutP st live wh).1 ∧ Chg S W wx)
            case first =>
              by_cases hA : wh < xs.length
              · have hA2 : decide ((wh : Int) < (xs.length : Int)) = true := by simp; omega
                go_wp2_with fail
                refine (truncate_any Hpd.out Hok.out (by omega) (live : Int) (wh : Int)).mono ?_
                rintro e w1' ⟨rfl, hp1, hc1⟩
                by_cases he1 : (st.truncate live wh).2 = 0
                · rw [he1]
                  have htt : (if wh < (st.file live).1.length then st.truncate live wh else (st, 0)) = ((st.truncate live wh).1, 0) := by rw [Hxs.out, if_pos hA, ← he1]
                  have hok1 := truncate_ok Hok.out (live : Int) (wh : Int)
                  have Hp1 := Lib.hid hp1; have Hc1 := Lib.hid hc1; have He1 := Lib.hid he1; have Htt := Lib.hid htt; have Hok1 := Lib.hid hok1; clear hp1 hc1 he1 htt hok1
                  go_wp2_with fail
                  refine (size_any (1 - (live : Int)) Hp1.out).mono ?_
                  rintro e w' ⟨rfl, rfl⟩
                  by_cases hB : 0 < ((st.truncate live wh).1).size (1 - (live : Int))
                  · have hB2 : decide (0 < ((st.truncate live wh).1).size (1 - (live : Int))) = true := by simpa using hB
                    generalize hsz : ((st.truncate live wh).1).size (1 - (live : Int)) = sz at *
                    have Hsz := Lib.hid hsz; clear hsz
                    go_wp2_with fail
                    refine (truncate_any Hp1.out Hok1.out (by omega) (1 - (live : Int)) 0).mono ?_
                    rintro e w2 ⟨rfl, hp2, hc2⟩
                    have hcut := cutP_c Htt.out (by rw [Hsz.out]; exact hB)
                    by_cases he2 : (((st.truncate live wh).1).truncate (1 - (live : Int)) 0).2 = 0
                    · rw [he2]
                      have Hp2 := Lib.hid hp2; have Hc2 := Lib.hid hc2; have Hcut := Lib.hid hcut; have He2 := Lib.hid he2; clear hp2 hc2 hcut he2
                      go_wp2_with fail
                      go_meet
                      refine ⟨by rw [Hcut.out]; simp [He2.out], by rw [Hcut.out]; exact Hp2.out, Chg.trans Hc1.out Hc2.out (fun _ _ h => h)⟩
                    · have he3 : ((((st.truncate live wh).1).truncate (1 - (live : Int)) 0).2 != 0) = true := by simpa using he2
                      generalize hev : (((st.truncate live wh).1).truncate (1 - (live : Int)) 0).2 = ev at *
                      have Hp2 := Lib.hid hp2; have Hc2 := Lib.hid hc2; have Hcut := Lib.hid hcut; have He2 := Lib.hid he2; have Hev := Lib.hid hev; clear hp2 hc2 hcut he2 hev
                      go_wp2_with fail
                      go_meet
                      refine ⟨by rw [Hcut.out]; simp [Hev.out, He2.out], by rw [Hcut.out]; exact Hp2.out, Chg.trans Hc1.out Hc2.out (fun _ _ h => h)⟩
                  · have hB2 : decide (0 < ((st.truncate live wh).1).size (1 - (live : Int))) = false := by simpa using hB
                    have hcut := cutP_b Htt.out hB
                    generalize hsz : ((st.truncate live wh).1).size (1 - (live : Int)) = sz at *
                    have Hsz := Lib.hid hsz; have Hcut := Lib.hid hcut; clear hsz hcut
                    go_wp2_with fail
                    go_meet
                    refine ⟨by rw [Hcut.out]; simp, by rw [Hcut.out]; exact Hp1.out, Hc1.out⟩
                · have he3 : ((st.truncate live wh).2 != 0) = true := by simpa using he1
                  have hcut := cutP_a (by rw [Hxs.out]; exact hA) he1
                  generalize hev : (st.truncate live wh).2 = ev at *
                  have Hp1 := Lib.hid hp1; have Hc1 := Lib.hid hc1; have Hcut := Lib.hid hcut; have He1 := Lib.hid he1; have Hev := Lib.hid hev; clear hp1 hc1 hcut he1 hev
                  go_wp2_with fail
                  go_meet
                  refine ⟨by rw [Hcut.out]; simp, by rw [Hcut.out]; exact Hp1.out, Hc1.out⟩
              · have hA2 : decide ((wh : Int) < (xs.length : Int)) = false := by simp; omega
                have htt : (if wh < (st.file live).1.length then st.truncate live wh else (st, 0)) = (st, 0) := by rw [Hxs.out, if_neg hA]
                have Htt := Lib.hid htt; clear htt
                go_wp2_with fail
                refine (size_any (1 - (live : Int)) Hpd.out).mono ?_
                rintro e w' ⟨rfl, rfl⟩
                by_cases hB : 0 < (st).size (1 - (live : Int))
                · have hB2 : decide (0 < (st).size (1 - (live : Int))) = true := by simpa using hB
                  generalize hsz : (st).size (1 - (live : Int)) = sz at *
                  have Hsz := Lib.hid hsz; clear hsz
                  go_wp2_with fail
                  refine (truncate_any Hpd.out Hok.out (by omega) (1 - (live : Int)) 0).mono ?_
                  rintro e w2 ⟨rfl, hp2, hc2⟩
                  have hcut := cutP_c Htt.out (by rw [Hsz.out]; exact hB)
                  by_cases he2 : ((st).truncate (1 - (live : Int)) 0).2 = 0
                  · rw [he2]
                    have Hp2 := Lib.hid hp2; have Hc2 := Lib.hid hc2; have Hcut := Lib.hid hcut; have He2 := Lib.hid he2; clear hp2 hc2 hcut he2
                    go_wp2_with fail
                    go_meet
                    refine ⟨by rw [Hcut.out]; simp [He2.out], by rw [Hcut.out]; exact Hp2.out, Hc2.out⟩
                  · have he3 : (((st).truncate (1 - (live : Int)) 0).2 != 0) = true := by simpa using he2
                    generalize hev : ((st).truncate (1 - (live : Int)) 0).2 = ev at *
                    have Hp2 := Lib.hid hp2; have Hc2 := Lib.hid hc2; have Hcut := Lib.hid hcut; have He2 := Lib.hid he2; have Hev := Lib.hid hev; clear hp2 hc2 hcut he2 hev
                    go_wp2_with fail
                    go_meet
                    refine ⟨by rw [Hcut.out]; simp [Hev.out, He2.out], by rw [Hcut.out]; exact Hp2.out, Hc2.out⟩
                · have hB2 : decide (0 < (st).size (1 - (live : Int))) = false := by simpa using hB
                  have hcut := cutP_b Htt.out hB
                  generalize hsz : (st).size (1 - (live : Int)) = sz at *
                  have Hsz := Lib.hid hsz; have Hcut := Lib.hid hcut; clear hsz hcut
                  go_wp2_with fail
                  go_meet
                  refine ⟨by rw [Hcut.out]; simp, by rw [Hcut.out]; exact Hpd.out, Chg.refl _ _⟩
            case rest =>
              obtain ⟨rfl, hpx, hcx⟩ := hcut
              obtain ⟨ra, rn, rc, rfl⟩ := own_slice HO.out.own
              have hnS : ∀ x, w.heap.size ≤ x → ¬ S x := fun x hx e => by have := HS.out x e; omega
              have hg6c := Hg6W.out.keep hcx (hnS _ (by omega))
              have hb4c := HO.out.b4.keep hcx (hnS _ (Nat.le_refl _))
              have hKc : wc.heap[D]? = some (.deferred (some [])) := (hcx.block D (Array.getElem?_eq_some_iff.1 HK.out).1 (hnS _ (by omega))).trans HK.out
              have hDz : w.heap.size ≤ D := by omega
              by_cases he : (cutP st live wh).2 = 0
              · have hed : decide ((cutP st live wh).2 ≠ 0) = false := by simpa using he
                rw [hed]
                have hop3 : openP st = ((cutP st live wh).1, .inr ⟨live, g, c, s, dat.drop 24, ds, wh⟩) := by rw [Hop2.out, if_neg (by simpa using he)]
                clear hed
                have hbw := Lib.hid (fun (w' : World) (hc : Chg (fun k => k = w.heap.size) wc w') => Bk.keep hg6c hc (fun (e : g6 = w.heap.size) => by omega))
                have hpw := Lib.hid (fun (w' : World) (hc : Chg (fun k => k = w.heap.size) wc w') => falls_any (hpx.keep hc (fun x _ hx e => hnS x (Nat.le_of_eq e.symm) hx)))
                have Hpx := Lib.hid hpx; have Hcx := Lib.hid hcx; have HnS := Lib.hid hnS; have Hg6c := Lib.hid hg6c; have Hb4c := Lib.hid hb4c; have HKc := Lib.hid hKc; have He := Lib.hid he; have Hop3 := Lib.hid hop3; clear hpx hcx hnS hg6c hb4c hKc he hop3
                go_wp2_with fail
                refine wp_region_sp (fun j => j == 8 || j == 14) (fun w' => Chg (fun k => k = w.heap.size) wc w' ∧ Bk w' w.heap.size 46 #[.slice ra rn rc]) (by kernel_rfl) (by kernel_rfl) ⟨Chg.refl _ _, Hb4c.out⟩ (fun _ _ h k => ⟨Chg.thenMk h.1 k, h.2.mk k⟩) ?_
                intro D' hD' hne
                have q1 := @qAt_value Try.prog
                have c64 : ∀ w', (Chg (fun k => k = w.heap.size) wc w' ∧ Bk w' w.heap.size 46 #[.slice ra rn rc]) → w'.cell? ⟨g6, 4, none⟩ = some v := fun w' h => ((hbw.out w' h.1).cell 4).trans rfl
                have c40 : ∀ w', (Chg (fun k => k = w.heap.size) wc w' ∧ Bk w' w.heap.size 46 #[.slice ra rn rc]) → w'.cell? ⟨w.heap.size, 0, none⟩ = some (.slice ra rn rc) := fun w' h => (h.2.cell 0).trans rfl
                iterate 1 (first | (refine spk (by rfl) (by rfl) (by rfl) (fun K hK => ?_); go_big_quiet_op; first | (refine hK _ ?_; clear hK K) | (apply Exists.intro; refine ⟨fun _ => ?_, hK _ ?_⟩; (exact fun _ => rfl); clear hK K)) | (refine spq (by rfl) (by rfl) (fun K hK => ?_); apply Exists.intro; refine ⟨fun w' hw' => ?_, ?_⟩; (go_simp; exact rfl); (go_simp; refine hK _ ?_; clear hK K)))
                refine spq (by rfl) (by rfl) (fun K hK => ?_)
                refine ⟨_, fun w' hw' => qAt_load rfl rfl (load169m (hbw.out w' hw'.1)), hK _ ?_⟩
                clear hK K
                iterate 4 (first | (refine spk (by rfl) (by rfl) (by rfl) (fun K hK => ?_); go_big_quiet_op; first | (refine hK _ ?_; clear hK K) | (apply Exists.intro; refine ⟨fun _ => ?_, hK _ ?_⟩; (exact fun _ => rfl); clear hK K)) | (refine spq (by rfl) (by rfl) (fun K hK => ?_); apply Exists.intro; refine ⟨fun w' hw' => ?_, ?_⟩; (go_simp; exact rfl); (go_simp; refine hK _ ?_; clear hK K)))
                (refine spq (by rfl) (by rfl) (fun K hK => ?_); apply Exists.intro; refine ⟨fun w' hw' => ?_, ?_⟩; (have q2 := @qAt_enter Try.prog; go_simp; refine ⟨rfl, (hpw.out w' hw'.1).mono fun e w'' ⟨h1, h2⟩ => by subst h2; rw [h1]; exact ⟨rfl, mk_refl _⟩⟩); (go_simp; refine hK _ ?_; clear hK K))
                iterate 1 (first | (refine spk (by rfl) (by rfl) (by rfl) (fun K hK => ?_); go_big_quiet_op; first | (refine hK _ ?_; clear hK K) | (apply Exists.intro; refine ⟨fun _ => ?_, hK _ ?_⟩; (exact fun _ => rfl); clear hK K)) | (refine spq (by rfl) (by rfl) (fun K hK => ?_); apply Exists.intro; refine ⟨fun w' hw' => ?_, ?_⟩; (go_simp; exact rfl); (go_simp; refine hK _ ?_; clear hK K)))
                refine sps (by rfl) (by rfl) (fun bv' w' => ∃ gl, bv' = .pointer (some ⟨gl, 0, none⟩) ∧ wc.heap.size ≤ gl ∧ (Chg (fun k => k = w.heap.size) wc w' ∧ Bk w' w.heap.size 46 #[.slice ra rn rc]) ∧ Bk w' gl 175 #[.int .u64 (g : Int), .int .i64 (c : Int), .int .i64 (s : Int), .pointer (some ⟨p, 0, none⟩), .int .i64 (live : Int), .int .i64 (wh : Int), .int .i64 ((cutP st live wh).1.falls : Int)]) (fun v w1 w2 ⟨g, h1, h2, h3, h4⟩ k => ⟨g, h1, h2, ⟨Chg.thenMk h3.1 k, h3.2.mk k⟩, h4.mk k⟩) (fun v w' ⟨_, _, _, h, _⟩ => h) (fun w' hw' => ?_) (fun K dv hdv hK => ?_)
                · obtain ⟨hmk', hc', hb'⟩ := hD'.out w' hw'
                  refine sAt_box (cs := #[.int .u64 (g : Int), .int .i64 (c : Int), .int .i64 (s : Int), .pointer (some ⟨p, 0, none⟩), .int .i64 (live : Int), .int .i64 (wh : Int), .int .i64 ((cutP st live wh).1.falls : Int)]) rfl rfl ?_
                  exact ⟨_, rfl, hmk'.size, ⟨Chg.thenMk hc' (mk_alloc _ _), hb'.alloc _⟩, Bk.new _ _ _⟩
                obtain ⟨w0, gl, rfl, hgl, h0, h0'⟩ := hdv
                clear h0 h0' w0 hne
                go_simp
                refine hK _ ?_
                clear hK K
                iterate 5 (first | (refine spk (by rfl) (by rfl) (by rfl) (fun K hK => ?_); go_big_quiet_op; first | (refine hK _ ?_; clear hK K) | (apply Exists.intro; refine ⟨fun _ => ?_, hK _ ?_⟩; (exact fun _ => rfl); clear hK K)) | (refine spq (by rfl) (by rfl) (fun K hK => ?_); apply Exists.intro; refine ⟨fun w' hw' => ?_, ?_⟩; (go_simp; exact rfl); (go_simp; refine hK _ ?_; clear hK K)))
                refine sps (by rfl) (by rfl) (fun bv' w' => bv' = undef ∧ (Chg (fun k => k = w.heap.size) wc w' ∧ Bk w' w.heap.size 46 #[.slice ra rn rc]) ∧ Bk w' gl 175 #[.int .u64 (g : Int), .int .i64 (c : Int), .int .i64 (s : Int), .pointer (some ⟨p, 0, none⟩), .int .i64 (live : Int), .int .i64 (wh : Int), .int .i64 ((cutP st live wh).1.falls : Int)]) (fun v w1 w2 ⟨h1, h3, h4⟩ k => ⟨h1, ⟨Chg.thenMk h3.1 k, h3.2.mk k⟩, h4.mk k⟩) (fun v w' ⟨_, h, _⟩ => h) (fun w' hw' => ?_) (fun K dv hdv hK => ?_)
                · obtain ⟨gl', he', _, ⟨hc', hb'⟩, hbl'⟩ := hw'
                  cases he'
                  have hfz := hb'.frozen 0
                  have hcz : w'.cell? ⟨w.heap.size, 0, none⟩ = some (.slice ra rn rc) := (hb'.cell 0).trans rfl
                  have hne' : gl ≠ w.heap.size := by have := Hb4c.out.lt; omega
                  have Hc' := Lib.hid hc'; have Hb' := Lib.hid hb'; have Hbl' := Lib.hid hbl'; have Hne' := Lib.hid hne'; clear hc' hb' hbl' hne'
                  have sA := @sAt_skip
                  go_simp
                  exact ⟨⟨Chg.trans Hc'.out (Chg.set (fun k => k = w.heap.size) _ ⟨w.heap.size, 0, none⟩ _ rfl) (fun _ _ h => h), by have := Hb'.out.set 0 (.slice ra rn rc); simpa using this⟩, Hbl'.out.other _ Hne'.out⟩
                obtain ⟨w0, rfl, h0, h0'⟩ := hdv
                clear h0 h0' w0
                go_simp
                refine hK _ ?_
                clear hK K
                iterate 1 (first | (refine spk (by rfl) (by rfl) (by rfl) (fun K hK => ?_); go_big_quiet_op; first | (refine hK _ ?_; clear hK K) | (apply Exists.intro; refine ⟨fun _ => ?_, hK _ ?_⟩; (exact fun _ => rfl); clear hK K)) | (refine spq (by rfl) (by rfl) (fun K hK => ?_); apply Exists.intro; refine ⟨fun w' hw' => ?_, ?_⟩; (go_simp; exact rfl); (go_simp; refine hK _ ?_; clear hK K)))
                refine sp_nil ?_
                rintro w9 ⟨_, ⟨hc9, hb9⟩, hl9⟩
                clear hD' D' q1 c64 c40
                have Hc9 := Lib.hid hc9; have Hb9 := Lib.hid hb9; have Hl9 := Lib.hid hl9; clear hc9 hb9 hl9
                go_wp2_with fail
                have hK9 : w9.heap[D]? = some (.deferred (some [])) := (Hc9.out.block D (Array.getElem?_eq_some_iff.1 HKc.out).1 (fun e => by have e' : D = w.heap.size := e; omega)).trans HKc.out
                have hDW : D < W.heap.size := (Array.getElem?_eq_some_iff.1 HK.out).1
                have hWc : W.heap.size ≤ wc.heap.size := Hcx.out.size
                have hgD := grownBy_putObj' w9 D (.deferred none)
                have hrD : ∀ r, some D = some r → ∃ o : Obj, w9.heap[r]? = some o ∧ o.isCells = false := fun r e => by cases e; exact ⟨_, hK9, rfl⟩
                have hcE : Chg (fun k => w.heap.size ≤ k) wc (w9.putObj D (.deferred none)) :=
                  Chg.trans (Hc9.out.sub (T := fun k => w.heap.size ≤ k) (fun k _ e => Nat.le_of_eq e.symm)) (Chg.of_grown (S := fun k => w.heap.size ≤ k) hgD (fun k e _ => by cases e; exact hDz)) (fun _ _ h => h)
                have hrow : ∀ {e : TypeId} {v : Value} {n : Nat} {xs : List Value}, W.ownsRow wL.heap.size e 1 v n xs → (w9.putObj D (.deferred none)).ownsRow wL.heap.size e 1 v n xs := fun hv =>
                  own_other hgD hrD (own_keep (own_keep hv Hcx.out (fun k hk => HnS.out k (by have := (hv.lt k hk).1; omega))) Hc9.out (fun k hk e => by have h1 := (hv.lt k hk).1; have e' : k = w.heap.size := e; omega))
                have hvl : ∀ k, v.ownBlock = some k → w.heap.size + 1 ≤ k ∧ k < wd.heap.size := fun k hk => wr_lt Hw.out hk
                have hwr : Wr w.heap.size v (dat.drop 24) (w9.putObj D (.deferred none)) := by
                  refine wr_base (wr_keep (wr_keep (wr_keep (wr_keep (wr_mk Hw.out (mk_trans Hm5.out (mk_trans Hm6.out HmL.out))) HO.out.made (fun k hk e => ?_)) Hcx.out (fun k hk => HnS.out k ?_)) Hc9.out (fun k hk e => ?_)) (Chg.of_grown (S := fun k => k = D) hgD (fun k e _ => by cases e; rfl)) (fun k hk e => ?_)) (Nat.le_succ _)
                  · have := hvl k hk; rcases e with e | e <;> omega
                  · have := hvl k hk; omega
                  · have := hvl k hk; have e' : k = w.heap.size := e; omega
                  · have := hvl k hk; have e' : k = D := e; omega
                refine open_endD rfl rfl rfl rfl hK9 Hb9.out ?_
                unfold OpenPost
                rw [Hop3.out]
                refine ⟨Hpx.out.keep hcE (fun x _ hx e => HnS.out x e hx), Chg.trans (Chg.trans (Chg.of_mk Hmk.out) Hcx.out (fun _ _ h => h)) hcE (fun x hx e => by have e' : w.heap.size ≤ x := e; omega), gl, v, _, _, rfl, by omega,
                  (World.putObj_heap_other (by omega)).trans Hl9.out, hwr, own_base (hrow HO.out.own) (by omega), (HO.out.enc.keep fun v n xs hv => hrow hv).base (by omega), fun dv hdv k hk e => ?_⟩
                have h1 := HO.out.enc.ge hdv hk
                have h2 := hvl k e
                omega
              · have hed : decide ((cutP st live wh).2 ≠ 0) = true := by simpa using he
                rw [hed]
                have he40 : (cutP st live wh).2 = 40 := (cutP_err st live wh).resolve_left he
                have hop3 : openP st = ((cutP st live wh).1, .inl 40) := by rw [Hop2.out, if_pos (by simpa using he), he40]
                have c4 : wc.cell? ⟨w.heap.size, 0, none⟩ = some (.slice ra rn rc) := (hb4c.cell 0).trans rfl
                have f4 := hb4c.frozen 0
                clear hed
                have Hpx := Lib.hid hpx; have Hcx := Lib.hid hcx; have HnS := Lib.hid hnS; have Hg6c := Lib.hid hg6c; have Hb4c := Lib.hid hb4c; have HKc := Lib.hid hKc; have He := Lib.hid he; have Hop3 := Lib.hid hop3; have He40 := Lib.hid he40; clear hpx hcx hnS hg6c hb4c hKc he hop3 he40
                go_wp2_with fail
                refine open_endD rfl rfl rfl rfl ((Below.heap_setCell _ _ _ _ (by show D ≠ w.heap.size; omega)).trans HKc.out) (Hb4c.out.set 0 _) ?_
                unfold OpenPost
                rw [Hop3.out]
                have hcE := end_chg (w := wc) (a := w.heap.size) (g := w.heap.size) (o := 0) (D := D) (v := .slice none 0 0) (ob := .deferred none) (Nat.le_refl _) hDz
                exact ⟨Hpx.out.keep hcE (fun x _ hx e => HnS.out x e hx), Chg.trans (Chg.trans (Chg.of_mk Hmk.out) Hcx.out (fun _ _ h => h)) hcE (fun x hx e => by have e' : w.heap.size ≤ x := e; omega), rfl⟩
          · have hbad : (brk || (FrW.framesOf ys).any (fun f => f.1 != 2)) = true := hb.symm
            clear hgood hS1 hb
            have hmk : Mk w W := (Chg.trans (Chg.of_mk (mk_trans Hm.out (mk_trans Hm5.out (mk_trans Hm6.out HmL.out)))) hO.made (fun x hx e => e)).to_mk (fun x hx e => by rcases e with e | e <;> omega)
            have c12 : W.cell? ⟨g12, 0, none⟩ = some (.bool true) := (hO.b12.cell 0).trans rfl
            have c4 : W.cell? ⟨w.heap.size, 0, none⟩ = some rv := (hO.b4.cell 0).trans rfl
            have f4 := hO.b4.frozen 0
            have ho : openP st = (st, .inl 62) := by rw [Hop.out, tail_any Hff.out Hwh.out Hbrk.out, ← Hfy.out, hbad]; rfl
            have hDz : w.heap.size ≤ D := by omega
            obtain ⟨ra, rn, rc, rfl⟩ := own_slice hO.own
            have HO := Lib.hid hO; have Hmk := Lib.hid hmk; have Ho := Lib.hid ho; have HK := Lib.hid hK; clear hO hmk ho hK
            clear hbad
            go_wp2
            refine open_endD rfl rfl rfl rfl ((Below.heap_setCell _ _ _ _ (by show D ≠ w.heap.size; omega)).trans HK.out) (HO.out.b4.set 0 _) ?_
            exact OpenPost.err Ho.out (mk_putD (Hmk.out.setCell (Nat.le_refl _) _) hDz _) H.out
        case stop =>
          intro D cd pre W hD hpre hix hK
          obtain ⟨rfl, rv, ds, vs, hO, hbad⟩ := hix
          clear hpre
          have hmk : Mk w W := (Chg.trans (Chg.of_mk (mk_trans Hm.out (mk_trans Hm5.out (mk_trans Hm6.out HmL.out)))) hO.made (fun x hx e => e)).to_mk (fun x hx e => by rcases e with e | e <;> omega)
          have c12 : W.cell? ⟨g12, 0, none⟩ = some (.bool true) := (hO.b12.cell 0).trans rfl
          have c4 : W.cell? ⟨w.heap.size, 0, none⟩ = some rv := (hO.b4.cell 0).trans rfl
          have f4 := hO.b4.frozen 0
          have ho : openP st = (st, .inl 62) := by rw [Hop.out, tail_any Hff.out Hwh.out Hbrk.out, ← Hfy.out, hbad]; rfl
          have hDz : w.heap.size ≤ D := by omega
          obtain ⟨ra, rn, rc, rfl⟩ := own_slice hO.own
          have HO := Lib.hid hO; have Hmk := Lib.hid hmk; have Ho := Lib.hid ho; have HK := Lib.hid hK; clear hO hmk ho hK
          clear hbad
          go_wp2
          refine open_endD rfl rfl rfl rfl ((Below.heap_setCell _ _ _ _ (by show D ≠ w.heap.size; omega)).trans HK.out) (HO.out.b4.set 0 _) ?_
          exact OpenPost.err Ho.out (mk_putD (Hmk.out.setCell (Nat.le_refl _) _) hDz _) H.out
end Go.Proofs.WlW
