/- Texts of one proof, merged: XGa XRg XGb XGc XGd XEn XTwc XTwx. -/
import Derived.Test.YtmppagiaonbggaaDoorWg
import Derived.Shelf.Abstract
import Derived.Shelf.RegionOpen
/- The walk over Chunk of package source. -/
namespace Go.Proofs.YtmppagiaonbggaaDoor
set_option linter.unusedVariables false
set_option linter.unusedSimpArgs false
set_option maxRecDepth 100000
open Go.RowKit

theorem wpList_load_row_g {P : Program} {ops : Array Oper} {rest : List Oper} {o : Oper} {a : Act} {w : World} {Q : Exit → Act → World → Prop} (hw : Region.wanted o (yielded ops a.tmps) = true) (ty : TypeId) (x : Operand) (ho : o.op = .load ty x)
    (g : Nat) (hx : a.eval x = .pointer (some ⟨g, 0, none⟩)) (t : TypeId) (cs : Array Value) (fr : Nat × Nat) (d : TypeDesc) (hg : w.heap[g]? = some (.cells cs t fr))
    (hu : P.underlying ty = some d) (hd : (match d with | .struct _ | .array _ _ => true | _ => false) = true) (hi : (P.info? ty).map (·.size) = some cs.size)
    (h : wpList P ops Q rest (a.put o.dst (.agg cs)) w) : wpList P ops Q (o :: rest) a w :=
  wpList_step fun K hK => by rw [if_pos hw]; exact wp_load_row ty x ho g hx t cs fr d hg hu hd hi (hK _ _ h)
/-- A segment of a stream. -/
def cutP (b : List UInt8) (i j : Nat) : List UInt8 := (b.drop i).take (j - i)
def chunkP (b : List UInt8) (p : Pn) (k : Int) : List UInt8 :=
  if k < 0 ∨ segsP p ≤ k ∨ p.tot ≠ (b.length : Int) then [] else cutP b (k * p.ch).toNat (min ((k + 1) * p.ch) b.length).toNat
theorem segs_bounds {p : Pn} {k : Int} (h0 : 0 ≤ k) (h1 : k < segsP p) : p.mayB = true ∧ 0 ≤ k * p.ch ∧ k * p.ch < p.tot ∧ (k + 1) * p.ch ≤ 4259840 ∧ (k + 1) * p.ch = k * p.ch + p.ch ∧ k < 4194304 := by
  unfold segsP at h1
  cases hm : p.mayB with
  | false => rw [hm] at h1; simp at h1; omega
  | true =>
    obtain ⟨m0, m1, _, _, m4, m5⟩ := p.may_true hm
    rw [hm, if_pos rfl] at h1
    have h2 : (k + 1) * p.ch ≤ p.tot + p.ch - 1 := by
      have h3 : k + 1 ≤ (p.tot + p.ch - 1) / p.ch := by omega
      exact (Int.le_ediv_iff_mul_le (by omega)).1 h3
    have h4 : (k + 1) * p.ch = k * p.ch + p.ch := by rw [Int.add_mul, Int.one_mul]
    have h5 : 0 ≤ k * p.ch := Int.mul_nonneg h0 (by omega)
    have h6 : k * 1 ≤ k * p.ch := Int.mul_le_mul_of_nonneg_left m0 h0
    exact ⟨rfl, h5, by omega, by omega, h4, by omega⟩
theorem bytesU_cut (b : List UInt8) (i j : Nat) (hj : j ≤ b.length) (hij : i ≤ j) : bytesU (cutP b i j) = ((bytesU b).drop i).take (j - i) ∧ (cutP b i j).length = j - i := by
  unfold cutP
  refine ⟨by unfold bytesU; rw [List.map_take, List.map_drop], ?_⟩
  rw [List.length_take, List.length_drop]
  omega

set_option maxHeartbeats 1600000 in
theorem chunk_any (A : Option Addr) (c : Nat) (l : List (Fi × Value)) (hl : l.length ≤ 1000000) (hs : dataLen (l.map (·.1)) ≤ 1000000000) (ok : ∀ x ∈ l, x.1.ok) (p : Pn) (pok : p.ok) (k : Int) (hk : okI k) (w : World) (h : Sh w) (hr : RdF w A l) :
    Calls Tryd.prog 21 #[.slice A l.length c, .agg (pnL p).toArray, .int .i64 k] w (RetB w (chunkP (streamP (l.map (·.1))) p k)) := by
  have hsz := pnL_size pok.dg
  have hb := (Below.refl w.heap.size w).alloc (Nat.le_refl _) (.cells (pnL p).toArray 27)
  have hh := heap_alloc_new w (.cells (pnL p).toArray 27)
  have hinf : (Tryd.prog.info? 27).map (·.size) = some (pnL p).toArray.size := by rw [hsz]; exact infoPlan
  have SC := Lib.hid (fun w h hr => stream_any A c l hl hs ok w h hr)
  have HS := Lib.hid (fun w => segments_any p pok w)
  have K0 := Lib.hid (fun W (h : Below (w.heap.size + 1) (w.alloc (.cells (pnL p).toArray 27)) W) => ((h.cell (p := ⟨w.heap.size, 0, none⟩) (by simp)).trans (cell_of_row _ _ 0 _ _ _ hh)).trans (show _ = some (.int .i64 p.ch) from rfl))
  have K2 := Lib.hid (fun W (h : Below (w.heap.size + 1) (w.alloc (.cells (pnL p).toArray 27)) W) => ((h.cell (p := ⟨w.heap.size, 2, none⟩) (by simp)).trans (cell_of_row _ _ 2 _ _ _ hh)).trans (show _ = some (.int .i64 p.tot) from rfl))
  have KH : Hid (∀ W (h : Below (w.heap.size + 1) (w.alloc (.cells (pnL p).toArray 27)) W), W.heap[w.heap.size]? = some (.cells (pnL p).toArray 27 (0, 0))) := Lib.hid (fun W h => (h.block w.heap.size (by simp)).trans hh)
  have Hinf := Lib.hid hinf
  have S0 := sh_below h hb
  have r0 := hr.below hb
  have hbl : (streamP (l.map (·.1))).length ≤ 1000000000 := by unfold streamP; split; (rw [dataL_length]; exact hs); simp
  have hcp : Hid (chunkP (streamP (l.map (·.1))) p k = if k < 0 ∨ segsP p ≤ k ∨ p.tot ≠ ((streamP (l.map (·.1))).length : Int) then [] else cutP (streamP (l.map (·.1))) (k * p.ch).toNat (min ((k + 1) * p.ch) (streamP (l.map (·.1))).length).toNat) := Lib.hid rfl
  have Hsb := Lib.hid (fun h0 h1 => segs_bounds (p := p) (k := k) h0 h1)
  clear hh hinf hsz h hr hl hs ok pok
  generalize chunkP (streamP (l.map (·.1))) p k = res at *
  generalize streamP (l.map (·.1)) = b at *
  obtain ⟨k0, k1⟩ := hk
  by_cases hk0 : k < 0
  · obtain rfl : res = [] := by rw [hcp.out, if_pos (.inl hk0)]
    clear hcp Hsb HS K0 K2 KH
    generalize (pnL p).toArray = X at *
    go_enter Tryd.func21, Tryd.ntmps21
    go_wp2_with fail
    refine (SC.out _ S0 r0).mono ?_
    rintro e w1 ⟨v1, rfl, h1, b1⟩
    have hb1 := hb.trans (b1.mono (by simp))
    go_wp2
    go_ret
    exact ⟨_, rfl, World.ownsRow_nil _ _ _ _, hb1⟩
  · have hk0' : 0 ≤ k := by omega
    have hkd : decide (k < 0) = false := by simpa using hk0'
    by_cases hks : segsP p ≤ k
    · obtain rfl : res = [] := by rw [hcp.out, if_pos (.inr (.inl hks))]
      clear hcp Hsb K0 K2 hk0
      generalize (pnL p).toArray = X at *
      generalize segsP p = sg at *
      go_enter Tryd.func21, Tryd.ntmps21
      go_wp2_with fail
      refine (SC.out _ S0 r0).mono ?_
      rintro e w1 ⟨v1, rfl, h1, b1⟩
      have hb1 := hb.trans (b1.mono (by simp))
      have Hh := Lib.hid (KH.out w1 (b1.mono (by simp)))
      clear SC
      go_wp2_with first
        | (refine wpList_load_row_g rfl 27 (.tmp 4) rfl w.heap.size rfl 27 X (0, 0) _ Hh.out Tryd.underlying27 rfl Hinf.out ?_)
      refine (HS.out _).mono ?_
      rintro e w2 ⟨rfl, b2⟩
      have hb2 := hb1.trans (b2.mono hb1.size)
      go_wp2
      go_ret
      exact ⟨_, rfl, World.ownsRow_nil _ _ _ _, hb2⟩
    · have hks' : k < segsP p := by omega
      obtain ⟨q0, q1, q2, q3, q4, q5⟩ := Hsb.out hk0' hks'
      by_cases ht : p.tot = (b.length : Int)
      · rw [if_neg (by omega)] at hcp
        have ht' : (p.tot == (b.length : Int)) = true := by simpa using ht
        have ht2 : (p.tot != (b.length : Int)) = false := by simpa using ht
        have hksd : decide (segsP p ≤ k) = false := by simpa using hks'
        obtain ⟨m0, m1, _, _, _, m5⟩ := p.may_true q0
        obtain ⟨i, hi⟩ : ∃ i : Nat, k * p.ch = (i : Int) := ⟨(k * p.ch).toNat, by omega⟩
        obtain ⟨m, hm⟩ : ∃ m : Nat, (k + 1) * p.ch = (m : Int) := ⟨((k + 1) * p.ch).toNat, (Int.toNat_of_nonneg (by rw [q4]; omega)).symm⟩
        obtain ⟨j, hj⟩ : ∃ j : Nat, j = min m b.length := ⟨_, rfl⟩
        have hjc : res = cutP b i j := by
          rw [hcp.out, hi, hm]
          have e1 : (i : Int).toNat = i := Int.toNat_natCast i
          have e2 : (min (m : Int) (b.length : Int)).toNat = j := by omega
          rw [e1, e2]
        subst hjc
        have hij : i < j := by omega
        have hjb : j ≤ b.length := by omega
        obtain ⟨hcu, hcl⟩ := bytesU_cut b i j hjb (by omega)
        have Hcu := Lib.hid (And.intro hcu hcl)
        have CL := Lib.hid (fun v w h => clone_any v (cutP b i j) w h (by omega))
        have Hbb := Lib.hid (show i < b.length ∧ b.length ≤ 1000000000 by omega)
        have k2' : k < 4194304 := by omega
        have hjm : (if (m : Int) < (b.length : Int) then (m : Int) else (b.length : Int)) = (j : Int) := by split <;> omega
        have hjm2 : min (m : Int) (b.length : Int) = (j : Int) := by omega
        have x1 : (i : Int) < (j : Int) := by omega
        have x2 : (j : Int) ≤ (b.length : Int) := by omega
        have x3 : (m : Int) ≤ 4259840 := by omega
        have x4 : (0 : Int) ≤ (i : Int) := by omega
        have x5 : (b.length : Int) ≤ 4194304 := by omega
        clear hcp Hsb hk0 hks q0 q1 q2 q3 q4 q5 ht hcu hcl hij hjb hj hbl
        obtain ⟨pch, pwi, pt, pd⟩ := p
        simp only at K2 K0 ht' ht2 hi hm m0 m1 m5
        generalize (pnL ⟨pch, pwi, pt, pd⟩).toArray = X at *
        generalize segsP ⟨pch, pwi, pt, pd⟩ = sg at *
        generalize cutP b i j = ct at *
        go_enter Tryd.func21, Tryd.ntmps21
        go_wp2_with fail
        refine (SC.out _ S0 r0).mono ?_
        rintro e w1 ⟨v1, rfl, h1, b1⟩
        have hb1 := hb.trans (b1.mono (by simp))
        have Hh := Lib.hid (KH.out w1 (b1.mono (by simp)))
        have o1 := Own.fresh (B := w.heap.size) hb.size (Own.start _ _) h1 b1
        obtain ⟨A1, c1, rfl⟩ := o1.row_n
        have hcap := o1.cap
        have n2 : (b.length : Int) ≤ (c1 : Int) := by omega
        have n3 : (c1 : Int) ≤ 9223372036854775807 := by omega
        have hrd := o1.rd
        obtain ⟨b0, o0, rfl, hx0⟩ := hrd.at' 0 (by have := Hbb.out; omega)
        clear hx0
        have Hpt := Lib.hid (fun c' => hrd.part i (j - i) c' (bytesU ct) Hcu.out.1 (by rw [bytesU_length]; exact Hcu.out.2))
        have HCl := Lib.hid Hcu.out.2
        clear SC o1 h1 hcap Hcu hrd Hbb
        generalize b.length = bn at *
        go_wp2_with first
          | (refine wpList_load_row_g rfl 27 (.tmp 4) rfl w.heap.size rfl 27 X (0, 0) _ Hh.out Tryd.underlying27 rfl Hinf.out ?_)
        refine (HS.out _).mono ?_
        rintro e w2 ⟨rfl, b2⟩
        have hb2 := hb1.trans (b2.mono hb1.size)
        have k2 := K2.out w2 ((b1.mono (by simp)).trans (b2.mono (by have := b1.size; simpa using this)))
        have k0 := K0.out w2 ((b1.mono (by simp)).trans (b2.mono (by have := b1.size; simpa using this)))
        clear HS K0 K2 KH
        go_wp2_with fail
        have hpt := Hpt.out (c1 - i)
        simp only [Option.map_some, Addr.add_lit] at hpt
        refine (CL.out _ w2 (hpt.below b2)).mono ?_
        rintro e w3 ⟨v3, rfl, h3, b3⟩
        have o3 := Own.fresh (B := w.heap.size) hb2.size (Own.start _ _) h3 b3
        have hb3 := hb2.trans (b3.mono hb2.size)
        go_wp2
        go_ret
        exact RetB.mk rfl rfl rfl rfl o3 hb3
      · obtain rfl : res = [] := by rw [hcp.out, if_pos (.inr (.inr ht))]
        have ht' : (p.tot == (b.length : Int)) = false := by simpa using ht
        have ht2 : (p.tot != (b.length : Int)) = true := by simpa using ht
        have hksd : decide (segsP p ≤ k) = false := by simpa using hks'
        clear hcp Hsb K0 hk0 hks q0 q1 q2 q3 q4 q5
        obtain ⟨pch, pwi, pt, pd⟩ := p
        simp only at K2 ht' ht ht2
        generalize (pnL ⟨pch, pwi, pt, pd⟩).toArray = X at *
        generalize segsP ⟨pch, pwi, pt, pd⟩ = sg at *
        go_enter Tryd.func21, Tryd.ntmps21
        go_wp2_with fail
        refine (SC.out _ S0 r0).mono ?_
        rintro e w1 ⟨v1, rfl, h1, b1⟩
        have hb1 := hb.trans (b1.mono (by simp))
        have Hh := Lib.hid (KH.out w1 (b1.mono (by simp)))
        have o1 := Own.fresh (B := w.heap.size) hb.size (Own.start _ _) h1 b1
        obtain ⟨A1, c1, rfl⟩ := o1.row_n
        have n1 : (b.length : Int) ≤ 1000000000 := by omega
        clear SC o1 h1
        generalize b.length = bn at *
        go_wp2_with first
          | (refine wpList_load_row_g rfl 27 (.tmp 4) rfl w.heap.size rfl 27 X (0, 0) _ Hh.out Tryd.underlying27 rfl Hinf.out ?_)
        refine (HS.out _).mono ?_
        rintro e w2 ⟨rfl, b2⟩
        have hb2 := hb1.trans (b2.mono hb1.size)
        have k2 := K2.out w2 ((b1.mono (by simp)).trans (b2.mono (by have := b1.size; simpa using this)))
        go_wp2
        go_ret
        exact ⟨_, rfl, World.ownsRow_nil _ _ _ _, hb2⟩
end Go.Proofs.YtmppagiaonbggaaDoor

/- A range over a function that hands memory over: what the iterator gives at a round, the round owns; what the iterator keeps for itself stands in the frame. -/
namespace Go.Proofs.YtmppagiaonbggaaDoor
set_option linter.unusedVariables false
set_option linter.unusedSimpArgs false
set_option maxRecDepth 100000
open Go.RowKit

/-- One object, whatever it is. -/
def Ob (k : Nat) (o : Obj) : HP := fun w F => F k ∧ w.heap[k]? = some o
instance Loc.ob {B k : Nat} {o : Obj} : Loc B (Ob k o) where
  keep := fun _ _ _ h _ ⟨hf, hg⟩ => ⟨hf, (h k hf).trans hg⟩
  up := fun _ _ _ h ⟨hf, hg⟩ => ⟨h k hf, hg⟩
theorem Own.ob {B k : Nat} {o : Obj} {R : HP} {w : World} (h : Own B (Ob k o * R) w) : w.heap[k]? = some o ∧ B ≤ k := by
  obtain ⟨F, hf, F1, F2, _, h1, _, hc, _⟩ := h
  exact ⟨hc.2, (hf k (h1 k hc.1)).1⟩
theorem Own.newO {B : Nat} {R : HP} [Loc B R] {w : World} (hB : B ≤ w.heap.size) (h : Own B R w) (o : Obj) : Own B (Ob w.heap.size o * R) (w.alloc o) :=
  Own.turn hB h.emp (by simp) fun F _ _ => ⟨fun k => k = w.heap.size, fun k hk => .inr (by simp; omega), ⟨rfl, heap_alloc_new w _⟩, fun k hk _ => Below.heap_alloc w _ k hk⟩
theorem Own.putO {B k : Nat} {o : Obj} {R : HP} [Loc B R] {w : World} (hB : B ≤ w.heap.size) (h : Own B (Ob k o * R) w) (o' : Obj) : Own B (Ob k o' * R) (w.putObj k o') ∧ Below B w (w.putObj k o') := by
  have hk := h.ob
  have hg := grownBy_putObj' w k o'
  refine ⟨Own.turn hB h hg.size fun F _ ⟨hF, hh⟩ => ⟨fun j => j = k, fun j hj => .inl (hj ▸ hF), ⟨rfl, World.putObj_heap_same (Array.getElem?_eq_some_iff.1 hh).1⟩, fun j hj hn => ?_⟩, (Below.refl B w).grown hg hB (fun r e => by cases e; exact hk.2)⟩
  exact World.putObj_heap_other (fun e => hn (e ▸ hF))

/-- What an iterator promises: at each round it hands Giv x over; in the end its own C is as it was. -/
def SeqHP {α : Type} (P : Program) (g : Nat) (lb : Array Value) (encs : α → Array Value) (Giv : α → HP) (S Sp : List α → Prop) (Nx : List α → α → Prop) (B : Nat) (C : HP) (w : World) : Prop :=
  ∀ (l : Nat) (A Ax : List α → HP) (_ : ∀ xs, Loc B (A xs)) (_ : ∀ xs, Loc B (Ax xs)) (W : World), B ≤ W.heap.size → Below B w W →
    (∀ (pre : List α) (x : α) (R : HP) (_ : Loc B R) (W1 : World), B ≤ W1.heap.size → Below B W W1 → Nx pre x → Own B (A pre * (Giv x * R)) W1 → YieldAt Fence.wide 3 P l (encs x) W1 fun e W' =>
      (e = .returned (.bool true) ∧ Own B (A (pre ++ [x]) * R) W' ∧ Below B W1 W') ∨ (e = .returned (.bool false) ∧ Own B (Ax (pre ++ [x]) * R) W' ∧ Below B W1 W')) →
    Own B (A [] * C) W →
    CallsIn Fence.wide 4 P g (#[.func (.yield l) #[] #[]] ++ lb) W fun e W' => (∃ v, e = .returned v) ∧ Below B W W' ∧ ((∃ xs, S xs ∧ Own B (A xs * C) W') ∨ (∃ pre, Sp pre ∧ Own B (Ax pre * C) W'))

/-- How a round may be left. -/
def sepPost {α : Type} (B : Nat) (A : List α → HP) (Ax : Code → List α → HP) (R : HP) (W : World) (xs : List α) : Exit → Act → World → Prop
  | .normal, _, W' => Own B (A xs * R) W' ∧ Below B W W'
  | .ret, _, W' => Own B (Ax .ret xs * R) W' ∧ Below B W W'
  | .exit id, _, W' => Own B (Ax (.exit id) xs * R) W' ∧ Below B W W'
  | .goto t, _, W' => Own B (Ax (.goto t) xs * R) W' ∧ Below B W W'
  | .panic _, _, _ => False
  | .outgrown, _, _ => False

set_option maxHeartbeats 1600000 in
theorem wp_rangeFunc_sep {α : Type} {P : Program} {g : Operand} {ps : Array Tmp} {assign body : Code} {Q : Exit → Act → World → Prop} {a : Act} {w : World}
    {gf : Nat} {lb : Array Value} (hg : a.eval g = .func (.func gf) #[] lb) (eg : ∀ args w, (callFunc gf args).run P w = .ok (.enter gf args) w)
    {encs : α → Array Value} {Giv : α → HP} {S Sp : List α → Prop} {Nx : List α → α → Prop} {B : Nat} (C R : HP) [kC : Loc B C] [kR : Loc B R] (kG : ∀ x, Loc B (Giv x)) (hps : ∀ x, (encs x).size = ps.size) (hseq : ∀ (R' : HP), Loc B R' → SeqHP P gf lb encs Giv S Sp Nx B (C * R') w)
    (A : List α → HP) (Ax : Code → List α → HP) [kA : ∀ xs, Loc B (A xs)] [kX : ∀ c xs, Loc B (Ax c xs)] (hB : B ≤ w.heap.size) (h0 : Own B (A [] * (C * R)) w) (fin : α → Array Value → Array Value) (a₁ : α → Act) (ha₁ : ∀ x, a₁ x = { tmps := fin x ((ps.zip (encs x)).foldl (fun t (p, v) => t.setIfInBounds p v) a.tmps), defers := [] })
    (hassign : ∀ (l : Nat) (x : α) (W : World) (K : Act → World → Prop), K (a₁ x) W →
      assign.wpIn (Fence.wide.inRound l) 3 P (Exit.then K (fun _ _ _ => False)) { tmps := (ps.zip (encs x)).foldl (fun t (p, v) => t.setIfInBounds p v) a.tmps, defers := [] } W)
    (hbody : ∀ (l : Nat) (pre : List α) (x : α) (W : World) (R : HP) [Loc B R], B ≤ W.heap.size → Below B w W → Own B (A pre * (Giv x * R)) W → Nx pre x → body.wpIn (Fence.wide.inRound l) 3 P (sepPost B A Ax R W (pre ++ [x])) (a₁ x) W)
    (hdone : ∀ (D : Nat) (xs : List α) (W : World), S xs → B ≤ W.heap.size → Below B w W → Own B (A xs * (C * (R * Dk D))) W → Q .normal { a with defers := { target := .collected D, args := #[] } :: a.defers } W)
    (hstop : ∀ (D : Nat) (c : Code) (pre : List α) (W : World), Sp pre → B ≤ W.heap.size → Below B w W → Own B (Ax c pre * (C * (R * Dk D))) W → c.wp P Q { a with defers := { target := .collected D, args := #[] } :: a.defers } W) :
    (Code.rangeFunc g ps assign body).wp P Q a w := by
  refine (wpIn_wide (n := 5)).1 (wpIn_rangeFunc fun fn hfn => ?_)
  obtain ⟨lp, hlp⟩ : ∃ lp : LoopState → Option Code → Loop, lp = fun st pe => { state := st, pending := pe, fn, tmps := a.tmps, params := ps, assign, body, defers := w.heap.size } := ⟨_, rfl⟩
  have d0 := h0.newO hB (.deferred (some []))
  have s0 : (w.alloc (.deferred (some []))).heap.size = w.heap.size + 1 := by simp
  have d1 := d0.newO (show B ≤ (w.alloc (.deferred (some []))).heap.size by omega) (.loop (lp .ready none))
  rw [s0] at d1
  have b1 : Below B w ((w.alloc (.deferred (some []))).alloc (.loop (lp .ready none))) := ((Below.refl B w).alloc hB _).alloc (by omega) _
  have B1 := Nat.le_trans hB b1.size
  have hen : (Instr.enterLoop fn a.tmps ps assign body none).run P w = .ok (w.heap.size + 1, [{ target := .collected w.heap.size, args := #[] }]) ((w.alloc (.deferred (some []))).alloc (.loop (lp .ready none))) := by
    rw [hlp]; exact run_enterLoop_outer fn a.tmps ps assign body
  generalize (w.alloc (.deferred (some []))).alloc (.loop (lp .ready none)) = W1 at *
  refine ⟨w.heap.size + 1, [{ target := .collected w.heap.size, args := #[] }], W1, { target := .fn (.func gf) lb, args := #[.func (.yield (w.heap.size + 1)) #[] #[]] }, W1, gf,
    #[.func (.yield (w.heap.size + 1)) #[] #[]] ++ lb, W1, hen, ?_, fun _ _ => trivial, ?_, fun _ => by omega, ?_⟩
  · simp only [resolve, hg]
    simp [go_sem]
  · simp [invoke, go_sem, eg]
  have kD : Loc B (Ob w.heap.size (.deferred (some []))) := Loc.ob
  refine (hseq (R * Ob w.heap.size (.deferred (some []))) inferInstance (w.heap.size + 1) (fun xs => A xs * Ob (w.heap.size + 1) (.loop (lp .ready none))) (fun xs => Hex fun c => Ax c xs * Ob (w.heap.size + 1) (.loop (lp .done (some c)))) (fun _ => inferInstance) (fun _ => inferInstance) W1 B1 b1 ?_ (d1.cast (by ac_rfl))).mono ?_
  · intro pre x R1 kR1 W B2 b2 hlen hO
    have o1 : Own B (Ob (w.heap.size + 1) (.loop (lp .ready none)) * (A pre * (Giv x * R1))) W := hO.cast (by ac_rfl)
    have kg := kG x
    have hl := o1.ob.1
    have hy := run_yield (P := P) (args := encs x) hl (by rw [hlp]; exact hps x)
    rw [hlp] at hy
    refine ⟨fn, _, assign, body, hy, roundIn_of_wpIn hfn (hassign _ x W _ ⟨_, run_beginRound hl (by rw [hlp]), ?_⟩)⟩
    obtain ⟨o2, b3⟩ := o1.putO B2 (.loop { lp .ready none with state := .busy })
    have B3 := Nat.le_trans B2 b3.size
    generalize W.putObj (w.heap.size + 1) (.loop { lp .ready none with state := .busy }) = W2 at *
    refine wpIn_mono (hbody _ pre x W2 (Ob (w.heap.size + 1) (.loop { lp .ready none with state := .busy }) * R1) B3 (b1.trans (b2.trans b3)) (o2.cast (by ac_rfl)) hlen) ?_
    have last : ∀ (jump : Option Code) (X : HP) (_ : Loc B X) (W3 : World), Below B W2 W3 → Own B (X * (Ob (w.heap.size + 1) (.loop { lp .ready none with state := .busy }) * R1)) W3 →
        ∃ W4, (Instr.endRound (w.heap.size + 1) jump).run P W3 = .ok (.bool jump.isNone) W4 ∧ Own B (X * (Ob (w.heap.size + 1) (.loop (lp (if jump.isNone then .ready else .done) jump)) * R1)) W4 ∧ Below B W W4 := fun jump X kX W3 b4 h3 => by
      have o3 : Own B (Ob (w.heap.size + 1) (.loop { lp .ready none with state := .busy }) * (X * R1)) W3 := h3.cast (by ac_rfl)
      have hr := run_endRound (P := P) jump o3.ob.1
      obtain ⟨o4, b5⟩ := o3.putO (Nat.le_trans B3 b4.size) (.loop { { lp .ready none with state := .busy } with state := if jump.isNone then .ready else .done, pending := jump })
      refine ⟨_, hr, ?_, (b3.trans b4).trans b5⟩
      have e : ({ { lp .ready none with state := .busy } with state := if jump.isNone then .ready else .done, pending := jump } : Loop) = lp (if jump.isNone then .ready else .done) jump := by rw [hlp]
      rw [← e]
      exact o4.cast (by ac_rfl)
    rintro e a3 W3 hp
    cases e with
    | normal =>
      obtain ⟨h3, b4⟩ := hp
      obtain ⟨W4, hr, o4, b5⟩ := last none _ inferInstance W3 b4 h3
      exact ⟨_, _, hr, .inl ⟨rfl, o4.assoc', b5⟩⟩
    | ret =>
      obtain ⟨h3, b4⟩ := hp
      obtain ⟨W4, hr, o4, b5⟩ := last (some .ret) _ inferInstance W3 b4 h3
      exact ⟨_, _, hr, .inr ⟨rfl, o4.assoc'.to_hex (A := fun c => Ax c (pre ++ [x]) * Ob (w.heap.size + 1) (.loop (lp .done (some c)))) .ret, b5⟩⟩
    | exit id =>
      obtain ⟨h3, b4⟩ := hp
      obtain ⟨W4, hr, o4, b5⟩ := last (some (.exit id)) _ inferInstance W3 b4 h3
      exact ⟨_, _, hr, .inr ⟨rfl, o4.assoc'.to_hex (A := fun c => Ax c (pre ++ [x]) * Ob (w.heap.size + 1) (.loop (lp .done (some c)))) (.exit id), b5⟩⟩
    | goto t =>
      obtain ⟨h3, b4⟩ := hp
      obtain ⟨W4, hr, o4, b5⟩ := last (some (.goto t)) _ inferInstance W3 b4 h3
      exact ⟨_, _, hr, .inr ⟨rfl, o4.assoc'.to_hex (A := fun c => Ax c (pre ++ [x]) * Ob (w.heap.size + 1) (.loop (lp .done (some c)))) (.goto t), b5⟩⟩
    | panic ch => exact hp.elim
    | outgrown => exact hp.elim
  · rintro e W2 ⟨⟨v, rfl⟩, b2, (⟨xs, hS, hO⟩ | ⟨pre, hSp, hO⟩)⟩
    · have o1 : Own B (Ob (w.heap.size + 1) (.loop (lp .ready none)) * (A xs * (C * (R * Ob w.heap.size (.deferred (some [])))))) W2 := hO.cast (by ac_rfl)
      have hr := run_endLoop (P := P) o1.ob.1 (by rw [hlp]; simp)
      obtain ⟨o2, b3⟩ := o1.putO (Nat.le_trans B1 b2.size) (.loop { lp .ready none with state := .exhausted })
      refine ⟨none, _, by rw [hr]; rw [hlp], hdone _ xs _ hS (Nat.le_trans B1 (b2.trans b3).size) (b1.trans (b2.trans b3)) o2.right⟩
    · obtain ⟨c, hO⟩ := hO.hex
      have o1 : Own B (Ob (w.heap.size + 1) (.loop (lp .done (some c))) * (Ax c pre * (C * (R * Ob w.heap.size (.deferred (some [])))))) W2 := hO.cast (by ac_rfl)
      have hr := run_endLoop (P := P) o1.ob.1 (by rw [hlp]; simp)
      obtain ⟨o2, b3⟩ := o1.putO (Nat.le_trans B1 b2.size) (.loop { lp .done (some c) with state := .exhausted })
      refine ⟨some c, _, by rw [hr]; rw [hlp], wpIn_wide.2 (hstop _ c pre _ hSp (Nat.le_trans B1 (b2.trans b3).size) (b1.trans (b2.trans b3)) o2.right)⟩
end Go.Proofs.YtmppagiaonbggaaDoor

/- The walk over Chunks of package source, and over its iterator. -/
namespace Go.Proofs.YtmppagiaonbggaaDoor
set_option linter.unusedVariables false
set_option linter.unusedSimpArgs false
set_option maxRecDepth 100000
open Go.RowKit Go.Shelf

attribute [local go_sem] Oper.semAt_some

theorem wpListIn_load_row {F : Fence} {n : Nat} {P : Program} {ops : Array Oper} {rest : List Oper} {o : Oper} {a : Act} {w : World} {Q : Exit → Act → World → Prop} (hgd : o.guard = none) (ty : TypeId) (x : Operand) (ho : o.op = .load ty x)
    (g : Nat) (hx : a.eval x = .pointer (some ⟨g, 0, none⟩)) (t : TypeId) (cs : Array Value) (fr : Nat × Nat) (d : TypeDesc) (hg : w.heap[g]? = some (.cells cs t fr))
    (hu : P.underlying ty = some d) (hd : (match d with | .struct _ | .array _ _ => true | _ => false) = true) (hi : (P.info? ty).map (·.size) = some cs.size)
    (h : wpListIn F n P ops Q rest (a.put o.dst (.agg cs)) w) : wpListIn F n P ops Q (o :: rest) a w := by
  refine wpListIn_plain hgd fun K hK => ?_
  unfold Oper.wpIn
  refine ⟨by simp [Oper.about, ho], ?_⟩
  rw [Oper.semAt_plain F _ _ (by rw [ho]; intro c hc'; cases hc')]
  unfold execOp
  simp only [ho, hx, Instr.loadAt, Instr.sureAddr, Sem.run_bind, Sem.run_pure, Result.andThen_ok, run_loadVar_row w g t ty cs fr d hg hu hd hi]
  exact hK _ _ h

theorem chunks_any (A : Option Addr) (n c : Nat) (p : Pn) (w : World) : Calls Tryd.prog 22 #[.slice A n c, .agg (pnL p).toArray] w fun e w' => e = .returned (.func (.func 38) #[] #[.pointer (some ⟨w.heap.size, 0, none⟩), .pointer (some ⟨w.heap.size + 1, 0, none⟩)]) ∧ w' = (w.alloc (.cells #[.slice A n c] 22)).alloc (.cells (pnL p).toArray 27) := by
  generalize (pnL p).toArray = X
  go_enter Tryd.func22, Tryd.ntmps22
  go_wp2
  go_ret
  exact ⟨rfl, rfl⟩

/-- A segment that is handed over: its number, and where its bytes lie. -/
structure Sg where
  k : Nat
  A : Option Addr
  c : Nat
def sgEnc (f : Nat → List UInt8) (x : Sg) : Array Value := #[.int .i64 (x.k : Int), .slice x.A (f x.k).length x.c]
def sgGiv (f : Nat → List UInt8) (x : Sg) : HP := Rw 5 1 (.slice x.A (f x.k).length x.c) (f x.k).length (bytesU (f x.k))
instance (f : Nat → List UInt8) (x : Sg) (B : Nat) : Loc B (sgGiv f x) := by unfold sgGiv; infer_instance
def nsegP (b : List UInt8) (p : Pn) : Nat := if p.tot = (b.length : Int) then (segsP p).toNat else 0
def sgAll (N : Nat) (xs : List Sg) : Prop := xs.map (·.k) = List.range N
def sgSome (N : Nat) (xs : List Sg) : Prop := ∃ m, 1 ≤ m ∧ m ≤ N ∧ xs.map (·.k) = List.range m

def sgNext (N : Nat) (pre : List Sg) (x : Sg) : Prop := pre.map (·.k) = List.range pre.length ∧ x.k = pre.length ∧ pre.length < N
theorem segsP_nonneg (p : Pn) : 0 ≤ segsP p := by
  unfold segsP
  cases hm : p.mayB with
  | false => simp
  | true =>
    obtain ⟨m0, m1, _, _, m4, m5⟩ := p.may_true hm
    rw [if_pos rfl]
    exact Int.ediv_nonneg (by omega) (by omega)
theorem seg_facts {b : List UInt8} {p : Pn} (ht : p.tot = (b.length : Int)) (k : Nat) (hk : k < nsegP b p) : ∃ i m j : Nat, (k : Int) * p.ch = (i : Int) ∧ ((k : Int) + 1) * p.ch = (m : Int) ∧ j = min m b.length ∧ i < j ∧ j ≤ b.length ∧ chunkP b p k = cutP b i j ∧
    (m : Int) ≤ 4259840 ∧ (k : Int) < 4194304 ∧ (b.length : Int) ≤ 4194304 ∧ (m : Int) = (i : Int) + p.ch ∧ 1 ≤ p.ch ∧ p.ch ≤ 65536 := by
  have hk2 : (k : Int) < segsP p := by unfold nsegP at hk; rw [if_pos ht] at hk; omega
  obtain ⟨q0, q1, q2, q3, q4, q5⟩ := segs_bounds (by omega : (0 : Int) ≤ (k : Int)) hk2
  obtain ⟨m0, m1, _, _, _, m5⟩ := p.may_true q0
  obtain ⟨i, hi⟩ : ∃ i : Nat, (k : Int) * p.ch = (i : Int) := ⟨((k : Int) * p.ch).toNat, by omega⟩
  obtain ⟨m, hm⟩ : ∃ m : Nat, ((k : Int) + 1) * p.ch = (m : Int) := ⟨(((k : Int) + 1) * p.ch).toNat, (Int.toNat_of_nonneg (by rw [q4]; omega)).symm⟩
  refine ⟨i, m, min m b.length, hi, hm, rfl, by omega, by omega, ?_, by omega, q5, by omega, by omega, m0, m1⟩
  unfold chunkP
  rw [if_neg (by omega), hi, hm]
  have e1 : (i : Int).toNat = i := Int.toNat_natCast i
  have e2 : (min (m : Int) (b.length : Int)).toNat = min m b.length := by omega
  rw [e1, e2]

set_option maxRecDepth 100000 in
set_option maxHeartbeats 3200000 in
theorem chunks_it (A : Option Addr) (c : Nat) (l : List (Fi × Value)) (hl : l.length ≤ 1000000) (hs : dataLen (l.map (·.1)) ≤ 1000000000) (ok : ∀ x ∈ l, x.1.ok) (p : Pn) (pok : p.ok) (b0 b1 B : Nat) (R' : HP) (kR' : Loc B R') (w : World) (hF : ∀ W, Below B w W → Sh W ∧ RdF W A l) :
    SeqHP Tryd.prog 38 #[.pointer (some ⟨b0, 0, none⟩), .pointer (some ⟨b1, 0, none⟩)] (sgEnc fun k => chunkP (streamP (l.map (·.1))) p k) (sgGiv fun k => chunkP (streamP (l.map (·.1))) p k)
      (sgAll (nsegP (streamP (l.map (·.1))) p)) (sgSome (nsegP (streamP (l.map (·.1))) p)) (sgNext (nsegP (streamP (l.map (·.1))) p)) B ((Bk b0 22 #[.slice A l.length c] * Bk b1 27 (pnL p).toArray) * R') w := by
  intro lp J Jx kJ kJx W hBW hbW hY h0
  obtain ⟨hsh, hrf⟩ := hF W hbW
  have SC := Lib.hid (stream_any A c l hl hs ok W hsh hrf)
  have HS := Lib.hid (fun w => segments_any p pok w)
  have hsz := pnL_size pok.dg
  have hinf : (Tryd.prog.info? 27).map (·.size) = some (pnL p).toArray.size := by rw [hsz]; exact infoPlan
  have Hinf := Lib.hid hinf
  have hbl : (streamP (l.map (·.1))).length ≤ 1000000000 := by unfold streamP; split; (rw [dataL_length]; exact hs); simp
  have h0 : Own B (Bk b0 22 #[.slice A l.length c] * (Bk b1 27 (pnL p).toArray * (R' * J []))) W := h0.cast (by ac_rfl)
  have k0 : W.cell? ⟨b0, 0, none⟩ = some (.slice A l.length c) := h0.cell 0
  clear hinf hsz hF hs hl ok hsh hrf hbW
  generalize streamP (l.map (·.1)) = b at *
  obtain ⟨f, hf⟩ : ∃ f : Nat → List UInt8, f = fun k : Nat => chunkP b p k := ⟨_, rfl⟩
  have SF2 := Lib.hid (fun k => congrFun hf k)
  obtain ⟨N, hN0⟩ : ∃ N, N = nsegP b p := ⟨_, rfl⟩
  rw [← hf, ← hN0] at hY
  rw [← hN0]
  refine callsIn_of_wp Tryd.func38 rfl trivial ?_ rfl
  simp only [Tryd.ntmps38, List.size_toArray, List.length_cons, List.length_nil, Nat.reduceAdd, Nat.reduceSub, Array.replicate_succ, Array.replicate_zero, List.push_toArray, List.append_toArray, List.nil_append, List.cons_append]
  gi_wp2_with fail
  refine ⟨trivial, (callsIn_wide.2 SC.out).mono ?_⟩
  rintro e w1 ⟨v1, rfl, h1, b1'⟩
  have o1 := Own.fresh hBW h0 h1 b1'
  have hb1 : Below B W w1 := b1'.mono hBW
  have B1 := Nat.le_trans hBW b1'.size
  obtain ⟨A1, c1, rfl⟩ := o1.row_n
  have o2 := o1.foc (Bk b1 27 (pnL p).toArray)
  have k2 : w1.cell? ⟨b1, 2, none⟩ = some (.int .i64 p.tot) := (o2.cell 2).trans rfl
  have Hh := Lib.hid o2.bk.1
  have n1 : (b.length : Int) ≤ 1000000000 := by omega
  by_cases ht : p.tot = (b.length : Int)
  · have ht' : (p.tot == (b.length : Int)) = true := by simpa using ht
    have ht2 : (p.tot != (b.length : Int)) = false := by simpa using ht
    have SF := seg_facts (p := p) ht
    rw [← hN0] at SF
    have SF := Lib.hid SF
    have hsg : segsP p = (N : Int) := by rw [hN0]; unfold nsegP; rw [if_pos ht]; exact (Int.toNat_of_nonneg (segsP_nonneg p)).symm
    rw [hsg] at HS
    have CL := Lib.hid (fun v l w h hl => clone_any v l w h hl)
    have oS : Own B (Bk b1 27 (pnL p).toArray * (J [] * (Rw 5 1 (.slice A1 b.length c1) b.length (bytesU b) * (Bk b0 22 #[.slice A l.length c] * R')))) w1 := o2.cast (by ac_rfl)
    have hsN : (N : Int) ≤ 4259840 := by
      rw [← hsg]
      unfold segsP
      split
      · rename_i hm
        obtain ⟨m0, m1, _, _, m4, m5⟩ := p.may_true hm
        exact Int.le_trans (Int.ediv_le_self _ (by omega)) (by omega)
      · omega
    clear hN0 hsg hf o1 o2 h0 h1 ht
    obtain ⟨pch, pwi, pt, pd⟩ := p
    simp only at k2 ht' ht2 SF
    have K0 : Hid (∀ (W' : World) (R'' : HP), Own B (Bk b1 27 (pnL ⟨pch, pwi, pt, pd⟩).toArray * R'') W' → W'.cell? ⟨b1, 0, none⟩ = some (.int .i64 pch)) := Lib.hid (fun W' R'' h => (h.cell 0).trans rfl)
    generalize hXX : (pnL ⟨pch, pwi, pt, pd⟩).toArray = X at *
    have HX := Lib.hid hXX
    clear hXX
    gi_wp2_with first
      | (refine wpListIn_load_row rfl 27 (.tmp 2) rfl b1 rfl 27 X (0, 0) _ Hh.out Tryd.underlying27 rfl Hinf.out ?_)
    refine ⟨trivial, (callsIn_wide.2 (HS.out _)).mono ?_⟩
    rintro e w2 ⟨rfl, b2⟩
    have o3 := oS.grown B1 b2
    have hb2 := hb1.trans (b2.mono B1)
    clear oS Hh k2 k0 hb1 B1 b2 HS b1' SC
    gi_wp2
    gi_loopw [15] (fun v wr => ∃ (k : Nat) (pre : List Sg), k ≤ N ∧ v = .int .i64 (k : Int) ∧ Hid (pre.map (·.k) = List.range k) ∧ Own B (Bk b1 27 X * (J pre * (Rw 5 1 (.slice A1 b.length c1) b.length (bytesU b) * (Bk b0 22 #[.slice A l.length c] * R')))) wr ∧ Below B W wr)
      (fun v _ => N - (intOf v).toNat)
    case atStart => exact ⟨0, [], Nat.zero_le _, rfl, Lib.hid rfl, o3, hb2⟩
    case round =>
      clear o3 hb2
      obtain ⟨k, pre, hkN, rfl, hpre, ho, hb⟩ := hrel
      have Bw : B ≤ wr.heap.size := Nat.le_trans hBW hb.size
      have k0' : (0 : Int) ≤ (k : Int) := by omega
      by_cases hlt : (k : Int) < (N : Int)
      · obtain ⟨i, m, j, hi, hm, hj, hij, hjb, hct, x3, x5, x6, x7, m0, m1⟩ := SF.out k (by omega)
        have hfk : f k = cutP b i j := (SF2.out k).trans hct
        obtain ⟨hcu, hcl⟩ := bytesU_cut b i j hjb (by omega)
        rw [← hfk] at hcu hcl
        have hrd := (ho.foc (Rw 5 1 (.slice A1 b.length c1) b.length (bytesU b))).rd
        have hcap := (ho.foc (Rw 5 1 (.slice A1 b.length c1) b.length (bytesU b))).cap
        obtain ⟨a0, o0, rfl, hx0⟩ := hrd.at' 0 (by omega)
        clear hx0
        have hpt := hrd.part i (j - i) (c1 - i) (bytesU (f k)) hcu (by rw [bytesU_length]; exact hcl)
        simp only [Option.map_some, Addr.add_lit] at hpt
        have C2 := Lib.hid (CL.out _ (f k) wr hpt (by omega))
        have k0 := K0.out wr _ ho
        have hjm2 : min (m : Int) (b.length : Int) = (j : Int) := by omega
        have hjm : (if (m : Int) < (b.length : Int) then (m : Int) else (b.length : Int)) = (j : Int) := by split <;> omega
        have x1 : (i : Int) < (j : Int) := by omega
        have x2 : (j : Int) ≤ (b.length : Int) := by omega
        have x4 : (0 : Int) ≤ (i : Int) := by omega
        have n2 : (b.length : Int) ≤ (c1 : Int) := by omega
        have n3 : (c1 : Int) ≤ 9223372036854775807 := by omega
        have Hpl : Hid (pre.length = k) := Lib.hid (by have := congrArg List.length hpre.out; simpa using this)
        have HkN := Lib.hid hlt
        have Hfl := Lib.hid hcl
        clear SF SF2 hct hcu hcl hrd hcap hpt hfk hj hij hjb x7 hkN
        generalize hbn : b.length = bn at *
        gi_wp2_with fail
        refine ⟨trivial, (callsIn_wide.2 C2.out).mono ?_⟩
        rintro e w3 ⟨v3, rfl, h3, b3⟩
        have o4 := Own.fresh Bw ho h3 b3
        have hb3 := hb.trans (b3.mono Bw)
        have B3 := Nat.le_trans Bw b3.size
        obtain ⟨A3, c3, rfl⟩ := o4.row_n
        obtain ⟨fn, tmps, assign, body, hy, hR⟩ := hY pre ⟨k, A3, c3⟩ (Bk b1 27 X * (Rw 5 1 (.slice (some ⟨a0, o0, none⟩) bn c1) bn (bytesU b) * (Bk b0 22 #[.slice A l.length c] * R'))) inferInstance w3 B3 hb3 ⟨by rw [Hpl.out]; exact hpre.out, Hpl.out.symm, by have := Hpl.out; have := HkN.out; omega⟩
          ((o4.cast (show _ = J pre * (Rw 5 1 (.slice A3 (f k).length c3) (f k).length (bytesU (f k)) * (Bk b1 27 X * (Rw 5 1 (.slice (some ⟨a0, o0, none⟩) bn c1) bn (bytesU b) * (Bk b0 22 #[.slice A l.length c] * R')))) by ac_rfl)))
        unfold sgEnc at hy
        dsimp only at hy
        have Hpx := Lib.hid (show (pre ++ [(⟨k, A3, c3⟩ : Sg)]).map (·.k) = List.range (k + 1) by rw [List.map_append, hpre.out, List.range_succ]; rfl)

        clear hbn
        clear hY o4 ho h3 b3 hb k0 hpre
        gi_wp2
        refine hR.mono ?_
        rintro e W3 (⟨rfl, hJ3, b4⟩ | ⟨rfl, hJx3, b4⟩)
        · gi_wp2
          go_roundw
          case rel => exact ⟨k + 1, pre ++ [⟨k, A3, c3⟩], by have := HkN.out; omega, rfl, Hpx, hJ3.cast (by ac_rfl), hb3.trans b4⟩
          case measure => have := HkN.out; simp [intOf]; omega
        · have oF : Own B (Jx (pre ++ [⟨k, A3, c3⟩]) * ((Bk b0 22 #[.slice A l.length c] * Bk b1 27 X) * R')) W3 := (Own.right (A := Rw 5 1 (.slice (some ⟨a0, o0, none⟩) bn c1) bn (bytesU b)) (hJx3.cast (by ac_rfl)))
          gi_wp2
          refine bodyPost_ret (results_none rfl _ _ _) rfl ?_
          exact ⟨⟨_, rfl⟩, hb3.trans b4, .inr ⟨_, ⟨k + 1, by omega, by have := HkN.out; omega, Hpx.out⟩, by rw [HX.out]; exact oF⟩⟩
      · obtain rfl : k = N := by omega
        have oF : Own B (J pre * ((Bk b0 22 #[.slice A l.length c] * Bk b1 27 X) * R')) wr := (Own.right (A := Rw 5 1 (.slice A1 b.length c1) b.length (bytesU b)) (ho.cast (by ac_rfl)))
        gi_wp2
        go_end0
        exact ⟨⟨_, rfl⟩, hb, .inl ⟨pre, hpre.out, by rw [HX.out]; exact oF⟩⟩
  · have ht' : (p.tot == (b.length : Int)) = false := by simpa using ht
    have ht2 : (p.tot != (b.length : Int)) = true := by simpa using ht
    have HN : Hid (N = 0) := Lib.hid (by rw [hN0]; unfold nsegP; rw [if_neg ht])
    have oF : Own B (J [] * ((Bk b0 22 #[.slice A l.length c] * Bk b1 27 (pnL p).toArray) * R')) w1 := (o1.drop).cast (by ac_rfl)
    clear hN0 hf SF2 HS Hh hY o1 o2 h0 h1 b1'
    obtain ⟨pch, pwi, pt, pd⟩ := p
    simp only at k2 ht' ht ht2
    generalize hXX : (pnL ⟨pch, pwi, pt, pd⟩).toArray = X at *
    have HX := Lib.hid hXX
    clear hXX
    generalize b.length = bn at *
    gi_wp2
    refine bodyPost_ret (results_none rfl _ _ _) rfl ?_
    exact ⟨⟨_, rfl⟩, hb1, .inl ⟨[], by rw [HN.out]; rfl, by rw [HX.out]; exact oF⟩⟩
end Go.Proofs.YtmppagiaonbggaaDoor

/- The walk over awake of the laws on source. -/
namespace Go.Proofs.YtmppagiaonbggaaDoor
set_option linter.unusedVariables false
set_option linter.unusedSimpArgs false
set_option maxRecDepth 100000
open Go.RowKit

theorem two_data : streamP twoFiles = [97, 98, 99, 100, 101] := by unfold streamP; rw [if_pos two_why]; rfl
theorem two_plan {p : Pn} {z : Int} (h : planP twoFiles 2 9 p z) : p = ⟨2, 9, 5, p.dg⟩ ∧ z = 0 ∧ p.dg.length = 32 := by
  obtain ⟨h1, _, _, h4⟩ := h
  obtain ⟨a, b, c, d⟩ := h4 two_why (by decide)
  obtain ⟨ch, wi, tot, dg⟩ := p
  simp only at a b c d h1 ⊢
  subst a b c d
  exact ⟨rfl, rfl, h1⟩
theorem str_toL (l : List UInt8) : (str l).toList = l := by rw [ByteArray.toList_eq]; rfl
theorem two_chunk1 (D : List UInt8) : chunkP [97, 98, 99, 100, 101] ⟨2, 9, 5, D⟩ 1 = [99, 100] := rfl
theorem two_chunk2 (D : List UInt8) : chunkP [97, 98, 99, 100, 101] ⟨2, 9, 5, D⟩ 2 = [101] := rfl

set_option maxRecDepth 100000 in
set_option maxHeartbeats 3200000 in
theorem awakeS_any (w : World) (h : Sh w) : Calls Tryd.prog 10 #[] w fun e w' => e = .returned (.bool true) ∧ Below w.heap.size w w' := by
  have Hh := Lib.hid (fun w1 (b : Below w.heap.size w w1) => sh_below h b)
  have kc := fun (w : World) (C : Array Value) (n c g : Nat) (hg : g = w.heap.size) => Joins.run_convert_bytes_const_at (P := Tryd.prog) w 32 5 C n c g hg Tryd.underlying32 Tryd.underlying5
  have e1 : (twoIn w.heap.size).map (·.1) = twoFiles := rfl
  have hdl : dataLen twoFiles ≤ 1000000000 := by decide
  have P := Lib.hid (fun w1 h1 h2 => plan_any (some ⟨w.heap.size + 1 + 1, 0, none⟩) 2 (twoIn w.heap.size) (show 2 ≤ 1000000 by decide) hdl (two_ok _) 2 9 ⟨by decide, by decide⟩ ⟨by decide, by decide⟩ w1 h1 h2)
  have S := Lib.hid (fun w1 h1 h2 => stream_any (some ⟨w.heap.size + 1 + 1, 0, none⟩) 2 (twoIn w.heap.size) (show 2 ≤ 1000000 by decide) hdl (two_ok _) w1 h1 h2)
  have C := Lib.hid (fun p pok k hk w1 h1 h2 => chunk_any (some ⟨w.heap.size + 1 + 1, 0, none⟩) 2 (twoIn w.heap.size) (show 2 ≤ 1000000 by decide) hdl (two_ok _) p pok k hk w1 h1 h2)
  rw [e1] at P S C
  rw [two_data] at S C
  have hlen : (twoIn w.heap.size).length = 2 := rfl
  have hinf : (Tryd.prog.info? 27).map (·.size) = some z35.size := infoPlan
  clear h e1 hdl
  have hb := (((Below.refl w.heap.size w).alloc (Nat.le_refl _) (.cells #[.int .u8 97, .int .u8 98, .int .u8 99] 5 (3, 4))).alloc (by simp) (.cells #[.int .u8 100, .int .u8 101] 5 (2, 3))).alloc (by simp; omega) (.cells #[.string ⟨#[97]⟩, .int .i64 1, .int .i64 0, .int .i64 0, .slice (some ⟨w.heap.size, 0, none⟩) 3 3, .string ⟨#[]⟩, .string ⟨#[98]⟩, .int .i64 1, .int .i64 0, .int .i64 0, .slice (some ⟨w.heap.size + 1, 0, none⟩) 2 2, .string ⟨#[]⟩] 57)
  go_enter Tryd.func10, Tryd.ntmps10
  go_wp2_with fail
  have hrd := two_rd (w := ((w.alloc (.cells #[.int .u8 97, .int .u8 98, .int .u8 99] 5 (3, 4))).alloc (.cells #[.int .u8 100, .int .u8 101] 5 (2, 3))).alloc (.cells #[.string ⟨#[97]⟩, .int .i64 1, .int .i64 0, .int .i64 0, .slice (some ⟨w.heap.size, 0, none⟩) 3 3, .string ⟨#[]⟩, .string ⟨#[98]⟩, .int .i64 1, .int .i64 0, .int .i64 0, .slice (some ⟨w.heap.size + 1, 0, none⟩) 2 2, .string ⟨#[]⟩] 57))
    (g := w.heap.size) (h := w.heap.size + 1 + 1) (t1 := 5) (t2 := 5) (t3 := 57) (f1 := (3, 4)) (f2 := (2, 3)) (f3 := (0, 0)) ?_ ?_ ?_
  rotate_left
  · exact (heap_alloc_old _ _ (by simp; omega)).trans ((heap_alloc_old _ _ (by simp)).trans (heap_alloc_new _ _))
  · exact (heap_alloc_old _ _ (by simp)).trans (by rw [show w.heap.size + 1 = (w.alloc (.cells #[.int .u8 97, .int .u8 98, .int .u8 99] 5 (3, 4))).heap.size by simp]; exact heap_alloc_new _ _)
  · rw [show w.heap.size + 1 + 1 = ((w.alloc (.cells #[.int .u8 97, .int .u8 98, .int .u8 99] 5 (3, 4))).alloc (.cells #[.int .u8 100, .int .u8 101] 5 (2, 3))).heap.size by simp, heap_alloc_new]
  have Hr := Lib.hid (fun w1 (b : Below _ _ w1) => hrd.below b)
  refine (P.out _ (Hh.out _ hb) hrd).mono ?_
  rintro e w1 ⟨p, z, hp, rfl, b⟩
  obtain ⟨hp1, rfl, hp3⟩ := two_plan hp
  have hr1 := Hr.out _ b
  generalize p.dg = D at *
  subst hp1
  clear hp Hr hrd P
  replace hb := hb.trans (b.mono hb.size)
  have o1 := (Own.start w.heap.size w1).new hb.size 27 z35
  have hb1 := hb.alloc hb.size (.cells z35 27)
  have pok : Pn.ok ⟨2, 9, 5, D⟩ := ⟨⟨by simp only; decide, by simp only; decide⟩, ⟨by simp only; decide, by simp only; decide⟩, ⟨by simp only; decide, by simp only; decide⟩, hp3⟩
  have C1 := Lib.hid (C.out ⟨2, 9, 5, D⟩ pok 1 ⟨by decide, by decide⟩)
  have C2 := Lib.hid (C.out ⟨2, 9, 5, D⟩ pok 2 ⟨by decide, by decide⟩)
  rw [two_chunk1] at C1
  rw [two_chunk2] at C2
  have hps := pnL_size (p := ⟨2, 9, 5, D⟩) hp3
  have Hpo := Lib.hid (pnL_one ⟨2, 9, 5, D⟩)
  have hinf2 : (Tryd.prog.info? 27).map (·.size) = some (pnL ⟨2, 9, 5, D⟩).toArray.size := by rw [hps]; exact infoPlan
  have Hz : Hid (z35.size = (pnL ⟨2, 9, 5, D⟩).toArray.size) := Lib.hid (by rw [hps]; rfl)
  have k2 : (pnL ⟨2, 9, 5, D⟩).toArray[2]? = some (.int .i64 5) := rfl
  clear b C hp3 pok hps
  generalize (pnL ⟨2, 9, 5, D⟩).toArray = PA at *
  obtain ⟨B2, o2, b2⟩ := o1.setRow hb1.size PA
  have hb2 := hb1.trans b2
  have Hh1 := Lib.hid o1.bk.1
  have c2 : ((w1.alloc (.cells z35 27)).setRow w1.heap.size PA).cell? ⟨w1.heap.size, 2, none⟩ = some (.int .i64 5) := (o2.cell 2).trans k2
  have Hh2 := Lib.hid o2.bk.1
  have hr2 := hr1.below ((((Below.refl w1.heap.size w1).alloc (Nat.le_refl _) (.cells z35 27))).trans (below_setRow (Below.refl _ _) (Nat.le_refl _) PA))
  unfold z35 at c2
  clear o1 b2 hb1 hr1
  go_wp2_with first
    | (refine wpList_plain rfl fun _ hK => wp_store_row 27 (.tmp 2) (.tmp 14) rfl w1.heap.size PA rfl rfl 27 _ Hh1.out hinf2 Hz.out Hpo.out (hK _ _ ?_))
    | (refine wpList_load_row_g rfl 27 (.tmp 2) rfl w1.heap.size rfl 27 PA (0, 0) _ Hh2.out Tryd.underlying27 rfl hinf2 ?_)
  refine (C1.out _ (Hh.out _ hb2) hr2).mono ?_
  rintro e w2 ⟨v2, rfl, h2, b2⟩
  have o3 := Own.fresh B2 o2 h2 b2
  obtain ⟨A2, c2', rfl⟩ := o3.row_n
  have s2 : (convert 32 9 (.slice A2 2 c2')).run Tryd.prog w2 = .ok (.string (str [99, 100])) w2 := str_of_rd o3.rd
  have hb3 := hb2.trans (b2.mono hb2.size)
  have B3 := hb3.size
  have o4 := o3.drop
  have Hh3 := Lib.hid o4.bk.1
  have hr3 := hr2.below b2
  have q2 : ((str [99, 100]).toList == [99, 100]) = true := by rw [str_toL]; rfl
  clear o3 h2 b2 o2 c2 hr2 Hh1 Hh2 C1 hb2 B2
  simp only [List.length_cons, List.length_nil, Nat.reduceAdd] at *
  go_wp2_with first
    | (refine wpList_load_row_g rfl 27 (.tmp 2) rfl w1.heap.size rfl 27 PA (0, 0) _ Hh3.out Tryd.underlying27 rfl hinf2 ?_)
  refine (C2.out _ (Hh.out _ hb3) hr3).mono ?_
  rintro e w3 ⟨v3, rfl, h3, b3⟩
  have o5 := Own.fresh B3 o4 h3 b3
  obtain ⟨A3, c3, rfl⟩ := o5.row_n
  have s3 : (convert 32 9 (.slice A3 1 c3)).run Tryd.prog w3 = .ok (.string (str [101])) w3 := str_of_rd o5.rd
  have hb4 := hb3.trans (b3.mono hb3.size)
  have hr4 := hr3.below b3
  have q3 : ((str [101]).toList == [101]) = true := by rw [str_toL]; rfl
  clear o5 h3 b3 o4 hr3 Hh3 C2 hb3 B3 s2
  simp only [List.length_cons, List.length_nil, Nat.reduceAdd] at *
  go_wp2_with fail
  refine (S.out _ (Hh.out _ hb4) hr4).mono ?_
  rintro e w4 ⟨v4, rfl, h4, b4⟩
  have o5 := Own.fresh hb4.size (Own.start w.heap.size w3) h4 b4
  obtain ⟨A4, c4, rfl⟩ := o5.row_n
  have s4 : (convert 32 9 (.slice A4 5 c4)).run Tryd.prog w4 = .ok (.string (str [97, 98, 99, 100, 101])) w4 := str_of_rd o5.rd
  have hb5 := hb4.trans (b4.mono hb4.size)
  have q4 : ((str [97, 98, 99, 100, 101]).toList == [97, 98, 99, 100, 101]) = true := by rw [str_toL]; rfl
  clear o5 h4 b4 hr4 S hb4 s3
  simp only [List.length_cons, List.length_nil, Nat.reduceAdd] at *
  have p1 := (Own.start w.heap.size w4).new hb5.size 5 #[.int .u8 1]
  have g1 := hb5.alloc hb5.size (.cells #[.int .u8 1] 5)
  have p2 := p1.new g1.size 5 #[.int .u8 2]
  have g2 := g1.alloc g1.size (.cells #[.int .u8 2] 5)
  have p3 := p2.new g2.size 32 #[.slice (some ⟨w4.heap.size, 0, none⟩) 1 1, .slice (some ⟨w4.heap.size + 1, 0, none⟩) 1 1]
  have g3 := g2.alloc g2.size (.cells #[.slice (some ⟨w4.heap.size, 0, none⟩) 1 1, .slice (some ⟨w4.heap.size + 1, 0, none⟩) 1 1] 32)
  simp only [World.size_alloc9] at p1 p2 p3
  have hrp : RdP (((w4.alloc (.cells #[.int .u8 1] 5)).alloc (.cells #[.int .u8 2] 5)).alloc (.cells #[.slice (some ⟨w4.heap.size, 0, none⟩) 1 1, .slice (some ⟨w4.heap.size + 1, 0, none⟩) 1 1] 32)) (some ⟨w4.heap.size + 1 + 1, 0, none⟩) [(.slice (some ⟨w4.heap.size, 0, none⟩) 1 1, [1]), (.slice (some ⟨w4.heap.size + 1, 0, none⟩) 1 1, [2])] := by
    refine ⟨fun j hj => ⟨_, 0, rfl, ?_⟩, fun x hx => ?_⟩
    · rw [p3.cell]
      match j, hj with
      | 0, _ => rfl
      | 1, _ => rfl
    · simp only [List.mem_cons, List.not_mem_nil, or_false] at hx
      rcases hx with rfl | rfl
      · exact rd_block (p3.foc (Bk w4.heap.size 5 #[.int .u8 1])).bk.1 1
      · exact rd_block (p3.foc (Bk (w4.heap.size + 1) 5 #[.int .u8 2])).bk.1 1
  have J := Lib.hid (join_any (some ⟨w4.heap.size + 1 + 1, 0, none⟩) 2 [(.slice (some ⟨w4.heap.size, 0, none⟩) 1 1, [1]), (.slice (some ⟨w4.heap.size + 1, 0, none⟩) 1 1, [2])] (by simp) (by simp [joinP]) _ hrp)
  clear p1 p2 p3 hrp hb5 g1 g2
  go_wp2_with fail
  refine J.out.mono ?_
  rintro e w5 ⟨v5, rfl, h5, b5⟩
  have o6 := Own.fresh g3.size (Own.start w.heap.size _) h5 b5
  obtain ⟨A5, c5, rfl⟩ := o6.row_n
  have s5 : (convert 32 9 (.slice A5 2 c5)).run Tryd.prog w5 = .ok (.string (str [1, 2])) w5 := str_of_rd o6.rd
  have hb6 := g3.trans (b5.mono g3.size)
  have q5 : ((str [1, 2]).toList == [1, 2]) = true := by rw [str_toL]; rfl
  clear o6 h5 b5 g3 J s4
  have hjl : (joinP [((Value.slice (some ⟨w4.heap.size, 0, none⟩) 1 1 : Value), ([1] : List UInt8)), (.slice (some ⟨w4.heap.size + 1, 0, none⟩) 1 1, [2])]).length = 2 := rfl
  simp only [hjl] at *
  go_wp2
  go_ret
  exact ⟨rfl, hb6⟩
end Go.Proofs.YtmppagiaonbggaaDoor

/- The walk over told of the laws on source. -/
namespace Go.Proofs.YtmppagiaonbggaaDoor
set_option linter.unusedVariables false
set_option linter.unusedSimpArgs false
set_option maxRecDepth 100000
open Go.RowKit

def RetTold (w : World) (l : List Fi) (e : Ending) (w' : World) : Prop := ∃ A c Ad cd, e = .returned (.tuple #[.slice A l.length c, .slice Ad (dataL l).length cd]) ∧ (l.length ≤ c ∧ c ≤ 9223372036854775807) ∧ RdA 7 enL w' A (ents l) ∧ w'.ownsRow w.heap.size 5 1 (.slice Ad (dataL l).length cd) (dataL l).length (bytesU (dataL l)) ∧ Below w.heap.size w w'
theorem dataL_snoc (l : List Fi) (f : Fi) : dataL (l ++ [f]) = dataL l ++ f.data := by simp [dataL]

set_option maxRecDepth 100000 in
set_option maxHeartbeats 3200000 in
theorem toldS_any (A : Option Addr) (c : Nat) (l : List (Fi × Value)) (hl : l.length ≤ 4294967296) (hs : dataLen (l.map (·.1)) ≤ 4294967296) (w : World) (hr : RdF w A l) :
    Calls Tryd.prog 12 #[.slice A l.length c] w (RetTold w (l.map (·.1))) := by
  obtain ⟨i0, hi, hz0, hz1, hz2⟩ := info_parts infoEnR
  have Hi0 := Lib.hid (And.intro hi (And.intro hz0 (And.intro hz1 hz2)))
  have hO := ((Own.start w.heap.size w).rw_nil 5 1).rw_nil 62 7
  have hb := Below.refl w.heap.size w
  have Hr := Lib.hid (fun w1 (b : Below w.heap.size w w1) => hr.below b)
  have Hd := Lib.hid (fun i => dataLen_take (l.map (·.1)) i)
  have Hs := Lib.hid hs
  have n1 : (l.length : Int) ≤ 4294967296 := by omega
  clear hr hi hz0 hz1 hz2 hs
  go_enter Tryd.func12, Tryd.ntmps12
  go_wp2
  go_loopg [4, 5, 10] l.length (fun k v a u wr => ∃ (i : Nat) (A' : Option Addr) (c' : Nat) (Ad' : Option Addr) (cd' : Nat) (D : List UInt8), k + i = l.length ∧ u = .int .i64 i ∧ a = .slice Ad' D.length cd' ∧ Hid (D = dataL ((l.take i).map (·.1))) ∧ v = .slice A' i c' ∧ Below w.heap.size w wr ∧ Own w.heap.size (Rw 62 7 (.slice A' i c') i (flat enL (ents ((l.take i).map (·.1)))) * (Rw 5 1 (.slice Ad' D.length cd') D.length (bytesU D) * Emp)) wr)
  case atStart => exact ⟨0, none, 0, none, 0, [], by omega, rfl, rfl, Lib.hid rfl, rfl, hb, hO⟩
  case round =>
    clear hb hO
    obtain ⟨i, A', c', Ad', cd', D, hk, rfl, rfl, hD, rfl, hb, ho⟩ := hrel
    by_cases hlt : (i : Int) < (l.length : Int)
    · obtain ⟨j, rfl⟩ : ∃ j, gk = j + 1 := ⟨gk - 1, by omega⟩
      have hil : i < l.length := by omega
      have i0' : (0 : Int) ≤ (i : Int) := by omega
      obtain ⟨b, off, rfl, q, d⟩ := (Hr.out _ hb).1 i hil
      obtain ⟨Ad, cd, hdv⟩ := (Hr.out _ hb).get i hil
      have R2 := Lib.hid (fun W (b : Below w.heap.size w W) => (Hr.out W b).2 _ (List.getElem_mem hil))
      have Hk := Lib.hid hk
      have htk : (l.take (i + 1)).map (·.1) = (l.take i).map (·.1) ++ [l[i].1] := by rw [List.take_succ_eq_append_getElem hil, List.map_append]; rfl
      have hsn : ents ((l.take (i + 1)).map (·.1)) = ents ((l.take i).map (·.1)) ++ [⟨l[i].1.path, l[i].1.kind, l[i].1.mode, l[i].1.time, l[i].1.tgt, (D.length : Int), l[i].1.data.length⟩] := by
        rw [htk]; unfold ents; rw [entsFrom_snoc, Int.zero_add, hD.out, dataL_length]
      have hdl : dataL ((l.take (i + 1)).map (·.1)) = D ++ l[i].1.data := by rw [htk, dataL_snoc, hD.out]
      have hle := Hd.out (i + 1)
      rw [← List.map_take, ← dataL_length, hdl, List.length_append] at hle
      have hle := Nat.le_trans hle Hs.out
      have Hsn := Lib.hid hsn
      have Hdl := Lib.hid hdl
      clear htk hsn hdl hk hD
      generalize ents ((l.take i).map (·.1)) = E at *
      generalize l[i] = x at *
      obtain ⟨⟨path, kind, mode, time, data, tgt⟩, dv⟩ := x
      simp only at hdv hle Hsn Hdl R2
      subst hdv
      have d0 := d 0 _ rfl
      have d1 := d 1 _ rfl
      have d2 := d 2 _ rfl
      have d3 := d 3 _ rfl
      have d4 := d 4 _ rfl
      have d5 := d 5 _ rfl
      simp only [Nat.add_zero] at d0 d1 d2 d3 d4 d5
      clear d
      have D0 : (D.length : Int) ≤ 4294967296 := by omega
      have D1 : (data.length : Int) ≤ 4294967296 := by omega
      have o1 := (ho.new hb.size 57 #[.string (str path), .int .i64 kind, .int .i64 mode, .int .i64 time, .slice Ad data.length cd, .string (str tgt)]).cast (sep_left_comm _ _ _)
      have ba := (Below.refl wr.heap.size wr).alloc (Nat.le_refl _) (.cells #[.string (str path), .int .i64 kind, .int .i64 mode, .int .i64 time, .slice Ad data.length cd, .string (str tgt)] 57)
      have hb1 := hb.trans (ba.mono hb.size)
      obtain ⟨g2, cap2, w2, hrun, o2, b2⟩ := row_append (P := Tryd.prog) hb1.size Tryd.underlying31 Hi0.out.1 Hi0.out.2.1 Hi0.out.2.2.1 Hi0.out.2.2.2 rfl (by omega) o1 #[.string (str path), .int .i64 kind, .int .i64 mode, .int .i64 time, .string (str tgt), .int .i64 D.length, .int .i64 data.length] rfl
        (by intro u hu; simp at hu; rcases hu with rfl | rfl | rfl | rfl | rfl | rfl | rfl <;> rfl) (by omega) (by omega)
      rw [World.size_alloc] at hrun
      have Hrun := Lib.hid hrun
      have hb2 := hb1.trans b2
      have r4 := R2.out _ hb2
      have k4 : w2.cell? ⟨wr.heap.size, 4, none⟩ = some (.slice Ad data.length cd) := (o2.cast (sep_left_comm _ _ _)).cell 4
      have o3 := (o2.cast (sep_left_comm _ _ _)).drop
      obtain ⟨v3, w3, hrun3, o4, b4⟩ := byte_append hb2.size (o3.foc (Rw 5 1 (.slice Ad' D.length cd') D.length (bytesU D))) r4 (by omega)
      obtain ⟨A3, c3, rfl⟩ := o4.row_n
      have hla : (D ++ data).length = D.length + data.length := List.length_append
      rw [hla] at o4 hrun3
      have Hrun3 := Lib.hid hrun3
      have hb3 := hb2.trans b4
      clear hrun o1 hb1 hb ho b2 o2 hrun3 ba r4
      go_wp2_with (at_builtin; first | refine wpList_append_at rfl (.tmp 14) (.tmp 31) 31 rfl rfl rfl Hrun.out ?_ | refine wpList_append_at rfl (.tmp 33) (.tmp 35) 32 rfl rfl rfl Hrun3.out ?_)
      go_roundg j
      case measure => omega
      case rel => exact ⟨i + 1, some ⟨g2, 0, none⟩, cap2, A3, c3, D ++ data, by have := Hk.out; omega, rfl, by rw [List.length_append], Lib.hid Hdl.out.symm, rfl, hb3, by rw [Hsn.out, flat_snoc]; exact o4.cast (by simp only [enL, List.length_append]; ac_rfl)⟩
    · obtain rfl : i = l.length := by omega
      rw [List.take_length] at ho hD
      have hfin : RetTold w (l.map (·.1)) (.returned (.tuple #[.slice A' l.length c', .slice Ad' D.length cd'])) wr := by
        have h1 : (l.map (·.1)).length = l.length := by simp
        refine ⟨A', c', Ad', cd', by rw [h1, ← hD.out], by rw [h1]; exact ho.cap, ?_, ?_, hb⟩
        · exact ho.rdA enL_len (by unfold ents; rw [entsFrom_length]; simp)
        · rw [← hD.out]; exact (ho.foc (Rw 5 1 (.slice Ad' D.length cd') D.length (bytesU D))).row
      have Hfin := Lib.hid hfin
      clear hfin hD ho hb
      go_wp2
      refine bodyPost_ret (results_tmp2 rfl _ _ _) rfl ?_
      exact Hfin.out
end Go.Proofs.YtmppagiaonbggaaDoor

/- The walk over Files of the laws on entries, of whatever files. -/
namespace Go.Proofs.YtmppagiaonbggaaDoor
set_option linter.unusedVariables false
set_option linter.unusedSimpArgs false
set_option maxRecDepth 100000
open Go.RowKit

set_option maxRecDepth 100000 in
set_option maxHeartbeats 3200000 in
theorem files_any (A B : Option Addr) (ca cb : Nat) (a b : List (Fi × Value)) (ha : a.length ≤ 4294967296) (hbl : b.length ≤ 4294967296) (w : World) (hra : RdF w A a) (hrb : RdF w B b) :
    Calls Tryd.prog 19 #[.slice A a.length ca, .slice B b.length cb] w fun e w' => e = .returned (.bool (decide (a.map (·.1) = b.map (·.1)))) ∧ Below w.heap.size w w' := by
  have hb := Below.refl w.heap.size w
  by_cases hlen : b.length = a.length
  · have Ha := Lib.hid (fun w1 (h : Below w.heap.size w w1) => hra.below h)
    have Hb := Lib.hid (fun w1 (h : Below w.heap.size w w1) => hrb.below h)
    have He : Hid (∀ i (h1 : i < a.length) (h2 : i < b.length), ¬ a[i].1 = b[i].1 → decide (a.map (·.1) = b.map (·.1)) = false) := Lib.hid (fun i h1 h2 hn => decide_eq_false (fun he => hn (by
      have := List.getElem_of_eq he (i := i) (by simpa using h1)
      simpa using this)))
    have Hs : Hid (∀ i (h1 : i < a.length) (h2 : i < b.length), a[i].1 = b[i].1 → (a.take i).map (·.1) = (b.take i).map (·.1) → (a.take (i + 1)).map (·.1) = (b.take (i + 1)).map (·.1)) := Lib.hid (fun i h1 h2 hn h3 => by
      rw [List.take_succ_eq_append_getElem h1, List.take_succ_eq_append_getElem h2, List.map_append, List.map_append, h3]
      simp [hn])
    have Hf : Hid ((a.take a.length).map (·.1) = (b.take a.length).map (·.1) → decide (a.map (·.1) = b.map (·.1)) = true) := Lib.hid (fun h => decide_eq_true (by rw [List.take_length, ← hlen, List.take_length] at h; exact h))
    have n1 : (a.length : Int) ≤ 4294967296 := by omega
    have Hlen := Lib.hid hlen
    rw [hlen]
    clear hra hrb hlen hbl
    obtain ⟨n, hal⟩ : ∃ n, n = a.length := ⟨_, rfl⟩
    rw [← hal] at n1 Hf ⊢
    have Hal := Lib.hid hal
    clear hal ha
    have hnn : (n == n) = true := by simp
    generalize decide (a.map (·.1) = b.map (·.1)) = res at *
    go_enter Tryd.func19, Tryd.ntmps19
    go_wp2
    go_loopg [15] n (fun k v wr => ∃ i : Nat, k + i = n ∧ v = .int .i64 i ∧ Hid ((a.take i).map (·.1) = (b.take i).map (·.1)) ∧ Below w.heap.size w wr)
    case atStart => exact ⟨0, by omega, rfl, Lib.hid rfl, hb⟩
    case round =>
      clear hb
      obtain ⟨i, hk, rfl, hq, hb⟩ := hrel
      by_cases hlt : (i : Int) < (n : Int)
      · obtain ⟨j, rfl⟩ : ∃ j, gk = j + 1 := ⟨gk - 1, by omega⟩
        have hil : i < a.length := by have := Hal.out; omega
        have hil2 : i < b.length := by have := Hal.out; have := Hlen.out; omega
        have i0' : (0 : Int) ≤ (i : Int) := by omega
        obtain ⟨p1, o1, rfl, q1, d⟩ := (Ha.out _ hb).1 i hil
        obtain ⟨p2, o2, rfl, q2, d'⟩ := (Hb.out _ hb).1 i hil2
        obtain ⟨d0, d1, d2, d3, d4, d5⟩ := cells6 d
        obtain ⟨e0, e1, e2, e3, e4, e5⟩ := cells6 d'
        have r1 := (Ha.out _ hb).2 _ (List.getElem_mem hil)
        have r2 := (Hb.out _ hb).2 _ (List.getElem_mem hil2)
        have Bad := Lib.hid (He.out i hil hil2)
        have Good := Lib.hid (fun h => Hs.out i hil hil2 h hq.out)
        have Hk := Lib.hid hk
        clear d d' hk hq He
        generalize a[i] = x at *
        generalize b[i] = y at *
        obtain ⟨⟨path, kind, mode, time, data, tgt⟩, xv⟩ := x
        obtain ⟨⟨path', kind', mode', time', data', tgt'⟩, yv⟩ := y
        simp only [Fi.mk.injEq] at d0 d1 d2 d3 d4 d5 e0 e1 e2 e3 e4 e5 r1 r2 Bad Good
        obtain ⟨Ax, cx, hx⟩ : ∃ A c, xv = .slice A data.length c := by obtain ⟨A, c, h, _⟩ := r1; exact ⟨A, c, by rw [h, bytesU_length]⟩
        obtain ⟨Ay, cy, hy⟩ : ∃ A c, yv = .slice A data'.length c := by obtain ⟨A, c, h, _⟩ := r2; exact ⟨A, c, by rw [h, bytesU_length]⟩
        subst hx; subst hy
        generalize hdn : data.length = dn at *
        generalize hdn' : data'.length = dn' at *
        clear hdn hdn'
        have b1 := (Below.refl wr.heap.size wr).alloc (Nat.le_refl _) (.cells #[.string (str path), .int .i64 kind, .int .i64 mode, .int .i64 time, .slice Ax dn cx, .string (str tgt)] 57)
        have b2 := b1.alloc (by simp) (.cells #[.string (str path'), .int .i64 kind', .int .i64 mode', .int .i64 time', .slice Ay dn' cy, .string (str tgt')] 57)
        have s1 := str_of_rd (r1.below b2)
        have s2 := str_of_rd (r2.below b2)
        have hb2 := hb.trans (b2.mono hb.size)
        clear r1 r2 b1 b2 hb
        by_cases h : path = path'
        · subst h
          by_cases h : kind = kind'
          · subst h
            by_cases h : mode = mode'
            · subst h
              by_cases h : time = time'
              · subst h
                by_cases h : tgt = tgt'
                · subst h
                  by_cases h : data = data'
                  · subst h
                    have Hq := Lib.hid (Good.out ⟨rfl, rfl, rfl, rfl, rfl, rfl⟩)
                    clear Good Bad
                    go_wp2
                    go_roundg j
                    case measure => omega
                    case rel => exact ⟨i + 1, by have := Hk.out; omega, rfl, Hq, hb2⟩
                  · have n5 : ((str data).toList == (str data').toList) = false := by rw [str_beq]; exact decide_eq_false h
                    have m5 : ((str data).toList != (str data').toList) = true := by rw [bne, n5]; rfl
                    have q := Lib.hid (Bad.out (fun e => h e.2.2.2.2.1))
                    clear Bad Good
                    go_wp2
                    go_ret
                    exact ⟨by rw [q.out]; rfl, hb2⟩
                · have n4 : ((str tgt).toList == (str tgt').toList) = false := by rw [str_beq]; exact decide_eq_false h
                  have m4 : ((str tgt).toList != (str tgt').toList) = true := by rw [bne, n4]; rfl
                  have q := Lib.hid (Bad.out (fun e => h e.2.2.2.2.2))
                  clear Bad Good
                  go_wp2
                  go_ret
                  exact ⟨by rw [q.out]; rfl, hb2⟩
              · have n3 : (time == time') = false := by simpa using h
                have m3 : (time != time') = true := by simpa using h
                have q := Lib.hid (Bad.out (fun e => h e.2.2.2.1))
                clear Bad Good
                go_wp2
                go_ret
                exact ⟨by rw [q.out]; rfl, hb2⟩
            · have n2 : (mode == mode') = false := by simpa using h
              have m2 : (mode != mode') = true := by simpa using h
              have q := Lib.hid (Bad.out (fun e => h e.2.2.1))
              clear Bad Good
              go_wp2
              go_ret
              exact ⟨by rw [q.out]; rfl, hb2⟩
          · have n1 : (kind == kind') = false := by simpa using h
            have m1 : (kind != kind') = true := by simpa using h
            have q := Lib.hid (Bad.out (fun e => h e.2.1))
            clear Bad Good
            go_wp2
            go_ret
            exact ⟨by rw [q.out]; rfl, hb2⟩
        · have n0 : ((str path).toList == (str path').toList) = false := by rw [str_beq]; exact decide_eq_false h
          have m0 : ((str path).toList != (str path').toList) = true := by rw [bne, n0]; rfl
          have q := Lib.hid (Bad.out (fun e => h e.1))
          clear Bad Good
          go_wp2
          go_ret
          exact ⟨by rw [q.out]; rfl, hb2⟩
      · obtain rfl : i = n := by omega
        have q := Lib.hid (Hf.out hq.out)
        clear Hf hq
        go_wp2
        go_ret
        exact ⟨by rw [q.out]; rfl, hb⟩
  · have e : decide (a.map (·.1) = b.map (·.1)) = false := decide_eq_false (fun h => hlen (by simpa using (congrArg List.length h).symm))
    rw [e]
    have h1 : ((a.length : Int) == (b.length : Int)) = false := by simpa using fun h => hlen (by omega)
    have h2 : ((a.length : Int) != (b.length : Int)) = true := by simpa using fun h => hlen (by omega)
    have h3 : (a.length == b.length) = false := by simpa using fun h => hlen (by omega)
    have h4 : (a.length != b.length) = true := by simpa using fun h => hlen (by omega)
    clear hra hrb e hlen
    generalize a.length = n at *
    generalize b.length = m at *
    go_enter Tryd.func19, Tryd.ntmps19
    go_wp2
    go_ret
    exact ⟨rfl, hb⟩
end Go.Proofs.YtmppagiaonbggaaDoor

/- The rule of two threads of which the second one may wait for steps of the first one (calls come in their order). -/
namespace Go.Proofs.YtmppagiaonbggaaDoor
set_option linter.unusedVariables false
set_option linter.unusedSimpArgs false
set_option maxRecDepth 100000
open Go.RowKit

section
variable {P : Program} {ops : Array Oper} {md : Region.Mode} {Q : Exit → Act → World → Prop} {B : Nat}

def crossB (md : Region.Mode) (ops : Array Oper) (listed : Array Bool) (l1 l2 ts : List Nat) : Bool :=
  Region.noSelect ops && decide (listed.size = ops.size) &&
  ((List.range ops.size).all fun j => listed.getD j true || l1.contains j || l2.contains j || ts.contains j) &&
  ((l1 ++ l2 ++ ts).all fun j => decide (j < ops.size) && !listed.getD j true) &&
  decide (l1 ++ l2).Nodup && lexOk md ops l1 listed && lexOk md ops (l1 ++ l2) listed && chained md ops l1 && chained md ops l2 &&
  (ts.all fun t => !(l1 ++ l2).contains t && ((ts.any fun s => Region.waitsFor md ops t s) || (behind md ops l1 t && behind md ops l2 t))) && apartAll ops l1 l2

structure CrossOk (md : Region.Mode) (ops : Array Oper) (listed : Array Bool) (l1 l2 ts : List Nat) : Prop where
  size : listed.size = ops.size
  cover : ∀ j, j < ops.size → listed.getD j true = false → j ∈ l1 ∨ j ∈ l2 ∨ j ∈ ts
  un : ∀ j, j ∈ l1 ∨ j ∈ l2 ∨ j ∈ ts → j < ops.size ∧ listed.getD j true = false
  nd1 : l1.Nodup
  nd2 : l2.Nodup
  dis : ∀ i ∈ l1, i ∉ l2
  ndt : ∀ t ∈ ts, t ∉ l1 ∧ t ∉ l2
  lex1 : lexOk md ops l1 listed = true
  lex2 : lexOk md ops (l1 ++ l2) listed = true
  ch1 : chained md ops l1 = true
  ch2 : chained md ops l2 = true
  root : ∀ t ∈ ts, (∃ s ∈ ts, Region.waitsFor md ops t s = true) ∨ (behind md ops l1 t = true ∧ behind md ops l2 t = true)
  apart : ∀ i ∈ l1, ∀ j ∈ l2, ∀ oi oj, ops[i]? = some oi → ops[j]? = some oj → oi.apart ops oj = true ∧ oj.apart ops oi = true

theorem crossB_ok {listed : Array Bool} {l1 l2 ts : List Nat} (h : crossB md ops listed l1 l2 ts = true) : Region.noSelect ops = true ∧ CrossOk md ops listed l1 l2 ts := by
  simp only [crossB, Bool.and_eq_true, decide_eq_true_eq] at h
  obtain ⟨⟨⟨⟨⟨⟨⟨⟨⟨⟨h1, h2⟩, h3⟩, h4⟩, h5⟩, h6⟩, h7⟩, h8⟩, h9⟩, h10⟩, h11⟩ := h
  have hnd := List.nodup_append.1 h5
  refine ⟨h1, h2, fun j hj hl => ?_, fun j hj => ?_, hnd.1, hnd.2.1, fun i hi hi2 => hnd.2.2 i hi i hi2 rfl, fun t ht => ?_, h6, h7, h8, h9, fun t ht => ?_, fun i hi j hj oi oj hoi hoj => ?_⟩
  · have := List.all_eq_true.1 h3 j (List.mem_range.2 hj)
    rw [hl] at this
    simpa [or_assoc] using this
  · have := List.all_eq_true.1 h4 j (by simp; exact hj)
    simp only [Bool.and_eq_true, decide_eq_true_eq, Bool.not_eq_true'] at this
    exact this
  · have := List.all_eq_true.1 h10 t ht
    simp only [Bool.and_eq_true, Bool.not_eq_true'] at this
    have h := this.1
    simp at h
    exact h
  · have := List.all_eq_true.1 h10 t ht
    simp only [Bool.and_eq_true, Bool.or_eq_true, List.any_eq_true] at this
    exact this.2
  · have := List.all_eq_true.1 (List.all_eq_true.1 h11 i hi) j hj
    rw [hoi, hoj] at this
    simpa [Bool.and_eq_true] using this

theorem CrossOk.only {listed : Array Bool} {l1 l2 ts : List Nat} (ok : CrossOk md ops listed l1 l2 ts) (hne : l1 ≠ [] ∨ l2 ≠ []) {i : Nat} (hi : i ∈ Region.ready md ops listed) : (∃ l, l1 = i :: l) ∨ (∃ l, l2 = i :: l) := by
  obtain ⟨hlt, hun, hed⟩ := mem_ready'.1 hi
  have bad : ∀ s, s ∈ l1 ∨ s ∈ l2 ∨ s ∈ ts → Region.waitsFor md ops i s = true → False := fun s hs' hw => by
    have h1 := edgesIn_waits hed hw
    rw [getD_both (ok.un s hs').2] at h1
    cases h1
  rcases ok.cover i hlt hun with h | h | h
  · rcases chained_prev l1 i ok.ch1 h with h2 | ⟨s, hs, hw⟩
    · exact .inl h2
    · exact (bad s (.inl hs) hw).elim
  · rcases chained_prev l2 i ok.ch2 h with h2 | ⟨s, hs, hw⟩
    · exact .inr h2
    · exact (bad s (.inr (.inl hs)) hw).elim
  · exfalso
    rcases ok.root i h with ⟨s, hs, hw⟩ | ⟨hb1, hb2⟩
    · exact bad s (.inr (.inr hs)) hw
    · rcases hne with hne | hne
      · obtain ⟨x, l, rfl⟩ : ∃ x l, l1 = x :: l := by cases l1 with | nil => exact absurd rfl hne | cons x l => exact ⟨x, l, rfl⟩
        obtain ⟨j, hj⟩ := lastOf_some x l
        rw [behind, hj] at hb1
        exact bad j (.inl (lastOf_mem _ _ hj)) hb1
      · obtain ⟨x, l, rfl⟩ : ∃ x l, l2 = x :: l := by cases l2 with | nil => exact absurd rfl hne | cons x l => exact ⟨x, l, rfl⟩
        obtain ⟨j, hj⟩ := lastOf_some x l
        rw [behind, hj] at hb2
        exact bad j (.inr (.inl (lastOf_mem _ _ hj))) hb2

theorem CrossOk.strike {listed : Array Bool} {i : Nat} {l1 l2 ts : List Nat} (ok : CrossOk md ops listed (i :: l1) l2 ts) : CrossOk md ops (listed.setIfInBounds i true) l1 l2 ts := by
  obtain ⟨hlt, hui⟩ := ok.un i (.inl List.mem_cons_self)
  have hn := List.nodup_cons.1 ok.nd1
  have hi2 := ok.dis i List.mem_cons_self
  have hne : ∀ j, j ∈ l1 ∨ j ∈ l2 ∨ j ∈ ts → i ≠ j := by
    rintro j hj rfl
    rcases hj with h | h | h
    · exact hn.1 h
    · exact hi2 h
    · exact (ok.ndt i h).1 List.mem_cons_self
  have hlex := ok.lex1
  simp only [lexOk, Bool.and_eq_true] at hlex
  have hlex2 := ok.lex2
  simp only [List.cons_append, lexOk, Bool.and_eq_true] at hlex2
  refine ⟨by simp [ok.size], fun j hj hl => ?_, fun j hj => ?_, hn.2, ok.nd2, fun j hj => ok.dis j (List.mem_cons_of_mem _ hj), fun t ht => ⟨fun h => (ok.ndt t ht).1 (List.mem_cons_of_mem _ h), (ok.ndt t ht).2⟩, hlex.2, hlex2.2, chained_tail ok.ch1, ok.ch2,
    fun t ht => (ok.root t ht).imp id (fun h => ⟨behind_tail h.1, h.2⟩), fun a ha b hb => ok.apart a (List.mem_cons_of_mem _ ha) b hb⟩
  · by_cases hij : i = j
    · subst hij
      rw [show (listed.setIfInBounds i true).getD i true = true by simp [ok.size, hlt]] at hl
      cases hl
    · rw [getD_set_ne true hij] at hl
      rcases ok.cover j hj hl with h | h | h
      · rcases List.mem_cons.1 h with h | h
        · exact absurd h.symm hij
        · exact .inl h
      · exact .inr (.inl h)
      · exact .inr (.inr h)
  · have := ok.un j (by rcases hj with h | h | h <;> simp [h])
    exact ⟨this.1, by rw [getD_set_ne true (hne j hj)]; exact this.2⟩

theorem CrossOk.strike2 {listed : Array Bool} {i : Nat} {l1 l2 ts : List Nat} (ok : CrossOk md ops listed l1 (i :: l2) ts) : CrossOk md ops (listed.setIfInBounds i true) l1 l2 ts := by
  obtain ⟨hlt, hui⟩ := ok.un i (.inr (.inl List.mem_cons_self))
  have hn := List.nodup_cons.1 ok.nd2
  have hi1 : i ∉ l1 := fun h => ok.dis i h List.mem_cons_self
  have hne : ∀ j, j ∈ l1 ∨ j ∈ l2 ∨ j ∈ ts → i ≠ j := by
    rintro j hj rfl
    rcases hj with h | h | h
    · exact hi1 h
    · exact hn.1 h
    · exact (ok.ndt i h).2 List.mem_cons_self
  refine ⟨by simp [ok.size], fun j hj hl => ?_, fun j hj => ?_, ok.nd1, hn.2, fun j hj h => ok.dis j hj (List.mem_cons_of_mem _ h), fun t ht => ⟨(ok.ndt t ht).1, fun h => (ok.ndt t ht).2 (List.mem_cons_of_mem _ h)⟩, lexOk_set _ _ ok.lex1, lexOk_strike l1 listed hi1 ok.lex2, ok.ch1, chained_tail ok.ch2,
    fun t ht => (ok.root t ht).imp id (fun h => ⟨h.1, behind_tail h.2⟩), fun a ha b hb => ok.apart a ha b (List.mem_cons_of_mem _ hb)⟩
  · by_cases hij : i = j
    · subst hij
      rw [show (listed.setIfInBounds i true).getD i true = true by simp [ok.size, hlt]] at hl
      cases hl
    · rw [getD_set_ne true hij] at hl
      rcases ok.cover j hj hl with h | h | h
      · exact .inl h
      · rcases List.mem_cons.1 h with h | h
        · exact absurd h.symm hij
        · exact .inr (.inl h)
      · exact .inr (.inr h)
  · have := ok.un j (by rcases hj with h | h | h <;> simp [h])
    exact ⟨this.1, by rw [getD_set_ne true (hne j hj)]; exact this.2⟩

theorem wpAny_cross (hsel : Region.noSelect ops = true) {ts : List Nat} {R : HP} [Loc B R] {fuel : Nat} : ∀ (n : Nat) (l1 l2 : List Nat) (listed : Array Bool) (a : Act) (w : World) (Φ1 Φ2 : List Value → HP → Prop) (A1 A2 : HP), l1.length + l2.length = n → Loc B A1 → Loc B A2 →
    CrossOk md ops listed l1 l2 ts → TW P ops B (opsOf ops l1) Φ1 a A1 → TW P ops B (opsOf ops l2) Φ2 a A2 → B ≤ w.heap.size → Own B (A1 * (A2 * R)) w →
    (∀ vs1 A1' vs2 A2' w', Φ1 vs1 A1' → Φ2 vs2 A2' → Own B (A1' * (A2' * R)) w' → Below B w w' → wpAny P md ops Q fuel (markAll l2 (markAll l1 listed)) (putAll (opsOf ops l2) vs2 (putAll (opsOf ops l1) vs1 a)) w') →
    wpAny P md ops Q (n + fuel) listed a w
  | 0, l1, l2, listed, a, w, Φ1, Φ2, A1, A2, hn, _, _, ok, h1, h2, hB, hO, hK => by
    obtain rfl : l1 = [] := List.eq_nil_of_length_eq_zero (by omega)
    obtain rfl : l2 = [] := List.eq_nil_of_length_eq_zero (by omega)
    rw [Nat.zero_add]
    exact hK [] A1 [] A2 w h1 h2 hO (Below.refl B w)
  | n + 1, l1, l2, listed, a, w, Φ1, Φ2, A1, A2, hn, k1, k2, ok, h1, h2, hB, hO, hK => by
    rw [show n + 1 + fuel = (n + fuel) + 1 by omega]
    have hne : l1 ≠ [] ∨ l2 ≠ [] := by
      cases l1 with
      | nil => right; intro e; subst e; simp at hn
      | cons x l => left; simp
    have hrdy : Region.ready md ops listed ≠ [] := by
      intro h0
      cases hl1 : l1 with
      | cons x l =>
        subst hl1
        have hlex := ok.lex1
        simp only [lexOk, Bool.and_eq_true] at hlex
        have hun := ok.un x (by simp)
        have : x ∈ Region.ready md ops listed := mem_ready'.2 ⟨hun.1, hun.2, hlex.1⟩
        rw [h0] at this; cases this
      | nil =>
        subst hl1
        obtain ⟨x, l, rfl⟩ : ∃ x l, l2 = x :: l := by cases l2 with | nil => simp at hne | cons x l => exact ⟨x, l, rfl⟩
        have hlex := ok.lex2
        simp only [List.nil_append, lexOk, Bool.and_eq_true] at hlex
        have hun := ok.un x (by simp)
        have : x ∈ Region.ready md ops listed := mem_ready'.2 ⟨hun.1, hun.2, hlex.1⟩
        rw [h0] at this; cases this
    refine ⟨fun h0 => absurd h0 hrdy, fun i hi => ?_⟩
    have hlt := (mem_ready'.1 hi).1
    obtain ⟨o, ho⟩ : ∃ o, ops[i]? = some o := ⟨_, Array.getElem?_eq_getElem hlt⟩
    unfold wpOp
    simp only [ho]
    rcases ok.only hne hi with ⟨l, rfl⟩ | ⟨l, rfl⟩
    · rw [opsOf_cons ho] at h1
      have hap : ∀ o' ∈ opsOf ops l2, (∃ j : Nat, ops[j]? = some o') ∧ o'.apart ops o = true := fun o' h' => by
        obtain ⟨j, hj, hoj⟩ := mem_opsOf h'
        exact ⟨⟨j, hoj⟩, (ok.apart i List.mem_cons_self j hj o o' ho hoj).2⟩
      have hlen : l.length + l2.length = n := by simp at hn; omega
      obtain ⟨_, h1 | h1⟩ := h1
      · rw [if_pos h1.1]
        left
        refine h1.2.wp hB hO fun v A' w' ⟨kl, ht⟩ hO' hb => ?_
        refine wpAny_cross hsel n l l2 _ _ w' (fun vs => Φ1 (v :: vs)) Φ2 A' A2 hlen kl k2 ok.strike ht (h2.put hsel _ _ _ _ hap) (Nat.le_trans hB hb.size) hO' fun vs1 A1' vs2 A2' w'' p1 p2 hO'' hb' => ?_
        have := hK (v :: vs1) A1' vs2 A2' w'' p1 p2 hO'' (hb.trans hb')
        rw [opsOf_cons ho] at this
        exact this
      · rw [if_neg (by rw [h1.1]; exact Bool.false_ne_true)]
        refine wpAny_cross hsel n l l2 _ _ w (fun vs => Φ1 (undef :: vs)) Φ2 A1 A2 hlen k1 k2 ok.strike h1.2 (h2.put hsel _ _ _ _ hap) hB hO fun vs1 A1' vs2 A2' w'' p1 p2 hO'' hb' => ?_
        have := hK (undef :: vs1) A1' vs2 A2' w'' p1 p2 hO'' hb'
        rw [opsOf_cons ho] at this
        exact this
    · rw [opsOf_cons ho] at h2
      have hap : ∀ o' ∈ opsOf ops l1, (∃ j : Nat, ops[j]? = some o') ∧ o'.apart ops o = true := fun o' h' => by
        obtain ⟨j, hj, hoj⟩ := mem_opsOf h'
        exact ⟨⟨j, hoj⟩, (ok.apart j hj i List.mem_cons_self o' o hoj ho).1⟩
      have hlen : l1.length + l.length = n := by simp at hn; omega
      obtain ⟨_, h2 | h2⟩ := h2
      · rw [if_pos h2.1]
        left
        refine h2.2.wp hB (hO.cast (sep_left_comm _ _ _)) fun v A' w' ⟨kl, ht⟩ hO' hb => ?_
        refine wpAny_cross hsel n l1 l _ _ w' Φ1 (fun vs => Φ2 (v :: vs)) A1 A' hlen k1 kl ok.strike2 (h1.put hsel _ _ _ _ hap) ht (Nat.le_trans hB hb.size) (hO'.cast (sep_left_comm _ _ _)) fun vs1 A1' vs2 A2' w'' p1 p2 hO'' hb' => ?_
        have := hK vs1 A1' (v :: vs2) A2' w'' p1 p2 hO'' (hb.trans hb')
        rw [opsOf_cons ho] at this
        rw [putAll_put _ _ _ _ _ (fun o' h' => (hap o' h').2), markAll_set]
        exact this
      · rw [if_neg (by rw [h2.1]; exact Bool.false_ne_true)]
        refine wpAny_cross hsel n l1 l _ _ w Φ1 (fun vs => Φ2 (undef :: vs)) A1 A2 hlen k1 k2 ok.strike2 (h1.put hsel _ _ _ _ hap) h2.2 hB hO fun vs1 A1' vs2 A2' w'' p1 p2 hO'' hb' => ?_
        have := hK vs1 A1' (undef :: vs2) A2' w'' p1 p2 hO'' hb'
        rw [opsOf_cons ho] at this
        rw [putAll_put _ _ _ _ _ (fun o' h' => (hap o' h').2), markAll_set]
        exact this

/-- THE RULE: us free, at whatever time · l1 and l2 two threads · ts behind both. -/
theorem wp_region_cross {id : Nat} {a : Act} {w : World} (us l1 l2 ts : List Nat) (A1 A2 R : HP) [k1 : Loc B A1] [k2 : Loc B A2] [Loc B R] (hm : P.follows .mixedOrders = true)
    (hB : (freeB .any ops us (Array.replicate ops.size false) && crossB .any ops (markAll us (Array.replicate ops.size false)) l1 l2 ts) = true) (hf : ops.size = us.length + ((l1.length + l2.length) + ts.length))
    (hQ : ∀ c a d v w, Q (.panic c) (a.put (some d) v) w → Q (.panic c) a w) (hsz : B ≤ w.heap.size) (hO : Own B (A1 * (A2 * R)) w.drew)
    (h : wpFree P ops (fun a1 => ∃ Φ1 Φ2 : List Value → HP → Prop, TW P ops B (opsOf ops l1) Φ1 a1 A1 ∧ TW P ops B (opsOf ops l2) Φ2 a1 A2 ∧
      ∀ vs1 A1' vs2 A2' w', Φ1 vs1 A1' → Φ2 vs2 A2' → Own B (A1' * (A2' * R)) w' → Below B w w' → wpAny P .any ops Q ts.length (markAll l2 (markAll l1 (markAll us (Array.replicate ops.size false)))) (putAll (opsOf ops l2) vs2 (putAll (opsOf ops l1) vs1 a1)) w')
      (us.filterMap fun i => ops[i]?) a) : (Code.region id ops true).wp P Q a w := by
  rw [Bool.and_eq_true] at hB
  refine wp_region_any hm ?_
  obtain ⟨hsel, ok⟩ := crossB_ok hB.2
  have hgo : wpAny P .any ops Q (us.length + ((l1.length + l2.length) + ts.length)) (Array.replicate ops.size false) a w.drew := by
    refine wpAny_free hQ hsel us _ a hB.1 (fun a' ⟨Φ1, Φ2, t1, t2, hK⟩ => ?_) h
    exact wpAny_cross hsel (l1.length + l2.length) l1 l2 _ a' _ Φ1 Φ2 A1 A2 rfl k1 k2 ok t1 t2 hsz hO fun vs1 A1' vs2 A2' w' p1 p2 ho hb => hK vs1 A1' vs2 A2' w' p1 p2 ho ((Below.refl B w).drew.trans hb)
  rw [← hf] at hgo
  exact hgo

end
end Go.Proofs.YtmppagiaonbggaaDoor

/- The rule of two threads of which the second may wait for the first one's steps, with reads that the rest decides. -/
namespace Go.Proofs.YtmppagiaonbggaaDoor
set_option linter.unusedVariables false
set_option linter.unusedSimpArgs false
set_option maxRecDepth 100000
open Go.RowKit

section
variable {P : Program} {ops : Array Oper} {md : Region.Mode} {Q : Exit → Act → World → Prop} {B : Nat}

theorem wpL_cross (hsel : Region.noSelect ops = true) {ts : List Nat} {R : HP} [Loc B R] {T : Act → World → Prop} : ∀ (n : Nat) (l1 l2 : List Nat) (listed : Array Bool) (a : Act) (w : World) (Φ1 Φ2 : List Value → HP → Prop) (A1 A2 : HP), l1.length + l2.length = n → Loc B A1 → Loc B A2 →
    CrossOk md ops listed l1 l2 ts → TW P ops B (opsOf ops l1) Φ1 a A1 → TW P ops B (opsOf ops l2) Φ2 a A2 → B ≤ w.heap.size → Own B (A1 * (A2 * R)) w →
    (∀ vs1 A1' vs2 A2' w', Φ1 vs1 A1' → Φ2 vs2 A2' → Own B (A1' * (A2' * R)) w' → Below B w w' → T (putAll (opsOf ops l2) vs2 (putAll (opsOf ops l1) vs1 a)) w') →
    wpL P md ops Q (fun w => Own B R w) T n listed a w
  | 0, l1, l2, listed, a, w, Φ1, Φ2, A1, A2, hn, _, _, ok, h1, h2, hB, hO, hK => by
    obtain rfl : l1 = [] := List.eq_nil_of_length_eq_zero (by omega)
    obtain rfl : l2 = [] := List.eq_nil_of_length_eq_zero (by omega)
    exact hK [] A1 [] A2 w h1 h2 hO (Below.refl B w)
  | n + 1, l1, l2, listed, a, w, Φ1, Φ2, A1, A2, hn, k1, k2, ok, h1, h2, hB, hO, hK => by
    have hne : l1 ≠ [] ∨ l2 ≠ [] := by
      cases l1 with
      | nil => right; intro e; subst e; simp at hn
      | cons x l => left; simp
    have hrdy : Region.ready md ops listed ≠ [] := by
      intro h0
      cases hl1 : l1 with
      | cons x l =>
        subst hl1
        have hlex := ok.lex1
        simp only [lexOk, Bool.and_eq_true] at hlex
        have hun := ok.un x (by simp)
        have : x ∈ Region.ready md ops listed := mem_ready'.2 ⟨hun.1, hun.2, hlex.1⟩
        rw [h0] at this; cases this
      | nil =>
        subst hl1
        obtain ⟨x, l, rfl⟩ : ∃ x l, l2 = x :: l := by cases l2 with | nil => simp at hne | cons x l => exact ⟨x, l, rfl⟩
        have hlex := ok.lex2
        simp only [List.nil_append, lexOk, Bool.and_eq_true] at hlex
        have hun := ok.un x (by simp)
        have : x ∈ Region.ready md ops listed := mem_ready'.2 ⟨hun.1, hun.2, hlex.1⟩
        rw [h0] at this; cases this
    have hd : ∀ {A1' A2' : HP} {w' : World}, Loc B A1' → Loc B A2' → Own B (A1' * (A2' * R)) w' → Own B R w' := fun _ _ h => h.right.right
    refine ⟨hrdy, fun i hi => ?_⟩
    have hlt := (mem_ready'.1 hi).1
    obtain ⟨o, ho⟩ : ∃ o, ops[i]? = some o := ⟨_, Array.getElem?_eq_getElem hlt⟩
    unfold wpOp
    simp only [ho]
    rcases ok.only hne hi with ⟨l, rfl⟩ | ⟨l, rfl⟩
    · rw [opsOf_cons ho] at h1
      have hap : ∀ o' ∈ opsOf ops l2, (∃ j : Nat, ops[j]? = some o') ∧ o'.apart ops o = true := fun o' h' => by
        obtain ⟨j, hj, hoj⟩ := mem_opsOf h'
        exact ⟨⟨j, hoj⟩, (ok.apart i List.mem_cons_self j hj o o' ho hoj).2⟩
      have hlen : l.length + l2.length = n := by simp at hn; omega
      obtain ⟨_, h1 | h1⟩ := h1
      · rw [if_pos h1.1]
        left
        refine h1.2.wp hB hO fun v A' w' ⟨kl, ht⟩ hO' hb => ⟨hd kl k2 hO', ?_⟩
        refine wpL_cross hsel n l l2 _ _ w' (fun vs => Φ1 (v :: vs)) Φ2 A' A2 hlen kl k2 ok.strike ht (h2.put hsel _ _ _ _ hap) (Nat.le_trans hB hb.size) hO' fun vs1 A1' vs2 A2' w'' p1 p2 hO'' hb' => ?_
        have := hK (v :: vs1) A1' vs2 A2' w'' p1 p2 hO'' (hb.trans hb')
        rw [opsOf_cons ho] at this
        exact this
      · rw [if_neg (by rw [h1.1]; exact Bool.false_ne_true)]
        refine ⟨hd k1 k2 hO, wpL_cross hsel n l l2 _ _ w (fun vs => Φ1 (undef :: vs)) Φ2 A1 A2 hlen k1 k2 ok.strike h1.2 (h2.put hsel _ _ _ _ hap) hB hO fun vs1 A1' vs2 A2' w'' p1 p2 hO'' hb' => ?_⟩
        have := hK (undef :: vs1) A1' vs2 A2' w'' p1 p2 hO'' hb'
        rw [opsOf_cons ho] at this
        exact this
    · rw [opsOf_cons ho] at h2
      have hap : ∀ o' ∈ opsOf ops l1, (∃ j : Nat, ops[j]? = some o') ∧ o'.apart ops o = true := fun o' h' => by
        obtain ⟨j, hj, hoj⟩ := mem_opsOf h'
        exact ⟨⟨j, hoj⟩, (ok.apart j hj i List.mem_cons_self o' o hoj ho).1⟩
      have hlen : l1.length + l.length = n := by simp at hn; omega
      obtain ⟨_, h2 | h2⟩ := h2
      · rw [if_pos h2.1]
        left
        refine h2.2.wp hB (hO.cast (sep_left_comm _ _ _)) fun v A' w' ⟨kl, ht⟩ hO' hb => ⟨hd kl k1 hO', ?_⟩
        refine wpL_cross hsel n l1 l _ _ w' Φ1 (fun vs => Φ2 (v :: vs)) A1 A' hlen k1 kl ok.strike2 (h1.put hsel _ _ _ _ hap) ht (Nat.le_trans hB hb.size) (hO'.cast (sep_left_comm _ _ _)) fun vs1 A1' vs2 A2' w'' p1 p2 hO'' hb' => ?_
        have := hK vs1 A1' (v :: vs2) A2' w'' p1 p2 hO'' (hb.trans hb')
        rw [opsOf_cons ho] at this
        rw [putAll_put _ _ _ _ _ (fun o' h' => (hap o' h').2)]
        exact this
      · rw [if_neg (by rw [h2.1]; exact Bool.false_ne_true)]
        refine ⟨hd k1 k2 hO, wpL_cross hsel n l1 l _ _ w Φ1 (fun vs => Φ2 (undef :: vs)) A1 A2 hlen k1 k2 ok.strike2 (h1.put hsel _ _ _ _ hap) h2.2 hB hO fun vs1 A1' vs2 A2' w'' p1 p2 hO'' hb' => ?_⟩
        have := hK vs1 A1' (undef :: vs2) A2' w'' p1 p2 hO'' hb'
        rw [opsOf_cons ho] at this
        rw [putAll_put _ _ _ _ _ (fun o' h' => (hap o' h').2)]
        exact this

/-- THE RULE: us free · ls: reads that R decides, ahead of ts · l1 and l2 two threads · ts the rest, in their order. -/
theorem wp_region_lcross {id : Nat} {a : Act} {w : World} (us ls l1 l2 ts : List Nat) (A1 A2 R : HP) [k1 : Loc B A1] [k2 : Loc B A2] [Loc B R] (hm : P.follows .mixedOrders = true)
    (hB : (freeB .any ops us (Array.replicate ops.size false) && mixB .any ops (markAll us (Array.replicate ops.size false)) (ls ++ (l1 ++ l2)) ts && crossB .any ops (markAll ls (markAll us (Array.replicate ops.size false))) l1 l2 ts) = true)
    (hf : ops.size = us.length + ((ls.length + (l1.length + l2.length)) + ts.length))
    (hQ : ∀ c a d v w, Q (.panic c) (a.put (some d) v) w → Q (.panic c) a w) (hsz : B ≤ w.heap.size) (hO : Own B (A1 * (A2 * R)) w.drew)
    (h : wpFree P ops (fun a1 => wpLate P ops (fun w => Own B R w) (fun a2 => ∃ Φ1 Φ2 : List Value → HP → Prop, TW P ops B (opsOf ops l1) Φ1 a2 A1 ∧ TW P ops B (opsOf ops l2) Φ2 a2 A2 ∧
      ∀ vs1 A1' vs2 A2' w', Φ1 vs1 A1' → Φ2 vs2 A2' → Own B (A1' * (A2' * R)) w' → Below B w w' → wpList P ops Q (ts.filterMap fun i => ops[i]?) (putAll (opsOf ops l2) vs2 (putAll (opsOf ops l1) vs1 a2)) w')
      (ls.filterMap fun i => ops[i]?) a1) (us.filterMap fun i => ops[i]?) a) : (Code.region id ops true).wp P Q a w := by
  simp only [Bool.and_eq_true] at hB
  obtain ⟨⟨hB1, hB2⟩, hB3⟩ := hB
  obtain ⟨hsel, ok1⟩ := mixB_ok hB2
  obtain ⟨_, ok2⟩ := crossB_ok hB3
  have hts : ∀ i ∈ ts, i < ops.size := fun i hi => (ok1.un i (by simp [hi])).1
  refine wp_region_any hm ?_
  have hR : Own B R w.drew := hO.right.right
  have hgo : wpAny P .any ops Q (us.length + ((ls.length + (l1.length + l2.length)) + ts.length)) (Array.replicate ops.size false) a w.drew := by
    refine wpAny_free hQ hsel us _ a hB1 (fun a1 h1 => ?_) h
    refine wpL_any (S := fun w => Own B R w) (T := fun a4 w4 => wpOps P ops Q ts a4 w4) (fun _ _ h => h) _ (ls ++ (l1 ++ l2)) _ a1 _ (by simp) ok1 ?_
    have := wpL_lates (P := P) (S := fun w => Own B R w) (T := fun a4 w4 => wpOps P ops Q ts a4 w4) (w := w.drew) hsel hQ hR ls (l1 ++ l2) _ a1 ok1 (fun a2 ⟨Φ1, Φ2, t1, t2, hK⟩ _ => ?_) h1
    · rw [List.length_append]
      exact wpL_cross hsel (l1.length + l2.length) l1 l2 _ a2 _ Φ1 Φ2 A1 A2 rfl k1 k2 ok2 t1 t2 hsz hO fun vs1 A1' vs2 A2' w' p1 p2 ho hb => wpOps_list ts _ w' hts (hK vs1 A1' vs2 A2' w' p1 p2 ho ((Below.refl B w).drew.trans hb))
    · rw [List.length_append] at this
      exact this
  rw [← hf] at hgo
  exact hgo

end
end Go.Proofs.YtmppagiaonbggaaDoor
