/- Texts of one proof, merged: XTwo XOb XRa XK0 XBit XK1 XK2 XK3 XK4. -/
import Derived.Test.YtedcficjmogohaaPa
import Derived.BigQuiet
import Derived.RowKit
import Derived.KernelRfl
import Derived.Deep.LoopGhost
import Derived.Lib.Hide
import Derived.Laws.ShiftsVar
import Derived.WalkSpells
import Derived.Lib.BufferMore
import Derived.Below
import Derived.Laws.Bits64b
import Derived.Laws.BitsLemmas
import Derived.Maps.Own
import Derived.Maps.Views
import Derived.DeepKeys3
import Derived.Laws.Cover3
import Derived.Laws.Cells
/- A statement whose order Go leaves open, of two threads, each with what it owns: in whatever order their steps come, both end as each ends alone; then comes the rest. -/
namespace Go.Proofs.Ytedcficjmogohaa
set_option linter.unusedVariables false
set_option linter.unusedSimpArgs false
set_option maxRecDepth 100000
open Go.RowKit

section
variable {P : Program} {ops : Array Oper} {md : Region.Mode} {Q : Exit → Act → World → Prop} {B : Nat}

/-- From every world in which A is owned (beside whatever) the operation ends in some value and some owning that Ψ tells. -/
def StepR (P : Program) (B : Nat) (o : Oper) (a : Act) (A : HP) (Ψ : Value → HP → Prop) : Prop :=
  ∀ (R : HP) [Loc B R] (w : World), B ≤ w.heap.size → Own B (A * R) w → match (execOp a.eval o).run P w with
    | .ok (.value u) w' => ∃ A', Ψ u A' ∧ Own B (A' * R) w' ∧ Below B w w'
    | .ok .skip w' => ∃ A', Ψ undef A' ∧ Own B (A' * R) w' ∧ Below B w w'
    | .ok (.enter f args) w' => Calls P f args w' fun e w'' => ∃ u A', e = .returned u ∧ Ψ u A' ∧ Own B (A' * R) w'' ∧ Below B w w''
    | _ => False

/-- A thread: its operations in their order, each from what the one ahead has left; at the end Φ tells of the values and of what is owned. -/
def TW (P : Program) (ops : Array Oper) (B : Nat) : List Oper → (List Value → HP → Prop) → Act → HP → Prop
  | [], Φ, _, A => Φ [] A
  | o :: l, Φ, a, A => Loc B A ∧ ((Region.wanted o (yielded ops a.tmps) = true ∧ StepR P B o a A (fun v A' => Loc B A' ∧ TW P ops B l (fun vs => Φ (v :: vs)) (a.put o.dst v) A')) ∨
      (Region.wanted o (yielded ops a.tmps) = false ∧ TW P ops B l (fun vs => Φ (undef :: vs)) (a.put o.dst undef) A))

def putAll : List Oper → List Value → Act → Act
  | o :: l, v :: vs, a => putAll l vs (a.put o.dst v)
  | _, _, a => a

theorem StepR.imp {o : Oper} {a : Act} {A : HP} {Ψ Ψ' : Value → HP → Prop} (h : StepR P B o a A Ψ) (hi : ∀ v A', Ψ v A' → Ψ' v A') : StepR P B o a A Ψ' := by
  intro R _ w hB hO
  have h1 := h R w hB hO
  generalize (execOp a.eval o).run P w = r at h1 ⊢
  cases r with
  | ok n w' =>
    cases n <;> simp only at h1 ⊢
    case value u => obtain ⟨A', h2, h3⟩ := h1; exact ⟨A', hi _ _ h2, h3⟩
    case skip => obtain ⟨A', h2, h3⟩ := h1; exact ⟨A', hi _ _ h2, h3⟩
    case enter f args => exact h1.mono fun e w'' ⟨u, A', he, h2, h3⟩ => ⟨u, A', he, hi _ _ h2, h3⟩
  | halt x w' => cases x <;> exact h1.elim

theorem TW.put (hsel : Region.noSelect ops = true) {oi : Oper} {v : Value} : ∀ (l : List Oper) (Φ : List Value → HP → Prop) (a : Act) (A : HP), (∀ o ∈ l, (∃ j : Nat, ops[j]? = some o) ∧ o.apart ops oi = true) → TW P ops B l Φ a A → TW P ops B l Φ (a.put oi.dst v) A
  | [], _, _, _, _, h => h
  | o :: l, Φ, a, A, hap, h => by
    obtain ⟨⟨j, hj⟩, hoa⟩ := hap o List.mem_cons_self
    obtain ⟨h1, h2, h3⟩ := Oper.apart_spec hoa
    have sj := Region.noSelect_spec hsel j o
    have he := execOp_put o (fun cs b => sj cs b hj) a oi.dst v h3
    have hw := wanted_put o a oi.dst v h3
    have hl : ∀ o' ∈ l, (∃ j : Nat, ops[j]? = some o') ∧ o'.apart ops oi = true := fun o' ho' => hap o' (List.mem_cons_of_mem _ ho')
    obtain ⟨hloc, h⟩ := h
    refine ⟨hloc, ?_⟩
    rcases h with ⟨hwa, hst⟩ | ⟨hwa, hr⟩
    · left
      refine ⟨by rw [hw]; exact hwa, ?_⟩
      have hst' : StepR P B o (a.put oi.dst v) A (fun v' A' => Loc B A' ∧ TW P ops B l (fun vs => Φ (v' :: vs)) (a.put o.dst v') A') := by
        unfold StepR at hst ⊢
        rw [he]
        exact hst
      refine hst'.imp fun v' A' ⟨hl', ht⟩ => ⟨hl', ?_⟩
      rw [← Act.put_comm a v' v h2]
      exact TW.put hsel l _ _ _ hl ht
    · right
      refine ⟨by rw [hw]; exact hwa, ?_⟩
      rw [← Act.put_comm a undef v h2]
      exact TW.put hsel l _ _ _ hl hr

theorem putAll_put : ∀ (l : List Oper) (vs : List Value) (a : Act) (oi : Oper) (v : Value), (∀ o ∈ l, o.apart ops oi = true) → putAll l vs (a.put oi.dst v) = (putAll l vs a).put oi.dst v
  | [], _, _, _, _, _ => by simp [putAll]
  | o :: l, [], _, _, _, _ => by simp [putAll]
  | o :: l, u :: vs, a, oi, v, h => by
    obtain ⟨h1, h2, h3⟩ := Oper.apart_spec (h o List.mem_cons_self)
    show putAll l vs ((a.put oi.dst v).put o.dst u) = (putAll l vs (a.put o.dst u)).put oi.dst v
    rw [← Act.put_comm a u v h2]
    exact putAll_put l vs _ oi v (fun o' ho' => h o' (List.mem_cons_of_mem _ ho'))

theorem StepR.wp {o : Oper} {a : Act} {A R : HP} [Loc B R] {Ψ : Value → HP → Prop} {w : World} (h : StepR P B o a A Ψ) (hB : B ≤ w.heap.size) (hO : Own B (A * R) w) {K : Act → World → Prop}
    (hK : ∀ v A' w', Ψ v A' → Own B (A' * R) w' → Below B w w' → K (a.put o.dst v) w') : o.wp P a w K Q := by
  have h1 := h R w hB hO
  unfold Oper.wp
  generalize (execOp a.eval o).run P w = r at h1
  cases r with
  | ok n w' =>
    cases n <;> simp only [Oper.upon] at h1 ⊢
    case value u => obtain ⟨A', h2, h3, h4⟩ := h1; exact hK _ _ _ h2 h3 h4
    case skip => obtain ⟨A', h2, h3, h4⟩ := h1; exact hK _ _ _ h2 h3 h4
    case enter f args => exact h1.mono fun e w'' ⟨u, A', he, h2, h3, h4⟩ => by subst he; exact hK _ _ _ h2 h3 h4
  | halt x w' => cases x <;> exact h1.elim

/-! the static look -/
def apartAll (ops : Array Oper) (l1 l2 : List Nat) : Bool := l1.all fun i => l2.all fun j => match ops[i]?, ops[j]? with | some oi, some oj => oi.apart ops oj && oj.apart ops oi | _, _ => false
def lastOf : List Nat → Option Nat
  | [] => none
  | [i] => some i
  | _ :: l => lastOf l
def behind (md : Region.Mode) (ops : Array Oper) (l : List Nat) (t : Nat) : Bool := match lastOf l with | none => true | some i => Region.waitsFor md ops t i
def twoB (md : Region.Mode) (ops : Array Oper) (listed : Array Bool) (l1 l2 ts : List Nat) : Bool :=
  Region.noSelect ops && decide (listed.size = ops.size) &&
  ((List.range ops.size).all fun j => listed.getD j true || l1.contains j || l2.contains j || ts.contains j) &&
  ((l1 ++ l2 ++ ts).all fun j => decide (j < ops.size) && !listed.getD j true) &&
  decide (l1 ++ l2).Nodup && lexOk md ops l1 listed && lexOk md ops l2 listed && chained md ops l1 && chained md ops l2 &&
  (ts.all fun t => !(l1 ++ l2).contains t && ((ts.any fun s => Region.waitsFor md ops t s) || (behind md ops l1 t && behind md ops l2 t))) && apartAll ops l1 l2

structure TwoOk (md : Region.Mode) (ops : Array Oper) (listed : Array Bool) (l1 l2 ts : List Nat) : Prop where
  size : listed.size = ops.size
  cover : ∀ j, j < ops.size → listed.getD j true = false → j ∈ l1 ∨ j ∈ l2 ∨ j ∈ ts
  un : ∀ j, j ∈ l1 ∨ j ∈ l2 ∨ j ∈ ts → j < ops.size ∧ listed.getD j true = false
  nd1 : l1.Nodup
  nd2 : l2.Nodup
  dis : ∀ i ∈ l1, i ∉ l2
  ndt : ∀ t ∈ ts, t ∉ l1 ∧ t ∉ l2
  lex1 : lexOk md ops l1 listed = true
  lex2 : lexOk md ops l2 listed = true
  ch1 : chained md ops l1 = true
  ch2 : chained md ops l2 = true
  root : ∀ t ∈ ts, (∃ s ∈ ts, Region.waitsFor md ops t s = true) ∨ (behind md ops l1 t = true ∧ behind md ops l2 t = true)
  apart : ∀ i ∈ l1, ∀ j ∈ l2, ∀ oi oj, ops[i]? = some oi → ops[j]? = some oj → oi.apart ops oj = true ∧ oj.apart ops oi = true

theorem twoB_ok {listed : Array Bool} {l1 l2 ts : List Nat} (h : twoB md ops listed l1 l2 ts = true) : Region.noSelect ops = true ∧ TwoOk md ops listed l1 l2 ts := by
  simp only [twoB, Bool.and_eq_true, decide_eq_true_eq] at h
  obtain ⟨⟨⟨⟨⟨⟨⟨⟨⟨⟨h1, h2⟩, h3⟩, h4⟩, h5⟩, h6⟩, h7⟩, h8⟩, h9⟩, h10⟩, h11⟩ := h
  have hnd := List.nodup_append.1 h5
  refine ⟨h1, h2, fun j hj hl => ?_, fun j hj => ?_, hnd.1, hnd.2.1, fun i hi hi2 => hnd.2.2 i hi i hi2 rfl, fun t ht => ?_, h6, h7, h8, h9, fun t ht => ?_, fun i hi j hj oi oj hoi hoj => ?_⟩
  · have := List.all_eq_true.1 h3 j (List.mem_range.2 hj)
    rw [hl] at this
    simpa [or_assoc] using this
  · have := List.all_eq_true.1 h4 j (by simp; exact hj)
    simp only [Bool.and_eq_true, decide_eq_true_eq, Bool.not_eq_true'] at this
    exact this
  · have := List.all_eq_true.1 h10 t ht
    simp only [Bool.and_eq_true, Bool.not_eq_true'] at this
    have h := this.1
    simp at h
    exact h
  · have := List.all_eq_true.1 h10 t ht
    simp only [Bool.and_eq_true, Bool.or_eq_true, List.any_eq_true] at this
    exact this.2
  · have := List.all_eq_true.1 (List.all_eq_true.1 h11 i hi) j hj
    rw [hoi, hoj] at this
    simpa [Bool.and_eq_true] using this

theorem lastOf_mem : ∀ (l : List Nat) (i : Nat), lastOf l = some i → i ∈ l
  | [x], i, h => by injection h with h; subst h; exact List.mem_cons_self
  | x :: y :: l, i, h => List.mem_cons_of_mem _ (lastOf_mem (y :: l) i h)
theorem lastOf_some : ∀ (x : Nat) (l : List Nat), ∃ i, lastOf (x :: l) = some i
  | x, [] => ⟨x, rfl⟩
  | _, y :: l => lastOf_some y l

theorem TwoOk.only {listed : Array Bool} {l1 l2 ts : List Nat} (ok : TwoOk md ops listed l1 l2 ts) (hne : l1 ≠ [] ∨ l2 ≠ []) {i : Nat} (hi : i ∈ Region.ready md ops listed) : (∃ l, l1 = i :: l) ∨ (∃ l, l2 = i :: l) := by
  obtain ⟨hlt, hun, hed⟩ := mem_ready'.1 hi
  have bad : ∀ s, s ∈ l1 ∨ s ∈ l2 ∨ s ∈ ts → Region.waitsFor md ops i s = true → False := fun s hs' hw => by
    have h1 := edgesIn_waits hed hw
    rw [getD_both (ok.un s hs').2] at h1
    cases h1
  rcases ok.cover i hlt hun with h | h | h
  · rcases chained_prev l1 i ok.ch1 h with h2 | ⟨s, hs, hw⟩
    · exact .inl h2
    · exact (bad s (.inl hs) hw).elim
  · rcases chained_prev l2 i ok.ch2 h with h2 | ⟨s, hs, hw⟩
    · exact .inr h2
    · exact (bad s (.inr (.inl hs)) hw).elim
  · exfalso
    rcases ok.root i h with ⟨s, hs, hw⟩ | ⟨hb1, hb2⟩
    · exact bad s (.inr (.inr hs)) hw
    · rcases hne with hne | hne
      · obtain ⟨x, l, rfl⟩ : ∃ x l, l1 = x :: l := by cases l1 with | nil => exact absurd rfl hne | cons x l => exact ⟨x, l, rfl⟩
        obtain ⟨j, hj⟩ := lastOf_some x l
        rw [behind, hj] at hb1
        exact bad j (.inl (lastOf_mem _ _ hj)) hb1
      · obtain ⟨x, l, rfl⟩ : ∃ x l, l2 = x :: l := by cases l2 with | nil => exact absurd rfl hne | cons x l => exact ⟨x, l, rfl⟩
        obtain ⟨j, hj⟩ := lastOf_some x l
        rw [behind, hj] at hb2
        exact bad j (.inr (.inl (lastOf_mem _ _ hj))) hb2

theorem behind_tail {i : Nat} {l : List Nat} {t : Nat} (h : behind md ops (i :: l) t = true) : behind md ops l t = true := by
  cases l with
  | nil => rfl
  | cons y l => exact h
theorem chained_tail {i : Nat} {l : List Nat} (h : chained md ops (i :: l) = true) : chained md ops l = true := by
  simp only [chained, Bool.and_eq_true] at h
  exact h.2

theorem TwoOk.swap {listed : Array Bool} {l1 l2 ts : List Nat} (ok : TwoOk md ops listed l1 l2 ts) : TwoOk md ops listed l2 l1 ts :=
  ⟨ok.size, fun j hj hl => (by rcases ok.cover j hj hl with h | h | h <;> simp [h]), fun j hj => ok.un j (by rcases hj with h | h | h <;> simp [h]), ok.nd2, ok.nd1, fun i hi h => ok.dis i h hi, fun t ht => (ok.ndt t ht).symm, ok.lex2, ok.lex1, ok.ch2, ok.ch1,
   fun t ht => (ok.root t ht).imp id And.symm, fun i hi j hj oi oj hoi hoj => (ok.apart j hj i hi oj oi hoj hoi).symm⟩

theorem TwoOk.strike {listed : Array Bool} {i : Nat} {l1 l2 ts : List Nat} (ok : TwoOk md ops listed (i :: l1) l2 ts) : TwoOk md ops (listed.setIfInBounds i true) l1 l2 ts := by
  obtain ⟨hlt, hui⟩ := ok.un i (.inl List.mem_cons_self)
  have hn := List.nodup_cons.1 ok.nd1
  have hi2 := ok.dis i List.mem_cons_self
  have hne : ∀ j, j ∈ l1 ∨ j ∈ l2 ∨ j ∈ ts → i ≠ j := by
    rintro j hj rfl
    rcases hj with h | h | h
    · exact hn.1 h
    · exact hi2 h
    · exact (ok.ndt i h).1 List.mem_cons_self
  have hlex := ok.lex1
  simp only [lexOk, Bool.and_eq_true] at hlex
  refine ⟨by simp [ok.size], fun j hj hl => ?_, fun j hj => ?_, hn.2, ok.nd2, fun j hj => ok.dis j (List.mem_cons_of_mem _ hj), fun t ht => ⟨fun h => (ok.ndt t ht).1 (List.mem_cons_of_mem _ h), (ok.ndt t ht).2⟩, hlex.2, lexOk_set _ _ ok.lex2, chained_tail ok.ch1, ok.ch2,
    fun t ht => (ok.root t ht).imp id (fun h => ⟨behind_tail h.1, h.2⟩), fun a ha b hb => ok.apart a (List.mem_cons_of_mem _ ha) b hb⟩
  · by_cases hij : i = j
    · subst hij
      rw [show (listed.setIfInBounds i true).getD i true = true by simp [ok.size, hlt]] at hl
      cases hl
    · rw [getD_set_ne true hij] at hl
      rcases ok.cover j hj hl with h | h | h
      · rcases List.mem_cons.1 h with h | h
        · exact absurd h.symm hij
        · exact .inl h
      · exact .inr (.inl h)
      · exact .inr (.inr h)
  · have := ok.un j (by rcases hj with h | h | h <;> simp [h])
    exact ⟨this.1, by rw [getD_set_ne true (hne j hj)]; exact this.2⟩

theorem markAll_set : ∀ (l : List Nat) (i : Nat) (listed : Array Bool), markAll l (listed.setIfInBounds i true) = (markAll l listed).setIfInBounds i true
  | [], _, _ => rfl
  | j :: l, i, listed => by
    show markAll l ((listed.setIfInBounds i true).setIfInBounds j true) = (markAll l (listed.setIfInBounds j true)).setIfInBounds i true
    rw [← markAll_set l i]
    by_cases h : i = j
    · subst h; rfl
    · rw [Array.setIfInBounds_comm _ _ h]

def opsOf (ops : Array Oper) (l : List Nat) : List Oper := l.filterMap fun i => ops[i]?
theorem opsOf_cons {i : Nat} {l : List Nat} {o : Oper} (h : ops[i]? = some o) : opsOf ops (i :: l) = o :: opsOf ops l := by simp [opsOf, h]
theorem mem_opsOf {l : List Nat} {o : Oper} (h : o ∈ opsOf ops l) : ∃ i ∈ l, ops[i]? = some o := by
  simpa [opsOf] using h

theorem wpAny_two (hsel : Region.noSelect ops = true) {ts : List Nat} {R : HP} [Loc B R] {fuel : Nat} : ∀ (n : Nat) (l1 l2 : List Nat) (listed : Array Bool) (a : Act) (w : World) (Φ1 Φ2 : List Value → HP → Prop) (A1 A2 : HP), l1.length + l2.length = n → Loc B A1 → Loc B A2 →
    TwoOk md ops listed l1 l2 ts → TW P ops B (opsOf ops l1) Φ1 a A1 → TW P ops B (opsOf ops l2) Φ2 a A2 → B ≤ w.heap.size → Own B (A1 * (A2 * R)) w →
    (∀ vs1 A1' vs2 A2' w', Φ1 vs1 A1' → Φ2 vs2 A2' → Own B (A1' * (A2' * R)) w' → Below B w w' → wpAny P md ops Q fuel (markAll l2 (markAll l1 listed)) (putAll (opsOf ops l2) vs2 (putAll (opsOf ops l1) vs1 a)) w') →
    wpAny P md ops Q (n + fuel) listed a w
  | 0, l1, l2, listed, a, w, Φ1, Φ2, A1, A2, hn, _, _, ok, h1, h2, hB, hO, hK => by
    obtain rfl : l1 = [] := List.eq_nil_of_length_eq_zero (by omega)
    obtain rfl : l2 = [] := List.eq_nil_of_length_eq_zero (by omega)
    rw [Nat.zero_add]
    exact hK [] A1 [] A2 w h1 h2 hO (Below.refl B w)
  | n + 1, l1, l2, listed, a, w, Φ1, Φ2, A1, A2, hn, k1, k2, ok, h1, h2, hB, hO, hK => by
    rw [show n + 1 + fuel = (n + fuel) + 1 by omega]
    have hne : l1 ≠ [] ∨ l2 ≠ [] := by
      cases l1 with
      | nil => right; intro e; subst e; simp at hn
      | cons x l => left; simp
    have hrdy : Region.ready md ops listed ≠ [] := by
      intro h0
      rcases hne with hne | hne
      · obtain ⟨x, l, rfl⟩ : ∃ x l, l1 = x :: l := by cases l1 with | nil => exact absurd rfl hne | cons x l => exact ⟨x, l, rfl⟩
        have hlex := ok.lex1
        simp only [lexOk, Bool.and_eq_true] at hlex
        have hun := ok.un x (by simp)
        have : x ∈ Region.ready md ops listed := mem_ready'.2 ⟨hun.1, hun.2, hlex.1⟩
        rw [h0] at this; cases this
      · obtain ⟨x, l, rfl⟩ : ∃ x l, l2 = x :: l := by cases l2 with | nil => exact absurd rfl hne | cons x l => exact ⟨x, l, rfl⟩
        have hlex := ok.lex2
        simp only [lexOk, Bool.and_eq_true] at hlex
        have hun := ok.un x (by simp)
        have : x ∈ Region.ready md ops listed := mem_ready'.2 ⟨hun.1, hun.2, hlex.1⟩
        rw [h0] at this; cases this
    refine ⟨fun h0 => absurd h0 hrdy, fun i hi => ?_⟩
    have hlt := (mem_ready'.1 hi).1
    obtain ⟨o, ho⟩ : ∃ o, ops[i]? = some o := ⟨_, Array.getElem?_eq_getElem hlt⟩
    unfold wpOp
    simp only [ho]
    rcases ok.only hne hi with ⟨l, rfl⟩ | ⟨l, rfl⟩
    · rw [opsOf_cons ho] at h1
      have hap : ∀ o' ∈ opsOf ops l2, (∃ j : Nat, ops[j]? = some o') ∧ o'.apart ops o = true := fun o' h' => by
        obtain ⟨j, hj, hoj⟩ := mem_opsOf h'
        exact ⟨⟨j, hoj⟩, (ok.apart i List.mem_cons_self j hj o o' ho hoj).2⟩
      have hlen : l.length + l2.length = n := by simp at hn; omega
      obtain ⟨_, h1 | h1⟩ := h1
      · rw [if_pos h1.1]
        left
        refine h1.2.wp hB hO fun v A' w' ⟨kl, ht⟩ hO' hb => ?_
        refine wpAny_two hsel n l l2 _ _ w' (fun vs => Φ1 (v :: vs)) Φ2 A' A2 hlen kl k2 ok.strike ht (h2.put hsel _ _ _ _ hap) (Nat.le_trans hB hb.size) hO' fun vs1 A1' vs2 A2' w'' p1 p2 hO'' hb' => ?_
        have := hK (v :: vs1) A1' vs2 A2' w'' p1 p2 hO'' (hb.trans hb')
        rw [opsOf_cons ho] at this
        exact this
      · rw [if_neg (by rw [h1.1]; exact Bool.false_ne_true)]
        refine wpAny_two hsel n l l2 _ _ w (fun vs => Φ1 (undef :: vs)) Φ2 A1 A2 hlen k1 k2 ok.strike h1.2 (h2.put hsel _ _ _ _ hap) hB hO fun vs1 A1' vs2 A2' w'' p1 p2 hO'' hb' => ?_
        have := hK (undef :: vs1) A1' vs2 A2' w'' p1 p2 hO'' hb'
        rw [opsOf_cons ho] at this
        exact this
    · rw [opsOf_cons ho] at h2
      have hap : ∀ o' ∈ opsOf ops l1, (∃ j : Nat, ops[j]? = some o') ∧ o'.apart ops o = true := fun o' h' => by
        obtain ⟨j, hj, hoj⟩ := mem_opsOf h'
        exact ⟨⟨j, hoj⟩, (ok.apart j hj i List.mem_cons_self o' o hoj ho).1⟩
      have hlen : l1.length + l.length = n := by simp at hn; omega
      obtain ⟨_, h2 | h2⟩ := h2
      · rw [if_pos h2.1]
        left
        refine h2.2.wp hB (hO.cast (sep_left_comm _ _ _)) fun v A' w' ⟨kl, ht⟩ hO' hb => ?_
        refine wpAny_two hsel n l1 l _ _ w' Φ1 (fun vs => Φ2 (v :: vs)) A1 A' hlen k1 kl ok.swap.strike.swap (h1.put hsel _ _ _ _ hap) ht (Nat.le_trans hB hb.size) (hO'.cast (sep_left_comm _ _ _)) fun vs1 A1' vs2 A2' w'' p1 p2 hO'' hb' => ?_
        have := hK vs1 A1' (v :: vs2) A2' w'' p1 p2 hO'' (hb.trans hb')
        rw [opsOf_cons ho] at this
        rw [putAll_put _ _ _ _ _ (fun o' h' => (hap o' h').2), markAll_set]
        exact this
      · rw [if_neg (by rw [h2.1]; exact Bool.false_ne_true)]
        refine wpAny_two hsel n l1 l _ _ w Φ1 (fun vs => Φ2 (undef :: vs)) A1 A2 hlen k1 k2 ok.swap.strike.swap (h1.put hsel _ _ _ _ hap) h2.2 hB hO fun vs1 A1' vs2 A2' w'' p1 p2 hO'' hb' => ?_
        have := hK vs1 A1' (undef :: vs2) A2' w'' p1 p2 hO'' hb'
        rw [opsOf_cons ho] at this
        rw [putAll_put _ _ _ _ _ (fun o' h' => (hap o' h').2), markAll_set]
        exact this

/-- THE RULE: us free, at whatever time · l1 and l2 two threads · ts behind both. -/
theorem wp_region_two {id : Nat} {a : Act} {w : World} (us l1 l2 ts : List Nat) (A1 A2 R : HP) [k1 : Loc B A1] [k2 : Loc B A2] [Loc B R] (hm : P.follows .mixedOrders = true)
    (hB : (freeB .any ops us (Array.replicate ops.size false) && twoB .any ops (markAll us (Array.replicate ops.size false)) l1 l2 ts) = true) (hf : ops.size = us.length + ((l1.length + l2.length) + ts.length))
    (hQ : ∀ c a d v w, Q (.panic c) (a.put (some d) v) w → Q (.panic c) a w) (hsz : B ≤ w.heap.size) (hO : Own B (A1 * (A2 * R)) w.drew)
    (h : wpFree P ops (fun a1 => ∃ Φ1 Φ2 : List Value → HP → Prop, TW P ops B (opsOf ops l1) Φ1 a1 A1 ∧ TW P ops B (opsOf ops l2) Φ2 a1 A2 ∧
      ∀ vs1 A1' vs2 A2' w', Φ1 vs1 A1' → Φ2 vs2 A2' → Own B (A1' * (A2' * R)) w' → Below B w w' → wpAny P .any ops Q ts.length (markAll l2 (markAll l1 (markAll us (Array.replicate ops.size false)))) (putAll (opsOf ops l2) vs2 (putAll (opsOf ops l1) vs1 a1)) w')
      (us.filterMap fun i => ops[i]?) a) : (Code.region id ops true).wp P Q a w := by
  rw [Bool.and_eq_true] at hB
  refine wp_region_any hm ?_
  obtain ⟨hsel, ok⟩ := twoB_ok hB.2
  have hgo : wpAny P .any ops Q (us.length + ((l1.length + l2.length) + ts.length)) (Array.replicate ops.size false) a w.drew := by
    refine wpAny_free hQ hsel us _ a hB.1 (fun a' ⟨Φ1, Φ2, t1, t2, hK⟩ => ?_) h
    exact wpAny_two hsel (l1.length + l2.length) l1 l2 _ a' _ Φ1 Φ2 A1 A2 rfl k1 k2 ok t1 t2 hsz hO fun vs1 A1' vs2 A2' w' p1 p2 ho hb => hK vs1 A1' vs2 A2' w' p1 p2 ho ((Below.refl B w).drew.trans hb)
  rw [← hf] at hgo
  exact hgo

/-! the steps -/
theorem tw_nil {Φ : List Value → HP → Prop} {a : Act} {A : HP} (h : Φ [] A) : TW P ops B [] Φ a A := h
theorem tw_val {o : Oper} {l : List Oper} {Φ : List Value → HP → Prop} {a : Act} {A : HP} [k : Loc B A] (v : Value) (hw : Region.wanted o (yielded ops a.tmps) = true)
    (hv : ∀ (R : HP) [Loc B R] (w : World), Own B (A * R) w → (execOp a.eval o).run P w = .ok (.value v) w) (h : TW P ops B l (fun vs => Φ (v :: vs)) (a.put o.dst v) A) : TW P ops B (o :: l) Φ a A :=
  ⟨k, .inl ⟨hw, fun R _ w hB hO => by rw [hv R w hO]; exact ⟨A, ⟨k, h⟩, hO, Below.refl B w⟩⟩⟩
theorem tw_call {o : Oper} {l : List Oper} {Φ : List Value → HP → Prop} {a : Act} {A : HP} [k : Loc B A] (f : FuncId) (args : Array Value) (Ψ : Value → HP → Prop) (hw : Region.wanted o (yielded ops a.tmps) = true)
    (hr : ∀ (R : HP) [Loc B R] (w : World), Own B (A * R) w → (execOp a.eval o).run P w = .ok (.enter f args) w)
    (hc : ∀ (R : HP) [Loc B R] (w : World), B ≤ w.heap.size → Own B (A * R) w → Calls P f args w fun e w' => ∃ v A', e = .returned v ∧ (Loc B A' ∧ Ψ v A') ∧ Own B (A' * R) w' ∧ Below B w w')
    (h : ∀ v A', Loc B A' → Ψ v A' → TW P ops B l (fun vs => Φ (v :: vs)) (a.put o.dst v) A') : TW P ops B (o :: l) Φ a A :=
  ⟨k, .inl ⟨hw, fun R _ w hB hO => by rw [hr R w hO]; exact (hc R w hB hO).mono fun e w' ⟨v, A', he, ⟨kl, hp⟩, ho, hb⟩ => ⟨v, A', he, ⟨kl, h v A' kl hp⟩, ho, hb⟩⟩⟩
theorem Own.row_n {B : Nat} {R : HP} {w : World} {e : TypeId} {size : Nat} {v : Value} {n : Nat} {xs : List Value} (h : Own B (Rw e size v n xs * R) w) : ∃ A c, v = .slice A n c := by
  rcases h.row.2 with ⟨rfl, rfl⟩ | ⟨g, cap, cur, rfl, _⟩
  · exact ⟨_, _, rfl⟩
  · exact ⟨_, _, rfl⟩
end
end Go.Proofs.Ytedcficjmogohaa

/- Rows of bytes: one more byte, a clone. -/
namespace Go.Proofs.Ytedcficjmogohaa
set_option linter.unusedVariables false
set_option linter.unusedSimpArgs false
set_option maxRecDepth 100000
open Go.RowKit

def bytesU (l : List UInt8) : List Value := l.map fun x => Value.int .u8 (x.toNat : Int)
theorem infoU8 : (Try.prog.info? 5).map (fun i => (i.zero, i.size, i.bytes)) = some (some (.int .u8 0), 1, 1) := by kernel_rfl
theorem run_append_none {P : Program} {w : World} (base : Nat) (t ty e : TypeId) (i : TypeInfo) (size : Nat) (ht : P.underlying t = some (.slice e)) (hi : P.info? e = some i)
    (v : Value) (n : Nat) (xs : List Value) (hown : w.ownsRow base e size v n xs) (c : Nat) :
    (Builtin.append_ #[t, t] ty #[v, .slice none 0 c]).run P w = .ok v w := by
  rcases hown.2 with ⟨rfl, rfl⟩ | ⟨g, cap, cur, rfl, _, _, hnc, _⟩
  · simp [Builtin.append_, run_underlying ht, sizeOf, typeInfo, hi, Builtin.lenOf, Builtin.firstCells]
  · simp [Builtin.append_, run_underlying ht, sizeOf, typeInfo, hi, Builtin.lenOf, Builtin.firstCells, hnc, storeCells]
theorem bytesU_length (l : List UInt8) : (bytesU l).length = l.length := by simp [bytesU]
theorem bytesU_append (a b : List UInt8) : bytesU (a ++ b) = bytesU a ++ bytesU b := by simp [bytesU]
set_option maxRecDepth 100000 in
/-- Bytes that one can read go behind a row that one owns. -/
theorem byte_append {B : Nat} {R : HP} [Loc B R] {w : World} (hB : B ≤ w.heap.size) {v : Value} {xs ys : List UInt8} {A : Option Addr} {c : Nat} (h : Own B (Rw 5 1 v xs.length (bytesU xs) * R) w) (hr : Rd w (.slice A ys.length c) (bytesU ys))
    (hn : xs.length + ys.length ≤ 140737488355328) :
    ∃ v' w', (Builtin.append_ #[22, 22] 22 #[v, .slice A ys.length c]).run Try.prog w = .ok v' w' ∧ Own B (Rw 5 1 v' (xs ++ ys).length (bytesU (xs ++ ys)) * R) w' ∧ Below B w w' := by
  obtain ⟨i0, hi, hz0, hz1, hz2⟩ := info_parts infoU8
  obtain ⟨A', c', hv, hrd⟩ := hr
  injection hv with e1 e2 e3
  subst e1; subst e3
  cases A with
  | none =>
    obtain rfl : ys = [] := by
      cases ys with
      | nil => rfl
      | cons y ys =>
        obtain ⟨ad, h1, _⟩ := hrd (by simp [bytesU])
        cases h1
    refine ⟨v, w, run_append_none (P := Try.prog) B 22 22 5 i0 1 Try.underlying22 hi v xs.length (bytesU xs) h.row c, by simpa using h, Below.refl B w⟩
  | some ad =>
    obtain ⟨v', w', hr, h2, h3, _, h5⟩ := run_append_own_at (P := Try.prog) w B 22 22 5 i0 _ 1 1 Try.underlying22 hi hz0 hz1 hz2 rfl (by omega) v xs.length (bytesU xs) h.row
      ad ys.length c (bytesU ys) (by rw [bytesU_length]; omega) (by
        intro j x hj
        have hne : bytesU ys ≠ [] := by intro e; rw [e] at hj; simp at hj
        obtain ⟨ad', h1, h2⟩ := hrd hne
        injection h1 with h1
        subst h1
        exact h2 j x hj) (by intro x hx; obtain ⟨y, _, rfl⟩ := List.mem_map.1 hx; rfl) (by unfold maxLen; omega) (by omega) hB
    have h6 := Own.appended hB h h2 h3 h5
    refine ⟨v', w', hr, ?_, h6.2⟩
    have := h6.1
    rw [List.length_append, bytesU_append]
    exact this
/-- A part of bytes that one can read. -/
theorem Rd.part {w : World} {A : Option Addr} {n c : Nat} {xs : List Value} (h : Rd w (.slice A n c) xs) (i m c' : Nat) (ys : List Value) (hy : ys = (xs.drop i).take m) (hm : ys.length = m) : Rd w (.slice (A.map (·.add i)) m c') ys := by
  obtain ⟨A', c1, hv, hrd⟩ := h
  injection hv with e1 e2 e3
  subst e1
  refine ⟨_, c', by rw [hm], fun hne => ?_⟩
  have hx : xs ≠ [] := by intro e; subst e; simp at hy; exact hne hy
  obtain ⟨ad, rfl, hc⟩ := hrd hx
  refine ⟨ad.add i, rfl, fun j u hj => ?_⟩
  rw [hy, List.getElem?_take] at hj
  split at hj
  · rw [List.getElem?_drop] at hj
    have := hc _ _ hj
    rw [Addr.add_add]
    exact this
  · cases hj
/-- What a call leaves that returns bytes of its own. -/
def RetB (w : World) (l : List UInt8) (e : Ending) (w' : World) : Prop := ∃ v, e = .returned v ∧ w'.ownsRow w.heap.size 5 1 v l.length (bytesU l) ∧ Below w.heap.size w w'
theorem RetB.mk {w w' : World} {l l' : List UInt8} {e : Ending} {v v' : Value} {B : Nat} {R : HP} (he : e = .returned v) (hv : v = v') (hl : l' = l) (hB : B = w.heap.size) (ho : Own B (Rw 5 1 v' l'.length (bytesU l') * R) w') (hb : Below w.heap.size w w') : RetB w l e w' := by
  subst hv; subst hl; subst hB; exact ⟨_, he, ho.row, hb⟩
theorem u8_cast (c : UInt8) : (c.toNat : Int) % 256 = c.toNat := by have := c.toNat_lt; omega
theorem byte_snoc {B : Nat} {R : HP} [Loc B R] {w : World} (hB : B ≤ w.heap.size) {v : Value} {xs : List UInt8} (h : Own B (Rw 5 1 v xs.length (bytesU xs) * R) w) (c : UInt8) (n : Int) (hn : n = (c.toNat : Int)) (hl : xs.length ≤ 140737488355327) :
    ∃ g cap w', (Builtin.append_ #[22, 22] 22 #[v, .slice (some ⟨w.heap.size, 0, none⟩) 1 1]).run Try.prog (w.alloc (.cells #[.int .u8 n] 5)) = .ok (.slice (some ⟨g, 0, none⟩) (xs ++ [c]).length cap) w' ∧
      Own B (Rw 5 1 (.slice (some ⟨g, 0, none⟩) (xs ++ [c]).length cap) (xs ++ [c]).length (bytesU (xs ++ [c])) * R) w' ∧ Below B w w' := by
  subst hn
  have h1 := h.alloc_keep hB (.cells #[.int .u8 (c.toNat : Int)] 5)
  have hB1 : B ≤ (w.alloc (.cells #[.int .u8 (c.toNat : Int)] 5)).heap.size := by simp; omega
  obtain ⟨v', w', hr, h2, h3⟩ := byte_append (A := some ⟨w.heap.size, 0, none⟩) (c := 1) (ys := [c]) hB1 h1
    ⟨_, 1, rfl, fun _ => ⟨_, rfl, fun j u hj => by
      match j, hj with
      | 0, hj => simp [bytesU] at hj; subst hj; simp [Addr.add]⟩⟩ (by simp; omega)
  obtain ⟨g, cap, rfl, _⟩ := h2.row.form (by simp)
  exact ⟨g, cap, w', hr, h2, ((Below.refl B w).alloc hB _).trans h3⟩

set_option maxRecDepth 100000 in
theorem clone_any (v : Value) (l : List UInt8) (w : World) (hr : Rd w v (bytesU l)) (hl : l.length ≤ 140737488355328) :
    Calls Try.prog 42 #[v] w (RetB w l) := by
  obtain ⟨i0, hi, hz0, hz1, hz2⟩ := info_parts infoU8
  obtain ⟨A, c, rfl, hr⟩ := hr
  have hlen : (bytesU l).length = l.length := by simp [bytesU]
  rcases A with _ | ad
  · obtain rfl : l = [] := by
      cases l with
      | nil => rfl
      | cons x l => obtain ⟨ad, h, _⟩ := hr (by simp [bytesU]); cases h
    have he := fun W : World => Lib.run_eql_slice_nil_nil (P := Try.prog) W (t := 22) (e := 5) 0 c Try.underlying22
    show Calls _ _ #[.slice none 0 c] _ _
    go_enter Try.func42, Try.ntmps42
    go_wp2
    go_ret
    exact ⟨.slice none 0 0, rfl, World.ownsRow_nil _ _ _ _, Below.refl _ _⟩
  · have hc : ∀ j u, (bytesU l)[j]? = some u → w.cell? (ad.add j) = some u := by
      intro j u hu
      obtain ⟨ad', h, hcc⟩ := hr (by intro e; rw [e] at hu; cases hu)
      injection h with h
      subst h
      exact hcc j u hu
    clear hr
    obtain ⟨v', w', hrun, ho, hg, _, hat⟩ := run_append_own_at (P := Try.prog) (w.alloc (.cells #[] 5)) w.heap.size 22 22 5 i0 _ 1 1 Try.underlying22 hi hz0 hz1 hz2 rfl (by omega)
      (.slice (some ⟨w.heap.size, 0, none⟩) 0 0) 0 [] ⟨rfl, .inr ⟨w.heap.size, 0, #[], rfl, Nat.le_refl _, heap_alloc_new w _, Nat.le_refl _, by unfold maxLen; omega, rfl, rfl⟩⟩ ad l.length c (bytesU l) (by rw [hlen]; omega)
      (fun j u hu => by
        have h1 := hc j u hu
        rw [World.cell?_alloc_lt _ _ _ (World.block_lt_of_cell? w _ h1)]
        exact h1)
      (by intro u hu; obtain ⟨x, _, rfl⟩ := List.mem_map.1 hu; rfl) (by unfold maxLen; omega) (by omega) (by simp)
    have hbe : Below w.heap.size w w' := ((Below.refl _ w).alloc (Nat.le_refl _) _).grown hg (by simp) (fun k hk => by simp [Value.ownBlock] at hk; omega)
    rw [List.nil_append, Nat.zero_add] at ho
    clear hc
    have he := fun W : World => Lib.run_eql_slice_some_nil (P := Try.prog) W (t := 22) (e := 5) ad (bytesU l).length c Try.underlying22
    rw [hlen] at he ⊢
    go_enter Try.func42, Try.ntmps42
    go_wp2_with (at_builtin; refine wpList_append_run rfl (.tmp 5) (.tmp 6) 22 rfl rfl rfl hrun ?_)
    go_ret
    exact ⟨v', rfl, ho, hbe⟩
end Go.Proofs.Ytedcficjmogohaa

/- A byte at a place of bytes that one can read. -/
namespace Go.Proofs.Ytedcficjmogohaa
set_option linter.unusedVariables false
set_option linter.unusedSimpArgs false
set_option maxRecDepth 100000
open Go.RowKit

theorem Rd.at {w : World} {A : Option Addr} {n c : Nat} {l : List UInt8} (h : Rd w (.slice A n c) (bytesU l)) (i : Nat) (hi : i < l.length) : ∃ ad, A = some ad ∧ w.cell? (ad.add i) = some (.int .u8 (l[i].toNat : Int)) := by
  obtain ⟨A', c', hv, hrd⟩ := h
  injection hv with e1 e2 e3
  subst e1
  obtain ⟨ad, rfl, hc⟩ := hrd (by intro e; rw [← List.length_eq_zero_iff, bytesU_length] at e; omega)
  exact ⟨ad, rfl, hc i _ (by simp [bytesU, hi])⟩
end Go.Proofs.Ytedcficjmogohaa

/- Tokens, and the bytes that they stand for: plain laws. -/
namespace Go.Proofs.Ytedcficjmogohaa
set_option linter.unusedVariables false
set_option linter.unusedSimpArgs false
set_option maxRecDepth 100000

/-- A literal, or a match. -/
structure Tk where
  lit : UInt8
  len : Int
  back : Int
deriving DecidableEq
instance : Inhabited Tk := ⟨⟨0, 0, 0⟩⟩
def tkL (t : Tk) : List Value := [.int .u8 (t.lit.toNat : Int), .int .i64 t.len, .int .i64 t.back]
theorem tkL_len (t : Tk) : (tkL t).length = 3 := rfl
def okI' (n : Int) : Prop := -9223372036854775808 ≤ n ∧ n ≤ 9223372036854775807
structure Tk.ok (t : Tk) : Prop where
  len : okI' t.len
  back : okI' t.back
def rightP (t : Tk) : Prop := (t.len = 0 ∧ t.back = 0) ∨ (3 ≤ t.len ∧ t.len ≤ 258 ∧ 1 ≤ t.back ∧ t.back ≤ 32768 ∧ t.lit = 0)
instance (t : Tk) : Decidable (rightP t) := by unfold rightP; infer_instance
def rightT (t : Tk) : Bool := decide (rightP t)
def maxT (t : Tk) : Int := if t.len < 1 then 1 else t.len
def fitsP (out : List UInt8) (t : Tk) (n : Int) : Prop := rightP t ∧ t.back ≤ (out.length : Int) ∧ (out.length : Int) + maxT t ≤ n
instance (out : List UInt8) (t : Tk) (n : Int) : Decidable (fitsP out t n) := by unfold fitsP; infer_instance
def fitsT (out : List UInt8) (t : Tk) (n : Int) : Bool := decide (fitsP out t n)
/-- So many bytes more, each as the one so far back. -/
def copyN (b : Nat) : Nat → List UInt8 → List UInt8
  | 0, out => out
  | k + 1, out => copyN b k (out ++ [(out[out.length - b]?).getD 0])
theorem copyN_succ (b : Nat) : ∀ (k : Nat) (out : List UInt8), copyN b (k + 1) out = copyN b k out ++ [((copyN b k out)[(copyN b k out).length - b]?).getD 0]
  | 0, out => rfl
  | k + 1, out => by rw [copyN, copyN_succ b k, copyN]
theorem copyN_len (b : Nat) : ∀ (k : Nat) (out : List UInt8), (copyN b k out).length = out.length + k
  | 0, out => rfl
  | k + 1, out => by rw [copyN, copyN_len b k, List.length_append]; simp; omega
def sawT (out : List UInt8) (t : Tk) : List UInt8 := if t.len = 0 then out ++ [t.lit] else copyN t.back.toNat t.len.toNat out
theorem sawT_len (out : List UInt8) (t : Tk) (h : rightP t) : ((sawT out t).length : Int) = out.length + maxT t := by
  unfold sawT maxT
  rcases h with ⟨h, _⟩ | ⟨h, _⟩
  · rw [if_pos h, if_pos (by omega)]; simp
  · rw [if_neg (by omega), if_neg (by omega), copyN_len]; omega
/-- What tokens stand for, one behind the other, if each may stand there. -/
def expT (n : Int) : List Tk → List UInt8 → Option (List UInt8)
  | [], out => some out
  | t :: l, out => if fitsP out t n then expT n l (sawT out t) else none
theorem expT_append {n : Int} : ∀ (a b : List Tk) (out : List UInt8), expT n (a ++ b) out = (expT n a out).bind (expT n b)
  | [], b, out => rfl
  | t :: a, b, out => by
    rw [List.cons_append, expT, expT]
    split
    · exact expT_append a b _
    · rfl
theorem expT_snoc {n : Int} (a : List Tk) (t : Tk) (out : List UInt8) : expT n (a ++ [t]) out = (expT n a out).bind fun o => if fitsP o t n then some (sawT o t) else none := by
  rw [expT_append]
  congr
theorem expT_len {n : Int} : ∀ (l : List Tk) (out r : List UInt8), (out.length : Int) ≤ n → expT n l out = some r → (r.length : Int) ≤ n ∧ out.length + l.length ≤ r.length
  | [], out, r, h, e => by injection e with e; subst e; exact ⟨h, by simp⟩
  | t :: l, out, r, h, e => by
    unfold expT at e
    split at e
    · rename_i hf
      have h2 := sawT_len out t hf.1
      have hm : 1 ≤ maxT t := by unfold maxT; split <;> omega
      have hn := hf.2.2
      obtain ⟨k1, k2⟩ := expT_len l _ r (by omega) e
      exact ⟨k1, by rw [List.length_cons]; omega⟩
    · cases e
theorem expT_fits {n : Int} : ∀ (l : List Tk) (out r : List UInt8), expT n l out = some r → ∀ m : Int, (∀ k : Nat, k = r.length → (k : Int) ≤ m) → expT m l out = some r
  | [], out, r, e, m, _ => e
  | t :: l, out, r, e, m, hm => by
    unfold expT at e ⊢
    split at e
    · rename_i hf
      have h2 := sawT_len out t hf.1
      have h3 := (expT_len (n := n) l _ r (by have := hf.2.2; omega) e).2
      have h4 := hm _ rfl
      rw [if_pos ⟨hf.1, hf.2.1, by omega⟩]
      exact expT_fits l _ r e m hm
    · cases e
def sizeT (l : List Tk) : Int := ((l.filter rightT).map maxT).sum
end Go.Proofs.Ytedcficjmogohaa

/- Bits of whole numbers: and, or, of signed words. -/
namespace Go.Proofs.Ytedcficjmogohaa
set_option linter.unusedVariables false
set_option linter.unusedSimpArgs false
set_option maxRecDepth 100000
open Go

theorem i64_or_nat (a b : Nat) (ha : a < 9223372036854775808) (hb : b < 9223372036854775808) : bits .or .i64 (a : Int) (b : Int) = ((a ||| b : Nat) : Int) := by
  have hx : a ||| b < 2 ^ 63 := Nat.or_lt_two_pow (by omega) (by omega)
  show IntKind.i64.wrap ((BitVec.ofInt 64 (a : Int) ||| BitVec.ofInt 64 (b : Int)).toNat : Int) = _
  rw [BitVec.toNat_or, BitVec.toNat_ofInt, BitVec.toNat_ofInt, IntKind.wrap_i64, show ((((a : Nat) : Int) % ((2 ^ 64 : Nat) : Int)).toNat) = a by omega, show (((b : Int) % ((2 ^ 64 : Nat) : Int)).toNat) = b by omega]
  omega
theorem i64_and_nat (a b : Nat) (ha : a < 9223372036854775808) (hb : b < 9223372036854775808) : bits .and .i64 (a : Int) (b : Int) = ((a &&& b : Nat) : Int) := by
  have hx : a &&& b < 2 ^ 63 := Nat.and_lt_two_pow _ (by omega)
  show IntKind.i64.wrap ((BitVec.ofInt 64 (a : Int) &&& BitVec.ofInt 64 (b : Int)).toNat : Int) = _
  rw [BitVec.toNat_and, BitVec.toNat_ofInt, BitVec.toNat_ofInt, IntKind.wrap_i64, show ((((a : Nat) : Int) % ((2 ^ 64 : Nat) : Int)).toNat) = a by omega, show (((b : Int) % ((2 ^ 64 : Nat) : Int)).toNat) = b by omega]
  omega
theorem or_low (a b k : Nat) (hb : b < 2 ^ k) : (2 ^ k * a) ||| b = 2 ^ k * a + b := (Nat.two_pow_add_eq_or_of_lt hb a).symm
theorem i64_and127 (a : Nat) (ha : a < 9223372036854775808) : bits .and .i64 (a : Int) 127 = ((a % 128 : Nat) : Int) := by
  have := i64_and_nat a 127 ha (by omega)
  rw [show ((127 : Nat) : Int) = 127 from rfl] at this
  rw [this, show (127 : Nat) = 2 ^ 7 - 1 from rfl, Nat.and_two_pow_sub_one_eq_mod]
theorem i64_or128 (a : Nat) (ha : a < 128) : bits .or .i64 (a : Int) 128 = ((a + 128 : Nat) : Int) := by
  have := i64_or_nat a 128 (by omega) (by omega)
  rw [show ((128 : Nat) : Int) = 128 from rfl] at this
  rw [this, Nat.or_comm, show (128 : Nat) = 2 ^ 7 * 1 from rfl, or_low 1 a 7 (by omega), Nat.add_comm]
theorem i64_or_shl7 (a b : Nat) (ha : a < 36028797018963968) (hb : b < 128) : bits .or .i64 ((a : Int) * 128) (b : Int) = ((128 * a + b : Nat) : Int) := by
  have := i64_or_nat (2 ^ 7 * a) b (by omega) (by omega)
  rw [or_low a b 7 (by omega)] at this
  rw [show ((a : Int) * 128) = ((2 ^ 7 * a : Nat) : Int) by omega, this]
theorem i64_or_shl8 (a b : Nat) (ha : a < 36028797018963968) (hb : b < 256) : bits .or .i64 ((a : Int) * 256) (b : Int) = ((256 * a + b : Nat) : Int) := by
  have := i64_or_nat (2 ^ 8 * a) b (by omega) (by omega)
  rw [or_low a b 8 (by omega)] at this
  rw [show ((a : Int) * 256) = ((2 ^ 8 * a : Nat) : Int) by omega, this]
theorem u8_and127 (c : UInt8) : bits .and .u8 (c.toNat : Int) 127 = ((c.toNat % 128 : Nat) : Int) := by
  have hc := c.toNat_lt
  show IntKind.u8.wrap ((BitVec.ofInt 8 (c.toNat : Int) &&& BitVec.ofInt 8 127).toNat : Int) = _
  rw [BitVec.toNat_and, BitVec.toNat_ofInt, show (BitVec.ofInt 8 127).toNat = 2 ^ 7 - 1 from rfl, Nat.and_two_pow_sub_one_eq_mod, show (((c.toNat : Int) % ((2 ^ 8 : Nat) : Int)).toNat) = c.toNat by omega]
  have : c.toNat % 2 ^ 7 < 256 := by omega
  simp [IntKind.wrap, IntKind.bits, IntKind.signed]
  omega
end Go.Proofs.Ytedcficjmogohaa

/- The walks over Right, Size, Expand of package match, and over slices.Clip of bytes. -/
namespace Go.Proofs.Ytedcficjmogohaa
set_option linter.unusedVariables false
set_option linter.unusedSimpArgs false
set_option maxRecDepth 100000
open Go.RowKit

theorem RdA.cells3 {w : World} {b off : Nat} {i : Nat} {t : Tk} (d : ∀ j u, (tkL t)[j]? = some u → w.cell? ⟨b, off + i * 3 + j, none⟩ = some u) :
    w.cell? ⟨b, off + i * 3, none⟩ = some (.int .u8 (t.lit.toNat : Int)) ∧ w.cell? ⟨b, off + i * 3 + 1, none⟩ = some (.int .i64 t.len) ∧ w.cell? ⟨b, off + i * 3 + 2, none⟩ = some (.int .i64 t.back) :=
  ⟨d 0 _ rfl, d 1 _ rfl, d 2 _ rfl⟩

set_option maxHeartbeats 1600000 in
theorem right_tk (t : Tk) (w : World) : Calls Try.prog 28 #[.agg (tkL t).toArray] w fun e w' => e = .returned (.bool (rightT t)) ∧ Below w.heap.size w w' := by
  obtain ⟨lit, len, back⟩ := t
  have Yes : Hid (rightP ⟨lit, len, back⟩ → Ending.returned (.bool true) = Ending.returned (.bool (rightT ⟨lit, len, back⟩))) := Lib.hid (fun h => by unfold rightT; rw [decide_eq_true h])
  have No : Hid (¬ rightP ⟨lit, len, back⟩ → Ending.returned (.bool false) = Ending.returned (.bool (rightT ⟨lit, len, back⟩))) := Lib.hid (fun h => by unfold rightT; rw [decide_eq_false h])
  have hb := Lib.hid (fun o => (Below.refl w.heap.size w).alloc (Nat.le_refl _) o)
  have hl : (lit = 0) ↔ (lit.toNat : Int) = 0 := ⟨fun h => by rw [h]; rfl, fun h => by apply UInt8.toNat.inj; show lit.toNat = 0; omega⟩
  have Hl := Lib.hid hl
  clear hl
  simp only [tkL]
  go_enter Try.func28, Try.ntmps28
  by_cases h0 : len = 0
  · subst h0
    by_cases hbk : back = 0
    · subst hbk
      go_wp2
      go_ret
      exact ⟨Yes.out (.inl ⟨rfl, rfl⟩), hb.out _⟩
    · have hbk' : (back == 0) = false := by simpa using hbk
      go_wp2
      go_ret
      exact ⟨No.out (by rintro (⟨_, h⟩ | ⟨h, _⟩); exact hbk h; simp only at h; omega), hb.out _⟩
  · have h0' : (len == 0) = false := by simpa using h0
    by_cases h3 : 3 ≤ len
    · by_cases h258 : len ≤ 258
      · by_cases hb1 : 1 ≤ back
        · by_cases hb2 : back ≤ 32768
          · by_cases hz : (lit.toNat : Int) = 0
            · rw [hz]
              go_wp2
              go_ret
              exact ⟨Yes.out (.inr ⟨h3, h258, hb1, hb2, Hl.out.2 hz⟩), hb.out _⟩
            · have hz' : ((lit.toNat : Int) == 0) = false := by rw [beq_eq_false_iff_ne]; exact hz
              have hno := Lib.hid (No.out (by rintro (⟨h, _⟩ | ⟨_, _, _, _, h⟩); exact h0 h; exact hz (Hl.out.1 h)))
              clear Yes No Hl
              generalize hg : (lit.toNat : Int) = z at *
              go_wp2
              go_ret
              exact ⟨hno.out, hb.out _⟩
          · go_wp2
            go_ret
            exact ⟨No.out (by rintro (⟨h, _⟩ | ⟨_, _, _, h, _⟩); exact h0 h; simp only at h; omega), hb.out _⟩
        · go_wp2
          go_ret
          exact ⟨No.out (by rintro (⟨h, _⟩ | ⟨_, _, h, _⟩); exact h0 h; simp only at h; omega), hb.out _⟩
      · go_wp2
        go_ret
        exact ⟨No.out (by rintro (⟨h, _⟩ | ⟨_, h, _⟩); exact h0 h; simp only at h; omega), hb.out _⟩
    · go_wp2
      go_ret
      exact ⟨No.out (by rintro (⟨h, _⟩ | ⟨h, _⟩); exact h0 h; simp only at h; omega), hb.out _⟩

theorem clip_any (A : Option Addr) (n c : Nat) (hc : n ≤ c ∧ c ≤ 9223372036854775807) (w : World) : Calls Try.prog 29 #[.slice A n c] w fun e w' => e = .returned (.slice A n n) ∧ w' = w := by
  have m1 : (n : Int) ≤ (c : Int) := by omega
  have m0 : (0 : Int) ≤ (n : Int) := by omega
  go_enter Try.func29, Try.ntmps29
  go_wp2
  go_ret
  exact ⟨rfl, rfl⟩

theorem sizeT_snoc (l : List Tk) (t : Tk) : sizeT (l ++ [t]) = sizeT l + (if rightT t then maxT t else 0) := by
  unfold sizeT
  rw [List.filter_append, List.map_append]
  have : ∀ a b : List Int, (a ++ b).sum = a.sum + b.sum := fun a b => by simp
  rw [this]
  congr 1
  by_cases h : rightT t <;> simp [h]
theorem maxT_in {t : Tk} (h : rightT t = true) : 1 ≤ maxT t ∧ maxT t ≤ 258 := by
  have h := of_decide_eq_true h
  unfold maxT
  rcases h with ⟨h, _⟩ | ⟨h1, h2, _⟩ <;> split <;> omega
theorem sizeT_in : ∀ l : List Tk, 0 ≤ sizeT l ∧ sizeT l ≤ 258 * l.length
  | [] => by simp [sizeT]
  | t :: l => by
    have ih := sizeT_in l
    have e : sizeT (t :: l) = (if rightT t then maxT t else 0) + sizeT l := by
      unfold sizeT
      by_cases h : rightT t <;> simp [h]
    rw [e, List.length_cons]
    split
    · rename_i h; have := maxT_in h; omega
    · omega

set_option maxHeartbeats 3200000 in
theorem size_tk (A : Option Addr) (c : Nat) (l : List Tk) (hl : l.length ≤ 4294967296) (w : World) (hr : RdA 3 tkL w A l) :
    Calls Try.prog 18 #[.slice A l.length c] w fun e w' => e = .returned (.int .i64 (sizeT l)) ∧ Below w.heap.size w w' := by
  have Hr := Lib.hid (fun w1 (b : Below w.heap.size w w1) => hr.below b)
  have hb := Below.refl w.heap.size w
  have n1 : (l.length : Int) ≤ 4294967296 := by omega
  clear hr
  go_enter Try.func18, Try.ntmps18
  go_wp2
  go_loopg [3, 8] l.length (fun k v u wr => ∃ i : Nat, k + i = l.length ∧ u = .int .i64 (i : Int) ∧ v = .int .i64 (sizeT (l.take i)) ∧ Below w.heap.size w wr)
  case atStart => exact ⟨0, by omega, rfl, rfl, hb⟩
  case round =>
    clear hb
    obtain ⟨i, hk, rfl, rfl, hb⟩ := hrel
    have i0' : (0 : Int) ≤ (i : Int) := by omega
    by_cases hlt : (i : Int) < (l.length : Int)
    · obtain ⟨j, rfl⟩ : ∃ j, gk = j + 1 := ⟨gk - 1, by omega⟩
      have hil : i < l.length := by omega
      obtain ⟨b, off, rfl, q, d⟩ := Hr.out _ hb i hil
      have hs := sizeT_in (l.take i)
      have hlt2 : (l.take i).length ≤ 4294967296 := by rw [List.length_take]; omega
      have Hsn : Hid (sizeT (l.take (i + 1)) = sizeT (l.take i) + (if rightT l[i] then maxT l[i] else 0)) := Lib.hid (by rw [List.take_succ_eq_append_getElem hil, sizeT_snoc])
      have Hk := Lib.hid hk
      have s0 := hs.1
      have s1 : sizeT (l.take i) ≤ 1108101562368 := by omega
      clear hk hs hlt2
      generalize sizeT (l.take i) = S at *
      generalize l[i] = x at *
      have Hmx := Lib.hid (fun h => maxT_in (t := x) h)
      have Hm : Hid (maxT x = if x.len < 1 then 1 else x.len) := Lib.hid rfl
      have R := Lib.hid (fun w1 => right_tk x w1)
      obtain ⟨lit, len, back⟩ := x
      obtain ⟨d0, d1, d2⟩ := RdA.cells3 d
      simp only [tkL] at d0 d1 d2 R Hm
      clear d
      have hb1 := hb.alloc hb.size (.cells #[.int .u8 (lit.toNat : Int), .int .i64 len, .int .i64 back] 39)
      generalize (lit.toNat : Int) = lz at *
      go_wp2_with fail
      refine (R.out _).mono ?_
      rintro e w3 ⟨rfl, b3⟩
      have o1 := ((Own.start wr.heap.size wr).new (Nat.le_refl _) 39 #[.int .u8 lz, .int .i64 len, .int .i64 back]).grown (by simp) b3
      have c1 : w3.cell? ⟨wr.heap.size, 1, none⟩ = some (.int .i64 len) := o1.cell 1
      have hb3 := hb1.trans (b3.mono hb1.size)
      clear hb hb1 b3 o1 d0 d1 d2
      cases hrt : rightT ⟨lit, len, back⟩ with
      | true =>
        have hmx := Hmx.out hrt
        have hm : (if len < 1 then 1 else len) = maxT ⟨lit, len, back⟩ := Hm.out.symm
        rw [hrt] at Hsn
        generalize maxT ⟨lit, len, back⟩ = m at *
        have Hsn2 := Lib.hid (show sizeT (l.take (i + 1)) = S + m by have := Hsn.out; simpa using this)
        obtain ⟨m1, m2⟩ := hmx
        clear hrt Hsn
        go_wp2
        go_roundg j
        case measure => omega
        case rel => exact ⟨i + 1, by have := Hk.out; omega, rfl, congrArg (Value.int .i64) Hsn2.out.symm, hb3⟩
      | false =>
        rw [hrt] at Hsn
        have Hsn2 := Lib.hid (show sizeT (l.take (i + 1)) = S by have := Hsn.out; simpa using this)
        clear hrt Hsn Hmx Hm
        go_wp2
        go_roundg j
        case measure => omega
        case rel => exact ⟨i + 1, by have := Hk.out; omega, rfl, congrArg (Value.int .i64) Hsn2.out.symm, hb3⟩
    · obtain rfl : i = l.length := by omega
      rw [List.take_length]
      go_wp2
      go_ret
      exact ⟨rfl, hb⟩
end Go.Proofs.Ytedcficjmogohaa

/- The walk over Expand of package match. -/
namespace Go.Proofs.Ytedcficjmogohaa
set_option linter.unusedVariables false
set_option linter.unusedSimpArgs false
set_option maxRecDepth 100000
open Go.RowKit

def ExpP (w : World) (l : List Tk) (e : Ending) (w' : World) : Prop :=
  (∀ r, expT 65536 l [] = some r → ∃ A, e = .returned (.tuple #[.slice A r.length r.length, .int .i64 0]) ∧ Rd w' (.slice A r.length r.length) (bytesU r)) ∧
  (expT 65536 l [] = none → ∃ z : Int, z ≠ 0 ∧ e = .returned (.tuple #[.slice none 0 0, .int .i64 z])) ∧ Below w.heap.size w w'
theorem ExpP.bad {w w' : World} {l : List Tk} {e : Ending} {z : Int} (h : expT 65536 l [] = none) (hz : z ≠ 0) (he : e = .returned (.tuple #[.slice none 0 0, .int .i64 z])) (hb : Below w.heap.size w w') : ExpP w l e w' :=
  ⟨fun r hr => (by rw [h] at hr; cases hr), fun _ => ⟨z, hz, he⟩, hb⟩
theorem ExpP.good {w w' : World} {l : List Tk} {r : List UInt8} {e : Ending} {A : Option Addr} (h : expT 65536 l [] = some r) (he : e = .returned (.tuple #[.slice A r.length r.length, .int .i64 0])) (hr : Rd w' (.slice A r.length r.length) (bytesU r)) (hb : Below w.heap.size w w') : ExpP w l e w' :=
  ⟨fun r' hr' => (by rw [h] at hr'; cases hr'; exact ⟨A, he, hr⟩), fun hn => (by rw [h] at hn; cases hn), hb⟩
theorem Rd.recap {w : World} {A : Option Addr} {n c : Nat} {xs : List Value} (h : Rd w (.slice A n c) xs) (c' : Nat) : Rd w (.slice A n c') xs := by
  obtain ⟨A', c1, hv, hrd⟩ := h
  injection hv with e1 e2 e3
  subst e1; subst e2
  exact ⟨A, c', rfl, hrd⟩

set_option maxHeartbeats 6400000 in
theorem expand_tk (A : Option Addr) (c : Nat) (l : List Tk) (hl : l.length ≤ 4294967296) (w : World) (hr : RdA 3 tkL w A l) :
    Calls Try.prog 16 #[.slice A l.length c] w (ExpP w l) := by
  have Hr := Lib.hid (fun w1 (b : Below w.heap.size w w1) => hr.below b)
  have hb := Below.refl w.heap.size w
  have n1 : (l.length : Int) ≤ 4294967296 := by omega
  have hO := (Own.start w.heap.size w).rw_nil 5 1
  clear hr
  go_enter Try.func16, Try.ntmps16
  go_wp2
  go_loopg [4, 9] l.length (fun k v u wr => ∃ (i : Nat) (out : List UInt8) (A' : Option Addr) (c' : Nat), k + i = l.length ∧ u = .int .i64 (i : Int) ∧ v = .slice A' out.length c' ∧ Own w.heap.size (Rw 5 1 (.slice A' out.length c') out.length (bytesU out) * Emp) wr ∧ Below w.heap.size w wr ∧ out.length ≤ 65536 ∧ Hid (expT 65536 (l.take i) [] = some out))
  case atStart => exact ⟨0, [], none, 0, by omega, rfl, rfl, hO, hb, by simp, Lib.hid (by simp [expT])⟩
  case round =>
    clear hb hO
    obtain ⟨i, out, A', c', hk, rfl, rfl, ho, hb, hol, he⟩ := hrel
    have i0' : (0 : Int) ≤ (i : Int) := by omega
    by_cases hlt : (i : Int) < (l.length : Int)
    · obtain ⟨j, rfl⟩ : ∃ j, gk = j + 1 := ⟨gk - 1, by omega⟩
      have hil : i < l.length := by omega
      obtain ⟨b, off, rfl, q, d⟩ := Hr.out _ hb i hil
      have Hk := Lib.hid hk
      have Hfit : Hid (fitsP out l[i] 65536 → expT 65536 (l.take (i + 1)) [] = some (sawT out l[i])) := Lib.hid (fun hf => by rw [List.take_succ_eq_append_getElem hil, expT_snoc, he.out]; simp [hf])
      have Hbad : Hid (¬ fitsP out l[i] 65536 → expT 65536 l [] = none) := Lib.hid (fun hf => by
        have : l = l.take i ++ l.drop i := (List.take_append_drop i l).symm
        rw [this, expT_append, he.out, List.drop_eq_getElem_cons hil]
        simp [expT, hf])
      have o3 := (ho.new hb.size 39 (tkL l[i]).toArray).foc (Rw 5 1 (.slice A' out.length c') out.length (bytesU out))
      have hb2 := hb.alloc hb.size (.cells (tkL l[i]).toArray 39)
      clear hk ho hb he
      generalize l[i] = x at *
      have R := Lib.hid (fun w1 => right_tk x w1)
      have Hrt : Hid (∀ b, rightT x = b → (b = true ↔ rightP x)) := Lib.hid (fun b h => by unfold rightT at h; rw [← h]; simp)
      obtain ⟨lit, len, back⟩ := x
      obtain ⟨d0, d1, d2⟩ := RdA.cells3 d
      simp only [tkL] at d0 d1 d2 R o3 hb2
      clear d
      generalize hX0 : wr.heap.size = X0 at *
      go_wp2_with fail
      refine (R.out _).mono ?_
      rintro e w3 ⟨rfl, b3⟩
      have o4 := o3.grown hb2.size b3
      have hb4 := hb2.trans (b3.mono hb2.size)
      have c1 : w3.cell? ⟨X0, 1, none⟩ = some (.int .i64 len) := o4.cellOf X0 1
      have c2 : w3.cell? ⟨X0, 2, none⟩ = some (.int .i64 back) := o4.cellOf X0 2
      have c0 : w3.cell? ⟨X0, 0, none⟩ = some (.int .u8 (lit.toNat : Int)) := o4.cellOf X0 0
      clear o3 hb2 b3 d0 d1 d2 R
      cases hrt : rightT ⟨lit, len, back⟩ with
      | false =>
        have hno := Lib.hid (Hbad.out (fun hf => by have := (Hrt.out _ hrt).2 hf.1; cases this))
        go_wp2
        go_ret2
        exact ExpP.bad hno.out (by decide) rfl hb4
      | true =>
        have hrp := (Hrt.out _ hrt).1 rfl
        by_cases hbk : (out.length : Int) < back
        · have hno := Lib.hid (Hbad.out (fun hf => by have := hf.2.1; simp only at this; omega))
          clear hrt hrp
          go_wp2
          go_ret2
          exact ExpP.bad hno.out (by decide) rfl hb4
        · obtain ⟨m, hm⟩ : ∃ m : Int, (if len < 1 then 1 else len) = m := ⟨_, rfl⟩
          have hm2 : maxT ⟨lit, len, back⟩ = m := hm
          have hmr : 1 ≤ m ∧ m ≤ 258 := by rw [← hm2]; exact maxT_in hrt
          obtain ⟨m1, m2⟩ := hmr
          have Hm := Lib.hid hm2
          clear hm2
          have ol : (out.length : Int) ≤ 65536 := by omega
          by_cases hlong : 65536 < (out.length : Int) + m
          · have hno := Lib.hid (Hbad.out (fun hf => by have := hf.2.2; rw [Hm.out] at this; omega))
            clear hrt hrp
            go_wp2
            go_ret2
            exact ExpP.bad hno.out (by decide) rfl hb4
          · have hfit : fitsP out ⟨lit, len, back⟩ 65536 := ⟨hrp, by show back ≤ _; omega, by rw [Hm.out]; omega⟩
            have Hfit := Lib.hid (Hfit.out hfit)
            have Hrp := Lib.hid hrp
            have hsl := sawT_len out _ hrp
            rw [Hm.out] at hsl
            have Hsl := Lib.hid hsl
            clear hfit hrt hrp hsl Hbad Hrt
            by_cases h0 : len = 0
            · subst h0
              obtain rfl : m = 1 := hm.symm
              clear hm m1 m2
              have hlong2 : (out.length : Int) + 1 ≤ 65536 := by omega
              clear hlong ol
              obtain ⟨g, cap, w5, hrun, o5, b5⟩ := byte_snoc hb4.size o4 lit (lit.toNat : Int) rfl (by omega)
              have Hrun := Lib.hid hrun
              have hb5 := hb4.trans b5
              have c15 : w5.cell? ⟨X0, 1, none⟩ = some (.int .i64 0) := o5.cellOf X0 1
              have o6 := (o5.cast (show _ = Bk X0 _ _ * (Rw _ _ _ _ _ * Emp) by ac_rfl)).right
              have Hs : Hid (sawT out ⟨lit, 0, back⟩ = out ++ [lit]) := Lib.hid rfl
              have hlo : (out ++ [lit]).length ≤ 65536 := by rw [List.length_append]; simp; omega
              clear hrun o4 o5 hb4 b5
              generalize out ++ [lit] = out2 at *
              generalize (lit.toNat : Int) = lz at *
              have Hlo := Lib.hid hlo
              clear hlo
              obtain rfl : back = 0 := by
                rcases Hrp.out with ⟨_, h⟩ | ⟨h, _⟩
                · exact h
                · simp only at h; omega
              obtain ⟨X, hX⟩ : ∃ X : Int, (out.length : Int) = X := ⟨_, rfl⟩
              have x1 : X + 1 ≤ 65536 := by omega
              have x0 : 0 ≤ X := by omega
              clear hbk hlong2 hol
              go_wp2_with (at_builtin; refine wpList_append_run rfl (.tmp 36) (.tmp 39) 22 rfl rfl rfl Hrun.out ?_)
              go_loopg [4, 43] 0 (fun k v u wr => v = .slice (some ⟨g, 0, none⟩) out2.length cap ∧ u = .int .i64 0 ∧ wr = w5)
              case atStart => exact ⟨rfl, rfl, rfl⟩
              case round =>
                obtain ⟨rfl, rfl, rfl⟩ := hrel
                go_wp2
                go_roundg j
                case measure => omega
                case rel => exact ⟨i + 1, out2, some ⟨g, 0, none⟩, cap, by have := Hk.out; omega, rfl, rfl, o6, hb5, Hlo.out, Lib.hid (by rw [Hfit.out, Hs.out])⟩
            · have h0' : (len == 0) = false := by simpa using h0
              obtain ⟨r3, r258, rb1, rb2, _⟩ : 3 ≤ len ∧ len ≤ 258 ∧ 1 ≤ back ∧ back ≤ 32768 ∧ lit = 0 := by
                rcases Hrp.out with ⟨h, _⟩ | h
                · exact absurd h h0
                · exact h
              obtain ⟨n, rfl⟩ : ∃ n : Nat, len = (n : Int) := ⟨len.toNat, by omega⟩
              obtain ⟨bk, rfl⟩ : ∃ n : Nat, back = (n : Int) := ⟨back.toNat, by omega⟩
              have hdb : decide (out.length < bk) = false := by simp; omega
              have Hs : Hid (sawT out ⟨lit, (n : Int), (bk : Int)⟩ = copyN bk n out) := Lib.hid (by unfold sawT; rw [if_neg h0]; rfl)
              go_wp2
              go_loopg [4, 43] n (fun k v u wr2 => ∃ (t : Nat) (out2 : List UInt8) (A2 : Option Addr) (c2 : Nat), k + t = n ∧ u = .int .i64 (t : Int) ∧ v = .slice A2 out2.length c2 ∧ Own w.heap.size (Rw 5 1 (.slice A2 out2.length c2) out2.length (bytesU out2) * (Bk X0 39 #[.int .u8 (lit.toNat : Int), .int .i64 (n : Int), .int .i64 (bk : Int)] * Emp)) wr2 ∧ Below w.heap.size w wr2 ∧ out2.length = out.length + t ∧ Hid (out2 = copyN bk t out))
              case atStart => exact ⟨0, out, A', c', by omega, rfl, rfl, o4, hb4, rfl, Lib.hid rfl⟩
              case round =>
                clear o4 hb4 c0 c1 c2
                obtain ⟨t, out2, A2, c2, hkt, rfl, rfl, ho, hb, hl2, he2⟩ := hrel
                have t0' : (0 : Int) ≤ (t : Int) := by omega
                by_cases hlt2 : (t : Int) < (n : Int)
                · obtain ⟨jt, rfl⟩ : ∃ j, gk = j + 1 := ⟨gk - 1, by omega⟩
                  have c2' : wr.cell? ⟨X0, 2, none⟩ = some (.int .i64 (bk : Int)) := ho.cellOf X0 2
                  obtain ⟨ix, hix⟩ : ∃ ix : Nat, ix + bk = out2.length := ⟨out2.length - bk, by omega⟩
                  have hix2 : ix < out2.length := by omega
                  obtain ⟨ad, rfl, hc⟩ := ho.rd.at ix hix2
                  obtain ⟨g, cap, w5, hrun, o5, b5⟩ := byte_snoc hb.size ho out2[ix] (out2[ix].toNat : Int) rfl (by omega)
                  have Hnx : Hid (out2 ++ [out2[ix]] = copyN bk (t + 1) out) := Lib.hid (by
                    rw [copyN_succ, ← he2.out, show out2.length - bk = ix by omega, List.getElem?_eq_getElem hix2]; rfl)
                  have hl3 : (out2 ++ [out2[ix]]).length = out.length + (t + 1) := by rw [List.length_append, hl2]; rfl
                  have e1 : (out2.length : Int) - (bk : Int) = (ix : Int) := by omega
                  have e2 : (ix : Int) < (out2.length : Int) := by omega
                  have e3 : (0 : Int) ≤ (ix : Int) := by omega
                  have e4 : (out2.length : Int) ≤ 1000000 := by omega
                  have Hrun := Lib.hid hrun
                  have Hkt := Lib.hid (And.intro hkt (And.intro hix (And.intro hl2 hl3)))
                  have hb5 := hb.trans b5
                  clear hrun ho hb b5 hkt hix hl2 he2 hl3
                  generalize out2 ++ [out2[ix]] = out3 at *
                  generalize (out2[ix].toNat : Int) = zb at *
                  clear hix2
                  generalize out2.length = L2 at *
                  go_wp2_with (at_builtin; refine wpList_append_run rfl (.tmp 45) (.tmp 54) 22 rfl rfl rfl Hrun.out ?_)
                  go_roundg jt
                  case measure => omega
                  case rel => exact ⟨t + 1, out3, some ⟨g, 0, none⟩, cap, by have := Hkt.out.1; omega, rfl, rfl, o5, hb5, Hkt.out.2.2.2, Hnx⟩
                · obtain rfl : t = n := by omega
                  have o6 := (ho.cast (show _ = Bk X0 _ _ * (Rw _ _ _ _ _ * Emp) by ac_rfl)).right
                  have hlo : out2.length ≤ 65536 := by have := Hsl.out; rw [Hs.out, ← he2.out] at this; omega
                  clear ho hl2
                  go_wp2
                  go_roundg j
                  case measure => omega
                  case rel => exact ⟨i + 1, out2, A2, c2, by have := Hk.out; omega, rfl, rfl, o6, hb, hlo, Lib.hid (by rw [Hfit.out, Hs.out, he2.out])⟩
    · obtain rfl : i = l.length := by omega
      rw [List.take_length] at he
      have hcap := ho.cap
      have K := Lib.hid (fun w1 => clip_any A' out.length c' hcap w1)
      go_wp2_with fail
      refine (K.out _).mono ?_
      rintro e w3 ⟨rfl, rfl⟩
      go_wp2
      go_ret2
      exact ExpP.good he.out rfl (ho.rd.recap _) hb
end Go.Proofs.Ytedcficjmogohaa

/- A map from three bytes to places, as a part of what is owned; the finder of package match; the walk over its put. -/
namespace Go.Proofs.Ytedcficjmogohaa
set_option linter.unusedVariables false
set_option linter.unusedSimpArgs false
set_option maxRecDepth 100000
open Go.RowKit

theorem keyed3 : Go.Maps.Keyed Try.prog 113 := Go.Maps.Keyed.of_law (deep_law (m := 5) (by decide) (by kernel_rfl) (by kernel_rfl) (by kernel_rfl))
def v3 (a b c : UInt8) : Value := .agg #[.int .u8 (a.toNat : Int), .int .u8 (b.toNat : Int), .int .u8 (c.toNat : Int)]
theorem v3_inj {a b c a' b' c' : UInt8} (h : v3 a b c = v3 a' b' c') : a = a' ∧ b = b' ∧ c = c' := by
  unfold v3 at h
  simp at h
  obtain ⟨h1, h2, h3⟩ := h
  exact ⟨UInt8.toNat.inj (by omega), UInt8.toNat.inj (by omega), UInt8.toNat.inj (by omega)⟩
theorem key3 (a b c : UInt8) : ∃ kl, keyOf Try.prog 113 (v3 a b c) = some kl := by
  have h0 : Try.prog.keyType 113 = true := by kernel_rfl
  have h1 : Try.prog.cellsOf 113 = 3 := by kernel_rfl
  have h2 : Try.prog.cellsOf 5 = 1 := by kernel_rfl
  have wf : ∀ x : UInt8, (Lit.int .u8 (x.toNat : Int)).wf = true := fun x => by
    have := x.toNat_lt
    simp [Lit.wf, IntKind.min, IntKind.max, IntKind.signed, IntKind.bits]
    omega
  obtain ⟨n, hn⟩ : ∃ n, Try.prog.types.size + 1 = n + 2 := ⟨Try.prog.types.size - 1, by have h3 : 1 ≤ Try.prog.types.size := (of_decide_eq_true (by kernel_rfl)); omega⟩
  unfold keyOf
  rw [Try.underlying113]
  simp only [h0, Bool.true_and]
  have hf : (v3 a b c).formed Try.prog 113 = true := by
    unfold v3 Value.formed
    simp only [Try.underlying113, h1]
    rfl
  rw [if_pos hf, hn]
  have hL : Try.prog.keyLits (n + 2) 113 (v3 a b c).cells.toList = some [.int .u8 (a.toNat : Int), .int .u8 (b.toNat : Int), .int .u8 (c.toNat : Int)] := by
    have k1 : ∀ x : UInt8, Try.prog.keyLits (n + 1) 5 [.int .u8 (x.toNat : Int)] = some [.int .u8 (x.toNat : Int)] := fun x => by
      unfold Program.keyLits
      rw [Try.underlying5]
      simp only [wf x, and_self, if_true]
    unfold Program.keyLits
    rw [Try.underlying113]
    simp [v3, Value.cells, h1, h2, List.range_succ, List.mapM_cons, k1]
  rw [hL]
  exact ⟨_, rfl⟩

abbrev F3 := UInt8 → UInt8 → UInt8 → Option Int
def upd3 (f : F3) (a b c : UInt8) (p : Int) : F3 := fun x y z => if x = a ∧ y = b ∧ z = c then some p else f x y z
def MoD (D : DataW Unit) (f : F3) : Prop := Go.Maps.IsMap D ∧ ∀ a b c kl, keyOf Try.prog 113 (v3 a b c) = some kl → (Go.Maps.has D kl = (f a b c).isSome ∧ ∀ p, f a b c = some p → ∀ z, D.atKey kl z = .lit (.int .i64 p))
/-- A map from three bytes to numbers. -/
def Mo (g n : Nat) (f : F3) : HP := fun w F => F g ∧ ∃ D : DataW Unit, w.ownsMap Try.prog 113 (Go.plainElem Try.prog 3) g n D ∧ MoD D f
instance Loc.mo {B g n : Nat} {f : F3} : Loc B (Mo g n f) where
  keep := fun _ _ _ h _ ⟨hF, D, ⟨es, clock, hb, r⟩, hd⟩ => ⟨hF, D, ⟨es, clock, (h g hF).trans hb, r⟩, hd⟩
  up := fun _ _ _ h ⟨hF, r⟩ => ⟨h g hF, r⟩
theorem zeroInt : ∀ w : World, (zeroValue 3).run Try.prog w = .ok (.int .i64 0) w := fun w => by
  have h1 : (Try.prog.info? 3).map (fun i => i.zero) = some (some (.int .i64 0)) := by kernel_rfl
  obtain ⟨i0, hi, hz⟩ := Option.map_eq_some_iff.1 h1
  simp [zeroValue, typeInfo, hi, hz]
theorem Own.mo_look {B g n : Nat} {f : F3} {R : HP} {w : World} (h : Own B (Mo g n f * R) w) (a b c : UInt8) :
    (Instr.lookup 78 (.map (some g)) (v3 a b c) true).run Try.prog w = .ok (.tuple #[.int .i64 ((f a b c).getD 0), .bool (f a b c).isSome]) w := by
  obtain ⟨F, hf, F1, F2, hd, h1, h2, ⟨hF, D, ⟨es, clock, hb, Ft, hs, hD⟩, hm, hD2⟩, hr⟩ := h
  obtain ⟨kl, hk⟩ := key3 a b c
  obtain ⟨k1, k2⟩ := hD2 a b c kl hk
  rcases Go.Maps.fit_look true keyed3 Try.underlying78 (zeroInt w) hb Ft hk with ⟨hrun, _, hat⟩ | ⟨e0, y, _, _, hrun, hRv, hat, _⟩
  · have : Go.Maps.has D kl = false := Go.Maps.has_false_of_atKey (by rw [hD]; exact hat)
    rw [this] at k1
    have hn : f a b c = none := by simpa using k1.symm
    rw [hrun, hn]
    rfl
  · have hh : Go.Maps.has D kl = true := Go.Maps.has_true_of_atKey (y := y.1) (by rw [hD]; exact hat)
    rw [hh] at k1
    obtain ⟨p, hp⟩ := Option.isSome_iff_exists.1 k1.symm
    have h3 := k2 p hp
    obtain ⟨z, hz, hy, _⟩ := Go.plainElem_int_inv Try.underlying3 hRv
    have h4 := hat .nil
    rw [← hD, h3 .nil, hy] at h4
    simp at h4
    rw [hrun, hz, hp, h4]
    rfl
theorem Own.mo_put {B g n : Nat} {f : F3} {R : HP} [Loc B R] {w : World} (hB : B ≤ w.heap.size) (h : Own B (Mo g n f * R) w) (hn : n < maxLen) (a b c : UInt8) (p : Int) (hp : (Lit.int .i64 p).wf = true) :
    ∃ w', (Instr.mapUpdate 78 (.map (some g)) (v3 a b c) (.int .i64 p)).run Try.prog w = .ok () w' ∧ Own B (Mo g (n + 1) (upd3 f a b c p) * R) w' ∧ Below B w w' := by
  have h' := h
  obtain ⟨F, hf, F1, F2, hd, h1, h2, ⟨hF, D, ho, hm, hD2⟩, hr⟩ := h
  obtain ⟨kl, hk⟩ := key3 a b c
  obtain ⟨w', hrun, ho', hg⟩ := ho.update keyed3 Try.underlying78 hn hk (Go.plainElem_int Try.underlying3 hp)
  have hBg := (hf g (h1 g hF)).1
  refine ⟨w', hrun, ?_, (Below.refl B w).grown hg hB (fun k e => by cases e; exact hBg)⟩
  refine Own.turn hB h' hg.size fun G hG ⟨hGg, _⟩ => ⟨G, fun k hk => .inl hk, ⟨hGg, _, ho', hm.put _ _, fun x y z kl' hk' => ?_⟩, fun k hk hn => hg.block k hk (fun e => hn (by injection e with e; exact e ▸ hGg))⟩
  unfold upd3
  by_cases he : x = a ∧ y = b ∧ z = c
  · obtain ⟨rfl, rfl, rfl⟩ := he
    rw [hk] at hk'
    obtain rfl := Option.some.inj hk'
    rw [if_pos ⟨rfl, rfl, rfl⟩]
    exact ⟨Go.Maps.has_put_same hm (keyed3.key hk) _, fun q hq z' => by cases hq; exact Go.Maps.atKey_put_same hm (keyed3.key hk) _ _⟩
  · rw [if_neg he]
    have hne : kl' ≠ kl := fun e => by
      subst e
      exact he (v3_inj (keyed3.inj hk' hk))
    obtain ⟨k1, k2⟩ := hD2 x y z kl' hk'
    exact ⟨(Go.Maps.has_put_other hne _).trans k1, fun q hq z' => (Go.Maps.atKey_put_other hne _ _).trans (k2 q hq z')⟩
theorem Own.mo_new {B : Nat} {R : HP} [Loc B R] {w : World} (hB : B ≤ w.heap.size) (h : Own B R w) : Own B (Mo w.heap.size 0 (fun _ _ _ => none) * R) (w.alloc (.map #[] 0)) := by
  refine Own.turn hB h.emp (by simp) fun F _ _ => ⟨fun k => k = w.heap.size, fun k hk => .inr (by simp; omega), ⟨rfl, _, World.ownsMap_made w _ _ _, Go.Maps.isMap_empty, fun a b c kl _ => ⟨rfl, fun p hp => by cases hp⟩⟩, fun k hk _ => Below.heap_alloc w _ k hk⟩

/-! the finder -/
def at3 (b : List UInt8) (q : Nat) (x y z : UInt8) : Prop := b[q]? = some x ∧ b[q + 1]? = some y ∧ b[q + 2]? = some z
instance {b : List UInt8} {q : Nat} {x y z : UInt8} : Decidable (at3 b q x y z) := by unfold at3; infer_instance
/-- The last place ahead of m at which these three bytes stand. -/
def lastP (b : List UInt8) : Nat → F3
  | 0, _, _, _ => none
  | m + 1, x, y, z => if at3 b m x y z then some (m : Int) else lastP b m x y z
def prevP (b : List UInt8) (q : Nat) : Int := match b[q]?, b[q + 1]?, b[q + 2]? with
  | some x, some y, some z => (lastP b q x y z).getD (-1)
  | _, _, _ => -1
def backsAt (b : List UInt8) (m : Nat) : List Int := (List.range b.length).map fun q => if q < m then prevP b q else 0
theorem backsAt_len (b : List UInt8) (m : Nat) : (backsAt b m).length = b.length := by simp [backsAt]
theorem backsAt_succ (b : List UInt8) (m : Nat) : backsAt b (m + 1) = (backsAt b m).set m (prevP b m) := by
  apply List.ext_getElem
  · simp [backsAt]
  · intro i h1 h2
    simp only [backsAt, List.getElem_map, List.getElem_range, List.getElem_set]
    by_cases h : m = i
    · subst h; simp
    · by_cases h3 : i < m
      · rw [if_pos (by omega), if_neg h, if_pos h3]
      · rw [if_neg (by omega), if_neg h, if_neg h3]
theorem lastP_in (b : List UInt8) : ∀ (m : Nat) (x y z : UInt8) (p : Int), lastP b m x y z = some p → 0 ≤ p ∧ p < m
  | 0, x, y, z, p, h => by cases h
  | m + 1, x, y, z, p, h => by
    unfold lastP at h
    split at h
    · injection h with h; subst h; omega
    · have := lastP_in b m x y z p h; omega
theorem prevP_in (b : List UInt8) (q : Nat) : -1 ≤ prevP b q ∧ prevP b q < q := by
  unfold prevP
  split
  · cases h : lastP b q _ _ _ with
    | none => simp; omega
    | some p => have := lastP_in b q _ _ _ p h; simp; omega
  · omega
def intsV (l : List Int) : Array Value := (l.map (Value.int .i64)).toArray
def Fd (p : Nat) (v : Value) (gm gb k : Nat) (b : List UInt8) (m : Nat) : HP :=
  Bk p 81 #[v, .map (some gm), .slice (some ⟨gb, 0, none⟩) b.length b.length] * (Mo gm k (lastP b m) * Bk gb 3 (intsV (backsAt b m)))
instance Loc.fd {B p : Nat} {v : Value} {gm gb k : Nat} {b : List UInt8} {m : Nat} : Loc B (Fd p v gm gb k b m) := inferInstanceAs (Loc B (Bk _ _ _ * (Mo _ _ _ * Bk _ _ _)))
theorem intsV_get (l : List Int) (i : Nat) (h : i < l.length) : (intsV l)[i]? = some (.int .i64 l[i]) := by simp [intsV, h]
theorem intsV_set (l : List Int) (i : Nat) (z : Int) : (intsV l).setIfInBounds i (.int .i64 z) = intsV (l.set i z) := by simp [intsV, List.map_set]
end Go.Proofs.Ytedcficjmogohaa

/- The walk over put of package match's finder. -/
namespace Go.Proofs.Ytedcficjmogohaa
set_option linter.unusedVariables false
set_option linter.unusedSimpArgs false
set_option maxRecDepth 100000
open Go.RowKit

theorem Rd.at' {w : World} {A : Option Addr} {n c : Nat} {l : List UInt8} (h : Rd w (.slice A n c) (bytesU l)) (i : Nat) (hi : i < l.length) : ∃ b0 o0, A = some ⟨b0, o0, none⟩ ∧ w.cell? ⟨b0, o0 + i, none⟩ = some (.int .u8 (l[i].toNat : Int)) := by
  obtain ⟨⟨b0, o0, sp⟩, h1, hc⟩ := h.at i hi
  obtain ⟨ad', h2, hc'⟩ := h.at 0 (by omega)
  rw [h1] at h2
  cases h2
  have hs := World.cell?_spot hc'
  have hsp : sp = none := by simpa [Addr.add] using hs
  subst hsp
  rw [Addr.add_lit] at hc
  exact ⟨b0, o0, h1, hc⟩
theorem Rd.three {w : World} {A : Option Addr} {n c : Nat} {b : List UInt8} (h : Rd w (.slice A n c) (bytesU b)) (m : Nat) (hm : m + 3 ≤ b.length) :
    ∃ b0 o0, A = some ⟨b0, o0, none⟩ ∧ w.cell? ⟨b0, o0 + m, none⟩ = some (.int .u8 (b[m].toNat : Int)) ∧ w.cell? ⟨b0, o0 + m + 1, none⟩ = some (.int .u8 (b[m + 1].toNat : Int)) ∧ w.cell? ⟨b0, o0 + m + 2, none⟩ = some (.int .u8 (b[m + 2].toNat : Int)) := by
  obtain ⟨b0, o0, h1, c0⟩ := h.at' m (by omega)
  obtain ⟨b1, o1, h2, c1⟩ := h.at' (m + 1) (by omega)
  obtain ⟨b2, o2, h3, c2⟩ := h.at' (m + 2) (by omega)
  rw [h1] at h2 h3
  cases h2; cases h3
  exact ⟨b0, o0, h1, c0, by rw [Nat.add_assoc]; exact c1, by rw [Nat.add_assoc]; exact c2⟩
theorem fd_eq {p : Nat} {v : Value} {gm gb k : Nat} {b : List UInt8} {m : Nat} {R : HP} : Fd p v gm gb k b m * R = Bk p 81 #[v, .map (some gm), .slice (some ⟨gb, 0, none⟩) b.length b.length] * (Mo gm k (lastP b m) * (Bk gb 3 (intsV (backsAt b m)) * R)) := by
  show (_ * (_ * _)) * R = _
  rw [sep_assoc, sep_assoc]
theorem Own.mo_more {B g n n' : Nat} {f : F3} {R : HP} {w : World} (h : Own B (Mo g n f * R) w) (hn : n ≤ n') : Own B (Mo g n' f * R) w :=
  h.mono fun _ _ ⟨F1, F2, hd, h1, h2, ⟨hF, D, ho, hm⟩, hr⟩ => ⟨F1, F2, hd, h1, h2, ⟨hF, D, ho.mono hn, hm⟩, hr⟩
theorem wpList_mapUpdate_run {P : Program} {ops : Array Oper} {Q : Exit → Act → World → Prop} {rest : List Oper} {o : Oper} {a : Act} {w w' : World} (hgd : o.guard = none) (m x v : Operand) (t : TypeId) {mv xv vv : Value}
    (ho : o.op = .mapUpdate t m x v) (hm : a.eval m = mv) (hx : a.eval x = xv) (hv : a.eval v = vv) (hr : (Instr.mapUpdate t mv xv vv).run P w = .ok () w') (h : wpList P ops Q rest (a.put o.dst undef) w') : wpList P ops Q (o :: rest) a w := by
  refine wpList_plain hgd fun K' hK' => ?_
  unfold Oper.wp
  simp [execOp, ho, hm, hx, hv, hr, Result.andThen]
  exact hK' _ _ h
set_option maxHeartbeats 6400000 in
theorem fput_any (p gm gb k : Nat) (A : Option Addr) (c : Nat) (b : List UInt8) (hbl : b.length ≤ 65536) (hc : b.length ≤ c ∧ c ≤ 9223372036854775807) (m : Nat) (hm : m < b.length) (hk : k ≤ 1000000) (B : Nat) (R : HP) [Loc B R] (w : World) (hB : B ≤ w.heap.size)
    (hr : ∀ w1, Below B w w1 → Rd w1 (.slice A b.length c) (bytesU b)) (hO : Own B (Fd p (.slice A b.length c) gm gb k b m * R) w) :
    Calls Try.prog 43 #[.pointer (some ⟨p, 0, none⟩), .int .i64 (m : Int)] w (Ret B w (.tuple #[]) (Fd p (.slice A b.length c) gm gb (k + 1) b (m + 1) * R)) := by
  have hO : Own B (Bk p 81 #[.slice A b.length c, .map (some gm), .slice (some ⟨gb, 0, none⟩) b.length b.length] * (Mo gm k (lastP b m) * (Bk gb 3 (intsV (backsAt b m)) * R))) w := by rw [← fd_eq]; exact hO
  have c0 : w.cell? ⟨p, 0, none⟩ = some (.slice A b.length c) := hO.cellOf p 0
  have c2 : w.cell? ⟨p, 2, none⟩ = some (.slice (some ⟨gb, 0, none⟩) b.length b.length) := hO.cellOf p 2
  have oM := hO.cast (show _ = Bk gb 3 (intsV (backsAt b m)) * (Bk p 81 #[.slice A b.length c, .map (some gm), .slice (some ⟨gb, 0, none⟩) b.length b.length] * (Mo gm k (lastP b m) * R)) by ac_rfl)
  have cg : w.cell? ⟨gb, m, none⟩ = some (.int .i64 ((backsAt b m)[m]'(by rw [backsAt_len]; exact hm))) := (oM.cell m).trans (intsV_get _ _ _)
  have zg := oM.unfrozen m
  have hm' : (m : Int) < (b.length : Int) := by omega
  have m0 : (0 : Int) ≤ (m : Int) := by omega
  obtain ⟨B1, o1, b1⟩ := Own.step hB oM m (.int .i64 (-1))
  rw [intsV_set] at o1
  generalize hz0 : (backsAt b m)[m]'(by rw [backsAt_len]; exact hm) = z0 at cg
  have d0 : (w.setCell ⟨gb, m, none⟩ (.int .i64 (-1))).cell? ⟨p, 0, none⟩ = some (.slice A b.length c) := o1.cellOf p 0
  have d1 : (w.setCell ⟨gb, m, none⟩ (.int .i64 (-1))).cell? ⟨p, 1, none⟩ = some (.map (some gm)) := o1.cellOf p 1
  have d2 : (w.setCell ⟨gb, m, none⟩ (.int .i64 (-1))).cell? ⟨p, 2, none⟩ = some (.slice (some ⟨gb, 0, none⟩) b.length b.length) := o1.cellOf p 2
  clear hz0 oM hO
  by_cases hlong : (b.length : Int) < (m : Int) + 3
  · have hp : prevP b m = -1 := by
      unfold prevP
      have : b[m + 2]? = none := List.getElem?_eq_none (by omega)
      rw [this]
      split
      · rename_i h; cases h
      · rfl
    have hl : lastP b (m + 1) = lastP b m := by
      funext x y z
      rw [lastP, if_neg]
      rintro ⟨_, _, h⟩
      rw [List.getElem?_eq_none (by omega)] at h
      cases h
    have oF : Own B (Fd p (.slice A b.length c) gm gb (k + 1) b (m + 1) * R) (w.setCell ⟨gb, m, none⟩ (.int .i64 (-1))) := by
      have o2 := (o1.cast (show _ = Mo gm k (lastP b m) * (Bk p 81 #[.slice A b.length c, .map (some gm), .slice (some ⟨gb, 0, none⟩) b.length b.length] * (Bk gb 3 (intsV ((backsAt b m).set m (-1))) * R)) by ac_rfl)).mo_more (n' := k + 1) (by omega)
      rw [show (backsAt b m).set m (-1) = backsAt b (m + 1) by rw [backsAt_succ, hp], ← hl] at o2
      rw [fd_eq]
      exact o2.cast (by ac_rfl)
    clear o1 hp hl hr hO
    generalize b.length = L at *
    go_enter Try.func43, Try.ntmps43
    go_wp2
    go_end0
    exact ⟨rfl, oF, b1⟩
  · have h3 : m + 3 ≤ b.length := by omega
    have Hr := Lib.hid hr
    obtain ⟨b0, o0, rfl, x0, x1, x2⟩ := (hr _ b1).three m h3
    have hp : prevP b m = (lastP b m b[m] b[m + 1] b[m + 2]).getD (-1) := by
      unfold prevP
      rw [List.getElem?_eq_getElem (by omega), List.getElem?_eq_getElem (by omega), List.getElem?_eq_getElem (by omega)]
    have hl : lastP b (m + 1) = upd3 (lastP b m) b[m] b[m + 1] b[m + 2] (m : Int) := by
      funext x y z
      unfold upd3
      rw [lastP]
      have : at3 b m x y z ↔ (x = b[m] ∧ y = b[m + 1] ∧ z = b[m + 2]) := by
        unfold at3
        rw [List.getElem?_eq_getElem (by omega), List.getElem?_eq_getElem (by omega), List.getElem?_eq_getElem (by omega)]
        constructor
        · rintro ⟨h1, h2, h3⟩; exact ⟨(Option.some.inj h1).symm, (Option.some.inj h2).symm, (Option.some.inj h3).symm⟩
        · rintro ⟨rfl, rfl, rfl⟩; exact ⟨rfl, rfl, rfl⟩
      simp only [this]
    have hcm : ¬ c = m := by omega
    have hL3 : 3 ≤ b.length - m := by omega
    have harr := fun W : World => run_arrayAt (P := Try.prog) (w := W) 113 5 3 (some ⟨b0, o0 + m, none⟩) (b.length - m) (c - m) Try.underlying113 hL3
    have hLm : (m : Int) ≤ (b.length : Int) := by omega
    have hLc : (b.length : Int) ≤ (c : Int) := by omega
    have Hp := Lib.hid hp
    have Hl := Lib.hid hl
    clear hr hp hl
    generalize b[m] = ba at *
    generalize b[m + 1] = bb at *
    generalize b[m + 2] = bc at *
    go_enter Try.func43, Try.ntmps43
    have o2 := o1.new B1 113 #[.int .u8 (ba.toNat : Int), .int .u8 (bb.toNat : Int), .int .u8 (bc.toNat : Int)]
    have b2 := b1.alloc B1 (.cells #[.int .u8 (ba.toNat : Int), .int .u8 (bb.toNat : Int), .int .u8 (bc.toNat : Int)] 113)
    go_wp2
    rw [show (w.setCell ⟨gb, m, none⟩ (.int .i64 (-1))).heap.size = w.heap.size by simp [World.setCell]] at o2
    clear o1 b1 x0 x1 x2 c0 d0 d1 d2 cg zg harr hL3 hcm hO
    generalize (w.setCell ⟨gb, m, none⟩ (.int .i64 (-1))).alloc (.cells #[.int .u8 (ba.toNat : Int), .int .u8 (bb.toNat : Int), .int .u8 (bc.toNat : Int)] 113) = W2 at *
    generalize w.heap.size = X0 at *
    have B2 : B ≤ W2.heap.size := Nat.le_trans o2.bk.2.1 (Nat.le_of_lt o2.bk.2.2)
    refine wp_region_mix (St B _ W2) [0, 1, 2, 3, 4, 5, 6, 7, 9, 8, 10] [] mixed (by kernel_rfl) rfl (St.drew B2 o2) ?_
    simp only [List.filterMap_cons, List.filterMap_nil, List.getElem?_toArray, List.getElem?_cons_succ, List.getElem?_cons_zero]
    repeat (first
      | (refine held_val ?_ rfl (fun w1 hS => ?_) ?_
         rotate_left
         · (have k1 : w1.cell? ⟨p, 1, none⟩ = some (.map (some gm)) := hS.2.1.cellOf p 1; have y0 : w1.cell? ⟨X0, 0, none⟩ = some (.int .u8 (ba.toNat : Int)) := hS.2.1.cell 0; have y1 : w1.cell? ⟨X0, 1, none⟩ = some (.int .u8 (bb.toNat : Int)) := hS.2.1.cell 1; have y2 : w1.cell? ⟨X0, 2, none⟩ = some (.int .u8 (bc.toNat : Int)) := hS.2.1.cell 2; have hlk := (hS.2.1.foc (Mo gm k (lastP b m))).mo_look ba bb bc; unfold v3 at hlk
            go_simp
            try go_bits
            rfl)
         simp only [Act.put, List.setIfInBounds_toArray, List.set_cons_zero, List.set_cons_succ])
      | (refine held_off rfl ?_
         simp only [Act.put, List.setIfInBounds_toArray, List.set_cons_zero, List.set_cons_succ]))
    refine held_nil (fun w3 hS => ?_)
    obtain ⟨B3, o3, b3⟩ := hS
    have hb3 := b2.trans b3
    clear o2 b2 b3 B2
    cases hlp : lastP b m ba bb bc with
    | none =>
      have e : (backsAt b m).set m (-1) = backsAt b (m + 1) := by rw [backsAt_succ, Hp.out, hlp]; rfl
      rw [e] at o3
      have He := Lib.hid hlp
      clear e hlp
      go_wp2
      refine wp_region_mix (St B _ w3) [0, 1, 2, 3, 4, 5] [6] mixed (by kernel_rfl) rfl (St.drew B3 o3) ?_
      simp only [List.filterMap_cons, List.filterMap_nil, List.getElem?_toArray, List.getElem?_cons_succ, List.getElem?_cons_zero]
      repeat (first
        | (refine held_val ?_ rfl (fun w1 hS => ?_) ?_
           rotate_left
           · (have k1 : w1.cell? ⟨p, 1, none⟩ = some (.map (some gm)) := hS.2.1.cellOf p 1; have y0 : w1.cell? ⟨X0, 0, none⟩ = some (.int .u8 (ba.toNat : Int)) := hS.2.1.cell 0; have y1 : w1.cell? ⟨X0, 1, none⟩ = some (.int .u8 (bb.toNat : Int)) := hS.2.1.cell 1; have y2 : w1.cell? ⟨X0, 2, none⟩ = some (.int .u8 (bc.toNat : Int)) := hS.2.1.cell 2
              go_simp
              try go_bits
              rfl)
           simp only [Act.put, List.setIfInBounds_toArray, List.set_cons_zero, List.set_cons_succ])
        | (refine held_off rfl ?_
           simp only [Act.put, List.setIfInBounds_toArray, List.set_cons_zero, List.set_cons_succ]))
      refine held_nil (fun w5 hS => ?_)
      obtain ⟨B5, o5, b5⟩ := hS
      obtain ⟨w6, hrun, o6, b6⟩ := (o5.foc (Mo gm k (lastP b m))).mo_put B5 (by unfold maxLen; omega) ba bb bc (m : Int) (by simp [Lit.wf, IntKind.min, IntKind.max, IntKind.signed, IntKind.bits]; omega)
      have hb6 := (hb3.trans b5).trans b6
      unfold v3 at hrun
      rw [← Hl.out] at o6
      have Hrun := Lib.hid hrun
      have o7 : Own B (Fd p (.slice (some ⟨b0, o0, none⟩) b.length c) gm gb (k + 1) b (m + 1) * R) w6 := by
        rw [fd_eq]
        exact (o6.cast (show _ = Bk X0 _ _ * (Bk p _ _ * (Mo gm (k + 1) (lastP b (m + 1)) * (Bk gb _ _ * R))) by ac_rfl)).right
      clear hrun o5 b5 o6 b6
      refine wpList_mapUpdate_run rfl (.tmp 49) (.tmp 50) (.tmp 51) 78 rfl rfl rfl rfl Hrun.out ?_
      simp only [Act.put, List.setIfInBounds_toArray, List.set_cons_zero, List.set_cons_succ]
      go_wp2
      go_end0
      exact ⟨rfl, o7, hb6⟩
    | some q =>
      have e : ((backsAt b m).set m (-1)).set m q = backsAt b (m + 1) := by rw [backsAt_succ, Hp.out, hlp, List.set_set]; rfl
      have He := Lib.hid hlp
      have c2 : w3.cell? ⟨p, 2, none⟩ = some (.slice (some ⟨gb, 0, none⟩) b.length b.length) := o3.cellOf p 2
      have cg : w3.cell? ⟨gb, m, none⟩ = some (.int .i64 (-1)) := (o3.cellOf gb m).trans (by rw [intsV_get _ _ (by simp [backsAt_len, hm])]; simp)
      have zg := o3.freeOf gb m
      obtain ⟨o4, b4⟩ := o3.setOf B3 gb m (.int .i64 q)
      rw [intsV_set, e] at o4
      have hb4 := hb3.trans b4
      have B4 := Nat.le_trans B3 b4.size
      clear e hlp o3 hb3 b4
      go_wp2
      clear c2 cg zg
      generalize w3.setCell ⟨gb, m, none⟩ (.int .i64 q) = w4 at *
      refine wp_region_mix (St B _ w4) [0, 1, 2, 3, 4, 5] [6] mixed (by kernel_rfl) rfl (St.drew B4 o4) ?_
      simp only [List.filterMap_cons, List.filterMap_nil, List.getElem?_toArray, List.getElem?_cons_succ, List.getElem?_cons_zero]
      repeat (first
        | (refine held_val ?_ rfl (fun w1 hS => ?_) ?_
           rotate_left
           · (have k1 : w1.cell? ⟨p, 1, none⟩ = some (.map (some gm)) := hS.2.1.cellOf p 1; have y0 : w1.cell? ⟨X0, 0, none⟩ = some (.int .u8 (ba.toNat : Int)) := hS.2.1.cell 0; have y1 : w1.cell? ⟨X0, 1, none⟩ = some (.int .u8 (bb.toNat : Int)) := hS.2.1.cell 1; have y2 : w1.cell? ⟨X0, 2, none⟩ = some (.int .u8 (bc.toNat : Int)) := hS.2.1.cell 2
              go_simp
              try go_bits
              rfl)
           simp only [Act.put, List.setIfInBounds_toArray, List.set_cons_zero, List.set_cons_succ])
        | (refine held_off rfl ?_
           simp only [Act.put, List.setIfInBounds_toArray, List.set_cons_zero, List.set_cons_succ]))
      refine held_nil (fun w5 hS => ?_)
      obtain ⟨B5, o5, b5⟩ := hS
      obtain ⟨w6, hrun, o6, b6⟩ := (o5.foc (Mo gm k (lastP b m))).mo_put B5 (by unfold maxLen; omega) ba bb bc (m : Int) (by simp [Lit.wf, IntKind.min, IntKind.max, IntKind.signed, IntKind.bits]; omega)
      have hb6 := (hb4.trans b5).trans b6
      unfold v3 at hrun
      rw [← Hl.out] at o6
      have Hrun := Lib.hid hrun
      have o7 : Own B (Fd p (.slice (some ⟨b0, o0, none⟩) b.length c) gm gb (k + 1) b (m + 1) * R) w6 := by
        rw [fd_eq]
        exact (o6.cast (show _ = Bk X0 _ _ * (Bk p _ _ * (Mo gm (k + 1) (lastP b (m + 1)) * (Bk gb _ _ * R))) by ac_rfl)).right
      clear hrun o5 b5 o6 b6
      refine wpList_mapUpdate_run rfl (.tmp 49) (.tmp 50) (.tmp 51) 78 rfl rfl rfl rfl Hrun.out ?_
      simp only [Act.put, List.setIfInBounds_toArray, List.set_cons_zero, List.set_cons_succ]
      go_wp2
      go_end0
      exact ⟨rfl, o7, hb6⟩
end Go.Proofs.Ytedcficjmogohaa
