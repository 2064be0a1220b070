/- Texts of one proof, merged: XTwo XOb XE3 XE4 XE5 XE6 XE7 XE8 XE9 XEa XEb XEo XO0 XBit XO1. -/
import Derived.Test.YtfppancidgamjaaDoorGa
import Derived.BigQuiet
import Derived.RowKit
import Derived.KernelRfl
import Derived.Deep.LoopGhost
import Derived.Lib.Hide
import Derived.Laws.ShiftsVar
import Derived.WalkSpells
import Derived.Lib.BufferMore
import Derived.Laws.StructEq
import Derived.Deep.Fields
import Derived.ChangeSame
import Derived.Below
import Derived.Laws.Bits64b
import Derived.Laws.BitsLemmas
/- A statement whose order Go leaves open, of two threads, each with what it owns: in whatever order their steps come, both end as each ends alone; then comes the rest. -/
namespace Go.Proofs.YtfppancidgamjaaDoor
set_option linter.unusedVariables false
set_option linter.unusedSimpArgs false
open Go.RowKit

section
variable {P : Program} {ops : Array Oper} {md : Region.Mode} {Q : Exit → Act → World → Prop} {B : Nat}

/-- From every world in which A is owned (beside whatever) the operation ends in some value and some owning that Ψ tells. -/
def StepR (P : Program) (B : Nat) (o : Oper) (a : Act) (A : HP) (Ψ : Value → HP → Prop) : Prop :=
  ∀ (R : HP) [Loc B R] (w : World), B ≤ w.heap.size → Own B (A * R) w → match (execOp a.eval o).run P w with
    | .ok (.value u) w' => ∃ A', Ψ u A' ∧ Own B (A' * R) w' ∧ Below B w w'
    | .ok .skip w' => ∃ A', Ψ undef A' ∧ Own B (A' * R) w' ∧ Below B w w'
    | .ok (.enter f args) w' => Calls P f args w' fun e w'' => ∃ u A', e = .returned u ∧ Ψ u A' ∧ Own B (A' * R) w'' ∧ Below B w w''
    | _ => False

/-- A thread: its operations in their order, each from what the one ahead has left; at the end Φ tells of the values and of what is owned. -/
def TW (P : Program) (ops : Array Oper) (B : Nat) : List Oper → (List Value → HP → Prop) → Act → HP → Prop
  | [], Φ, _, A => Φ [] A
  | o :: l, Φ, a, A => Loc B A ∧ ((Region.wanted o (yielded ops a.tmps) = true ∧ StepR P B o a A (fun v A' => Loc B A' ∧ TW P ops B l (fun vs => Φ (v :: vs)) (a.put o.dst v) A')) ∨
      (Region.wanted o (yielded ops a.tmps) = false ∧ TW P ops B l (fun vs => Φ (undef :: vs)) (a.put o.dst undef) A))

def putAll : List Oper → List Value → Act → Act
  | o :: l, v :: vs, a => putAll l vs (a.put o.dst v)
  | _, _, a => a

theorem StepR.imp {o : Oper} {a : Act} {A : HP} {Ψ Ψ' : Value → HP → Prop} (h : StepR P B o a A Ψ) (hi : ∀ v A', Ψ v A' → Ψ' v A') : StepR P B o a A Ψ' := by
  intro R _ w hB hO
  have h1 := h R w hB hO
  generalize (execOp a.eval o).run P w = r at h1 ⊢
  cases r with
  | ok n w' =>
    cases n <;> simp only at h1 ⊢
    case value u => obtain ⟨A', h2, h3⟩ := h1; exact ⟨A', hi _ _ h2, h3⟩
    case skip => obtain ⟨A', h2, h3⟩ := h1; exact ⟨A', hi _ _ h2, h3⟩
    case enter f args => exact h1.mono fun e w'' ⟨u, A', he, h2, h3⟩ => ⟨u, A', he, hi _ _ h2, h3⟩
  | halt x w' => cases x <;> exact h1.elim

theorem TW.put (hsel : Region.noSelect ops = true) {oi : Oper} {v : Value} : ∀ (l : List Oper) (Φ : List Value → HP → Prop) (a : Act) (A : HP), (∀ o ∈ l, (∃ j : Nat, ops[j]? = some o) ∧ o.apart ops oi = true) → TW P ops B l Φ a A → TW P ops B l Φ (a.put oi.dst v) A
  | [], _, _, _, _, h => h
  | o :: l, Φ, a, A, hap, h => by
    obtain ⟨⟨j, hj⟩, hoa⟩ := hap o List.mem_cons_self
    obtain ⟨h1, h2, h3⟩ := Oper.apart_spec hoa
    have sj := Region.noSelect_spec hsel j o
    have he := execOp_put o (fun cs b => sj cs b hj) a oi.dst v h3
    have hw := wanted_put o a oi.dst v h3
    have hl : ∀ o' ∈ l, (∃ j : Nat, ops[j]? = some o') ∧ o'.apart ops oi = true := fun o' ho' => hap o' (List.mem_cons_of_mem _ ho')
    obtain ⟨hloc, h⟩ := h
    refine ⟨hloc, ?_⟩
    rcases h with ⟨hwa, hst⟩ | ⟨hwa, hr⟩
    · left
      refine ⟨by rw [hw]; exact hwa, ?_⟩
      have hst' : StepR P B o (a.put oi.dst v) A (fun v' A' => Loc B A' ∧ TW P ops B l (fun vs => Φ (v' :: vs)) (a.put o.dst v') A') := by
        unfold StepR at hst ⊢
        rw [he]
        exact hst
      refine hst'.imp fun v' A' ⟨hl', ht⟩ => ⟨hl', ?_⟩
      rw [← Act.put_comm a v' v h2]
      exact TW.put hsel l _ _ _ hl ht
    · right
      refine ⟨by rw [hw]; exact hwa, ?_⟩
      rw [← Act.put_comm a undef v h2]
      exact TW.put hsel l _ _ _ hl hr

theorem putAll_put : ∀ (l : List Oper) (vs : List Value) (a : Act) (oi : Oper) (v : Value), (∀ o ∈ l, o.apart ops oi = true) → putAll l vs (a.put oi.dst v) = (putAll l vs a).put oi.dst v
  | [], _, _, _, _, _ => by simp [putAll]
  | o :: l, [], _, _, _, _ => by simp [putAll]
  | o :: l, u :: vs, a, oi, v, h => by
    obtain ⟨h1, h2, h3⟩ := Oper.apart_spec (h o List.mem_cons_self)
    show putAll l vs ((a.put oi.dst v).put o.dst u) = (putAll l vs (a.put o.dst u)).put oi.dst v
    rw [← Act.put_comm a u v h2]
    exact putAll_put l vs _ oi v (fun o' ho' => h o' (List.mem_cons_of_mem _ ho'))

theorem StepR.wp {o : Oper} {a : Act} {A R : HP} [Loc B R] {Ψ : Value → HP → Prop} {w : World} (h : StepR P B o a A Ψ) (hB : B ≤ w.heap.size) (hO : Own B (A * R) w) {K : Act → World → Prop}
    (hK : ∀ v A' w', Ψ v A' → Own B (A' * R) w' → Below B w w' → K (a.put o.dst v) w') : o.wp P a w K Q := by
  have h1 := h R w hB hO
  unfold Oper.wp
  generalize (execOp a.eval o).run P w = r at h1
  cases r with
  | ok n w' =>
    cases n <;> simp only [Oper.upon] at h1 ⊢
    case value u => obtain ⟨A', h2, h3, h4⟩ := h1; exact hK _ _ _ h2 h3 h4
    case skip => obtain ⟨A', h2, h3, h4⟩ := h1; exact hK _ _ _ h2 h3 h4
    case enter f args => exact h1.mono fun e w'' ⟨u, A', he, h2, h3, h4⟩ => by subst he; exact hK _ _ _ h2 h3 h4
  | halt x w' => cases x <;> exact h1.elim

/-! the static look -/
def apartAll (ops : Array Oper) (l1 l2 : List Nat) : Bool := l1.all fun i => l2.all fun j => match ops[i]?, ops[j]? with | some oi, some oj => oi.apart ops oj && oj.apart ops oi | _, _ => false
def lastOf : List Nat → Option Nat
  | [] => none
  | [i] => some i
  | _ :: l => lastOf l
def behind (md : Region.Mode) (ops : Array Oper) (l : List Nat) (t : Nat) : Bool := match lastOf l with | none => true | some i => Region.waitsFor md ops t i
def twoB (md : Region.Mode) (ops : Array Oper) (listed : Array Bool) (l1 l2 ts : List Nat) : Bool :=
  Region.noSelect ops && decide (listed.size = ops.size) &&
  ((List.range ops.size).all fun j => listed.getD j true || l1.contains j || l2.contains j || ts.contains j) &&
  ((l1 ++ l2 ++ ts).all fun j => decide (j < ops.size) && !listed.getD j true) &&
  decide (l1 ++ l2).Nodup && lexOk md ops l1 listed && lexOk md ops l2 listed && chained md ops l1 && chained md ops l2 &&
  (ts.all fun t => !(l1 ++ l2).contains t && ((ts.any fun s => Region.waitsFor md ops t s) || (behind md ops l1 t && behind md ops l2 t))) && apartAll ops l1 l2

structure TwoOk (md : Region.Mode) (ops : Array Oper) (listed : Array Bool) (l1 l2 ts : List Nat) : Prop where
  size : listed.size = ops.size
  cover : ∀ j, j < ops.size → listed.getD j true = false → j ∈ l1 ∨ j ∈ l2 ∨ j ∈ ts
  un : ∀ j, j ∈ l1 ∨ j ∈ l2 ∨ j ∈ ts → j < ops.size ∧ listed.getD j true = false
  nd1 : l1.Nodup
  nd2 : l2.Nodup
  dis : ∀ i ∈ l1, i ∉ l2
  ndt : ∀ t ∈ ts, t ∉ l1 ∧ t ∉ l2
  lex1 : lexOk md ops l1 listed = true
  lex2 : lexOk md ops l2 listed = true
  ch1 : chained md ops l1 = true
  ch2 : chained md ops l2 = true
  root : ∀ t ∈ ts, (∃ s ∈ ts, Region.waitsFor md ops t s = true) ∨ (behind md ops l1 t = true ∧ behind md ops l2 t = true)
  apart : ∀ i ∈ l1, ∀ j ∈ l2, ∀ oi oj, ops[i]? = some oi → ops[j]? = some oj → oi.apart ops oj = true ∧ oj.apart ops oi = true

theorem twoB_ok {listed : Array Bool} {l1 l2 ts : List Nat} (h : twoB md ops listed l1 l2 ts = true) : Region.noSelect ops = true ∧ TwoOk md ops listed l1 l2 ts := by
  simp only [twoB, Bool.and_eq_true, decide_eq_true_eq] at h
  obtain ⟨⟨⟨⟨⟨⟨⟨⟨⟨⟨h1, h2⟩, h3⟩, h4⟩, h5⟩, h6⟩, h7⟩, h8⟩, h9⟩, h10⟩, h11⟩ := h
  have hnd := List.nodup_append.1 h5
  refine ⟨h1, h2, fun j hj hl => ?_, fun j hj => ?_, hnd.1, hnd.2.1, fun i hi hi2 => hnd.2.2 i hi i hi2 rfl, fun t ht => ?_, h6, h7, h8, h9, fun t ht => ?_, fun i hi j hj oi oj hoi hoj => ?_⟩
  · have := List.all_eq_true.1 h3 j (List.mem_range.2 hj)
    rw [hl] at this
    simpa [or_assoc] using this
  · have := List.all_eq_true.1 h4 j (by simp; exact hj)
    simp only [Bool.and_eq_true, decide_eq_true_eq, Bool.not_eq_true'] at this
    exact this
  · have := List.all_eq_true.1 h10 t ht
    simp only [Bool.and_eq_true, Bool.not_eq_true'] at this
    have h := this.1
    simp at h
    exact h
  · have := List.all_eq_true.1 h10 t ht
    simp only [Bool.and_eq_true, Bool.or_eq_true, List.any_eq_true] at this
    exact this.2
  · have := List.all_eq_true.1 (List.all_eq_true.1 h11 i hi) j hj
    rw [hoi, hoj] at this
    simpa [Bool.and_eq_true] using this

theorem lastOf_mem : ∀ (l : List Nat) (i : Nat), lastOf l = some i → i ∈ l
  | [x], i, h => by injection h with h; subst h; exact List.mem_cons_self
  | x :: y :: l, i, h => List.mem_cons_of_mem _ (lastOf_mem (y :: l) i h)
theorem lastOf_some : ∀ (x : Nat) (l : List Nat), ∃ i, lastOf (x :: l) = some i
  | x, [] => ⟨x, rfl⟩
  | _, y :: l => lastOf_some y l

theorem TwoOk.only {listed : Array Bool} {l1 l2 ts : List Nat} (ok : TwoOk md ops listed l1 l2 ts) (hne : l1 ≠ [] ∨ l2 ≠ []) {i : Nat} (hi : i ∈ Region.ready md ops listed) : (∃ l, l1 = i :: l) ∨ (∃ l, l2 = i :: l) := by
  obtain ⟨hlt, hun, hed⟩ := mem_ready'.1 hi
  have bad : ∀ s, s ∈ l1 ∨ s ∈ l2 ∨ s ∈ ts → Region.waitsFor md ops i s = true → False := fun s hs' hw => by
    have h1 := edgesIn_waits hed hw
    rw [getD_both (ok.un s hs').2] at h1
    cases h1
  rcases ok.cover i hlt hun with h | h | h
  · rcases chained_prev l1 i ok.ch1 h with h2 | ⟨s, hs, hw⟩
    · exact .inl h2
    · exact (bad s (.inl hs) hw).elim
  · rcases chained_prev l2 i ok.ch2 h with h2 | ⟨s, hs, hw⟩
    · exact .inr h2
    · exact (bad s (.inr (.inl hs)) hw).elim
  · exfalso
    rcases ok.root i h with ⟨s, hs, hw⟩ | ⟨hb1, hb2⟩
    · exact bad s (.inr (.inr hs)) hw
    · rcases hne with hne | hne
      · obtain ⟨x, l, rfl⟩ : ∃ x l, l1 = x :: l := by cases l1 with | nil => exact absurd rfl hne | cons x l => exact ⟨x, l, rfl⟩
        obtain ⟨j, hj⟩ := lastOf_some x l
        rw [behind, hj] at hb1
        exact bad j (.inl (lastOf_mem _ _ hj)) hb1
      · obtain ⟨x, l, rfl⟩ : ∃ x l, l2 = x :: l := by cases l2 with | nil => exact absurd rfl hne | cons x l => exact ⟨x, l, rfl⟩
        obtain ⟨j, hj⟩ := lastOf_some x l
        rw [behind, hj] at hb2
        exact bad j (.inr (.inl (lastOf_mem _ _ hj))) hb2

theorem behind_tail {i : Nat} {l : List Nat} {t : Nat} (h : behind md ops (i :: l) t = true) : behind md ops l t = true := by
  cases l with
  | nil => rfl
  | cons y l => exact h
theorem chained_tail {i : Nat} {l : List Nat} (h : chained md ops (i :: l) = true) : chained md ops l = true := by
  simp only [chained, Bool.and_eq_true] at h
  exact h.2

theorem TwoOk.swap {listed : Array Bool} {l1 l2 ts : List Nat} (ok : TwoOk md ops listed l1 l2 ts) : TwoOk md ops listed l2 l1 ts :=
  ⟨ok.size, fun j hj hl => (by rcases ok.cover j hj hl with h | h | h <;> simp [h]), fun j hj => ok.un j (by rcases hj with h | h | h <;> simp [h]), ok.nd2, ok.nd1, fun i hi h => ok.dis i h hi, fun t ht => (ok.ndt t ht).symm, ok.lex2, ok.lex1, ok.ch2, ok.ch1,
   fun t ht => (ok.root t ht).imp id And.symm, fun i hi j hj oi oj hoi hoj => (ok.apart j hj i hi oj oi hoj hoi).symm⟩

theorem TwoOk.strike {listed : Array Bool} {i : Nat} {l1 l2 ts : List Nat} (ok : TwoOk md ops listed (i :: l1) l2 ts) : TwoOk md ops (listed.setIfInBounds i true) l1 l2 ts := by
  obtain ⟨hlt, hui⟩ := ok.un i (.inl List.mem_cons_self)
  have hn := List.nodup_cons.1 ok.nd1
  have hi2 := ok.dis i List.mem_cons_self
  have hne : ∀ j, j ∈ l1 ∨ j ∈ l2 ∨ j ∈ ts → i ≠ j := by
    rintro j hj rfl
    rcases hj with h | h | h
    · exact hn.1 h
    · exact hi2 h
    · exact (ok.ndt i h).1 List.mem_cons_self
  have hlex := ok.lex1
  simp only [lexOk, Bool.and_eq_true] at hlex
  refine ⟨by simp [ok.size], fun j hj hl => ?_, fun j hj => ?_, hn.2, ok.nd2, fun j hj => ok.dis j (List.mem_cons_of_mem _ hj), fun t ht => ⟨fun h => (ok.ndt t ht).1 (List.mem_cons_of_mem _ h), (ok.ndt t ht).2⟩, hlex.2, lexOk_set _ _ ok.lex2, chained_tail ok.ch1, ok.ch2,
    fun t ht => (ok.root t ht).imp id (fun h => ⟨behind_tail h.1, h.2⟩), fun a ha b hb => ok.apart a (List.mem_cons_of_mem _ ha) b hb⟩
  · by_cases hij : i = j
    · subst hij
      rw [show (listed.setIfInBounds i true).getD i true = true by simp [ok.size, hlt]] at hl
      cases hl
    · rw [getD_set_ne true hij] at hl
      rcases ok.cover j hj hl with h | h | h
      · rcases List.mem_cons.1 h with h | h
        · exact absurd h.symm hij
        · exact .inl h
      · exact .inr (.inl h)
      · exact .inr (.inr h)
  · have := ok.un j (by rcases hj with h | h | h <;> simp [h])
    exact ⟨this.1, by rw [getD_set_ne true (hne j hj)]; exact this.2⟩

theorem markAll_set : ∀ (l : List Nat) (i : Nat) (listed : Array Bool), markAll l (listed.setIfInBounds i true) = (markAll l listed).setIfInBounds i true
  | [], _, _ => rfl
  | j :: l, i, listed => by
    show markAll l ((listed.setIfInBounds i true).setIfInBounds j true) = (markAll l (listed.setIfInBounds j true)).setIfInBounds i true
    rw [← markAll_set l i]
    by_cases h : i = j
    · subst h; rfl
    · rw [Array.setIfInBounds_comm _ _ h]

def opsOf (ops : Array Oper) (l : List Nat) : List Oper := l.filterMap fun i => ops[i]?
theorem opsOf_cons {i : Nat} {l : List Nat} {o : Oper} (h : ops[i]? = some o) : opsOf ops (i :: l) = o :: opsOf ops l := by simp [opsOf, h]
theorem mem_opsOf {l : List Nat} {o : Oper} (h : o ∈ opsOf ops l) : ∃ i ∈ l, ops[i]? = some o := by
  simpa [opsOf] using h

theorem wpAny_two (hsel : Region.noSelect ops = true) {ts : List Nat} {R : HP} [Loc B R] {fuel : Nat} : ∀ (n : Nat) (l1 l2 : List Nat) (listed : Array Bool) (a : Act) (w : World) (Φ1 Φ2 : List Value → HP → Prop) (A1 A2 : HP), l1.length + l2.length = n → Loc B A1 → Loc B A2 →
    TwoOk md ops listed l1 l2 ts → TW P ops B (opsOf ops l1) Φ1 a A1 → TW P ops B (opsOf ops l2) Φ2 a A2 → B ≤ w.heap.size → Own B (A1 * (A2 * R)) w →
    (∀ vs1 A1' vs2 A2' w', Φ1 vs1 A1' → Φ2 vs2 A2' → Own B (A1' * (A2' * R)) w' → Below B w w' → wpAny P md ops Q fuel (markAll l2 (markAll l1 listed)) (putAll (opsOf ops l2) vs2 (putAll (opsOf ops l1) vs1 a)) w') →
    wpAny P md ops Q (n + fuel) listed a w
  | 0, l1, l2, listed, a, w, Φ1, Φ2, A1, A2, hn, _, _, ok, h1, h2, hB, hO, hK => by
    obtain rfl : l1 = [] := List.eq_nil_of_length_eq_zero (by omega)
    obtain rfl : l2 = [] := List.eq_nil_of_length_eq_zero (by omega)
    rw [Nat.zero_add]
    exact hK [] A1 [] A2 w h1 h2 hO (Below.refl B w)
  | n + 1, l1, l2, listed, a, w, Φ1, Φ2, A1, A2, hn, k1, k2, ok, h1, h2, hB, hO, hK => by
    rw [show n + 1 + fuel = (n + fuel) + 1 by omega]
    have hne : l1 ≠ [] ∨ l2 ≠ [] := by
      cases l1 with
      | nil => right; intro e; subst e; simp at hn
      | cons x l => left; simp
    have hrdy : Region.ready md ops listed ≠ [] := by
      intro h0
      rcases hne with hne | hne
      · obtain ⟨x, l, rfl⟩ : ∃ x l, l1 = x :: l := by cases l1 with | nil => exact absurd rfl hne | cons x l => exact ⟨x, l, rfl⟩
        have hlex := ok.lex1
        simp only [lexOk, Bool.and_eq_true] at hlex
        have hun := ok.un x (by simp)
        have : x ∈ Region.ready md ops listed := mem_ready'.2 ⟨hun.1, hun.2, hlex.1⟩
        rw [h0] at this; cases this
      · obtain ⟨x, l, rfl⟩ : ∃ x l, l2 = x :: l := by cases l2 with | nil => exact absurd rfl hne | cons x l => exact ⟨x, l, rfl⟩
        have hlex := ok.lex2
        simp only [lexOk, Bool.and_eq_true] at hlex
        have hun := ok.un x (by simp)
        have : x ∈ Region.ready md ops listed := mem_ready'.2 ⟨hun.1, hun.2, hlex.1⟩
        rw [h0] at this; cases this
    refine ⟨fun h0 => absurd h0 hrdy, fun i hi => ?_⟩
    have hlt := (mem_ready'.1 hi).1
    obtain ⟨o, ho⟩ : ∃ o, ops[i]? = some o := ⟨_, Array.getElem?_eq_getElem hlt⟩
    unfold wpOp
    simp only [ho]
    rcases ok.only hne hi with ⟨l, rfl⟩ | ⟨l, rfl⟩
    · rw [opsOf_cons ho] at h1
      have hap : ∀ o' ∈ opsOf ops l2, (∃ j : Nat, ops[j]? = some o') ∧ o'.apart ops o = true := fun o' h' => by
        obtain ⟨j, hj, hoj⟩ := mem_opsOf h'
        exact ⟨⟨j, hoj⟩, (ok.apart i List.mem_cons_self j hj o o' ho hoj).2⟩
      have hlen : l.length + l2.length = n := by simp at hn; omega
      obtain ⟨_, h1 | h1⟩ := h1
      · rw [if_pos h1.1]
        left
        refine h1.2.wp hB hO fun v A' w' ⟨kl, ht⟩ hO' hb => ?_
        refine wpAny_two hsel n l l2 _ _ w' (fun vs => Φ1 (v :: vs)) Φ2 A' A2 hlen kl k2 ok.strike ht (h2.put hsel _ _ _ _ hap) (Nat.le_trans hB hb.size) hO' fun vs1 A1' vs2 A2' w'' p1 p2 hO'' hb' => ?_
        have := hK (v :: vs1) A1' vs2 A2' w'' p1 p2 hO'' (hb.trans hb')
        rw [opsOf_cons ho] at this
        exact this
      · rw [if_neg (by rw [h1.1]; exact Bool.false_ne_true)]
        refine wpAny_two hsel n l l2 _ _ w (fun vs => Φ1 (undef :: vs)) Φ2 A1 A2 hlen k1 k2 ok.strike h1.2 (h2.put hsel _ _ _ _ hap) hB hO fun vs1 A1' vs2 A2' w'' p1 p2 hO'' hb' => ?_
        have := hK (undef :: vs1) A1' vs2 A2' w'' p1 p2 hO'' hb'
        rw [opsOf_cons ho] at this
        exact this
    · rw [opsOf_cons ho] at h2
      have hap : ∀ o' ∈ opsOf ops l1, (∃ j : Nat, ops[j]? = some o') ∧ o'.apart ops o = true := fun o' h' => by
        obtain ⟨j, hj, hoj⟩ := mem_opsOf h'
        exact ⟨⟨j, hoj⟩, (ok.apart j hj i List.mem_cons_self o' o hoj ho).1⟩
      have hlen : l1.length + l.length = n := by simp at hn; omega
      obtain ⟨_, h2 | h2⟩ := h2
      · rw [if_pos h2.1]
        left
        refine h2.2.wp hB (hO.cast (sep_left_comm _ _ _)) fun v A' w' ⟨kl, ht⟩ hO' hb => ?_
        refine wpAny_two hsel n l1 l _ _ w' Φ1 (fun vs => Φ2 (v :: vs)) A1 A' hlen k1 kl ok.swap.strike.swap (h1.put hsel _ _ _ _ hap) ht (Nat.le_trans hB hb.size) (hO'.cast (sep_left_comm _ _ _)) fun vs1 A1' vs2 A2' w'' p1 p2 hO'' hb' => ?_
        have := hK vs1 A1' (v :: vs2) A2' w'' p1 p2 hO'' (hb.trans hb')
        rw [opsOf_cons ho] at this
        rw [putAll_put _ _ _ _ _ (fun o' h' => (hap o' h').2), markAll_set]
        exact this
      · rw [if_neg (by rw [h2.1]; exact Bool.false_ne_true)]
        refine wpAny_two hsel n l1 l _ _ w Φ1 (fun vs => Φ2 (undef :: vs)) A1 A2 hlen k1 k2 ok.swap.strike.swap (h1.put hsel _ _ _ _ hap) h2.2 hB hO fun vs1 A1' vs2 A2' w'' p1 p2 hO'' hb' => ?_
        have := hK vs1 A1' (undef :: vs2) A2' w'' p1 p2 hO'' hb'
        rw [opsOf_cons ho] at this
        rw [putAll_put _ _ _ _ _ (fun o' h' => (hap o' h').2), markAll_set]
        exact this

/-- THE RULE: us free, at whatever time · l1 and l2 two threads · ts behind both. -/
theorem wp_region_two {id : Nat} {a : Act} {w : World} (us l1 l2 ts : List Nat) (A1 A2 R : HP) [k1 : Loc B A1] [k2 : Loc B A2] [Loc B R] (hm : P.follows .mixedOrders = true)
    (hB : (freeB .any ops us (Array.replicate ops.size false) && twoB .any ops (markAll us (Array.replicate ops.size false)) l1 l2 ts) = true) (hf : ops.size = us.length + ((l1.length + l2.length) + ts.length))
    (hQ : ∀ c a d v w, Q (.panic c) (a.put (some d) v) w → Q (.panic c) a w) (hsz : B ≤ w.heap.size) (hO : Own B (A1 * (A2 * R)) w.drew)
    (h : wpFree P ops (fun a1 => ∃ Φ1 Φ2 : List Value → HP → Prop, TW P ops B (opsOf ops l1) Φ1 a1 A1 ∧ TW P ops B (opsOf ops l2) Φ2 a1 A2 ∧
      ∀ vs1 A1' vs2 A2' w', Φ1 vs1 A1' → Φ2 vs2 A2' → Own B (A1' * (A2' * R)) w' → Below B w w' → wpAny P .any ops Q ts.length (markAll l2 (markAll l1 (markAll us (Array.replicate ops.size false)))) (putAll (opsOf ops l2) vs2 (putAll (opsOf ops l1) vs1 a1)) w')
      (us.filterMap fun i => ops[i]?) a) : (Code.region id ops true).wp P Q a w := by
  rw [Bool.and_eq_true] at hB
  refine wp_region_any hm ?_
  obtain ⟨hsel, ok⟩ := twoB_ok hB.2
  have hgo : wpAny P .any ops Q (us.length + ((l1.length + l2.length) + ts.length)) (Array.replicate ops.size false) a w.drew := by
    refine wpAny_free hQ hsel us _ a hB.1 (fun a' ⟨Φ1, Φ2, t1, t2, hK⟩ => ?_) h
    exact wpAny_two hsel (l1.length + l2.length) l1 l2 _ a' _ Φ1 Φ2 A1 A2 rfl k1 k2 ok t1 t2 hsz hO fun vs1 A1' vs2 A2' w' p1 p2 ho hb => hK vs1 A1' vs2 A2' w' p1 p2 ho ((Below.refl B w).drew.trans hb)
  rw [← hf] at hgo
  exact hgo

/-! the steps -/
theorem tw_nil {Φ : List Value → HP → Prop} {a : Act} {A : HP} (h : Φ [] A) : TW P ops B [] Φ a A := h
theorem tw_val {o : Oper} {l : List Oper} {Φ : List Value → HP → Prop} {a : Act} {A : HP} [k : Loc B A] (v : Value) (hw : Region.wanted o (yielded ops a.tmps) = true)
    (hv : ∀ (R : HP) [Loc B R] (w : World), Own B (A * R) w → (execOp a.eval o).run P w = .ok (.value v) w) (h : TW P ops B l (fun vs => Φ (v :: vs)) (a.put o.dst v) A) : TW P ops B (o :: l) Φ a A :=
  ⟨k, .inl ⟨hw, fun R _ w hB hO => by rw [hv R w hO]; exact ⟨A, ⟨k, h⟩, hO, Below.refl B w⟩⟩⟩
theorem tw_call {o : Oper} {l : List Oper} {Φ : List Value → HP → Prop} {a : Act} {A : HP} [k : Loc B A] (f : FuncId) (args : Array Value) (Ψ : Value → HP → Prop) (hw : Region.wanted o (yielded ops a.tmps) = true)
    (hr : ∀ (R : HP) [Loc B R] (w : World), Own B (A * R) w → (execOp a.eval o).run P w = .ok (.enter f args) w)
    (hc : ∀ (R : HP) [Loc B R] (w : World), B ≤ w.heap.size → Own B (A * R) w → Calls P f args w fun e w' => ∃ v A', e = .returned v ∧ (Loc B A' ∧ Ψ v A') ∧ Own B (A' * R) w' ∧ Below B w w')
    (h : ∀ v A', Loc B A' → Ψ v A' → TW P ops B l (fun vs => Φ (v :: vs)) (a.put o.dst v) A') : TW P ops B (o :: l) Φ a A :=
  ⟨k, .inl ⟨hw, fun R _ w hB hO => by rw [hr R w hO]; exact (hc R w hB hO).mono fun e w' ⟨v, A', he, ⟨kl, hp⟩, ho, hb⟩ => ⟨v, A', he, ⟨kl, h v A' kl hp⟩, ho, hb⟩⟩⟩
theorem Own.row_n {B : Nat} {R : HP} {w : World} {e : TypeId} {size : Nat} {v : Value} {n : Nat} {xs : List Value} (h : Own B (Rw e size v n xs * R) w) : ∃ A c, v = .slice A n c := by
  rcases h.row.2 with ⟨rfl, rfl⟩ | ⟨g, cap, cur, rfl, _⟩
  · exact ⟨_, _, rfl⟩
  · exact ⟨_, _, rfl⟩
end
end Go.Proofs.YtfppancidgamjaaDoor

/- Rows of bytes: one more byte, a clone. -/
namespace Go.Proofs.YtfppancidgamjaaDoor
set_option linter.unusedVariables false
set_option linter.unusedSimpArgs false
open Go.RowKit

def bytesU (l : List UInt8) : List Value := l.map fun x => Value.int .u8 (x.toNat : Int)
theorem infoU8 : (Tryd.prog.info? 5).map (fun i => (i.zero, i.size, i.bytes)) = some (some (.int .u8 0), 1, 1) := by kernel_rfl
theorem run_append_none {P : Program} {w : World} (base : Nat) (t ty e : TypeId) (i : TypeInfo) (size : Nat) (ht : P.underlying t = some (.slice e)) (hi : P.info? e = some i)
    (v : Value) (n : Nat) (xs : List Value) (hown : w.ownsRow base e size v n xs) (c : Nat) :
    (Builtin.append_ #[t, t] ty #[v, .slice none 0 c]).run P w = .ok v w := by
  rcases hown.2 with ⟨rfl, rfl⟩ | ⟨g, cap, cur, rfl, _, _, hnc, _⟩
  · simp [Builtin.append_, run_underlying ht, sizeOf, typeInfo, hi, Builtin.lenOf, Builtin.firstCells]
  · simp [Builtin.append_, run_underlying ht, sizeOf, typeInfo, hi, Builtin.lenOf, Builtin.firstCells, hnc, storeCells]
theorem bytesU_length (l : List UInt8) : (bytesU l).length = l.length := by simp [bytesU]
theorem bytesU_append (a b : List UInt8) : bytesU (a ++ b) = bytesU a ++ bytesU b := by simp [bytesU]
set_option maxRecDepth 100000 in
/-- Bytes that one can read go behind a row that one owns. -/
theorem byte_append {B : Nat} {R : HP} [Loc B R] {w : World} (hB : B ≤ w.heap.size) {v : Value} {xs ys : List UInt8} {A : Option Addr} {c : Nat} (h : Own B (Rw 5 1 v xs.length (bytesU xs) * R) w) (hr : Rd w (.slice A ys.length c) (bytesU ys))
    (hn : xs.length + ys.length ≤ 140737488355328) :
    ∃ v' w', (Builtin.append_ #[39, 39] 39 #[v, .slice A ys.length c]).run Tryd.prog w = .ok v' w' ∧ Own B (Rw 5 1 v' (xs ++ ys).length (bytesU (xs ++ ys)) * R) w' ∧ Below B w w' := by
  obtain ⟨i0, hi, hz0, hz1, hz2⟩ := info_parts infoU8
  obtain ⟨A', c', hv, hrd⟩ := hr
  injection hv with e1 e2 e3
  subst e1; subst e3
  cases A with
  | none =>
    obtain rfl : ys = [] := by
      cases ys with
      | nil => rfl
      | cons y ys =>
        obtain ⟨ad, h1, _⟩ := hrd (by simp [bytesU])
        cases h1
    refine ⟨v, w, run_append_none (P := Tryd.prog) B 39 39 5 i0 1 Tryd.underlying39 hi v xs.length (bytesU xs) h.row c, by simpa using h, Below.refl B w⟩
  | some ad =>
    obtain ⟨v', w', hr, h2, h3, _, h5⟩ := run_append_own_at (P := Tryd.prog) w B 39 39 5 i0 _ 1 1 Tryd.underlying39 hi hz0 hz1 hz2 rfl (by omega) v xs.length (bytesU xs) h.row
      ad ys.length c (bytesU ys) (by rw [bytesU_length]; omega) (by
        intro j x hj
        have hne : bytesU ys ≠ [] := by intro e; rw [e] at hj; simp at hj
        obtain ⟨ad', h1, h2⟩ := hrd hne
        injection h1 with h1
        subst h1
        exact h2 j x hj) (by intro x hx; obtain ⟨y, _, rfl⟩ := List.mem_map.1 hx; rfl) (by unfold maxLen; omega) (by omega) hB
    have h6 := Own.appended hB h h2 h3 h5
    refine ⟨v', w', hr, ?_, h6.2⟩
    have := h6.1
    rw [List.length_append, bytesU_append]
    exact this
/-- A part of bytes that one can read. -/
theorem Rd.part {w : World} {A : Option Addr} {n c : Nat} {xs : List Value} (h : Rd w (.slice A n c) xs) (i m c' : Nat) (ys : List Value) (hy : ys = (xs.drop i).take m) (hm : ys.length = m) : Rd w (.slice (A.map (·.add i)) m c') ys := by
  obtain ⟨A', c1, hv, hrd⟩ := h
  injection hv with e1 e2 e3
  subst e1
  refine ⟨_, c', by rw [hm], fun hne => ?_⟩
  have hx : xs ≠ [] := by intro e; subst e; simp at hy; exact hne hy
  obtain ⟨ad, rfl, hc⟩ := hrd hx
  refine ⟨ad.add i, rfl, fun j u hj => ?_⟩
  rw [hy, List.getElem?_take] at hj
  split at hj
  · rw [List.getElem?_drop] at hj
    have := hc _ _ hj
    rw [Addr.add_add]
    exact this
  · cases hj
/-- What a call leaves that returns bytes of its own. -/
def RetB (w : World) (l : List UInt8) (e : Ending) (w' : World) : Prop := ∃ v, e = .returned v ∧ w'.ownsRow w.heap.size 5 1 v l.length (bytesU l) ∧ Below w.heap.size w w'
theorem RetB.mk {w w' : World} {l l' : List UInt8} {e : Ending} {v v' : Value} {B : Nat} {R : HP} (he : e = .returned v) (hv : v = v') (hl : l' = l) (hB : B = w.heap.size) (ho : Own B (Rw 5 1 v' l'.length (bytesU l') * R) w') (hb : Below w.heap.size w w') : RetB w l e w' := by
  subst hv; subst hl; subst hB; exact ⟨_, he, ho.row, hb⟩
theorem u8_cast (c : UInt8) : (c.toNat : Int) % 256 = c.toNat := by have := c.toNat_lt; omega
theorem byte_snoc {B : Nat} {R : HP} [Loc B R] {w : World} (hB : B ≤ w.heap.size) {v : Value} {xs : List UInt8} (h : Own B (Rw 5 1 v xs.length (bytesU xs) * R) w) (c : UInt8) (n : Int) (hn : n = (c.toNat : Int)) (hl : xs.length ≤ 140737488355327) :
    ∃ g cap w', (Builtin.append_ #[39, 39] 39 #[v, .slice (some ⟨w.heap.size, 0, none⟩) 1 1]).run Tryd.prog (w.alloc (.cells #[.int .u8 n] 5)) = .ok (.slice (some ⟨g, 0, none⟩) (xs ++ [c]).length cap) w' ∧
      Own B (Rw 5 1 (.slice (some ⟨g, 0, none⟩) (xs ++ [c]).length cap) (xs ++ [c]).length (bytesU (xs ++ [c])) * R) w' ∧ Below B w w' := by
  subst hn
  have h1 := h.alloc_keep hB (.cells #[.int .u8 (c.toNat : Int)] 5)
  have hB1 : B ≤ (w.alloc (.cells #[.int .u8 (c.toNat : Int)] 5)).heap.size := by simp; omega
  obtain ⟨v', w', hr, h2, h3⟩ := byte_append (A := some ⟨w.heap.size, 0, none⟩) (c := 1) (ys := [c]) hB1 h1
    ⟨_, 1, rfl, fun _ => ⟨_, rfl, fun j u hj => by
      match j, hj with
      | 0, hj => simp [bytesU] at hj; subst hj; simp [Addr.add]⟩⟩ (by simp; omega)
  obtain ⟨g, cap, rfl, _⟩ := h2.row.form (by simp)
  exact ⟨g, cap, w', hr, h2, ((Below.refl B w).alloc hB _).trans h3⟩

set_option maxRecDepth 100000 in
theorem clone_any (v : Value) (l : List UInt8) (w : World) (hr : Rd w v (bytesU l)) (hl : l.length ≤ 140737488355328) :
    Calls Tryd.prog 55 #[v] w (RetB w l) := by
  obtain ⟨i0, hi, hz0, hz1, hz2⟩ := info_parts infoU8
  obtain ⟨A, c, rfl, hr⟩ := hr
  have hlen : (bytesU l).length = l.length := by simp [bytesU]
  rcases A with _ | ad
  · obtain rfl : l = [] := by
      cases l with
      | nil => rfl
      | cons x l => obtain ⟨ad, h, _⟩ := hr (by simp [bytesU]); cases h
    have he := fun W : World => Lib.run_eql_slice_nil_nil (P := Tryd.prog) W (t := 39) (e := 5) 0 c Tryd.underlying39
    show Calls _ _ #[.slice none 0 c] _ _
    go_enter Tryd.func55, Tryd.ntmps55
    go_wp2
    go_ret
    exact ⟨.slice none 0 0, rfl, World.ownsRow_nil _ _ _ _, Below.refl _ _⟩
  · have hc : ∀ j u, (bytesU l)[j]? = some u → w.cell? (ad.add j) = some u := by
      intro j u hu
      obtain ⟨ad', h, hcc⟩ := hr (by intro e; rw [e] at hu; cases hu)
      injection h with h
      subst h
      exact hcc j u hu
    clear hr
    obtain ⟨v', w', hrun, ho, hg, _, hat⟩ := run_append_own_at (P := Tryd.prog) (w.alloc (.cells #[] 5)) w.heap.size 39 39 5 i0 _ 1 1 Tryd.underlying39 hi hz0 hz1 hz2 rfl (by omega)
      (.slice (some ⟨w.heap.size, 0, none⟩) 0 0) 0 [] ⟨rfl, .inr ⟨w.heap.size, 0, #[], rfl, Nat.le_refl _, heap_alloc_new w _, Nat.le_refl _, by unfold maxLen; omega, rfl, rfl⟩⟩ ad l.length c (bytesU l) (by rw [hlen]; omega)
      (fun j u hu => by
        have h1 := hc j u hu
        rw [World.cell?_alloc_lt _ _ _ (World.block_lt_of_cell? w _ h1)]
        exact h1)
      (by intro u hu; obtain ⟨x, _, rfl⟩ := List.mem_map.1 hu; rfl) (by unfold maxLen; omega) (by omega) (by simp)
    have hbe : Below w.heap.size w w' := ((Below.refl _ w).alloc (Nat.le_refl _) _).grown hg (by simp) (fun k hk => by simp [Value.ownBlock] at hk; omega)
    rw [List.nil_append, Nat.zero_add] at ho
    clear hc
    have he := fun W : World => Lib.run_eql_slice_some_nil (P := Tryd.prog) W (t := 39) (e := 5) ad (bytesU l).length c Tryd.underlying39
    rw [hlen] at he ⊢
    go_enter Tryd.func55, Tryd.ntmps55
    go_wp2_with (at_builtin; refine wpList_append_run rfl (.tmp 5) (.tmp 6) 39 rfl rfl rfl hrun ?_)
    go_ret
    exact ⟨v', rfl, ho, hbe⟩
end Go.Proofs.YtfppancidgamjaaDoor

/- Package entry: the walks over the entries of files, and over their paths. -/
namespace Go.Proofs.YtfppancidgamjaaDoor
set_option linter.unusedVariables false
set_option linter.unusedSimpArgs false
open Go.RowKit

/-- A file. -/
structure Fi where
  path : List UInt8
  kind : Int
  mode : Int
  time : Int
  data : List UInt8
  tgt : List UInt8
deriving DecidableEq
instance : Inhabited Fi := ⟨⟨[], 0, 0, 0, [], []⟩⟩
/-- A file with the slice that its data lie in. -/
def fiL (x : Fi × Value) : List Value := [.string (str x.1.path), .int .i64 x.1.kind, .int .i64 x.1.mode, .int .i64 x.1.time, x.2, .string (str x.1.tgt)]
/-- Files, as they lie. -/
def RdF (w : World) (A : Option Addr) (l : List (Fi × Value)) : Prop := RdA 6 fiL w A l ∧ ∀ x ∈ l, Rd w x.2 (bytesU x.1.data)
theorem RdF.below {w w' : World} {A : Option Addr} {l : List (Fi × Value)} (h : RdF w A l) (hb : Below w.heap.size w w') : RdF w' A l := ⟨h.1.below hb, fun x hx => (h.2 x hx).below hb⟩
theorem RdF.get {w : World} {A : Option Addr} {l : List (Fi × Value)} (h : RdF w A l) (i : Nat) (hi : i < l.length) : ∃ (Ad : Option Addr) (cd : Nat), l[i].2 = .slice Ad l[i].1.data.length cd := by
  obtain ⟨Ad, cd, hv, _⟩ := h.2 _ (List.getElem_mem hi)
  exact ⟨Ad, cd, by rw [hv]; simp [bytesU]⟩

/-- The entries of files, from a place on. -/
def entsFrom : Int → List Fi → List En
  | _, [] => []
  | at_, f :: l => ⟨f.path, f.kind, f.mode, f.time, f.tgt, at_, f.data.length⟩ :: entsFrom (at_ + f.data.length) l
def ents (l : List Fi) : List En := entsFrom 0 l
def dataLen (l : List Fi) : Nat := (l.map fun f => f.data.length).sum
theorem entsFrom_length : ∀ (a : Int) (l : List Fi), (entsFrom a l).length = l.length
  | _, [] => rfl
  | a, f :: l => by simp [entsFrom, entsFrom_length]
theorem entsFrom_snoc : ∀ (a : Int) (l : List Fi) (f : Fi), entsFrom a (l ++ [f]) = entsFrom a l ++ [⟨f.path, f.kind, f.mode, f.time, f.tgt, a + (dataLen l : Int), f.data.length⟩]
  | a, [], f => by simp [entsFrom, dataLen]
  | a, g :: l, f => by
    rw [List.cons_append]
    unfold entsFrom
    rw [entsFrom_snoc, List.cons_append]
    congr 4
    unfold dataLen
    simp
    omega
theorem dataLen_snoc (l : List Fi) (f : Fi) : dataLen (l ++ [f]) = dataLen l + f.data.length := by simp [dataLen]
theorem dataLen_take (l : List Fi) (i : Nat) : dataLen (l.take i) ≤ dataLen l := by
  have : dataLen l = dataLen (l.take i) + dataLen (l.drop i) := by
    conv => lhs; rw [← List.take_append_drop i l]
    unfold dataLen
    rw [List.map_append, List.sum_append]
  omega

theorem infoEn : (Tryd.prog.info? 30).map (fun i => (i.zero, i.size, i.bytes)) = some (some (.agg #[.string ByteArray.empty, .int .i64 0, .int .i64 0, .int .i64 0, .string ByteArray.empty, .int .i64 0, .int .i64 0]), 7, 72) := by kernel_rfl

set_option maxRecDepth 100000 in
set_option maxHeartbeats 3200000 in
theorem entries_any (A : Option Addr) (c : Nat) (l : List (Fi × Value)) (hl : l.length ≤ 4294967296) (hs : dataLen (l.map (·.1)) ≤ 4294967296) (w : World) (hr : RdF w A l) :
    Calls Tryd.prog 32 #[.slice A l.length c] w (RetA 7 enL w (ents (l.map (·.1)))) := by
  obtain ⟨i0, hi, hz0, hz1, hz2⟩ := info_parts infoEn
  have Hi0 := Lib.hid (And.intro hi (And.intro hz0 (And.intro hz1 hz2)))
  have hO := (Own.start w.heap.size w).rw_nil 30 7
  have hb := Below.refl w.heap.size w
  have Hr := Lib.hid (fun w1 (b : Below w.heap.size w w1) => hr.below b)
  have Hd := Lib.hid (fun i => dataLen_take (l.map (·.1)) i)
  have Hs := Lib.hid hs
  have n1 : (l.length : Int) ≤ 4294967296 := by omega
  clear hr hi hz0 hz1 hz2 hs
  go_enter Tryd.func32, Tryd.ntmps32
  go_wp2
  go_loopg [3, 4, 9] l.length (fun k v a u wr => ∃ (i : Nat) (A' : Option Addr) (c' : Nat), k + i = l.length ∧ u = .int .i64 i ∧ a = .int .i64 (dataLen ((l.take i).map (·.1)) : Int) ∧ v = .slice A' i c' ∧ Below w.heap.size w wr ∧ Own w.heap.size (Rw 30 7 (.slice A' i c') i (flat enL (ents ((l.take i).map (·.1)))) * Emp) wr)
  case atStart => exact ⟨0, none, 0, by omega, rfl, rfl, rfl, hb, hO⟩
  case round =>
    clear hb hO
    obtain ⟨i, A', c', hk, rfl, rfl, rfl, hb, ho⟩ := hrel
    by_cases hlt : (i : Int) < (l.length : Int)
    · obtain ⟨j, rfl⟩ : ∃ j, gk = j + 1 := ⟨gk - 1, by omega⟩
      have hil : i < l.length := by omega
      have i0' : (0 : Int) ≤ (i : Int) := by omega
      obtain ⟨b, off, rfl, q, d⟩ := (Hr.out _ hb).1 i hil
      obtain ⟨Ad, cd, hdv⟩ := (Hr.out _ hb).get i hil
      have Hk := Lib.hid hk
      have htk : (l.take (i + 1)).map (·.1) = (l.take i).map (·.1) ++ [l[i].1] := by rw [List.take_succ_eq_append_getElem hil, List.map_append]; rfl
      have hsn : ents ((l.take (i + 1)).map (·.1)) = ents ((l.take i).map (·.1)) ++ [⟨l[i].1.path, l[i].1.kind, l[i].1.mode, l[i].1.time, l[i].1.tgt, (dataLen ((l.take i).map (·.1)) : Int), l[i].1.data.length⟩] := by
        rw [htk]; unfold ents; rw [entsFrom_snoc, Int.zero_add]
      have hdl : dataLen ((l.take (i + 1)).map (·.1)) = dataLen ((l.take i).map (·.1)) + l[i].1.data.length := by rw [htk, dataLen_snoc]
      have hle := Hd.out (i + 1)
      rw [← List.map_take, hdl] at hle
      have hle := Nat.le_trans hle Hs.out
      generalize dataLen ((l.take i).map (·.1)) = D at *
      have Hsn := Lib.hid hsn
      have Hdl := Lib.hid hdl
      clear htk hsn hdl hk
      generalize ents ((l.take i).map (·.1)) = E at *
      generalize l[i] = x at *
      obtain ⟨⟨path, kind, mode, time, data, tgt⟩, dv⟩ := x
      simp only at hdv hle Hsn Hdl
      subst hdv
      generalize data.length = dn at *
      have d0 := d 0 _ rfl
      have d1 := d 1 _ rfl
      have d2 := d 2 _ rfl
      have d3 := d 3 _ rfl
      have d4 := d 4 _ rfl
      have d5 := d 5 _ rfl
      simp only [Nat.add_zero] at d0 d1 d2 d3 d4 d5
      clear d
      have D0 : (D : Int) ≤ 4294967296 := by omega
      have D1 : (dn : Int) ≤ 4294967296 := by omega
      have o1 := (ho.new hb.size 41 #[.string (str path), .int .i64 kind, .int .i64 mode, .int .i64 time, .slice Ad dn cd, .string (str tgt)]).cast (sep_left_comm _ _ _)
      have hb1 := hb.alloc hb.size (.cells #[.string (str path), .int .i64 kind, .int .i64 mode, .int .i64 time, .slice Ad dn cd, .string (str tgt)] 41)
      obtain ⟨g2, cap2, w2, hrun, o2, b2⟩ := row_append (P := Tryd.prog) hb1.size Tryd.underlying25 Hi0.out.1 Hi0.out.2.1 Hi0.out.2.2.1 Hi0.out.2.2.2 rfl (by omega) o1 #[.string (str path), .int .i64 kind, .int .i64 mode, .int .i64 time, .string (str tgt), .int .i64 D, .int .i64 dn] rfl
        (by intro u hu; simp at hu; rcases hu with rfl | rfl | rfl | rfl | rfl | rfl | rfl <;> rfl) (by omega) (by omega)
      rw [World.size_alloc] at hrun
      have Hrun := Lib.hid hrun
      have hb2 := hb1.trans b2
      have k4 : w2.cell? ⟨wr.heap.size, 4, none⟩ = some (.slice Ad dn cd) := (o2.cast (sep_left_comm _ _ _)).cell 4
      have o3 := (o2.cast (sep_left_comm _ _ _)).drop
      clear hrun o1 hb1 hb ho b2 o2
      go_wp2_with (at_builtin; refine wpList_append_at rfl (.tmp 13) (.tmp 29) 25 rfl rfl rfl Hrun.out ?_)
      go_roundg j
      case measure => omega
      case rel => exact ⟨i + 1, some ⟨g2, 0, none⟩, cap2, by have := Hk.out; omega, rfl, congrArg (Value.int .i64) (by rw [Hdl.out]; omega), rfl, hb2, by rw [Hsn.out, flat_snoc]; exact o3⟩
    · obtain rfl : i = l.length := by omega
      rw [List.take_length] at ho
      go_wp2
      go_ret
      exact RetA.mk rfl (by unfold ents; rw [entsFrom_length]; simp) ho.cap (ho.rdA enL_len (by unfold ents; rw [entsFrom_length]; simp)) hb
end Go.Proofs.YtfppancidgamjaaDoor

/- Package entry: the walks over paths, and over what is amiss with entries. -/
namespace Go.Proofs.YtfppancidgamjaaDoor
set_option linter.unusedVariables false
set_option linter.unusedSimpArgs false
open Go.RowKit

def strL (x : List UInt8) : List Value := [.string (str x)]
theorem strL_len (x : List UInt8) : (strL x).length = 1 := rfl
theorem rds_of_rdA {w : World} {A : Option Addr} {l : List (List UInt8)} (h : RdA 1 strL w A l) : RdS w A l := fun i hi => by
  obtain ⟨b, off, ha, _, hc⟩ := h i hi
  refine ⟨b, off, ha, ?_⟩
  have := hc 0 _ rfl
  rwa [Nat.mul_one, Nat.add_zero] at this
theorem flat_strL (l : List (List UInt8)) : flat strL l = strsV l := by
  induction l with
  | nil => rfl
  | cons a l ih => show strL a ++ flat strL l = _; rw [ih]; rfl
theorem RdA.cells7 {w : World} {b off : Nat} {i : Nat} {e : En} (d : ∀ j u, (enL e)[j]? = some u → w.cell? ⟨b, off + i * 7 + j, none⟩ = some u) :
    w.cell? ⟨b, off + i * 7, none⟩ = some (.string (str e.path)) ∧ w.cell? ⟨b, off + i * 7 + 1, none⟩ = some (.int .i64 e.kind) ∧ w.cell? ⟨b, off + i * 7 + 2, none⟩ = some (.int .i64 e.mode) ∧ w.cell? ⟨b, off + i * 7 + 3, none⟩ = some (.int .i64 e.time) ∧
    w.cell? ⟨b, off + i * 7 + 4, none⟩ = some (.string (str e.tgt)) ∧ w.cell? ⟨b, off + i * 7 + 5, none⟩ = some (.int .i64 e.beg) ∧ w.cell? ⟨b, off + i * 7 + 6, none⟩ = some (.int .i64 e.size) :=
  ⟨d 0 _ rfl, d 1 _ rfl, d 2 _ rfl, d 3 _ rfl, d 4 _ rfl, d 5 _ rfl, d 6 _ rfl⟩

set_option maxRecDepth 100000 in
set_option maxHeartbeats 3200000 in
theorem paths_any (A : Option Addr) (c : Nat) (l : List En) (hl : l.length ≤ 4294967296) (w : World) (hr : RdA 7 enL w A l) :
    Calls Tryd.prog 47 #[.slice A l.length c] w (RetA 1 strL w (l.map (·.path))) := by
  obtain ⟨i0, hi, hz0, hz1, hz2⟩ := info_parts infoStr
  have Hi0 := Lib.hid (And.intro hi (And.intro hz0 (And.intro hz1 hz2)))
  have hO := (Own.start w.heap.size w).rw_nil 9 1
  have hb := Below.refl w.heap.size w
  have Hr := Lib.hid (fun w1 (b : Below w.heap.size w w1) => hr.below b)
  have n1 : (l.length : Int) ≤ 4294967296 := by omega
  clear hr hi hz0 hz1 hz2
  go_enter Tryd.func47, Tryd.ntmps47
  go_wp2
  go_loopg [3, 8] l.length (fun k v u wr => ∃ (i : Nat) (A' : Option Addr) (c' : Nat), k + i = l.length ∧ u = .int .i64 i ∧ v = .slice A' i c' ∧ Below w.heap.size w wr ∧ Own w.heap.size (Rw 9 1 (.slice A' i c') i (flat strL ((l.take i).map (·.path))) * Emp) wr)
  case atStart => exact ⟨0, none, 0, by omega, rfl, rfl, hb, hO⟩
  case round =>
    clear hb hO
    obtain ⟨i, A', c', hk, rfl, rfl, hb, ho⟩ := hrel
    by_cases hlt : (i : Int) < (l.length : Int)
    · obtain ⟨j, rfl⟩ : ∃ j, gk = j + 1 := ⟨gk - 1, by omega⟩
      have hil : i < l.length := by omega
      have i0' : (0 : Int) ≤ (i : Int) := by omega
      obtain ⟨b, off, rfl, q, d⟩ := Hr.out _ hb i hil
      have Hk := Lib.hid hk
      have Hsn : Hid ((l.take (i + 1)).map (·.path) = (l.take i).map (·.path) ++ [l[i].path]) := Lib.hid (by rw [List.take_succ_eq_append_getElem hil, List.map_append]; rfl)
      clear hk
      generalize (l.take i).map (·.path) = E at *
      generalize l[i] = x at *
      obtain ⟨path, kind, mode, time, tgt, beg, size⟩ := x
      obtain ⟨d0, d1, d2, d3, d4, d5, d6⟩ := RdA.cells7 d
      simp only at d0 d1 d2 d3 d4 d5 d6 Hsn
      clear d
      have o1 := ho.alloc_keep hb.size (.cells #[.string (str path), .int .i64 kind, .int .i64 mode, .int .i64 time, .string (str tgt), .int .i64 beg, .int .i64 size] 30)
      have hb1 := hb.alloc hb.size (.cells #[.string (str path), .int .i64 kind, .int .i64 mode, .int .i64 time, .string (str tgt), .int .i64 beg, .int .i64 size] 30)
      obtain ⟨g2, cap2, w2, hrun, o2, b2⟩ := row_append (P := Tryd.prog) hb1.size Tryd.underlying78 Hi0.out.1 Hi0.out.2.1 Hi0.out.2.2.1 Hi0.out.2.2.2 rfl (by omega) o1 #[.string (str path)] rfl
        (by intro u hu; simp at hu; rcases hu with rfl; rfl) (by omega) (by omega)
      rw [World.size_alloc] at hrun
      have Hrun := Lib.hid hrun
      have hb2 := hb1.trans b2
      clear hrun o1 hb1 hb ho b2
      go_wp2_with (at_builtin; refine wpList_append_at rfl (.tmp 12) (.tmp 15) 78 rfl rfl rfl Hrun.out ?_)
      go_roundg j
      case measure => omega
      case rel => exact ⟨i + 1, some ⟨g2, 0, none⟩, cap2, by have := Hk.out; omega, rfl, rfl, hb2, by rw [Hsn.out, flat_snoc]; exact o2⟩
    · obtain rfl : i = l.length := by omega
      rw [List.take_length] at ho
      go_wp2
      go_ret
      exact RetA.mk rfl (by simp) ho.cap (ho.rdA strL_len (by simp)) hb

theorem allB_list {α : Type} [Inhabited α] (q : α → Bool) (l : List α) (d : α) : allB (fun i => q (l.getD i d)) l.length = l.all q := by
  rw [Bool.eq_iff_iff, allB_true, List.all_eq_true]
  constructor
  · intro h x hx
    obtain ⟨i, hi, rfl⟩ := List.mem_iff_getElem.1 hx
    have := h i hi
    simpa [hi] using this
  · intro h i hi
    have := h l[i] (List.getElem_mem hi)
    simpa [hi] using this

set_option maxHeartbeats 1600000 in
theorem allstr_any (A : Option Addr) (c : Nat) (l : List (List UInt8)) (hl : l.length ≤ 9223372036854775807) (hx : ∀ x ∈ l, x.length ≤ 9223372036854775807) (w : World) (h : Sh w) (hr : RdS w A l) :
    Calls Tryd.prog 46 #[.slice A l.length c, .func (.func 48) #[] #[]] w fun e w' => e = .returned (.bool (l.all okPath)) ∧ Below w.heap.size w w' := by
  have hb := Below.refl w.heap.size w
  have Hh := Lib.hid (fun w1 (b : Below w.heap.size w w1) => sh_below h b)
  have Hr := Lib.hid (fun w1 (b : Below w.heap.size w w1) => hr.below b)
  have Hx := Lib.hid hx
  have n1 : (l.length : Int) ≤ 9223372036854775807 := by omega
  clear h hr hx
  go_enter Tryd.func46, Tryd.ntmps46
  go_wp2
  go_loopg [9] l.length (fun k v wr => ∃ i : Nat, k + i = l.length ∧ v = .int .i64 i ∧ Below w.heap.size w wr ∧ Hid (∀ j, j < i → okPath (l.getD j []) = true))
  case atStart => exact ⟨0, by omega, rfl, hb, Lib.hid (fun j h => absurd h (Nat.not_lt_zero _))⟩
  case round =>
    clear hb
    obtain ⟨i, hk, rfl, hb, hp⟩ := hrel
    by_cases hlt : (i : Int) < (l.length : Int)
    · obtain ⟨j, rfl⟩ : ∃ j, gk = j + 1 := ⟨gk - 1, by omega⟩
      have hil : i < l.length := by omega
      have i0 : (0 : Int) ≤ (i : Int) := by omega
      obtain ⟨b, off, rfl, q, d⟩ := (Hr.out _ hb).at_ i hil
      have Hk := Lib.hid hk
      have hg : l.getD i [] = l[i] := by simp [hil]
      have R := Lib.hid (fun w1 h1 => right_any (str l[i]) (by have := Hx.out _ (List.getElem_mem hil); exact this) w1 h1)
      rw [data_str, ← hg] at R
      have hp2 : Hid (okPath (l.getD i []) = true → ∀ j, j < i + 1 → okPath (l.getD j []) = true) := Lib.hid (fun h j hj => by
        by_cases e : j = i
        · subst e; exact h
        · exact hp.out j (by omega))
      have hbad : Hid (okPath (l.getD i []) = false → l.all okPath = false) := Lib.hid (fun h => by rw [← allB_list okPath l []]; exact allB_false hil h)
      clear hk hp
      generalize okPath (l.getD i []) = y at *
      rw [hg] at *
      generalize l[i] = x at *
      clear hg
      go_wp2_with fail
      refine (R.out _ (Hh.out _ hb)).mono ?_
      rintro e wz ⟨rfl, b⟩
      replace hb := hb.trans (b.mono hb.size)
      clear b
      cases y with
      | true =>
        go_wp2
        go_roundg j
        case measure => omega
        case rel => exact ⟨i + 1, by have := Hk.out; omega, rfl, hb, Lib.hid (hp2.out (by trivial))⟩
      | false =>
        go_wp2
        go_ret
        exact ⟨by rw [hbad.out (by trivial)]; rfl, hb⟩
    · have hall : Hid (l.all okPath = true) := Lib.hid (by rw [← allB_list okPath l []]; exact allB_true.2 (fun j hj => hp.out j (by omega)))
      go_wp2
      go_ret
      exact ⟨by rw [hall.out]; rfl, hb⟩
/-! what is amiss -/
def pairB : List (List UInt8) → Bool
  | [] => true
  | x :: l => (match l with | [] => true | y :: _ => decide (cmpL (psplit x) (psplit y) < 0)) && pairB l
theorem pairB_index : ∀ l : List (List UInt8), pairB l = true ↔ ∀ i (h : i + 1 < l.length), cmpL (psplit (l[i]'(by omega))) (psplit l[i + 1]) < 0
  | [] => by simp [pairB]
  | [x] => by simp [pairB]
  | x :: y :: l => by
    have ih := pairB_index (y :: l)
    unfold pairB
    rw [Bool.and_eq_true, ih, decide_eq_true_eq]
    constructor
    · rintro ⟨h1, h2⟩ i hi
      cases i with
      | zero => exact h1
      | succ i => exact h2 i (by simpa using hi)
    · intro h
      exact ⟨h 0 (by simp), fun i hi => h (i + 1) (by simpa using hi)⟩
def sortedB (l : List (List UInt8)) : Bool := l.all okPath && pairB l
theorem sortedB_iff (l : List (List UInt8)) : sortedB l = true ↔ SortedP l := by
  unfold sortedB SortedP
  rw [Bool.and_eq_true, List.all_eq_true, pairB_index]
  constructor
  · rintro ⟨h1, h2⟩ i hi
    refine ⟨h1 _ (List.getElem_mem hi), fun h0 => ?_⟩
    obtain ⟨j, rfl⟩ : ∃ j, i = j + 1 := ⟨i - 1, by omega⟩
    exact h2 j hi
  · intro h
    refine ⟨fun x hx => ?_, fun i hi => (h (i + 1) hi).2 (by omega)⟩
    obtain ⟨i, hi, rfl⟩ := List.mem_iff_getElem.1 hx
    exact (h i hi).1
def capA (a s : Int) : Int := min (a + min (max s 0) 4194305) 4194305
def sumC (l : List En) : Int := l.foldl (fun a e => capA a e.size) 0
def whyE (l : List En) : Int :=
  if (l.map (·.path)).all okPath = false then 9
  else if sortedB (l.map (·.path)) = false then 10
  else if 1024 < l.length ∨ 4194304 < sumC l ∨ l.all (fun e => decide (e.size ≤ 1048576)) = false then 7
  else if l.all plainB = false then 1
  else 0
end Go.Proofs.YtfppancidgamjaaDoor

/- Package entry: the walk over what is amiss with entries. -/
namespace Go.Proofs.YtfppancidgamjaaDoor
set_option linter.unusedVariables false
set_option linter.unusedSimpArgs false
open Go.RowKit

theorem all_pure (N : FuncId) (hN : ∀ (xs : Array Value) (W : World), (callFunc N xs).run Tryd.prog W = .ok (.enter N xs) W) (q : En → Bool) (A : Option Addr) (c : Nat) (l : List En) (hl : l.length ≤ 9223372036854775807) (w : World) (hr : RdA 7 enL w A l)
    (hf : ∀ e ∈ l, ∀ W, Calls Tryd.prog N #[.agg (enL e).toArray] W fun x W' => x = .returned (.bool (q e)) ∧ Below W.heap.size W W') :
    Calls Tryd.prog 34 #[.slice A l.length c, .func (.func N) #[] #[]] w fun e W' => e = .returned (.bool (l.all q)) ∧ Below w.heap.size w W' := by
  have h := all_any N hN #[] (fun _ _ => True) (fun i => q (l.getD i default)) A c l hl w w (Below.refl _ _) hr trivial (fun _ _ _ _ => trivial) (fun i hi W hb _ => by
    have hg : l.getD i default = l[i] := by simp [hi]
    rw [hg, Array.append_empty]
    exact (hf _ (List.getElem_mem hi) W).mono fun e W' ⟨he, hb'⟩ => ⟨he, fun _ => trivial, hb'.mono hb.size⟩)
  rw [allB_list q l default] at h
  exact h
theorem run_small (xs : Array Value) (W : World) : (callFunc 50 xs).run Tryd.prog W = .ok (.enter 50 xs) W := by kernel_rfl
theorem run_plain (xs : Array Value) (W : World) : (callFunc 51 xs).run Tryd.prog W = .ok (.enter 51 xs) W := by kernel_rfl

theorem whyE_eq (l : List En) : whyE l = if (l.map (·.path)).all okPath = false then 9
  else if sortedB (l.map (·.path)) = false then 10
  else if 1024 < l.length ∨ 4194304 < sumC l ∨ l.all (fun e => decide (e.size ≤ 1048576)) = false then 7
  else if l.all plainB = false then 1
  else 0 := rfl
theorem capA_range {a s : Int} (h0 : 0 ≤ a) : 0 ≤ capA a s ∧ capA a s ≤ 4194305 := by unfold capA; omega
theorem sumC_snoc (l : List En) (e : En) : sumC (l ++ [e]) = capA (sumC l) e.size := by unfold sumC; rw [List.foldl_append]; rfl
theorem sumC_range (l : List En) : 0 ≤ sumC l ∧ sumC l ≤ 4194305 := by
  rcases List.eq_nil_or_concat l with rfl | ⟨m, e, rfl⟩
  · exact ⟨Int.le_refl _, by decide⟩
  · rw [List.concat_eq_append, sumC_snoc]
    refine capA_range ?_
    have : ∀ (l : List En) (a : Int), 0 ≤ a → 0 ≤ l.foldl (fun a e => capA a e.size) a := by
      intro l
      induction l with
      | nil => intro a h; exact h
      | cons e l ih => intro a h; exact ih _ (capA_range h).1
    exact this m 0 (Int.le_refl _)

set_option maxRecDepth 100000 in
set_option maxHeartbeats 3200000 in
theorem why_any (A : Option Addr) (c : Nat) (l : List En) (hl : l.length ≤ 4294967296) (ok : ∀ e ∈ l, e.ok) (hx : ∀ e ∈ l, e.path.length ≤ 4294967280) (w : World) (h : Sh w) (hr : RdA 7 enL w A l) :
    Calls Tryd.prog 33 #[.slice A l.length c] w fun e w' => e = .returned (.int .i64 (whyE l)) ∧ Below w.heap.size w w' := by
  have hb := Below.refl w.heap.size w
  have Hh := Lib.hid (fun w1 (b : Below w.heap.size w w1) => sh_below h b)
  have Hr := Lib.hid (fun w1 (b : Below w.heap.size w w1) => hr.below b)
  have Ok := Lib.hid ok
  have Hx := Lib.hid hx
  have n1 : (l.length : Int) ≤ 4294967296 := by omega
  clear h hr ok hx
  go_enter Tryd.func33, Tryd.ntmps33
  go_wp2
  go_loopg [3, 8] l.length (fun k a v wr => ∃ i : Nat, k + i = l.length ∧ v = .int .i64 i ∧ a = .int .i64 (sumC (l.take i)) ∧ Below w.heap.size w wr)
  case atStart => exact ⟨0, by omega, rfl, rfl, hb⟩
  case round =>
    clear hb
    obtain ⟨i, hk, rfl, rfl, hb⟩ := hrel
    by_cases hlt : (i : Int) < (l.length : Int)
    · obtain ⟨j, rfl⟩ : ∃ j, gk = j + 1 := ⟨gk - 1, by omega⟩
      have hil : i < l.length := by omega
      have i0' : (0 : Int) ≤ (i : Int) := by omega
      obtain ⟨b, off, rfl, q, d⟩ := Hr.out _ hb i hil
      have Hk := Lib.hid hk
      have Hsn : Hid (sumC (l.take (i + 1)) = capA (sumC (l.take i)) l[i].size) := Lib.hid (by rw [List.take_succ_eq_append_getElem hil, sumC_snoc])
      obtain ⟨a0, a1⟩ := sumC_range (l.take i)
      have hz := (Ok.out _ (List.getElem_mem hil)).size
      clear hk
      generalize sumC (l.take i) = a at *
      generalize l[i] = x at *
      obtain ⟨path, kind, mode, time, tgt, beg, size⟩ := x
      obtain ⟨d0, d1, d2, d3, d4, d5, d6⟩ := RdA.cells7 d
      simp only [okI] at d0 d1 d2 d3 d4 d5 d6 Hsn hz
      obtain ⟨z0, z1⟩ := hz
      clear d
      have hb1 := hb.alloc hb.size (.cells #[.string (str path), .int .i64 kind, .int .i64 mode, .int .i64 time, .string (str tgt), .int .i64 beg, .int .i64 size] 30)
      clear hb
      go_wp2
      go_roundg j
      case measure => omega
      case rel => exact ⟨i + 1, by have := Hk.out; omega, rfl, congrArg (Value.int .i64) (by rw [Hsn.out]; rfl), hb1⟩
    · obtain rfl : i = l.length := by omega
      rw [List.take_length]
      have hsz : (l.map (·.path)).length = l.length := by simp
      have P := Lib.hid (fun w1 hr => paths_any A c l hl w1 hr)
      have hxp : ∀ x ∈ l.map (·.path), x.length ≤ 4294967280 := fun x hx => by
        obtain ⟨e, he, rfl⟩ := List.mem_map.1 hx
        exact Hx.out e he
      have S1 := Lib.hid (fun A' c' w1 h1 hr => allstr_any A' c' (l.map (·.path)) (by rw [hsz]; omega) (fun x hx => by have := hxp x hx; omega) w1 h1 hr)
      have S2 := Lib.hid (fun A' c' w1 h1 hr => sorted_any A' c' (l.map (·.path)) (by rw [hsz]; omega) hxp w1 h1 hr)
      have Q1 := Lib.hid (fun w1 hr => all_pure _ run_small (fun e => decide (e.size ≤ 1048576)) A c l (by omega) w1 hr (fun e _ W => small_any e W))
      have Q2 := Lib.hid (fun w1 hr => all_pure _ run_plain plainB A c l (by omega) w1 hr (fun e he W => plain_any e (Ok.out e he) W))
      have hso := Lib.hid (sortedB_iff (l.map (·.path)))
      have hn : (l.length == (l.map (·.path)).length) = true := by rw [hsz]; simp
      have hw := Lib.hid (whyE_eq l)
      obtain ⟨a0, a1⟩ := sumC_range l
      have Ha := Lib.hid (And.intro a0 a1)
      clear hk hsz hxp hn a0 a1
      obtain ⟨z, hzz⟩ : ∃ z, whyE l = z := ⟨_, rfl⟩
      have Hz := Lib.hid hzz
      rw [hzz] at hw
      clear hzz
      generalize sumC l = a at *
      generalize l.all plainB = y4 at *
      generalize l.all (fun e => decide (e.size ≤ 1048576)) = y3 at *
      generalize l.map (·.path) = ps at *
      generalize ps.all okPath = y1 at *
      generalize sortedB ps = y2 at *
      obtain ⟨a0, a1⟩ := Ha.out
      clear Ha
      cases y1 with
      | false =>
        have hz : Hid (z = 9) := Lib.hid (by rw [hw.out]; rfl)
        clear hw
        go_wp2_with fail
        refine (P.out _ (Hr.out _ hb)).mono ?_
        rintro e wz ⟨A1, c1, rfl, k1, r1, b⟩
        replace hb := hb.trans (b.mono hb.size)
        have R1 := Lib.hid (rds_of_rdA r1)
        clear b r1
        go_wp2_with fail
        refine (S1.out _ _ _ (Hh.out _ hb) R1.out).mono ?_
        rintro e wz ⟨rfl, b⟩
        replace hb := hb.trans (b.mono hb.size)
        clear b
        go_wp2
        go_ret
        exact ⟨by rw [Hz.out, hz.out]; rfl, hb⟩
      | true =>
      have hw2 : z = if y2 = false then 10 else if 1024 < l.length ∨ 4194304 < a ∨ y3 = false then 7 else if y4 = false then 1 else 0 := by rw [hw.out]; rfl
      replace hw := Lib.hid hw2
      clear hw2
      cases y2 with
      | false =>
        have hz : Hid (z = 10) := Lib.hid (by rw [hw.out]; rfl)
        clear hw
        go_wp2_with fail
        refine (P.out _ (Hr.out _ hb)).mono ?_
        rintro e wz ⟨A1, c1, rfl, k1, r1, b⟩
        replace hb := hb.trans (b.mono hb.size)
        have R1 := Lib.hid (rds_of_rdA r1)
        clear b r1
        go_wp2_with fail
        refine (S1.out _ _ _ (Hh.out _ hb) R1.out).mono ?_
        rintro e wz ⟨rfl, b⟩
        replace hb := hb.trans (b.mono hb.size)
        clear b
        go_wp2_with fail
        refine (P.out _ (Hr.out _ hb)).mono ?_
        rintro e wz ⟨A1, c1, rfl, k1, r1, b⟩
        replace hb := hb.trans (b.mono hb.size)
        have R1 := Lib.hid (rds_of_rdA r1)
        clear b r1
        go_wp2_with fail
        refine (S2.out _ _ _ (Hh.out _ hb) R1.out).mono ?_
        rintro e wz ⟨r, rfl, hr, b⟩
        obtain rfl : r = false := by
          cases r
          · rfl
          · exact absurd (hso.out.2 (hr.1 rfl)) (by simp)
        replace hb := hb.trans (b.mono hb.size)
        clear b hr
        go_wp2
        go_ret
        exact ⟨by rw [Hz.out, hz.out]; rfl, hb⟩
      | true =>
      have hw2 : z = if 1024 < l.length ∨ 4194304 < a ∨ y3 = false then 7 else if y4 = false then 1 else 0 := by rw [hw.out]; rfl
      replace hw := Lib.hid hw2
      clear hw2
      go_wp2_with fail
      refine (P.out _ (Hr.out _ hb)).mono ?_
      rintro e wz ⟨A1, c1, rfl, k1, r1, b⟩
      replace hb := hb.trans (b.mono hb.size)
      have R1 := Lib.hid (rds_of_rdA r1)
      clear b r1
      go_wp2_with fail
      refine (S1.out _ _ _ (Hh.out _ hb) R1.out).mono ?_
      rintro e wz ⟨rfl, b⟩
      replace hb := hb.trans (b.mono hb.size)
      clear b
      go_wp2_with fail
      refine (P.out _ (Hr.out _ hb)).mono ?_
      rintro e wz ⟨A1, c1, rfl, k1, r1, b⟩
      replace hb := hb.trans (b.mono hb.size)
      have R1 := Lib.hid (rds_of_rdA r1)
      clear b r1
      go_wp2_with fail
      refine (S2.out _ _ _ (Hh.out _ hb) R1.out).mono ?_
      rintro e wz ⟨r, rfl, hr, b⟩
      obtain rfl : r = true := hr.2 (hso.out.1 (by simp))
      replace hb := hb.trans (b.mono hb.size)
      clear b hr
      by_cases h1 : (1024 : Int) < (l.length : Int)
      · have hz : Hid (z = 7) := Lib.hid (by rw [hw.out, if_pos (.inl (by omega))])
        clear hw
        go_wp2
        go_ret
        exact ⟨by rw [Hz.out, hz.out]; rfl, hb⟩
      by_cases h2 : 4194304 < a
      · have hz : Hid (z = 7) := Lib.hid (by rw [hw.out, if_pos (.inr (.inl h2))])
        clear hw
        go_wp2
        go_ret
        exact ⟨by rw [Hz.out, hz.out]; rfl, hb⟩
      cases y3 with
      | false =>
        have hz : Hid (z = 7) := Lib.hid (by rw [hw.out, if_pos (.inr (.inr rfl))])
        clear hw
        go_wp2_with fail
        refine (Q1.out _ (Hr.out _ hb)).mono ?_
        rintro e wz ⟨rfl, b⟩
        replace hb := hb.trans (b.mono hb.size)
        clear b
        go_wp2
        go_ret
        exact ⟨by rw [Hz.out, hz.out]; rfl, hb⟩
      | true =>
      have hw2 : z = if y4 = false then 1 else 0 := by rw [hw.out, if_neg (by simp; omega)]
      replace hw := Lib.hid hw2
      clear hw2
      cases y4 with
      | false =>
        have hz : Hid (z = 1) := Lib.hid (by rw [hw.out]; rfl)
        clear hw
        go_wp2_with fail
        refine (Q1.out _ (Hr.out _ hb)).mono ?_
        rintro e wz ⟨rfl, b⟩
        replace hb := hb.trans (b.mono hb.size)
        clear b
        go_wp2_with fail
        refine (Q2.out _ (Hr.out _ hb)).mono ?_
        rintro e wz ⟨rfl, b⟩
        replace hb := hb.trans (b.mono hb.size)
        clear b
        go_wp2
        go_ret
        exact ⟨by rw [Hz.out, hz.out]; rfl, hb⟩
      | true =>
        have hz : Hid (z = 0) := Lib.hid (by rw [hw.out]; rfl)
        clear hw
        go_wp2_with fail
        refine (Q1.out _ (Hr.out _ hb)).mono ?_
        rintro e wz ⟨rfl, b⟩
        replace hb := hb.trans (b.mono hb.size)
        clear b
        go_wp2_with fail
        refine (Q2.out _ (Hr.out _ hb)).mono ?_
        rintro e wz ⟨rfl, b⟩
        replace hb := hb.trans (b.mono hb.size)
        clear b
        go_wp2
        go_ret
        exact ⟨by rw [Hz.out, hz.out]; rfl, hb⟩
end Go.Proofs.YtfppancidgamjaaDoor

/- Package entry: the walks over Of, Right and Fine. -/
namespace Go.Proofs.YtfppancidgamjaaDoor
set_option linter.unusedVariables false
set_option linter.unusedSimpArgs false
open Go.RowKit

/-- What a call leaves that returns a slice and an error. -/
def Ret2A {α : Type} (k : Nat) (cs : α → List Value) (w : World) (l : List α) (z : Int) (e : Ending) (w' : World) : Prop := ∃ A c, e = .returned (.tuple #[.slice A l.length c, .int .i64 z]) ∧ (l.length ≤ c ∧ c ≤ 9223372036854775807) ∧ RdA k cs w' A l ∧ Below w.heap.size w w'
theorem Ret2A.mk {α : Type} {k : Nat} {cs : α → List Value} {w w' : World} {l : List α} {z : Int} {e : Ending} {A : Option Addr} {n c : Nat} {z' : Int} (he : e = .returned (.tuple #[.slice A n c, .int .i64 z'])) (hn : n = l.length) (hz : z' = z) (hc : n ≤ c ∧ c ≤ 9223372036854775807) (hr : RdA k cs w' A l) (hb : Below w.heap.size w w') : Ret2A k cs w l z e w' := ⟨A, c, by rw [he, hn, hz], by rw [← hn]; exact hc, hr, hb⟩

/-- What every file of Go is. -/
structure Fi.ok (f : Fi) : Prop where
  path : f.path.length ≤ 4294967280
  kind : okI f.kind
  mode : okI f.mode
  time : okI f.time
  tgt : f.tgt.length ≤ 9223372036854775807
theorem entsFrom_ok : ∀ (l : List Fi) (a : Int), (∀ f ∈ l, f.ok) → 0 ≤ a → a + (dataLen l : Int) ≤ 4294967296 → ∀ e ∈ entsFrom a l, e.ok ∧ e.path.length ≤ 4294967280
  | [], _, _, _, _ => fun e he => by cases he
  | f :: l, a, h, h0, h1 => fun e he => by
    have hd : dataLen (f :: l) = f.data.length + dataLen l := rfl
    have hf := h f List.mem_cons_self
    unfold entsFrom at he
    rcases List.mem_cons.1 he with rfl | he
    · exact ⟨⟨by have := hf.path; simp only; omega, hf.kind, hf.mode, hf.time, hf.tgt, ⟨by simp only; omega, by simp only; omega⟩, ⟨by simp only; omega, by simp only; omega⟩⟩, hf.path⟩
    · exact entsFrom_ok l _ (fun g hg => h g (List.mem_cons_of_mem _ hg)) (by omega) (by omega) e he
theorem ents_ok {l : List Fi} (h : ∀ f ∈ l, f.ok) (hs : dataLen l ≤ 4294967296) : ∀ e ∈ ents l, e.ok ∧ e.path.length ≤ 4294967280 := entsFrom_ok l 0 h (Int.le_refl _) (by omega)
def ofE (l : List Fi) : List En := if whyE (ents l) = 0 then ents l else []

set_option maxHeartbeats 1600000 in
theorem ofE_any (A : Option Addr) (c : Nat) (l : List (Fi × Value)) (hl : l.length ≤ 4294967296) (hs : dataLen (l.map (·.1)) ≤ 4294967296) (ok : ∀ x ∈ l, x.1.ok) (w : World) (h : Sh w) (hr : RdF w A l) :
    Calls Tryd.prog 13 #[.slice A l.length c] w (Ret2A 7 enL w (ofE (l.map (·.1))) (whyE (ents (l.map (·.1))))) := by
  have hb := Below.refl w.heap.size w
  have Hh := Lib.hid (fun w1 (b : Below w.heap.size w w1) => sh_below h b)
  have hk := ents_ok (l := l.map (·.1)) (by intro f hf; obtain ⟨x, hx, rfl⟩ := List.mem_map.1 hf; exact ok x hx) hs
  have hel : (ents (l.map (·.1))).length = l.length := by unfold ents; rw [entsFrom_length]; simp
  have E1 := Lib.hid (entries_any A c l hl hs w hr)
  have W1 := Lib.hid (fun A' c' w1 h1 hr => why_any A' c' (ents (l.map (·.1))) (by omega) (fun e he => (hk e he).1) (fun e he => (hk e he).2) w1 h1 hr)
  have Ho := Lib.hid (show ofE (l.map (·.1)) = if whyE (ents (l.map (·.1))) = 0 then ents (l.map (·.1)) else [] from rfl)
  clear hk hel h hr
  generalize ofE (l.map (·.1)) = o at *
  generalize ents (l.map (·.1)) = es at *
  generalize whyE es = z at *
  by_cases h0 : z = 0
  · subst h0
    obtain rfl : o = es := Ho.out
    go_enter Tryd.func13, Tryd.ntmps13
    go_wp2_with fail
    refine E1.out.mono ?_
    rintro e w1 ⟨A1, c1, rfl, k1, r1, b1⟩
    have R1 := Lib.hid r1
    clear r1
    go_wp2_with fail
    refine (W1.out _ _ _ (Hh.out _ b1) R1.out).mono ?_
    rintro e w2 ⟨rfl, b2⟩
    have R2 := Lib.hid (R1.out.below b2)
    have hb2 := b1.trans (b2.mono b1.size)
    clear b1 b2
    go_wp2
    go_ret2
    exact Ret2A.mk rfl rfl rfl k1 R2.out hb2
  · obtain rfl : o = [] := by rw [Ho.out, if_neg h0]
    have h0' : (z == 0) = false := by simpa using h0
    go_enter Tryd.func13, Tryd.ntmps13
    go_wp2_with fail
    refine E1.out.mono ?_
    rintro e w1 ⟨A1, c1, rfl, k1, r1, b1⟩
    have R1 := Lib.hid r1
    clear r1
    go_wp2_with fail
    refine (W1.out _ _ _ (Hh.out _ b1) R1.out).mono ?_
    rintro e w2 ⟨rfl, b2⟩
    have hb2 := b1.trans (b2.mono b1.size)
    clear b1 b2
    go_wp2
    go_ret2
    exact Ret2A.mk rfl rfl rfl cap0 RdA.nil hb2

theorem rightE_any (A : Option Addr) (c : Nat) (l : List (Fi × Value)) (hl : l.length ≤ 4294967296) (hs : dataLen (l.map (·.1)) ≤ 4294967296) (ok : ∀ x ∈ l, x.1.ok) (w : World) (h : Sh w) (hr : RdF w A l) :
    Calls Tryd.prog 17 #[.slice A l.length c] w fun e w' => e = .returned (.bool (whyE (ents (l.map (·.1))) == 0)) ∧ Below w.heap.size w w' := by
  have hb := Below.refl w.heap.size w
  have Hh := Lib.hid (fun w1 (b : Below w.heap.size w w1) => sh_below h b)
  have hk := ents_ok (l := l.map (·.1)) (by intro f hf; obtain ⟨x, hx, rfl⟩ := List.mem_map.1 hf; exact ok x hx) hs
  have hel : (ents (l.map (·.1))).length = l.length := by unfold ents; rw [entsFrom_length]; simp
  have E1 := Lib.hid (entries_any A c l hl hs w hr)
  have W1 := Lib.hid (fun A' c' w1 h1 hr => why_any A' c' (ents (l.map (·.1))) (by omega) (fun e he => (hk e he).1) (fun e he => (hk e he).2) w1 h1 hr)
  clear hk hel h hr
  generalize ents (l.map (·.1)) = es at *
  generalize whyE es = z at *
  go_enter Tryd.func17, Tryd.ntmps17
  go_wp2_with fail
  refine E1.out.mono ?_
  rintro e w1 ⟨A1, c1, rfl, k1, r1, b1⟩
  have R1 := Lib.hid r1
  clear r1
  go_wp2_with fail
  refine (W1.out _ _ _ (Hh.out _ b1) R1.out).mono ?_
  rintro e w2 ⟨rfl, b2⟩
  have hb2 := b1.trans (b2.mono b1.size)
  clear b1 b2
  go_wp2
  go_ret
  exact ⟨rfl, hb2⟩

/-! Fine -/
def begB : Int → List En → Bool
  | _, [] => true
  | a, e :: l => (e.beg == a) && begB (a + e.size) l
def fineB (l : List En) : Bool := (whyE l == 0) && begB 0 l
def sumS (l : List En) : Int := (l.map (·.size)).sum
theorem sumS_snoc (l : List En) (e : En) : sumS (l ++ [e]) = sumS l + e.size := by simp [sumS]
theorem begB_index : ∀ (l : List En) (a : Int), begB a l = true ↔ ∀ i (h : i < l.length), l[i].beg = a + sumS (l.take i)
  | [], a => by simp [begB]
  | e :: l, a => by
    have ih := begB_index l (a + e.size)
    unfold begB
    rw [Bool.and_eq_true, ih, beq_iff_eq]
    constructor
    · rintro ⟨h1, h2⟩ i hi
      cases i with
      | zero => simpa [sumS] using h1
      | succ i =>
        have := h2 i (by simpa using hi)
        simp only [List.getElem_cons_succ, List.take_succ_cons]
        rw [this]; simp [sumS]; omega
    · intro h
      refine ⟨by have := h 0 (by simp); simpa [sumS] using this, fun i hi => ?_⟩
      have := h (i + 1) (by simpa using hi)
      simp only [List.getElem_cons_succ, List.take_succ_cons] at this
      rw [this]; simp [sumS]; omega
theorem whyE_zero {l : List En} (h : whyE l = 0) : sortedB (l.map (·.path)) = true ∧ l.length ≤ 1024 ∧ sumC l ≤ 4194304 ∧ ∀ e ∈ l, plainP e := by
  rw [whyE_eq] at h
  by_cases h1 : (l.map (·.path)).all okPath = false
  · rw [if_pos h1] at h; cases h
  rw [if_neg h1] at h
  by_cases h2 : sortedB (l.map (·.path)) = false
  · rw [if_pos h2] at h; cases h
  rw [if_neg h2] at h
  by_cases h3 : 1024 < l.length ∨ 4194304 < sumC l ∨ l.all (fun e => decide (e.size ≤ 1048576)) = false
  · rw [if_pos h3] at h; cases h
  rw [if_neg h3] at h
  by_cases h4 : l.all plainB = false
  · rw [if_pos h4] at h; cases h
  refine ⟨by simpa using h2, by omega, by omega, fun e he => ?_⟩
  have h5 : l.all plainB = true := by simpa using h4
  have := List.all_eq_true.1 h5 e he
  exact of_decide_eq_true this
theorem sumS_range : ∀ {l : List En}, (∀ e ∈ l, plainP e) → 0 ≤ sumS l ∧ sumS l ≤ 1048576 * l.length
  | [], _ => by simp [sumS]
  | e :: l, h => by
    have ih := sumS_range (l := l) (fun x hx => h x (List.mem_cons_of_mem _ hx))
    have he := h e List.mem_cons_self
    have : sumS (e :: l) = e.size + sumS l := by simp [sumS]
    obtain ⟨_, _, _, _, h5, h6, _⟩ := he
    rw [this, List.length_cons]
    omega

theorem fine1_any (e : En) (g : Nat) (a : Int) (ha : 0 ≤ a) (ha' : a ≤ 4294967296) (he : 0 ≤ e.size) (he' : e.size ≤ 4294967296) (B : Nat) (w : World) (hg : Own B (Bk g 3 #[.int .i64 a] * Emp) w) :
    Calls Tryd.prog 35 #[.agg (enL e).toArray, .pointer (some ⟨g, 0, none⟩)] w fun x w' => x = .returned (.bool (e.beg == a)) ∧ Own B (Bk g 3 #[.int .i64 (a + e.size)] * Emp) w' ∧ Below B w w' := by
  obtain ⟨path, kind, mode, time, tgt, beg, size⟩ := e
  simp only at he he'
  simp only [enL]
  have hk := hg.bk
  have hB : B ≤ w.heap.size := by omega
  have o1 := hg.alloc_keep hB (.cells #[.string (str path), .int .i64 kind, .int .i64 mode, .int .i64 time, .string (str tgt), .int .i64 beg, .int .i64 size] 30)
  have hb1 := (Below.refl B w).alloc hB (.cells #[.string (str path), .int .i64 kind, .int .i64 mode, .int .i64 time, .string (str tgt), .int .i64 beg, .int .i64 size] 30)
  have c0 := o1.cell 0
  have f0 := o1.unfrozen 0
  have o2 := o1.set (Nat.le_trans hB hb1.size) 0 (.int .i64 (a + size))
  have hb2 := hb1.trans (o1.below_set 0 (.int .i64 (a + size)))
  have hne : ¬ w.heap.size = g := by omega
  have hne2 : ¬ g = w.heap.size := by omega
  clear hg hk o1
  go_enter Tryd.func35, Tryd.ntmps35
  go_wp2
  go_ret
  exact ⟨rfl, o2, hb2⟩

set_option maxHeartbeats 1600000 in
theorem fine_any (A : Option Addr) (c : Nat) (l : List En) (hl : l.length ≤ 4294967296) (ok : ∀ e ∈ l, e.ok) (hx : ∀ e ∈ l, e.path.length ≤ 4294967280) (w : World) (h : Sh w) (hr : RdA 7 enL w A l) :
    Calls Tryd.prog 14 #[.slice A l.length c] w fun e w' => e = .returned (.bool (fineB l)) ∧ Below w.heap.size w w' := by
  have hb := Below.refl w.heap.size w
  have Hr := Lib.hid (fun w1 (b : Below w.heap.size w w1) => hr.below b)
  have Hr0 := Lib.hid hr
  have W1 := Lib.hid (why_any A c l hl ok hx w h hr)
  have Hf := Lib.hid (show fineB l = ((whyE l == 0) && begB 0 l) from rfl)
  by_cases h0 : whyE l = 0
  · obtain ⟨_, hl2, _, hp⟩ := whyE_zero h0
    have Hp := Lib.hid hp
    have hB0 : Hid (∀ r, (r = true ↔ ∀ i, i < l.length → ((l.getD i default).beg == sumS (l.take i)) = true) → r = fineB l) := Lib.hid (fun r hr => by
      rw [Hf.out, h0, Bool.eq_iff_iff, hr]
      simp only [beq_self_eq_true, Bool.true_and]
      rw [begB_index]
      constructor
      · intro h i hi
        have := h i hi
        rw [beq_iff_eq] at this
        rw [Int.zero_add, ← this]; simp [hi]
      · intro h i hi
        have := h i hi
        rw [Int.zero_add] at this
        rw [beq_iff_eq, ← this]; simp [hi])
    have A1 := Lib.hid (fun (g : Nat) (W : World) (b : Below w.heap.size w W) (ho : Own w.heap.size (Bk g 3 #[.int .i64 0] * Emp) W) =>
      all_any 35 (fun _ _ => by kernel_rfl) #[.pointer (some ⟨g, 0, none⟩)] (fun i W => Own w.heap.size (Bk g 3 #[.int .i64 (sumS (l.take i))] * Emp) W) (fun i => (l.getD i default).beg == sumS (l.take i)) A c l (by omega) w W b Hr0.out (by simpa [sumS] using ho)
        (fun i W o h => h.alloc_keep (by have := h.bk; omega) o) (fun i hi W hb hI => by
          have hg : l.getD i default = l[i] := by simp [hi]
          have hs1 := sumS_range (l := l.take i) (fun e he => Hp.out e (List.mem_of_mem_take he))
          have hz := Hp.out _ (List.getElem_mem hi)
          obtain ⟨_, _, _, _, h5, h6, _⟩ := hz
          have hlt : (l.take i).length ≤ 1024 := by rw [List.length_take]; omega
          rw [hg]
          refine (fine1_any l[i] g (sumS (l.take i)) hs1.1 (by omega) h5 (by omega) w.heap.size W hI).mono ?_
          rintro e W' ⟨rfl, ho, hb'⟩
          refine ⟨rfl, fun _ => ?_, hb'⟩
          rw [List.take_succ_eq_append_getElem hi, sumS_snoc]
          exact ho))
    rw [h0] at W1
    clear h hr h0 hl2 hp Hf Hp
    go_enter Tryd.func14, Tryd.ntmps14
    go_wp2_with fail
    refine W1.out.mono ?_
    rintro e w1 ⟨rfl, b1⟩
    have o1 := (Own.start w.heap.size w1).new b1.size 3 #[.int .i64 0]
    have hb1 := b1.alloc b1.size (.cells #[.int .i64 0] 3)
    clear b1
    go_wp2_with fail
    refine (A1.out _ _ hb1 o1).mono ?_
    rintro e w2 ⟨rfl, b2⟩
    have hf2 := hB0.out _ allB_true
    rw [hf2]
    clear hB0 hf2 A1 o1 hb1
    go_wp2
    go_ret
    exact ⟨rfl, b2⟩
  · have h0' : (whyE l == 0) = false := by simpa using h0
    have Hf2 : Hid (fineB l = false) := Lib.hid (by rw [Hf.out, h0']; rfl)
    clear h hr Hf h0
    generalize whyE l = z at *
    have h0 : ¬ z = 0 := by simpa using h0'
    go_enter Tryd.func14, Tryd.ntmps14
    go_wp2_with fail
    refine W1.out.mono ?_
    rintro e w1 ⟨rfl, b1⟩
    go_wp2
    go_ret
    exact ⟨by rw [Hf2.out]; rfl, b1⟩
end Go.Proofs.YtfppancidgamjaaDoor

/- Package entry: the walks over Total, Find and Within. -/
namespace Go.Proofs.YtfppancidgamjaaDoor
set_option linter.unusedVariables false
set_option linter.unusedSimpArgs false
open Go.RowKit

theorem fineB_true {l : List En} (h : fineB l = true) : whyE l = 0 ∧ ∀ i (hi : i < l.length), l[i].beg = sumS (l.take i) := by
  unfold fineB at h
  rw [Bool.and_eq_true, beq_iff_eq, begB_index] at h
  exact ⟨h.1, fun i hi => by have := h.2 i hi; rw [Int.zero_add] at this; exact this⟩
theorem fine_bounds {l : List En} (h : fineB l = true) (i : Nat) (hi : i < l.length) : 0 ≤ l[i].beg ∧ l[i].beg ≤ 1073741824 ∧ 0 ≤ l[i].size ∧ l[i].size ≤ 1048576 := by
  obtain ⟨h1, h2⟩ := fineB_true h
  obtain ⟨_, hl, _, hp⟩ := whyE_zero h1
  have hs := sumS_range (l := l.take i) (fun e he => hp e (List.mem_of_mem_take he))
  have hlt : (l.take i).length ≤ 1024 := by rw [List.length_take]; omega
  obtain ⟨_, _, _, _, h5, h6, _⟩ := hp _ (List.getElem_mem hi)
  rw [h2 i hi]
  exact ⟨hs.1, by omega, h5, h6⟩
def totalE (l : List En) : Int := if fineB l then sumS l else 0
theorem totalE_last {l : List En} {m : Nat} (h : fineB l = true) (hm : l.length = m + 1) : totalE l = (l[m]'(by omega)).beg + (l[m]'(by omega)).size := by
  unfold totalE
  rw [if_pos h, (fineB_true h).2 m (by omega), ← sumS_snoc, ← List.take_succ_eq_append_getElem (by omega), ← hm, List.take_length]

set_option maxHeartbeats 1600000 in
theorem total_any (A : Option Addr) (c : Nat) (l : List En) (hl : l.length ≤ 4294967296) (ok : ∀ e ∈ l, e.ok) (hx : ∀ e ∈ l, e.path.length ≤ 4294967280) (w : World) (h : Sh w) (hr : RdA 7 enL w A l) :
    Calls Tryd.prog 24 #[.slice A l.length c] w fun e w' => e = .returned (.int .i64 (totalE l)) ∧ Below w.heap.size w w' := by
  have F := Lib.hid (fine_any A c l hl ok hx w h hr)
  have Hr := Lib.hid (fun w1 (b : Below w.heap.size w w1) => hr.below b)
  have n1 : (l.length : Int) ≤ 4294967296 := by omega
  cases hf : fineB l with
  | false =>
    rw [hf] at F
    have Ht : Hid (totalE l = 0) := Lib.hid (by unfold totalE; rw [hf]; rfl)
    clear hf h hr
    by_cases h0 : l.length = 0
    · have h0' : ((l.length : Int) == 0) = true := by rw [h0]; rfl
      have h0n : (l.length == 0) = true := by simpa using h0
      clear h0
      go_enter Tryd.func24, Tryd.ntmps24
      go_wp2
      go_ret
      exact ⟨by rw [Ht.out]; rfl, Below.refl _ _⟩
    · have h0' : ((l.length : Int) == 0) = false := by rw [beq_eq_false_iff_ne]; omega
      have h0n : (l.length == 0) = false := by simpa using h0
      go_enter Tryd.func24, Tryd.ntmps24
      go_wp2_with fail
      refine F.out.mono ?_
      rintro e w1 ⟨rfl, b1⟩
      go_wp2
      go_ret
      exact ⟨by rw [Ht.out]; rfl, b1⟩
  | true =>
    rw [hf] at F
    by_cases h0 : l.length = 0
    · have h0' : ((l.length : Int) == 0) = true := by rw [h0]; rfl
      have h0n : (l.length == 0) = true := by simpa using h0
      have Ht : Hid (totalE l = 0) := Lib.hid (by
        unfold totalE; rw [hf]
        obtain rfl := List.eq_nil_of_length_eq_zero h0
        rfl)
      clear h0 hf h hr
      go_enter Tryd.func24, Tryd.ntmps24
      go_wp2
      go_ret
      exact ⟨by rw [Ht.out]; rfl, Below.refl _ _⟩
    · obtain ⟨m, hm⟩ : ∃ m, l.length = m + 1 := ⟨l.length - 1, by omega⟩
      have Ht := Lib.hid (totalE_last hf hm)
      have hbd := fine_bounds hf m (by omega)
      have h0' : ((m : Int) + 1 == 0) = false := by simp; omega
      have hm0 : (0 : Int) ≤ (m : Int) := by omega
      have hm1 : (m : Int) < (m : Int) + 1 := by omega
      have hm2 : (m : Int) ≤ 4294967296 := by omega
      have Hr2 := Lib.hid (fun w1 b => Hr.out w1 b m (by omega))
      rw [hm] at F n1 ⊢
      clear hf h hr h0 Hr
      generalize l[m] = x at *
      clear hm
      obtain ⟨path, kind, mode, time, tgt, beg, size⟩ := x
      simp only at hbd Ht
      obtain ⟨z1, z2, z3, z4⟩ := hbd
      go_enter Tryd.func24, Tryd.ntmps24
      go_wp2_with fail
      refine F.out.mono ?_
      rintro e w1 ⟨rfl, b1⟩
      obtain ⟨b, off, rfl, q, d⟩ := Hr2.out w1 b1
      obtain ⟨d0, d1, d2, d3, d4, d5, d6⟩ := RdA.cells7 d
      simp only at d0 d1 d2 d3 d4 d5 d6
      clear d Hr2
      have hb1 := b1.alloc b1.size (.cells #[.string (str path), .int .i64 kind, .int .i64 mode, .int .i64 time, .string (str tgt), .int .i64 beg, .int .i64 size] 30)
      go_wp2
      go_ret
      exact ⟨by rw [Ht.out]; rfl, hb1⟩

def findE (l : List En) (p : List UInt8) : Option En := l.find? (fun e => decide (e.path = p))
def FindP (w : World) (r : Option En) (e : Ending) (w' : World) : Prop := e = .returned (.tuple #[.agg (enL (r.getD default)).toArray, .bool r.isSome]) ∧ Below w.heap.size w w'

set_option maxHeartbeats 1600000 in
theorem find_any (A : Option Addr) (c : Nat) (l : List En) (hl : l.length ≤ 4294967296) (p : ByteArray) (w : World) (hr : RdA 7 enL w A l) :
    Calls Tryd.prog 20 #[.slice A l.length c, .string p] w (FindP w (findE l p.data.toList)) := by
  have hb := Below.refl w.heap.size w
  have o0 := (Own.start w.heap.size w).new (Nat.le_refl _) 30 #[.string ByteArray.empty, .int .i64 0, .int .i64 0, .int .i64 0, .string ByteArray.empty, .int .i64 0, .int .i64 0]
  have hb0 := hb.alloc (Nat.le_refl _) (.cells #[.string ByteArray.empty, .int .i64 0, .int .i64 0, .int .i64 0, .string ByteArray.empty, .int .i64 0, .int .i64 0] 30)
  have Hr := Lib.hid (fun w1 (b : Below w.heap.size w w1) => hr.below b)
  have n1 : (l.length : Int) ≤ 4294967296 := by omega
  clear hr hb
  go_enter Tryd.func20, Tryd.ntmps20
  go_wp2
  go_loopg [10] l.length (fun k v wr => ∃ i : Nat, k + i = l.length ∧ v = .int .i64 i ∧ Below w.heap.size w wr ∧ Own w.heap.size (Bk w.heap.size 30 #[.string ByteArray.empty, .int .i64 0, .int .i64 0, .int .i64 0, .string ByteArray.empty, .int .i64 0, .int .i64 0] * Emp) wr ∧ Hid (findE l p.data.toList = findE (l.drop i) p.data.toList))
  case atStart => exact ⟨0, by omega, rfl, hb0, o0, Lib.hid rfl⟩
  case round =>
    clear hb0 o0
    obtain ⟨i, hk, rfl, hb, ho, hf⟩ := hrel
    by_cases hlt : (i : Int) < (l.length : Int)
    · obtain ⟨j, rfl⟩ : ∃ j, gk = j + 1 := ⟨gk - 1, by omega⟩
      have hil : i < l.length := by omega
      have i0' : (0 : Int) ≤ (i : Int) := by omega
      obtain ⟨b, off, rfl, q, d⟩ := Hr.out _ hb i hil
      have Hk := Lib.hid hk
      have hf2 := hf.out
      rw [List.drop_eq_getElem_cons hil] at hf2
      unfold findE at hf2
      rw [List.find?_cons] at hf2
      have Hf2 := Lib.hid hf2
      clear hk hf hf2
      generalize l[i] = x at *
      obtain ⟨path, kind, mode, time, tgt, beg, size⟩ := x
      obtain ⟨d0, d1, d2, d3, d4, d5, d6⟩ := RdA.cells7 d
      simp only at d0 d1 d2 d3 d4 d5 d6 Hf2
      clear d
      have o1 := ho.alloc_keep hb.size (.cells #[.string (str path), .int .i64 kind, .int .i64 mode, .int .i64 time, .string (str tgt), .int .i64 beg, .int .i64 size] 30)
      have hb1 := hb.alloc hb.size (.cells #[.string (str path), .int .i64 kind, .int .i64 mode, .int .i64 time, .string (str tgt), .int .i64 beg, .int .i64 size] 30)
      by_cases hp : path = p.data.toList
      · have hp1 : (str path).toList = p.toList := by rw [ByteArray.toList_eq, ByteArray.toList_eq]; exact hp
        have hp2 : ((str path).toList == p.toList) = true := by rw [hp1]; simp
        have Hr3 : Hid (findE l p.data.toList = some ⟨path, kind, mode, time, tgt, beg, size⟩) := Lib.hid (by unfold findE; rw [Hf2.out, hp]; simp)
        clear Hf2
        subst hp
        have c0 : wr.cell? ⟨w.heap.size, 0, none⟩ = some (.string ByteArray.empty) := ho.cell 0
        have c1 : wr.cell? ⟨w.heap.size, 1, none⟩ = some (.int .i64 0) := ho.cell 1
        have c2 : wr.cell? ⟨w.heap.size, 2, none⟩ = some (.int .i64 0) := ho.cell 2
        have c3 : wr.cell? ⟨w.heap.size, 3, none⟩ = some (.int .i64 0) := ho.cell 3
        have c4 : wr.cell? ⟨w.heap.size, 4, none⟩ = some (.string ByteArray.empty) := ho.cell 4
        have c5 : wr.cell? ⟨w.heap.size, 5, none⟩ = some (.int .i64 0) := ho.cell 5
        have c6 : wr.cell? ⟨w.heap.size, 6, none⟩ = some (.int .i64 0) := ho.cell 6
        have f0 := ho.unfrozen 0
        have f1 := ho.unfrozen 1
        have f2 := ho.unfrozen 2
        have f3 := ho.unfrozen 3
        have f4 := ho.unfrozen 4
        have f5 := ho.unfrozen 5
        have f6 := ho.unfrozen 6
        have hlt2 : w.heap.size < wr.heap.size := by have := ho.bk; omega
        have hne : ¬ wr.heap.size = w.heap.size := by have := ho.bk; omega
        have hne2 : ¬ w.heap.size = wr.heap.size := by have := ho.bk; omega
        have s6 := ho.set7 hb.size (.string (str p.data.toList)) (.int .i64 kind) (.int .i64 mode) (.int .i64 time) (.string (str tgt)) (.int .i64 beg) (.int .i64 size)
        have hb2 := hb.trans s6.2
        have o7 := s6.1.alloc_keep hb2.size (.cells #[.string (str p.data.toList), .int .i64 kind, .int .i64 mode, .int .i64 time, .string (str tgt), .int .i64 beg, .int .i64 size] 30)
        have hb3 := hb2.alloc hb2.size (.cells #[.string (str p.data.toList), .int .i64 kind, .int .i64 mode, .int .i64 time, .string (str tgt), .int .i64 beg, .int .i64 size] 30)
        have S7 := Lib.hid o7
        have HB := Lib.hid hb3
        clear s6 hb2 o1 hb1 o7 hb3
        go_wp2
        refine bodyPost_ret (results_cell_tmp rfl _ _ w.heap.size 30 _ (0, 0) _ rfl S7.out.bk.1 Tryd.underlying30 rfl (by kernel_rfl)) rfl ?_
        rw [Hr3.out]
        exact ⟨rfl, HB.out⟩
      · have hp1 : ¬ (str path).toList = p.toList := by rw [ByteArray.toList_eq, ByteArray.toList_eq]; exact hp
        have hp2 : ((str path).toList == p.toList) = false := by simpa using hp1
        have Hr3 : Hid (findE l p.data.toList = findE (l.drop (i + 1)) p.data.toList) := Lib.hid (by unfold findE; rw [Hf2.out]; simp [hp])
        clear Hf2 hp
        go_wp2
        go_roundg j
        case measure => omega
        case rel => exact ⟨i + 1, by have := Hk.out; omega, rfl, hb1, o1, Hr3⟩
    · have Hr3 : Hid (findE l p.data.toList = none) := Lib.hid (by rw [hf.out, List.drop_eq_nil_of_le (by omega)]; rfl)
      have s6 := ho.set7 hb.size (.string ByteArray.empty) (.int .i64 0) (.int .i64 0) (.int .i64 0) (.string ByteArray.empty) (.int .i64 0) (.int .i64 0)
      have c0 : wr.cell? ⟨w.heap.size, 0, none⟩ = some (.string ByteArray.empty) := ho.cell 0
      have c1 : wr.cell? ⟨w.heap.size, 1, none⟩ = some (.int .i64 0) := ho.cell 1
      have c2 : wr.cell? ⟨w.heap.size, 2, none⟩ = some (.int .i64 0) := ho.cell 2
      have c3 : wr.cell? ⟨w.heap.size, 3, none⟩ = some (.int .i64 0) := ho.cell 3
      have c4 : wr.cell? ⟨w.heap.size, 4, none⟩ = some (.string ByteArray.empty) := ho.cell 4
      have c5 : wr.cell? ⟨w.heap.size, 5, none⟩ = some (.int .i64 0) := ho.cell 5
      have c6 : wr.cell? ⟨w.heap.size, 6, none⟩ = some (.int .i64 0) := ho.cell 6
      have f0 := ho.unfrozen 0
      have f1 := ho.unfrozen 1
      have f2 := ho.unfrozen 2
      have f3 := ho.unfrozen 3
      have f4 := ho.unfrozen 4
      have f5 := ho.unfrozen 5
      have f6 := ho.unfrozen 6
      have hb2 := hb.trans s6.2
      have S7 := Lib.hid s6.1
      have HB := Lib.hid hb2
      clear s6 hb2 hk hf
      go_wp2
      refine bodyPost_ret (results_cell_tmp rfl _ _ w.heap.size 30 _ (0, 0) _ rfl S7.out.bk.1 Tryd.underlying30 rfl (by kernel_rfl)) rfl ?_
      rw [Hr3.out]
      exact ⟨rfl, HB.out⟩

def withinE (l : List En) (n : Int) : List En := if fineB l then l.takeWhile (fun e => decide (e.beg + e.size ≤ n)) else []
theorem takeWhile_take {α : Type} (q : α → Bool) : ∀ (l : List α) (i : Nat), (∀ x ∈ l.take i, q x = true) → l.takeWhile q = l.take i ++ (l.drop i).takeWhile q
  | l, 0, _ => by simp
  | [], i + 1, _ => by simp
  | a :: l, i + 1, h => by
    have h1 : q a = true := h a (by simp)
    rw [List.takeWhile_cons, if_pos h1, takeWhile_take q l i (fun x hx => h x (by simp [hx]))]
    simp

set_option maxRecDepth 100000 in
set_option maxHeartbeats 3200000 in
theorem within_any (A : Option Addr) (c : Nat) (l : List En) (hl : l.length ≤ 4294967296) (ok : ∀ e ∈ l, e.ok) (hx : ∀ e ∈ l, e.path.length ≤ 4294967280) (n : Int) (w : World) (h : Sh w) (hr : RdA 7 enL w A l) :
    Calls Tryd.prog 23 #[.slice A l.length c, .int .i64 n] w (RetA 7 enL w (withinE l n)) := by
  obtain ⟨i0, hi, hz0, hz1, hz2⟩ := info_parts infoEn
  have Hi0 := Lib.hid (And.intro hi (And.intro hz0 (And.intro hz1 hz2)))
  have F := Lib.hid (fine_any A c l hl ok hx w h hr)
  have Hr := Lib.hid (fun w1 (b : Below w.heap.size w w1) => hr.below b)
  have n1 : (l.length : Int) ≤ 4294967296 := by omega
  clear hr hi hz0 hz1 hz2 h
  cases hf : fineB l with
  | false =>
    rw [hf] at F
    have Hw : Hid (withinE l n = []) := Lib.hid (by unfold withinE; rw [hf]; rfl)
    clear hf
    go_enter Tryd.func23, Tryd.ntmps23
    go_wp2_with fail
    refine F.out.mono ?_
    rintro e w1 ⟨rfl, b1⟩
    go_wp2
    go_ret
    rw [Hw.out]
    exact RetA.mk rfl rfl cap0 RdA.nil b1
  | true =>
    rw [hf] at F
    have Hw : Hid (withinE l n = l.takeWhile (fun e => decide (e.beg + e.size ≤ n))) := Lib.hid (by unfold withinE; rw [hf]; rfl)
    have Hb := Lib.hid (fun i hi => fine_bounds hf i hi)
    clear hf
    go_enter Tryd.func23, Tryd.ntmps23
    go_wp2_with fail
    refine F.out.mono ?_
    rintro e w1 ⟨rfl, b1⟩
    have hO := ((Own.start w.heap.size w1).rw_nil 30 7)
    go_wp2
    go_loopg [5, 13] l.length (fun k v u wr => ∃ (i : Nat) (A' : Option Addr) (c' : Nat), k + i = l.length ∧ u = .int .i64 i ∧ v = .slice A' i c' ∧ Below w.heap.size w wr ∧ Own w.heap.size (Rw 30 7 (.slice A' i c') i (flat enL (l.take i)) * Emp) wr ∧ Hid (∀ x ∈ l.take i, decide (x.beg + x.size ≤ n) = true))
    case atStart => exact ⟨0, none, 0, by omega, rfl, rfl, b1, hO, Lib.hid (by simp)⟩
    case round =>
      clear b1 hO
      obtain ⟨i, A', c', hk, rfl, rfl, hb, ho, hq⟩ := hrel
      by_cases hlt : (i : Int) < (l.length : Int)
      · obtain ⟨j, rfl⟩ : ∃ j, gk = j + 1 := ⟨gk - 1, by omega⟩
        have hil : i < l.length := by omega
        have i0' : (0 : Int) ≤ (i : Int) := by omega
        obtain ⟨b, off, rfl, q, d⟩ := Hr.out _ hb i hil
        have hbd := Hb.out i hil
        have Hk := Lib.hid hk
        have Hsn := Lib.hid (List.take_succ_eq_append_getElem hil)
        have Hcut : Hid (¬ l[i].beg + l[i].size ≤ n → withinE l n = l.take i) := Lib.hid (fun h => by
          rw [Hw.out, takeWhile_take _ l i hq.out, List.drop_eq_getElem_cons hil, List.takeWhile_cons, if_neg (by simpa using h), List.append_nil])
        have Hq2 : Hid (l[i].beg + l[i].size ≤ n → ∀ x ∈ l.take (i + 1), decide (x.beg + x.size ≤ n) = true) := Lib.hid (fun h x hx => by
          rw [Hsn.out] at hx
          rcases List.mem_append.1 hx with hx | hx
          · exact hq.out x hx
          · rw [List.mem_singleton.1 hx]; exact decide_eq_true h)
        have hlen : (l.take i).length = i := by rw [List.length_take]; omega
        have Hlen := Lib.hid hlen
        clear hk hq hlen
        generalize l[i] = x at *
        obtain ⟨path, kind, mode, time, tgt, beg, size⟩ := x
        obtain ⟨d0, d1, d2, d3, d4, d5, d6⟩ := RdA.cells7 d
        simp only at d0 d1 d2 d3 d4 d5 d6 hbd Hcut Hq2
        obtain ⟨z1, z2, z3, z4⟩ := hbd
        clear d
        have o1 := (ho.new hb.size 30 #[.string (str path), .int .i64 kind, .int .i64 mode, .int .i64 time, .string (str tgt), .int .i64 beg, .int .i64 size]).cast (sep_left_comm _ _ _)
        have hb1 := hb.alloc hb.size (.cells #[.string (str path), .int .i64 kind, .int .i64 mode, .int .i64 time, .string (str tgt), .int .i64 beg, .int .i64 size] 30)
        by_cases hgt : n < beg + size
        · have hd := Lib.hid (Hcut.out (by omega))
          clear Hcut Hq2 ho hb
          have o4 := (o1.cast (sep_left_comm _ _ _)).drop
          go_wp2
          go_ret
          rw [hd.out]
          exact RetA.mk rfl Hlen.out.symm o4.cap (o4.rdA enL_len Hlen.out.symm) hb1
        · have Hq3 := Lib.hid (Hq2.out (by omega))
          have hle : beg + size ≤ n := by omega
          obtain ⟨g2, cap2, w2, hrun, o2, b2⟩ := row_append (P := Tryd.prog) hb1.size Tryd.underlying25 Hi0.out.1 Hi0.out.2.1 Hi0.out.2.2.1 Hi0.out.2.2.2 rfl (by omega) o1 #[.string (str path), .int .i64 kind, .int .i64 mode, .int .i64 time, .string (str tgt), .int .i64 beg, .int .i64 size] rfl
            (by intro u hu; simp at hu; rcases hu with rfl | rfl | rfl | rfl | rfl | rfl | rfl <;> rfl) (by omega) (by omega)
          rw [World.size_alloc] at hrun
          have Hrun := Lib.hid hrun
          have hb2 := hb1.trans b2
          have o3 := (o2.cast (sep_left_comm _ _ _)).drop
          clear hrun o1 hb1 hb ho b2 o2 Hcut Hq2
          go_wp2_with (at_builtin; refine wpList_append_at rfl (.tmp 25) (.tmp 27) 25 rfl rfl rfl Hrun.out ?_)
          go_roundg j
          case measure => omega
          case rel => exact ⟨i + 1, some ⟨g2, 0, none⟩, cap2, by have := Hk.out; omega, rfl, rfl, hb2, by rw [Hsn.out, flat_snoc]; exact o3, Hq3⟩
      · obtain rfl : i = l.length := by omega
        have hd : withinE l n = l := by
          have := takeWhile_take _ l l.length hq.out
          rw [Hw.out, this]; simp
        have Hd := Lib.hid hd
        rw [List.take_length] at ho
        clear hd hq
        go_wp2
        go_ret
        rw [Hd.out]
        exact RetA.mk rfl rfl ho.cap (ho.rdA enL_len rfl) hb
end Go.Proofs.YtfppancidgamjaaDoor

/- The walk over the reference's Why. -/
namespace Go.Proofs.YtfppancidgamjaaDoor
set_option linter.unusedVariables false
set_option linter.unusedSimpArgs false
open Go.RowKit

def sumM (l : List En) : Int := (l.map fun e => max e.size 0).sum
theorem sumM_snoc (l : List En) (e : En) : sumM (l ++ [e]) = sumM l + max e.size 0 := by simp [sumM]
theorem sumM_nonneg (l : List En) : 0 ≤ sumM l := by
  induction l with
  | nil => simp [sumM]
  | cons e l ih => simp only [sumM, List.map_cons, List.sum_cons] at ih ⊢; omega
theorem sumM_le {l : List En} {k : Int} (hk : 0 ≤ k) (h : ∀ e ∈ l, e.size ≤ k) : sumM l ≤ k * l.length := by
  induction l with
  | nil => simp [sumM]
  | cons e l ih =>
    have h1 := h e List.mem_cons_self
    have h2 := ih (fun x hx => h x (List.mem_cons_of_mem _ hx))
    simp only [sumM, List.map_cons, List.sum_cons, List.length_cons] at h2 ⊢
    have : k * ((l.length + 1 : Nat) : Int) = k * l.length + k := by rw [Int.natCast_add, Int.mul_add]; simp
    rw [this]; omega
theorem sumC_min (l : List En) : sumC l = min (sumM l) 4194305 := by
  have : ∀ n, ∀ l : List En, l.length = n → sumC l = min (sumM l) 4194305 := by
    intro n
    induction n with
    | zero => intro l hl; obtain rfl := List.eq_nil_of_length_eq_zero hl; decide
    | succ n ih =>
      intro l hl
      rcases List.eq_nil_or_concat l with rfl | ⟨m, e, rfl⟩
      · simp at hl
      · rw [List.concat_eq_append] at hl ⊢
        have h1 := ih m (by simp at hl; omega)
        have h2 := sumM_nonneg m
        rw [sumC_snoc, sumM_snoc, h1]
        unfold capA
        omega
  exact this _ l rfl
theorem why_path {l : List En} {i : Nat} (hi : i < l.length) (h : okPath l[i].path = false) : whyE l = 9 := by
  rw [whyE_eq, if_pos]
  rw [List.all_eq_false]
  exact ⟨l[i].path, List.mem_map_of_mem (List.getElem_mem hi), by rw [h]; simp⟩
theorem all_path {l : List En} (h : ∀ i (hi : i < l.length), okPath l[i].path = true) : (l.map (·.path)).all okPath = true := by
  rw [List.all_eq_true]
  intro x hx
  obtain ⟨e, he, rfl⟩ := List.mem_map.1 hx
  obtain ⟨i, hi, rfl⟩ := List.mem_iff_getElem.1 he
  exact h i hi
theorem why_twice {l : List En} (h : ∀ i (hi : i < l.length), okPath l[i].path = true) {i : Nat} (hi : i + 1 < l.length) (hc : ¬ cmpL (psplit l[i].path) (psplit l[i + 1].path) < 0) : whyE l = 10 := by
  rw [whyE_eq, if_neg (by rw [all_path h]; simp), if_pos]
  cases hs : sortedB (l.map (·.path)) with
  | false => rfl
  | true =>
    have := ((sortedB_iff _).1 hs (i + 1) (by simpa using hi)).2 (by omega)
    simp at this hc
    omega
theorem why_rest {l : List En} (h : ∀ i (hi : i < l.length), okPath l[i].path = true) (h2 : ∀ i (hi : i + 1 < l.length), cmpL (psplit l[i].path) (psplit l[i + 1].path) < 0) :
    whyE l = if 1024 < l.length ∨ 4194304 < sumM l ∨ ¬ (∀ e ∈ l, e.size ≤ 1048576) then 7 else if ¬ (∀ e ∈ l, plainP e) then 1 else 0 := by
  have hs : sortedB (l.map (·.path)) = true := by
    rw [sortedB_iff]
    intro i hi
    have hi' : i < l.length := by simpa using hi
    refine ⟨by simpa using h i hi', fun h0 => ?_⟩
    obtain ⟨j, rfl⟩ : ∃ j, i = j + 1 := ⟨i - 1, by omega⟩
    simpa using h2 j hi'
  rw [whyE_eq, if_neg (by rw [all_path h]; simp), if_neg (by rw [hs]; simp), sumC_min]
  have e1 : (1024 < l.length ∨ 4194304 < min (sumM l) 4194305 ∨ l.all (fun e => decide (e.size ≤ 1048576)) = false) ↔ (1024 < l.length ∨ 4194304 < sumM l ∨ ¬ (∀ e ∈ l, e.size ≤ 1048576)) := by
    have : l.all (fun e => decide (e.size ≤ 1048576)) = false ↔ ¬ (∀ e ∈ l, e.size ≤ 1048576) := by
      rw [← Bool.not_eq_true, List.all_eq_true]; simp
    rw [this]
    constructor
    · rintro (h | h | h)
      · exact .inl h
      · exact .inr (.inl (by omega))
      · exact .inr (.inr h)
    · rintro (h | h | h)
      · exact .inl h
      · exact .inr (.inl (by omega))
      · exact .inr (.inr h)
  have e2 : l.all plainB = false ↔ ¬ (∀ e ∈ l, plainP e) := by
    rw [← Bool.not_eq_true, List.all_eq_true]
    simp [plainB]
  simp only [e1, e2]

set_option maxRecDepth 100000 in
set_option maxHeartbeats 12800000 in
theorem refwhy_any (A : Option Addr) (c : Nat) (l : List En) (hl : l.length ≤ 4294967296) (ok : ∀ e ∈ l, e.ok) (hx : ∀ e ∈ l, e.path.length ≤ 4294967280) (w : World) (hr : RdA 7 enL w A l) :
    Calls Tryd.prog 16 #[.slice A l.length c] w fun e w' => e = .returned (.int .i64 (whyE l)) ∧ Below w.heap.size w w' := by
  have hb := Below.refl w.heap.size w
  have Hr := Lib.hid (fun w1 (b : Below w.heap.size w w1) => hr.below b)
  have Ok := Lib.hid ok
  have Hx := Lib.hid hx
  have n1 : (l.length : Int) ≤ 4294967296 := by omega
  clear hr ok hx
  go_enter Tryd.func16, Tryd.ntmps16
  go_wp2
  go_loopg [3] l.length (fun k v wr => ∃ i : Nat, k + i = l.length ∧ v = .int .i64 i ∧ Below w.heap.size w wr ∧ Hid (∀ j (h : j < l.length), j < i → okPath l[j].path = true))
  case atStart => exact ⟨0, by omega, rfl, hb, Lib.hid (fun j h h2 => absurd h2 (Nat.not_lt_zero _))⟩
  case round =>
    clear hb
    obtain ⟨i, hk, rfl, hb, hp⟩ := hrel
    by_cases hlt : (i : Int) < (l.length : Int)
    · obtain ⟨j, rfl⟩ : ∃ j, gk = j + 1 := ⟨gk - 1, by omega⟩
      have hil : i < l.length := by omega
      have i0' : (0 : Int) ≤ (i : Int) := by omega
      obtain ⟨b, off, rfl, q, d⟩ := Hr.out _ hb i hil
      have Hk := Lib.hid hk
      have d0 := d 0 _ rfl
      rw [Nat.add_zero] at d0
      have R := Lib.hid (fun w1 => refright_any (str l[i].path) (by have := Hx.out _ (List.getElem_mem hil); show l[i].path.length ≤ _; omega) w1)
      rw [data_str] at R
      have hbad : Hid (okPath l[i].path = false → whyE l = 9) := Lib.hid (fun h => why_path hil h)
      have hp2 : Hid (okPath l[i].path = true → ∀ j (h : j < l.length), j < i + 1 → okPath l[j].path = true) := Lib.hid (fun h j hj hlt => by
        by_cases e : j = i
        · subst e; exact h
        · exact hp.out j hj (by omega))
      clear hk hp d
      generalize okPath l[i].path = y at *
      generalize l[i].path = x at *
      go_wp2_with fail
      refine (R.out _).mono ?_
      rintro e wz ⟨rfl, b⟩
      replace hb := hb.trans (b.mono hb.size)
      clear b d0
      cases y with
      | false =>
        go_wp2
        go_ret
        exact ⟨by rw [hbad.out (by trivial)]; rfl, hb⟩
      | true =>
        go_wp2
        go_roundg j
        case measure => omega
        case rel => exact ⟨i + 1, by have := Hk.out; omega, rfl, hb, Lib.hid (hp2.out (by trivial))⟩
    · have Hp := Lib.hid (fun j (h : j < l.length) => hp.out j h (by omega))
      have Ht := Lib.hid (fun (i : Nat) (hi : i + 1 < l.length) hc => why_twice Hp.out (i := i) hi hc)
      have Hrest := Lib.hid (fun h2 => why_rest (l := l) Hp.out h2)
      clear hk hp
      go_wp2
      go_loopg [4] l.length (fun k v wr => ∃ i : Nat, k + i = l.length ∧ v = .int .i64 ((i : Int) + 1) ∧ Below w.heap.size w wr ∧ Hid (∀ j (h : j + 1 < l.length), j < i → cmpL (psplit l[j].path) (psplit l[j + 1].path) < 0))
      case atStart => exact ⟨0, by omega, rfl, hb, Lib.hid (fun j h h2 => absurd h2 (Nat.not_lt_zero _))⟩
      case round =>
        clear hb hlt
        obtain ⟨i, hk, rfl, hb, hp⟩ := hrel
        by_cases hlt : (i : Int) + 1 < (l.length : Int)
        · obtain ⟨j, rfl⟩ : ∃ j, gk = j + 1 := ⟨gk - 1, by omega⟩
          have hil : i + 1 < l.length := by omega
          have hil0 : i < l.length := by omega
          have i0' : (0 : Int) ≤ (i : Int) := by omega
          have i1' : (0 : Int) ≤ (i : Int) + 1 := by omega
          have i2' : (i : Int) < (l.length : Int) := by omega
          obtain ⟨b, off, rfl, q, d⟩ := Hr.out _ hb i hil0
          obtain ⟨b', off', hA, q', d'⟩ := Hr.out _ hb (i + 1) hil
          injection hA with hA
          injection hA with hA1 hA2
          subst hA1; subst hA2
          have Hk := Lib.hid hk
          clear hk
          have d0 := d 0 _ rfl
          have d1 := d' 0 _ rfl
          rw [Nat.add_zero] at d0 d1
          have R := Lib.hid (fun w1 => refcompare_any (str l[i].path) (str l[i + 1].path) (Hx.out _ (List.getElem_mem hil0)) (Hx.out _ (List.getElem_mem hil)) w1)
          rw [data_str, data_str] at R
          have hbad : Hid (¬ cmpL (psplit l[i].path) (psplit l[i + 1].path) < 0 → whyE l = 10) := Lib.hid (fun h => Ht.out i hil (by omega))
          have hp2 : Hid (cmpL (psplit l[i].path) (psplit l[i + 1].path) < 0 → ∀ j (h : j + 1 < l.length), j < i + 1 → cmpL (psplit l[j].path) (psplit l[j + 1].path) < 0) := Lib.hid (fun h j hj hlt => by
            by_cases e : j = i
            · subst e; exact h
            · exact hp.out j hj (by omega))
          have D0 := Lib.hid d0
          have D1 := Lib.hid d1
          clear hp d d' d0 d1
          generalize cmpL (psplit l[i].path) (psplit l[i + 1].path) = r at *
          generalize l[i].path = x at *
          generalize l[i + 1].path = y at *
          go_wp2
          refine wp_region_mix (Below wr.heap.size wr) [0, 1, 2, 3, 4, 5, 6, 7, 8, 9, 10] [11, 12] mixed (by kernel_rfl) rfl ((Below.refl _ _).drew) ?_
          simp only [List.filterMap_cons, List.filterMap_nil, List.getElem?_toArray, List.getElem?_cons_succ, List.getElem?_cons_zero]
          repeat (first
            | (refine held_val ?_ rfl (fun w1 hS => ?_) ?_
               rotate_left
               · (have k1 := (hS.cell (p := ⟨b, off + i * 7, none⟩) q).trans D0.out; have k2 := (hS.cell (p := ⟨b, off + (i + 1) * 7, none⟩) q').trans D1.out
                  go_simp
                  try go_bits
                  rfl)
               simp only [Act.put, List.setIfInBounds_toArray, List.set_cons_zero, List.set_cons_succ])
            | (refine held_off rfl ?_
               simp only [Act.put, List.setIfInBounds_toArray, List.set_cons_zero, List.set_cons_succ]))
          refine held_nil (fun w4 hS => ?_)
          replace hb := hb.trans (hS.mono hb.size)
          clear hS
          go_wp2_with fail
          refine (R.out _).mono ?_
          rintro e wz ⟨rfl, b⟩
          replace hb := hb.trans (b.mono hb.size)
          clear b
          by_cases hr0 : 0 ≤ r
          · have Hz := Lib.hid (hbad.out (by omega))
            go_wp2
            go_ret
            exact ⟨by rw [Hz.out]; rfl, hb⟩
          · have Hz := Lib.hid (hp2.out (by omega))
            go_wp2
            go_roundg j
            case measure => omega
            case rel => exact ⟨i + 1, by have := Hk.out; omega, rfl, hb, Hz⟩
        · have Hz := Lib.hid (Hrest.out (fun j h => hp.out j h (by omega)))
          clear hk hp Ht Hrest Hp
          by_cases hl2 : (1024 : Int) < (l.length : Int)
          · have Hf : Hid (whyE l = 7) := Lib.hid (by rw [Hz.out, if_pos (.inl (by omega))])
            go_wp2
            go_ret
            exact ⟨by rw [Hf.out]; rfl, hb⟩
          have hl3 : (l.length : Int) ≤ 1024 := by omega
          have Hbig : Hid (∀ e ∈ l, ¬ e.size ≤ 1048576 → whyE l = 7) := Lib.hid (fun e he h => by rw [Hz.out, if_pos (.inr (.inr (fun h' => h (h' e he))))])
          have Hsum : Hid (4194304 < sumM l → whyE l = 7) := Lib.hid (fun h => by rw [Hz.out, if_pos (.inr (.inl h))])
          have Hrest : Hid ((∀ e ∈ l, e.size ≤ 1048576) → sumM l ≤ 4194304 → whyE l = if ¬ (∀ e ∈ l, plainP e) then 1 else 0) := Lib.hid (fun h1 h2 => by rw [Hz.out, if_neg (by rintro (h | h | h); omega; omega; exact h h1)])
          clear Hz hl2
          go_wp2
          go_loopg [5, 6] l.length (fun k a v wr => ∃ i : Nat, k + i = l.length ∧ v = .int .i64 i ∧ a = .int .i64 (sumM (l.take i)) ∧ Below w.heap.size w wr ∧ Hid (∀ e ∈ l.take i, e.size ≤ 1048576))
          case atStart => exact ⟨0, by omega, rfl, rfl, hb, Lib.hid (by simp)⟩
          case round =>
            clear hb hlt
            obtain ⟨i, hk, rfl, rfl, hb, hp⟩ := hrel
            have hs0 := sumM_nonneg (l.take i)
            have hs1 := sumM_le (by omega) hp.out
            have hs2 : (l.take i).length ≤ 1024 := by rw [List.length_take]; omega
            have hs3 : sumM (l.take i) ≤ 1073741824 := by omega
            clear hs1 hs2
            by_cases hlt : (i : Int) < (l.length : Int)
            · obtain ⟨j, rfl⟩ : ∃ j, gk = j + 1 := ⟨gk - 1, by omega⟩
              have hil : i < l.length := by omega
              have i0' : (0 : Int) ≤ (i : Int) := by omega
              obtain ⟨b, off, rfl, q, d⟩ := Hr.out _ hb i hil
              have Hk := Lib.hid hk
              have d6 := d 6 _ rfl
              have Hsn := Lib.hid (List.take_succ_eq_append_getElem hil)
              have hbad := Lib.hid (Hbig.out _ (List.getElem_mem hil))
              have hz := (Ok.out _ (List.getElem_mem hil)).size
              have Hss : Hid (sumM (l.take (i + 1)) = sumM (l.take i) + max l[i].size 0) := Lib.hid (by rw [Hsn.out, sumM_snoc])
              have hp2 : Hid (l[i].size ≤ 1048576 → ∀ e ∈ l.take (i + 1), e.size ≤ 1048576) := Lib.hid (fun h e he => by
                rw [Hsn.out] at he
                rcases List.mem_append.1 he with he | he
                · exact hp.out e he
                · rw [List.mem_singleton.1 he]; exact h)
              clear hk hp d
              generalize sumM (l.take i) = a at *
              generalize l[i] = x at *
              obtain ⟨path, kind, mode, time, tgt, beg, size⟩ := x
              simp only [okI] at d6 hbad hp2 hz Hss
              obtain ⟨z0, z1⟩ := hz
              by_cases hgt : 1048576 < size
              · have Hz := Lib.hid (hbad.out (by omega))
                go_wp2
                go_ret
                exact ⟨by rw [Hz.out]; rfl, hb⟩
              · have Hz := Lib.hid (hp2.out (by omega))
                go_wp2
                go_roundg j
                case measure => omega
                case rel => exact ⟨i + 1, by have := Hk.out; omega, rfl, congrArg (Value.int .i64) (by rw [Hss.out]), hb, Hz⟩
            · obtain rfl : i = l.length := by omega
              rw [List.take_length] at hp hs0 hs3
              rw [List.take_length]
              have HR := Lib.hid (Hrest.out hp.out)
              clear hk Hbig Hrest
              generalize sumM l = S at *
              by_cases hgt : 4194304 < S
              · have Hz := Lib.hid (Hsum.out hgt)
                go_wp2
                go_ret
                exact ⟨by rw [Hz.out]; rfl, hb⟩
              · have Hz := Lib.hid (HR.out (by omega))
                clear HR Hsum
                go_wp2
                go_loopg [7] l.length (fun k v wr => ∃ i : Nat, k + i = l.length ∧ v = .int .i64 i ∧ Below w.heap.size w wr ∧ Hid (∀ e ∈ l.take i, plainP e))
                case atStart => exact ⟨0, by omega, rfl, hb, Lib.hid (by simp)⟩
                case round =>
                  clear hb hlt hgt hs0 hs3
                  obtain ⟨i, hk, rfl, hb, hq⟩ := hrel
                  by_cases hlt : (i : Int) < (l.length : Int)
                  · obtain ⟨j, rfl⟩ : ∃ j, gk = j + 1 := ⟨gk - 1, by omega⟩
                    have hil : i < l.length := by omega
                    have i0' : (0 : Int) ≤ (i : Int) := by omega
                    obtain ⟨b, off, rfl, q, d⟩ := Hr.out _ hb i hil
                    have Hk := Lib.hid hk
                    have Hsn := Lib.hid (List.take_succ_eq_append_getElem hil)
                    have hbad : Hid (¬ plainP l[i] → whyE l = 1) := Lib.hid (fun h => by rw [Hz.out, if_pos (fun h' => h (h' _ (List.getElem_mem hil)))])
                    have hq2 : Hid (plainP l[i] → ∀ e ∈ l.take (i + 1), plainP e) := Lib.hid (fun h e he => by
                      rw [Hsn.out] at he
                      rcases List.mem_append.1 he with he | he
                      · exact hq.out e he
                      · rw [List.mem_singleton.1 he]; exact h)
                    have hsz := hp.out _ (List.getElem_mem hil)
                    have hok := Ok.out _ (List.getElem_mem hil)
                    have hz := hok.size
                    have hzk := hok.kind
                    have htl := hok.tgt
                    clear hk hq hok Hz Hsn
                    generalize l[i] = x at *
                    obtain ⟨path, kind, mode, time, tgt, beg, size⟩ := x
                    obtain ⟨d0, d1, d2, d3, d4, d5, d6⟩ := RdA.cells7 d
                    simp only [okI] at d0 d1 d2 d3 d4 d5 d6 hbad hq2 hsz hz hzk htl
                    have Hpl : Hid (plainP ⟨path, kind, mode, time, tgt, beg, size⟩ ↔ (0 ≤ mode ∧ mode < 4096 ∧ 0 ≤ time ∧ time ≤ 1099511627775 ∧ 0 ≤ size ∧ size ≤ 1048576 ∧ ((kind = 1 ∧ tgt.length = 0) ∨ (kind = 2 ∧ tgt.length = 0 ∧ size = 0) ∨ (kind = 3 ∧ 1 ≤ tgt.length ∧ tgt.length ≤ 256 ∧ size = 0)))) := Lib.hid (by unfold plainP; simp only [List.length_eq_zero_iff])
                    obtain ⟨z0, z1⟩ := hz
                    obtain ⟨z2, z3⟩ := hzk
                    clear d
                    have hb1 := hb.alloc hb.size (.cells #[.string (str path), .int .i64 kind, .int .i64 mode, .int .i64 time, .string (str tgt), .int .i64 beg, .int .i64 size] 63)
                    have tl : ((str tgt).size : Int) ≤ 9223372036854775807 := by show (tgt.length : Int) ≤ _; omega
                    have Tl := Lib.hid (show (str tgt).size = tgt.length from rfl)
                    clear htl hb
                    by_cases m1 : mode < 0
                    · go_wp2
                      go_ret
                      exact ⟨by rw [hbad.out (by rw [Hpl.out]; have := Tl.out; omega)]; rfl, hb1⟩
                    by_cases m2 : 4095 < mode
                    · go_wp2
                      go_ret
                      exact ⟨by rw [hbad.out (by rw [Hpl.out]; have := Tl.out; omega)]; rfl, hb1⟩
                    by_cases m3 : time < 0
                    · go_wp2
                      go_ret
                      exact ⟨by rw [hbad.out (by rw [Hpl.out]; have := Tl.out; omega)]; rfl, hb1⟩
                    by_cases m4 : 1099511627775 < time
                    · go_wp2
                      go_ret
                      exact ⟨by rw [hbad.out (by rw [Hpl.out]; have := Tl.out; omega)]; rfl, hb1⟩
                    by_cases m5 : size < 0
                    · go_wp2
                      go_ret
                      exact ⟨by rw [hbad.out (by rw [Hpl.out]; have := Tl.out; omega)]; rfl, hb1⟩
                    by_cases m6 : kind < 1
                    · go_wp2
                      go_ret
                      exact ⟨by rw [hbad.out (by rw [Hpl.out]; have := Tl.out; omega)]; rfl, hb1⟩
                    by_cases m7 : 3 < kind
                    · go_wp2
                      go_ret
                      exact ⟨by rw [hbad.out (by rw [Hpl.out]; have := Tl.out; omega)]; rfl, hb1⟩
                    by_cases ht0 : tgt = []
                    · subst ht0
                      have e0 : str [] = ByteArray.empty := rfl
                      rw [e0] at d4 hb1 tl
                      have Tl : Hid (([] : List UInt8).length = 0) := Lib.hid rfl
                      by_cases k1 : kind = 1
                      · subst k1
                        go_wp2
                        go_roundg j
                        case measure => omega
                        case rel => exact ⟨i + 1, by have := Hk.out; omega, rfl, hb1, Lib.hid (hq2.out (by rw [Hpl.out]; have := Tl.out; first | omega | (simp; omega) | simp))⟩
                      have k1' : (kind == 1) = false := by simpa using k1
                      by_cases s0 : 0 < size
                      · go_wp2
                        go_ret
                        exact ⟨by rw [hbad.out (by rw [Hpl.out]; have := Tl.out; omega)]; rfl, hb1⟩
                      by_cases k2 : kind = 2
                      · subst k2
                        go_wp2
                        go_roundg j
                        case measure => omega
                        case rel => exact ⟨i + 1, by have := Hk.out; omega, rfl, hb1, Lib.hid (hq2.out (by rw [Hpl.out]; have := Tl.out; first | omega | (simp; omega) | simp))⟩
                      obtain rfl : kind = 3 := by omega
                      go_wp2
                      go_ret
                      exact ⟨by rw [hbad.out (by rw [Hpl.out]; have := Tl.out; omega)]; rfl, hb1⟩
                    have hp0 : 0 < tgt.length := List.length_pos_iff.2 ht0
                    have s1 : 0 < (str tgt).size := hp0
                    have s1i : (0 : Int) < ((str tgt).size : Int) := by omega
                    have s1' : (((str tgt).size : Int) == 0) = false := by rw [beq_eq_false_iff_ne]; omega
                    have s1n : ((str tgt).size == 0) = false := by rw [beq_eq_false_iff_ne]; omega
                    by_cases k1 : kind = 1
                    · subst k1
                      go_wp2
                      go_ret
                      exact ⟨by rw [hbad.out (by rw [Hpl.out]; have := Tl.out; omega)]; rfl, hb1⟩
                    have k1' : (kind == 1) = false := by simpa using k1
                    by_cases s0 : 0 < size
                    · go_wp2
                      go_ret
                      exact ⟨by rw [hbad.out (by rw [Hpl.out]; have := Tl.out; omega)]; rfl, hb1⟩
                    by_cases k2 : kind = 2
                    · subst k2
                      go_wp2
                      go_ret
                      exact ⟨by rw [hbad.out (by rw [Hpl.out]; have := Tl.out; omega)]; rfl, hb1⟩
                    obtain rfl : kind = 3 := by omega
                    by_cases s2 : (256 : Int) < ((str tgt).size : Int)
                    · go_wp2
                      go_ret
                      exact ⟨by rw [hbad.out (by rw [Hpl.out]; have := Tl.out; omega)]; rfl, hb1⟩
                    go_wp2
                    go_roundg j
                    case measure => omega
                    case rel => exact ⟨i + 1, by have := Hk.out; omega, rfl, hb1, Lib.hid (hq2.out (by rw [Hpl.out]; have := Tl.out; first | omega | (simp; omega) | simp))⟩
                  · have Hw : Hid (whyE l = 0) := Lib.hid (by rw [Hz.out, if_neg]; intro h; apply h; have h2 := hq.out; rw [List.take_of_length_le (by omega)] at h2; exact h2)
                    go_wp2
                    go_ret
                    exact ⟨by rw [Hw.out]; rfl, hb⟩
end Go.Proofs.YtfppancidgamjaaDoor

/- When two entries are the same: the runs of == and != on them. -/
namespace Go.Proofs.YtfppancidgamjaaDoor
set_option linter.unusedVariables false
set_option linter.unusedSimpArgs false
open Go.RowKit

theorem str_inj {a b : List UInt8} : (str a).toList == (str b).toList ↔ a = b := by
  rw [ByteArray.toList_eq, ByteArray.toList_eq, beq_iff_eq]; exact Iff.rfl
theorem str_beq (a b : List UInt8) : ((str a).toList == (str b).toList) = decide (a = b) := by
  rw [Bool.eq_iff_iff, decide_eq_true_iff]; exact str_inj
set_option maxRecDepth 100000 in
theorem eqEn (a b : En) (w : World) : (Op.equalIn 10000 30 (.agg (enL a).toArray) (.agg (enL b).toArray)).run Tryd.prog w = .ok (decide (a = b)) w := by
  obtain ⟨p1, k1, m1, t1, g1, b1, s1⟩ := a
  obtain ⟨p2, k2, m2, t2, g2, b2, s2⟩ := b
  simp only [enL]
  have u3 := Tryd.underlying3
  have u9 := Tryd.underlying9
  have hS : Tryd.prog.underlying 30 = some (.struct (Tryd.prog.fieldsOf 30)) := by kernel_rfl
  have hp : Tryd.prog.stoodInHeld 30 = false := by kernel_rfl
  rw [show (10000 : Nat) = 9999 + 1 from rfl, run_equalIn_agg w 9999 30 _ _ hS hp]
  simp only [Program.fieldsOf, Tryd.underlying30]
  go_simp
  have hs : ∀ a b : List UInt8, (str a).toList = (str b).toList ↔ a = b := fun a b => by rw [ByteArray.toList_eq, ByteArray.toList_eq]; exact Iff.rfl
  simp only [hs]
  by_cases h1 : p1 = p2
  · by_cases h2 : k1 = k2
    · by_cases h3 : m1 = m2
      · by_cases h4 : t1 = t2
        · by_cases h5 : g1 = g2
          · by_cases h6 : b1 = b2
            · by_cases h7 : s1 = s2
              · simp [h1, h2, h3, h4, h5, h6, h7]
              · simp [h1, h2, h3, h4, h5, h6, h7]
            · simp [h1, h2, h3, h4, h5, h6]
          · simp [h1, h2, h3, h4, h5]
        · simp [h1, h2, h3, h4]
      · simp [h1, h2, h3]
    · simp [h1, h2]
  · simp [h1]
set_option maxRecDepth 100000 in
theorem eqEnR (a b : En) (w : World) : (Op.equalIn 10000 63 (.agg (enL a).toArray) (.agg (enL b).toArray)).run Tryd.prog w = .ok (decide (a = b)) w := by
  obtain ⟨p1, k1, m1, t1, g1, b1, s1⟩ := a
  obtain ⟨p2, k2, m2, t2, g2, b2, s2⟩ := b
  simp only [enL]
  have u3 := Tryd.underlying3
  have u9 := Tryd.underlying9
  have hS : Tryd.prog.underlying 63 = some (.struct (Tryd.prog.fieldsOf 63)) := by kernel_rfl
  have hp : Tryd.prog.stoodInHeld 63 = false := by kernel_rfl
  rw [show (10000 : Nat) = 9999 + 1 from rfl, run_equalIn_agg w 9999 63 _ _ hS hp]
  simp only [Program.fieldsOf, Tryd.underlying63]
  go_simp
  have hs : ∀ a b : List UInt8, (str a).toList = (str b).toList ↔ a = b := fun a b => by rw [ByteArray.toList_eq, ByteArray.toList_eq]; exact Iff.rfl
  simp only [hs]
  by_cases h1 : p1 = p2
  · by_cases h2 : k1 = k2
    · by_cases h3 : m1 = m2
      · by_cases h4 : t1 = t2
        · by_cases h5 : g1 = g2
          · by_cases h6 : b1 = b2
            · by_cases h7 : s1 = s2
              · simp [h1, h2, h3, h4, h5, h6, h7]
              · simp [h1, h2, h3, h4, h5, h6, h7]
            · simp [h1, h2, h3, h4, h5, h6]
          · simp [h1, h2, h3, h4, h5]
        · simp [h1, h2, h3, h4]
      · simp [h1, h2, h3]
    · simp [h1, h2]
  · simp [h1]
theorem guardEn : Tryd.prog.eqGuardType Tryd.prog.depth 30 = false := by kernel_rfl
theorem guardEnR : Tryd.prog.eqGuardType Tryd.prog.depth 63 = false := by kernel_rfl
theorem neqEnR (a b : En) (w : World) : (binOp .neq 63 (.agg (enL a).toArray) (.agg (enL b).toArray)).run Tryd.prog w = .ok (.bool (!decide (a = b))) w := by
  rw [run_neq_struct, eqEnR]; rfl
theorem neqEn (a b : En) (w : World) : (binOp .neq 30 (.agg (enL a).toArray) (.agg (enL b).toArray)).run Tryd.prog w = .ok (.bool (!decide (a = b))) w := by
  rw [run_neq_struct, eqEn]; rfl
theorem eqlEn (a b : En) (w : World) : (binOp .eql 30 (.agg (enL a).toArray) (.agg (enL b).toArray)).run Tryd.prog w = .ok (.bool (decide (a = b))) w := by
  rw [run_eql_struct, eqEn]; rfl
end Go.Proofs.YtfppancidgamjaaDoor

/- The walks over the reference's Fine, Total and Within. -/
namespace Go.Proofs.YtfppancidgamjaaDoor
set_option linter.unusedVariables false
set_option linter.unusedSimpArgs false
open Go.RowKit

set_option maxRecDepth 100000 in
set_option maxHeartbeats 1600000 in
theorem reffine_any (A : Option Addr) (c : Nat) (l : List En) (hl : l.length ≤ 4294967296) (ok : ∀ e ∈ l, e.ok) (hx : ∀ e ∈ l, e.path.length ≤ 4294967280) (w : World) (hr : RdA 7 enL w A l) :
    Calls Tryd.prog 27 #[.slice A l.length c] w fun e w' => e = .returned (.bool (fineB l)) ∧ Below w.heap.size w w' := by
  have W1 := Lib.hid (refwhy_any A c l hl ok hx w hr)
  have Hr := Lib.hid (fun w1 (b : Below w.heap.size w w1) => hr.below b)
  have n1 : (l.length : Int) ≤ 4294967296 := by omega
  have Hf := Lib.hid (show fineB l = ((whyE l == 0) && begB 0 l) from rfl)
  clear hr
  by_cases h0 : whyE l = 0
  · obtain ⟨_, hl2, _, hp⟩ := whyE_zero h0
    have Hp := Lib.hid hp
    have Hl2 := Lib.hid hl2
    have Hyes : Hid ((∀ i (h : i < l.length), l[i].beg = sumS (l.take i)) → fineB l = true) := Lib.hid (fun h => by
      rw [Hf.out, h0]; simp only [beq_self_eq_true, Bool.true_and]; rw [begB_index]; intro i hi; rw [Int.zero_add]; exact h i hi)
    have Hno : Hid (∀ i (h : i < l.length), ¬ l[i].beg = sumS (l.take i) → fineB l = false) := Lib.hid (fun i h hne => by
      cases hff : fineB l
      · rfl
      · exact absurd ((fineB_true hff).2 i h) hne)
    rw [h0] at W1
    clear h0 hl2 hp Hf
    go_enter Tryd.func27, Tryd.ntmps27
    go_wp2_with fail
    refine W1.out.mono ?_
    rintro e w1 ⟨rfl, b1⟩
    go_wp2
    go_loopg [3, 4] l.length (fun k a v wr => ∃ i : Nat, k + i = l.length ∧ v = .int .i64 i ∧ a = .int .i64 (sumS (l.take i)) ∧ Below w.heap.size w wr ∧ Hid (∀ j (h : j < l.length), j < i → l[j].beg = sumS (l.take j)))
    case atStart => exact ⟨0, by omega, rfl, rfl, b1, Lib.hid (fun j h h2 => absurd h2 (Nat.not_lt_zero _))⟩
    case round =>
      clear b1
      obtain ⟨i, hk, rfl, rfl, hb, hp⟩ := hrel
      by_cases hlt : (i : Int) < (l.length : Int)
      · obtain ⟨j, rfl⟩ : ∃ j, gk = j + 1 := ⟨gk - 1, by omega⟩
        have hil : i < l.length := by omega
        have i0' : (0 : Int) ≤ (i : Int) := by omega
        obtain ⟨b, off, rfl, q, d⟩ := Hr.out _ hb i hil
        have Hk := Lib.hid hk
        clear hk
        have hs1 := sumS_range (l := l.take i) (fun e he => Hp.out e (List.mem_of_mem_take he))
        have hlt2 : (l.take i).length ≤ 1024 := by rw [List.length_take]; have := Hl2.out; omega
        have a0 := hs1.1
        have a1 : sumS (l.take i) ≤ 1073741824 := by omega
        obtain ⟨_, _, _, _, z0, z1, _⟩ := Hp.out _ (List.getElem_mem hil)
        have Hsn : Hid (sumS (l.take (i + 1)) = sumS (l.take i) + l[i].size) := Lib.hid (by rw [List.take_succ_eq_append_getElem hil, sumS_snoc])
        have Hbad := Lib.hid (Hno.out i hil)
        have Hp2 : Hid (l[i].beg = sumS (l.take i) → ∀ j (h : j < l.length), j < i + 1 → l[j].beg = sumS (l.take j)) := Lib.hid (fun h j hj hlt => by
          by_cases e : j = i
          · subst e; exact h
          · exact hp.out j hj (by omega))
        clear hs1 hlt2 hp
        generalize sumS (l.take i) = a at *
        generalize l[i] = x at *
        obtain ⟨path, kind, mode, time, tgt, beg, size⟩ := x
        obtain ⟨d0, d1, d2, d3, d4, d5, d6⟩ := RdA.cells7 d
        simp only at d0 d1 d2 d3 d4 d5 d6 Hbad Hp2 z0 z1 Hsn
        clear d
        by_cases he : beg = a
        · subst he
          go_wp2
          go_roundg j
          case measure => omega
          case rel => exact ⟨i + 1, by have := Hk.out; omega, rfl, congrArg (Value.int .i64) Hsn.out.symm, hb, Lib.hid (Hp2.out (by trivial))⟩
        · have he' : (beg == a) = false := by simpa using he
          go_wp2
          go_ret
          exact ⟨by rw [Hbad.out he]; rfl, hb⟩
      · have Hy := Lib.hid (Hyes.out (fun j h => hp.out j h (by omega)))
        go_wp2
        go_ret
        exact ⟨by rw [Hy.out]; rfl, hb⟩
  · have h0' : (whyE l == 0) = false := by simpa using h0
    have Hf2 : Hid (fineB l = false) := Lib.hid (by rw [Hf.out, h0']; rfl)
    clear Hf h0
    generalize whyE l = z at *
    have h0 : ¬ z = 0 := by simpa using h0'
    go_enter Tryd.func27, Tryd.ntmps27
    go_wp2_with fail
    refine W1.out.mono ?_
    rintro e w1 ⟨rfl, b1⟩
    go_wp2
    go_ret
    exact ⟨by rw [Hf2.out]; rfl, b1⟩

set_option maxRecDepth 100000 in
set_option maxHeartbeats 1600000 in
theorem reftotal_any (A : Option Addr) (c : Nat) (l : List En) (hl : l.length ≤ 4294967296) (ok : ∀ e ∈ l, e.ok) (hx : ∀ e ∈ l, e.path.length ≤ 4294967280) (w : World) (hr : RdA 7 enL w A l) :
    Calls Tryd.prog 28 #[.slice A l.length c] w fun e w' => e = .returned (.int .i64 (totalE l)) ∧ Below w.heap.size w w' := by
  have F := Lib.hid (fun w1 hr => reffine_any A c l hl ok hx w1 hr)
  have Hr := Lib.hid (fun w1 (b : Below w.heap.size w w1) => hr.below b)
  have hb := Below.refl w.heap.size w
  have n1 : (l.length : Int) ≤ 4294967296 := by omega
  clear hr
  cases hf : fineB l with
  | false =>
    rw [hf] at F
    have Ht : Hid (totalE l = 0) := Lib.hid (by unfold totalE; rw [hf]; rfl)
    clear hf
    by_cases h0 : (0 : Int) < (l.length : Int)
    · have h0n : 0 < l.length := by omega
      go_enter Tryd.func28, Tryd.ntmps28
      go_wp2
      go_loopg [3, 4] 1 (fun k a v wr => v = .int .i64 0 ∧ a = .int .i64 0 ∧ wr = w)
      case atStart => exact ⟨rfl, rfl, rfl⟩
      case round =>
        obtain ⟨rfl, rfl, rfl⟩ := hrel
        go_wp2_with fail
        refine (F.out _ (Hr.out _ hb)).mono ?_
        rintro e wz ⟨rfl, b⟩
        replace hb := hb.trans (b.mono hb.size)
        clear b
        go_wp2
        go_ret
        exact ⟨by rw [Ht.out]; rfl, hb⟩
    · have h0n : ¬ 0 < l.length := by omega
      go_enter Tryd.func28, Tryd.ntmps28
      go_wp2
      go_loopg [3, 4] 1 (fun k a v wr => v = .int .i64 0 ∧ a = .int .i64 0 ∧ wr = w)
      case atStart => exact ⟨rfl, rfl, rfl⟩
      case round =>
        obtain ⟨rfl, rfl, rfl⟩ := hrel
        go_wp2
        go_ret
        exact ⟨by rw [Ht.out]; rfl, hb⟩
  | true =>
    rw [hf] at F
    have Ht : Hid (totalE l = sumS l) := Lib.hid (by unfold totalE; rw [if_pos hf])
    obtain ⟨_, hl2, _, hp⟩ := whyE_zero (fineB_true hf).1
    have Hp := Lib.hid hp
    have Hl2 := Lib.hid hl2
    clear hp hl2 hf
    go_enter Tryd.func28, Tryd.ntmps28
    go_wp2
    go_loopg [3, 4] l.length (fun k a v wr => ∃ i : Nat, k + i = l.length ∧ v = .int .i64 i ∧ a = .int .i64 (sumS (l.take i)) ∧ Below w.heap.size w wr)
    case atStart => exact ⟨0, by omega, rfl, rfl, hb⟩
    case round =>
      clear hb
      obtain ⟨i, hk, rfl, rfl, hb⟩ := hrel
      by_cases hlt : (i : Int) < (l.length : Int)
      · obtain ⟨j, rfl⟩ : ∃ j, gk = j + 1 := ⟨gk - 1, by omega⟩
        have hil : i < l.length := by omega
        have i0' : (0 : Int) ≤ (i : Int) := by omega
        have Hk := Lib.hid hk
        clear hk
        have hs1 := sumS_range (l := l.take i) (fun e he => Hp.out e (List.mem_of_mem_take he))
        have hlt2 : (l.take i).length ≤ 1024 := by rw [List.length_take]; have := Hl2.out; omega
        have a0 := hs1.1
        have a1 : sumS (l.take i) ≤ 1073741824 := by omega
        obtain ⟨_, _, _, _, z0, z1, _⟩ := Hp.out _ (List.getElem_mem hil)
        have Hsn : Hid (sumS (l.take (i + 1)) = sumS (l.take i) + l[i].size) := Lib.hid (by rw [List.take_succ_eq_append_getElem hil, sumS_snoc])
        have Hd := Lib.hid (fun w1 b => Hr.out w1 b i hil)
        clear hs1 hlt2
        generalize sumS (l.take i) = a at *
        generalize l[i] = x at *
        obtain ⟨path, kind, mode, time, tgt, beg, size⟩ := x
        simp only at z0 z1 Hsn
        go_wp2_with fail
        refine (F.out _ (Hr.out _ hb)).mono ?_
        rintro e wz ⟨rfl, b⟩
        replace hb := hb.trans (b.mono hb.size)
        clear b
        obtain ⟨b, off, rfl, q, d⟩ := Hd.out _ hb
        obtain ⟨d0, d1, d2, d3, d4, d5, d6⟩ := RdA.cells7 d
        simp only at d0 d1 d2 d3 d4 d5 d6
        clear d
        go_wp2
        go_roundg j
        case measure => omega
        case rel => exact ⟨i + 1, by have := Hk.out; omega, rfl, congrArg (Value.int .i64) Hsn.out.symm, hb⟩
      · obtain rfl : i = l.length := by omega
        rw [List.take_length]
        go_wp2
        go_ret
        exact ⟨by rw [Ht.out]; rfl, hb⟩

theorem within_len {l : List En} {n : Int} {i : Nat} (hf : fineB l = true) (hi : ∀ x ∈ l.take i, decide (x.beg + x.size ≤ n) = true) (h : ∀ hlt : i < l.length, ¬ l[i].beg + l[i].size ≤ n) (hle : i ≤ l.length) : (withinE l n).length = i := by
  unfold withinE
  rw [if_pos hf, takeWhile_take _ l i hi, List.length_append, List.length_take]
  by_cases hlt : i < l.length
  · rw [List.drop_eq_getElem_cons hlt, List.takeWhile_cons, if_neg (by simpa using h hlt)]
    simp; omega
  · rw [List.drop_eq_nil_of_le (by omega)]; simp; omega

set_option maxRecDepth 100000 in
set_option maxHeartbeats 3200000 in
theorem refwithin_any (A : Option Addr) (c : Nat) (l : List En) (hl : l.length ≤ 4294967296) (ok : ∀ e ∈ l, e.ok) (hx : ∀ e ∈ l, e.path.length ≤ 4294967280) (n : Int) (w : World) (hr : RdA 7 enL w A l) :
    Calls Tryd.prog 26 #[.slice A l.length c, .int .i64 n] w fun e w' => e = .returned (.int .i64 ((withinE l n).length : Int)) ∧ Below w.heap.size w w' := by
  have F := Lib.hid (fun w1 hr => reffine_any A c l hl ok hx w1 hr)
  have Hr := Lib.hid (fun w1 (b : Below w.heap.size w w1) => hr.below b)
  have hb := Below.refl w.heap.size w
  have n1 : (l.length : Int) ≤ 4294967296 := by omega
  clear hr
  cases hf : fineB l with
  | false =>
    rw [hf] at F
    have Ht : Hid (((withinE l n).length : Int) = 0) := Lib.hid (by unfold withinE; rw [hf]; rfl)
    clear hf
    go_enter Tryd.func26, Tryd.ntmps26
    go_wp2
    go_loopg [5] 1 (fun k v wr => v = .int .i64 0 ∧ wr = w)
    case atStart => exact ⟨rfl, rfl⟩
    case round =>
      obtain ⟨rfl, rfl⟩ := hrel
      go_wp2
      refine wp_region_mix (fun W => Below wr.heap.size wr W) [0, 1, 2, 3, 4, 5, 6, 7, 8, 9, 10, 11, 12, 13, 14, 15, 16, 17, 18, 19, 20, 21, 22] [] mixed (by kernel_rfl) rfl ((Below.refl _ _).drew) ?_
      simp only [List.filterMap_cons, List.filterMap_nil, List.getElem?_toArray, List.getElem?_cons_succ, List.getElem?_cons_zero]
      repeat (first
        | (refine held_val ?_ rfl (fun w1 hS => ?_) ?_
           rotate_left
           · (skip
              go_simp
              try go_bits
              rfl)
           simp only [Act.put, List.setIfInBounds_toArray, List.set_cons_zero, List.set_cons_succ])
        | (refine held_off rfl ?_
           simp only [Act.put, List.setIfInBounds_toArray, List.set_cons_zero, List.set_cons_succ]))
      refine held_call 27 #[.slice A l.length c] (.bool false) rfl (fun w1 hS => by go_simp) (fun w1 hS => (F.out w1 (Hr.out _ (hb.trans hS))).mono ?_) ?_
      · rintro e w2 ⟨rfl, b2⟩
        exact ⟨rfl, hS.trans (b2.mono hS.size)⟩
      simp only [Act.put, List.setIfInBounds_toArray, List.set_cons_zero, List.set_cons_succ]
      repeat (first
        | (refine held_val ?_ rfl (fun w1 hS => ?_) ?_
           rotate_left
           · (skip
              go_simp
              try go_bits
              rfl)
           simp only [Act.put, List.setIfInBounds_toArray, List.set_cons_zero, List.set_cons_succ])
        | (refine held_off rfl ?_
           simp only [Act.put, List.setIfInBounds_toArray, List.set_cons_zero, List.set_cons_succ]))
      refine held_nil (fun w4 hS => ?_)
      replace hb := hb.trans (hS.mono hb.size)
      go_wp2
      go_ret
      exact ⟨by rw [Ht.out]; rfl, hb⟩
  | true =>
    rw [hf] at F
    have Hlen : Hid (∀ i, (∀ x ∈ l.take i, decide (x.beg + x.size ≤ n) = true) → (∀ hlt : i < l.length, ¬ l[i].beg + l[i].size ≤ n) → i ≤ l.length → (withinE l n).length = i) := Lib.hid (fun i h1 h2 h3 => within_len hf h1 h2 h3)
    have Hb := Lib.hid (fun i hi => fine_bounds hf i hi)
    clear hf
    go_enter Tryd.func26, Tryd.ntmps26
    go_wp2
    go_loopg [5] l.length (fun k v wr => ∃ i : Nat, k + i = l.length ∧ v = .int .i64 i ∧ Below w.heap.size w wr ∧ Hid (∀ x ∈ l.take i, decide (x.beg + x.size ≤ n) = true))
    case atStart => exact ⟨0, by omega, rfl, hb, Lib.hid (by simp)⟩
    case round =>
      clear hb
      obtain ⟨i, hk, rfl, hb, hq⟩ := hrel
      have i0' : (0 : Int) ≤ (i : Int) := by omega
      by_cases hlt : (i : Int) < (l.length : Int)
      · obtain ⟨j, rfl⟩ : ∃ j, gk = j + 1 := ⟨gk - 1, by omega⟩
        have hil : i < l.length := by omega
        have Hk := Lib.hid hk
        clear hk
        obtain ⟨b, off, rfl, q, d⟩ := Hr.out _ hb i hil
        obtain ⟨z0, z1, z2, z3⟩ := Hb.out i hil
        have Hyes : Hid (l[i].beg + l[i].size ≤ n → ∀ x ∈ l.take (i + 1), decide (x.beg + x.size ≤ n) = true) := Lib.hid (fun h x hx => by
          rw [List.take_succ_eq_append_getElem hil] at hx
          rcases List.mem_append.1 hx with hx | hx
          · exact hq.out x hx
          · rw [List.mem_singleton.1 hx]; exact decide_eq_true h)
        have Hno : Hid (¬ l[i].beg + l[i].size ≤ n → (withinE l n).length = i) := Lib.hid (fun h => Hlen.out i hq.out (fun _ => by omega) (by omega))
        clear hq
        generalize l[i] = x at *
        obtain ⟨path, kind, mode, time, tgt, beg, size⟩ := x
        obtain ⟨d0, d1, d2, d3, d4, d5, d6⟩ := RdA.cells7 d
        simp only at d5 d6 z0 z1 z2 z3 Hyes Hno
        have D5 := Lib.hid d5
        have D6 := Lib.hid d6
        clear d d0 d1 d2 d3 d4 d5 d6
        by_cases hle : beg + size ≤ n
        · have Hy := Lib.hid (Hyes.out hle)
          clear Hyes Hno
          go_wp2
          refine wp_region_mix (fun W => Below wr.heap.size wr W) [0, 1, 2, 3, 4, 5, 6, 7, 8, 9, 10, 11, 12, 13, 14, 15, 16, 17, 18, 19, 20, 21, 22] [] mixed (by kernel_rfl) rfl ((Below.refl _ _).drew) ?_
          simp only [List.filterMap_cons, List.filterMap_nil, List.getElem?_toArray, List.getElem?_cons_succ, List.getElem?_cons_zero]
          repeat (first
            | (refine held_val ?_ rfl (fun w1 hS => ?_) ?_
               rotate_left
               · (skip
                  go_simp
                  try go_bits
                  rfl)
               simp only [Act.put, List.setIfInBounds_toArray, List.set_cons_zero, List.set_cons_succ])
            | (refine held_off rfl ?_
               simp only [Act.put, List.setIfInBounds_toArray, List.set_cons_zero, List.set_cons_succ]))
          refine held_call 27 #[.slice (some ⟨b, off, none⟩) l.length c] (.bool true) rfl (fun w1 hS => by go_simp) (fun w1 hS => (F.out w1 (Hr.out _ (hb.trans (hS.mono hb.size)))).mono ?_) ?_
          · rintro e w2 ⟨rfl, b2⟩
            exact ⟨rfl, hS.trans (b2.mono hS.size)⟩
          simp only [Act.put, List.setIfInBounds_toArray, List.set_cons_zero, List.set_cons_succ]
          repeat (first
            | (refine held_val ?_ rfl (fun w1 hS => ?_) ?_
               rotate_left
               · (have k5 := (hS.cell (p := ⟨b, off + i * 7 + 5, none⟩) q).trans D5.out; have k6 := (hS.cell (p := ⟨b, off + i * 7 + 6, none⟩) q).trans D6.out
                  go_simp
                  try go_bits
                  rfl)
               simp only [Act.put, List.setIfInBounds_toArray, List.set_cons_zero, List.set_cons_succ])
            | (refine held_off rfl ?_
               simp only [Act.put, List.setIfInBounds_toArray, List.set_cons_zero, List.set_cons_succ]))
          refine held_nil (fun w4 hS => ?_)
          replace hb := hb.trans (hS.mono hb.size)
          go_wp2
          go_roundg j
          case measure => omega
          case rel => exact ⟨i + 1, by have := Hk.out; omega, rfl, hb, Hy⟩
        · have Hn := Lib.hid (Hno.out hle)
          have hgt : n < beg + size := by omega
          clear Hyes Hno
          go_wp2
          refine wp_region_mix (fun W => Below wr.heap.size wr W) [0, 1, 2, 3, 4, 5, 6, 7, 8, 9, 10, 11, 12, 13, 14, 15, 16, 17, 18, 19, 20, 21, 22] [] mixed (by kernel_rfl) rfl ((Below.refl _ _).drew) ?_
          simp only [List.filterMap_cons, List.filterMap_nil, List.getElem?_toArray, List.getElem?_cons_succ, List.getElem?_cons_zero]
          repeat (first
            | (refine held_val ?_ rfl (fun w1 hS => ?_) ?_
               rotate_left
               · (skip
                  go_simp
                  try go_bits
                  rfl)
               simp only [Act.put, List.setIfInBounds_toArray, List.set_cons_zero, List.set_cons_succ])
            | (refine held_off rfl ?_
               simp only [Act.put, List.setIfInBounds_toArray, List.set_cons_zero, List.set_cons_succ]))
          refine held_call 27 #[.slice (some ⟨b, off, none⟩) l.length c] (.bool true) rfl (fun w1 hS => by go_simp) (fun w1 hS => (F.out w1 (Hr.out _ (hb.trans (hS.mono hb.size)))).mono ?_) ?_
          · rintro e w2 ⟨rfl, b2⟩
            exact ⟨rfl, hS.trans (b2.mono hS.size)⟩
          simp only [Act.put, List.setIfInBounds_toArray, List.set_cons_zero, List.set_cons_succ]
          repeat (first
            | (refine held_val ?_ rfl (fun w1 hS => ?_) ?_
               rotate_left
               · (have k5 := (hS.cell (p := ⟨b, off + i * 7 + 5, none⟩) q).trans D5.out; have k6 := (hS.cell (p := ⟨b, off + i * 7 + 6, none⟩) q).trans D6.out
                  go_simp
                  try go_bits
                  rfl)
               simp only [Act.put, List.setIfInBounds_toArray, List.set_cons_zero, List.set_cons_succ])
            | (refine held_off rfl ?_
               simp only [Act.put, List.setIfInBounds_toArray, List.set_cons_zero, List.set_cons_succ]))
          refine held_nil (fun w4 hS => ?_)
          replace hb := hb.trans (hS.mono hb.size)
          go_wp2
          go_ret
          exact ⟨by rw [Hn.out]; rfl, hb⟩
      · obtain rfl : i = l.length := by omega
        have Hn := Lib.hid (Hlen.out l.length hq.out (fun h => absurd h (Nat.lt_irrefl _)) (Nat.le_refl _))
        go_wp2
        refine wp_region_mix (fun W => Below wr.heap.size wr W) [0, 1, 2, 3, 4, 5, 6, 7, 8, 9, 10, 11, 12, 13, 14, 15, 16, 17, 18, 19, 20, 21, 22] [] mixed (by kernel_rfl) rfl ((Below.refl _ _).drew) ?_
        simp only [List.filterMap_cons, List.filterMap_nil, List.getElem?_toArray, List.getElem?_cons_succ, List.getElem?_cons_zero]
        repeat (first
          | (refine held_val ?_ rfl (fun w1 hS => ?_) ?_
             rotate_left
             · (skip
                go_simp
                try go_bits
                rfl)
             simp only [Act.put, List.setIfInBounds_toArray, List.set_cons_zero, List.set_cons_succ])
          | (refine held_off rfl ?_
             simp only [Act.put, List.setIfInBounds_toArray, List.set_cons_zero, List.set_cons_succ]))
        refine held_call 27 #[.slice A l.length c] (.bool true) rfl (fun w1 hS => by go_simp) (fun w1 hS => (F.out w1 (Hr.out _ (hb.trans (hS.mono hb.size)))).mono ?_) ?_
        · rintro e w2 ⟨rfl, b2⟩
          exact ⟨rfl, hS.trans (b2.mono hS.size)⟩
        simp only [Act.put, List.setIfInBounds_toArray, List.set_cons_zero, List.set_cons_succ]
        repeat (first
          | (refine held_val ?_ rfl (fun w1 hS => ?_) ?_
             rotate_left
             · (skip
                go_simp
                try go_bits
                rfl)
             simp only [Act.put, List.setIfInBounds_toArray, List.set_cons_zero, List.set_cons_succ])
          | (refine held_off rfl ?_
             simp only [Act.put, List.setIfInBounds_toArray, List.set_cons_zero, List.set_cons_succ]))
        refine held_nil (fun w4 hS => ?_)
        replace hb := hb.trans (hS.mono hb.size)
        go_wp2
        go_ret
        exact ⟨by rw [Hn.out]; rfl, hb⟩
end Go.Proofs.YtfppancidgamjaaDoor

/- The walks over what the laws on entries use: Few, Short, given, told, same. -/
namespace Go.Proofs.YtfppancidgamjaaDoor
set_option linter.unusedVariables false
set_option linter.unusedSimpArgs false
open Go.RowKit

/-- What every file of Go is, however great. -/
structure Fi.wide (f : Fi) : Prop where
  path : f.path.length ≤ 9223372036854775807
  kind : okI f.kind
  mode : okI f.mode
  time : okI f.time
  tgt : f.tgt.length ≤ 9223372036854775807
  data : f.data.length ≤ 9223372036854775807
def smallF (f : Fi) : Prop := f.path.length ≤ 300 ∧ f.tgt.length ≤ 300 ∧ f.data.length ≤ 200
instance (f : Fi) : Decidable (smallF f) := by unfold smallF; infer_instance
def fewP (l : List Fi) : Prop := l.length ≤ 12 ∧ ∀ f ∈ l, smallF f
instance (l : List Fi) : Decidable (fewP l) := by unfold fewP; infer_instance
theorem few_ok {l : List (Fi × Value)} (hw : ∀ x ∈ l, x.1.wide) (h : fewP (l.map (·.1))) : l.length ≤ 12 ∧ dataLen (l.map (·.1)) ≤ 2400 ∧ ∀ x ∈ l, x.1.ok := by
  refine ⟨by simpa using h.1, ?_, fun x hx => ?_⟩
  · have : ∀ m : List Fi, (∀ f ∈ m, smallF f) → dataLen m ≤ 200 * m.length := by
      intro m
      induction m with
      | nil => intro _; simp [dataLen]
      | cons f m ih =>
        intro hm
        have h1 := ih (fun g hg => hm g (List.mem_cons_of_mem _ hg))
        have h2 := (hm f List.mem_cons_self).2.2
        have h3 : dataLen (f :: m) = f.data.length + dataLen m := rfl
        rw [h3, List.length_cons]; omega
    have h1 := this _ h.2
    have h2 := h.1
    omega
  · have h1 := hw x hx
    have h2 := h.2 x.1 (List.mem_map_of_mem hx)
    exact ⟨by have := h2.1; omega, h1.kind, h1.mode, h1.time, h1.tgt⟩
theorem cells6 {w : World} {b off : Nat} {i : Nat} {x : Fi × Value} (d : ∀ j u, (fiL x)[j]? = some u → w.cell? ⟨b, off + i * 6 + j, none⟩ = some u) :
    w.cell? ⟨b, off + i * 6, none⟩ = some (.string (str x.1.path)) ∧ w.cell? ⟨b, off + i * 6 + 1, none⟩ = some (.int .i64 x.1.kind) ∧ w.cell? ⟨b, off + i * 6 + 2, none⟩ = some (.int .i64 x.1.mode) ∧ w.cell? ⟨b, off + i * 6 + 3, none⟩ = some (.int .i64 x.1.time) ∧
    w.cell? ⟨b, off + i * 6 + 4, none⟩ = some x.2 ∧ w.cell? ⟨b, off + i * 6 + 5, none⟩ = some (.string (str x.1.tgt)) :=
  ⟨d 0 _ rfl, d 1 _ rfl, d 2 _ rfl, d 3 _ rfl, d 4 _ rfl, d 5 _ rfl⟩

set_option maxRecDepth 100000 in
set_option maxHeartbeats 1600000 in
theorem few_any (A : Option Addr) (c : Nat) (l : List (Fi × Value)) (hl : l.length ≤ 9223372036854775807) (hw : ∀ x ∈ l, x.1.wide) (w : World) (hr : RdF w A l) :
    Calls Tryd.prog 11 #[.slice A l.length c] w fun e w' => e = .returned (.bool (decide (fewP (l.map (·.1))))) ∧ w = w' := by
  have Hr := Lib.hid hr
  have Hw := Lib.hid hw
  have n1 : (l.length : Int) ≤ 9223372036854775807 := by omega
  have Hbad : Hid (∀ x ∈ l, ¬ smallF x.1 → decide (fewP (l.map (·.1))) = false) := Lib.hid (fun x hx h => decide_eq_false (fun h' => h (h'.2 _ (List.mem_map_of_mem hx))))
  have Hlong : Hid (12 < l.length → decide (fewP (l.map (·.1))) = false) := Lib.hid (fun h => decide_eq_false (fun h' => by have := h'.1; simp at this; omega))
  have Hgood : Hid (l.length ≤ 12 → (∀ x ∈ l, smallF x.1) → decide (fewP (l.map (·.1))) = true) := Lib.hid (fun h1 h2 => decide_eq_true ⟨by simpa using h1, fun f hf => by obtain ⟨x, hx, rfl⟩ := List.mem_map.1 hf; exact h2 x hx⟩)
  clear hr hw
  go_enter Tryd.func11, Tryd.ntmps11
  go_wp2
  go_loopg [3] l.length (fun k v wr => ∃ i : Nat, k + i = l.length ∧ i ≤ 13 ∧ v = .int .i64 i ∧ wr = w ∧ Hid (∀ x ∈ l.take i, smallF x.1))
  case atStart => exact ⟨0, by omega, by omega, rfl, rfl, Lib.hid (by simp)⟩
  case round =>
    obtain ⟨i, hk, hi13, rfl, rfl, hq⟩ := hrel
    have i0' : (0 : Int) ≤ (i : Int) := by omega
    by_cases hlt : (i : Int) < (l.length : Int)
    · by_cases h12 : (i : Int) ≤ 12
      · obtain ⟨j, rfl⟩ : ∃ j, gk = j + 1 := ⟨gk - 1, by omega⟩
        have hil : i < l.length := by omega
        obtain ⟨b, off, rfl, q, d⟩ := Hr.out.1 i hil
        obtain ⟨Ad, cd, hdv⟩ := Hr.out.get i hil
        have Hk := Lib.hid hk
        have hwi := Hw.out _ (List.getElem_mem hil)
        have w1 := hwi.path
        have w2 := hwi.tgt
        have w3 := hwi.data
        have Hb := Lib.hid (Hbad.out _ (List.getElem_mem hil))
        have Hq2 : Hid (smallF l[i].1 → ∀ x ∈ l.take (i + 1), smallF x.1) := Lib.hid (fun h x hx => by
          rw [List.take_succ_eq_append_getElem hil] at hx
          rcases List.mem_append.1 hx with hx | hx
          · exact hq.out x hx
          · rw [List.mem_singleton.1 hx]; exact h)
        clear hk hq hwi
        generalize l[i] = x at *
        obtain ⟨⟨path, kind, mode, time, data, tgt⟩, dv⟩ := x
        obtain ⟨d0, d1, d2, d3, d4, d5⟩ := cells6 d
        simp only at d0 d1 d2 d3 d4 d5 hdv w1 w2 w3 Hb Hq2
        subst hdv
        clear d
        have z1 : ((str path).size : Int) ≤ 9223372036854775807 := by show (path.length : Int) ≤ _; omega
        have z2 : ((str tgt).size : Int) ≤ 9223372036854775807 := by show (tgt.length : Int) ≤ _; omega
        have z3 : (data.length : Int) ≤ 9223372036854775807 := by omega
        have Z := Lib.hid (And.intro (show (str path).size = path.length from rfl) (show (str tgt).size = tgt.length from rfl))
        by_cases s1 : (300 : Int) < ((str path).size : Int)
        · have Hf := Lib.hid (Hb.out (fun h => by have := h.1; have := Z.out; simp only at *; omega))
          go_wp2
          go_ret
          exact ⟨by rw [Hf.out]; rfl, rfl⟩
        by_cases s2 : (300 : Int) < ((str tgt).size : Int)
        · have Hf := Lib.hid (Hb.out (fun h => by have := h.2.1; have := Z.out; simp only at *; omega))
          go_wp2
          go_ret
          exact ⟨by rw [Hf.out]; rfl, rfl⟩
        by_cases s3 : (200 : Int) < (data.length : Int)
        · have Hf := Lib.hid (Hb.out (fun h => by have := h.2.2; simp only at *; omega))
          go_wp2
          go_ret
          exact ⟨by rw [Hf.out]; rfl, rfl⟩
        have Hq3 := Lib.hid (Hq2.out ⟨by have := Z.out; simp only at *; omega, by have := Z.out; simp only at *; omega, by simp only; omega⟩)
        go_wp2
        go_roundg j
        case measure => omega
        case rel => exact ⟨i + 1, by have := Hk.out; omega, by omega, rfl, rfl, Hq3⟩
      · have h12' : (12 : Int) < (l.length : Int) := by omega
        have h12n : ¬ (l.length : Int) ≤ 12 := by omega
        have Hf := Lib.hid (Hlong.out (by omega))
        go_wp2
        go_ret
        exact ⟨by rw [Hf.out]; rfl, rfl⟩
    · by_cases h12 : (l.length : Int) ≤ 12
      · have Hf := Lib.hid (Hgood.out (by omega) (fun x hx => hq.out x (by rw [List.take_of_length_le (by omega)]; exact hx)))
        go_wp2
        go_ret
        exact ⟨by rw [Hf.out]; rfl, rfl⟩
      · have Hf := Lib.hid (Hlong.out (by omega))
        have h12n : decide ((l.length : Int) ≤ 12) = false := by simpa using h12
        go_wp2
        go_ret
        exact ⟨by rw [Hf.out]; rfl, rfl⟩

def shortE (e : En) : Prop := e.path.length ≤ 300 ∧ e.tgt.length ≤ 300 ∧ e.size ≤ 1099511627776 ∧ -1099511627776 ≤ e.size
instance (f : En) : Decidable (shortE f) := by unfold shortE; infer_instance
def shortP (l : List En) : Prop := l.length ≤ 20 ∧ ∀ f ∈ l, shortE f
instance (l : List En) : Decidable (shortP l) := by unfold shortP; infer_instance
set_option maxRecDepth 100000 in
set_option maxHeartbeats 1600000 in
theorem short_any (A : Option Addr) (c : Nat) (l : List En) (hl : l.length ≤ 9223372036854775807) (hw : ∀ x ∈ l, x.ok) (w : World) (hr : RdA 7 enL w A l) :
    Calls Tryd.prog 19 #[.slice A l.length c] w fun e w' => e = .returned (.bool (decide (shortP l))) ∧ w = w' := by
  have Hr := Lib.hid hr
  have Hw := Lib.hid hw
  have n1 : (l.length : Int) ≤ 9223372036854775807 := by omega
  have Hbad : Hid (∀ x ∈ l, ¬ shortE x → decide (shortP l) = false) := Lib.hid (fun x hx h => decide_eq_false (fun h' => h (h'.2 _ hx)))
  have Hlong : Hid (20 < l.length → decide (shortP l) = false) := Lib.hid (fun h => decide_eq_false (fun h' => by have := h'.1; omega))
  have Hgood : Hid (l.length ≤ 20 → (∀ x ∈ l, shortE x) → decide (shortP l) = true) := Lib.hid (fun h1 h2 => decide_eq_true ⟨h1, h2⟩)
  clear hr hw
  go_enter Tryd.func19, Tryd.ntmps19
  go_wp2
  go_loopg [3] l.length (fun k v wr => ∃ i : Nat, k + i = l.length ∧ i ≤ 21 ∧ v = .int .i64 i ∧ wr = w ∧ Hid (∀ x ∈ l.take i, shortE x))
  case atStart => exact ⟨0, by omega, by omega, rfl, rfl, Lib.hid (by simp)⟩
  case round =>
    obtain ⟨i, hk, hi13, rfl, rfl, hq⟩ := hrel
    have i0' : (0 : Int) ≤ (i : Int) := by omega
    by_cases hlt : (i : Int) < (l.length : Int)
    · by_cases h12 : (i : Int) ≤ 20
      · obtain ⟨j, rfl⟩ : ∃ j, gk = j + 1 := ⟨gk - 1, by omega⟩
        have hil : i < l.length := by omega
        obtain ⟨b, off, rfl, q, d⟩ := Hr.out i hil
        have Hk := Lib.hid hk
        have hwi := Hw.out _ (List.getElem_mem hil)
        have w1 := hwi.path
        have w2 := hwi.tgt
        have w3 := hwi.size
        have Hb := Lib.hid (Hbad.out _ (List.getElem_mem hil))
        have Hq2 : Hid (shortE l[i] → ∀ x ∈ l.take (i + 1), shortE x) := Lib.hid (fun h x hx => by
          rw [List.take_succ_eq_append_getElem hil] at hx
          rcases List.mem_append.1 hx with hx | hx
          · exact hq.out x hx
          · rw [List.mem_singleton.1 hx]; exact h)
        clear hk hq hwi
        generalize l[i] = x at *
        obtain ⟨path, kind, mode, time, tgt, beg, size⟩ := x
        obtain ⟨d0, d1, d2, d3, d4, d5, d6⟩ := RdA.cells7 d
        simp only [okI] at d0 d1 d2 d3 d4 d5 d6 w1 w2 w3 Hb Hq2
        obtain ⟨z4, z5⟩ := w3
        clear d
        have z1 : ((str path).size : Int) ≤ 9223372036854775807 := by show (path.length : Int) ≤ _; omega
        have z2 : ((str tgt).size : Int) ≤ 9223372036854775807 := by show (tgt.length : Int) ≤ _; omega
        have Z := Lib.hid (And.intro (show (str path).size = path.length from rfl) (show (str tgt).size = tgt.length from rfl))
        by_cases s1 : (300 : Int) < ((str path).size : Int)
        · have Hf := Lib.hid (Hb.out (fun h => by have := h.1; have := Z.out; simp only at *; omega))
          go_wp2
          go_ret
          exact ⟨by rw [Hf.out]; rfl, rfl⟩
        by_cases s2 : (300 : Int) < ((str tgt).size : Int)
        · have Hf := Lib.hid (Hb.out (fun h => by have := h.2.1; have := Z.out; simp only at *; omega))
          go_wp2
          go_ret
          exact ⟨by rw [Hf.out]; rfl, rfl⟩
        by_cases s3 : 1099511627776 < size
        · have Hf := Lib.hid (Hb.out (fun h => by have := h.2.2.1; simp only at *; omega))
          go_wp2
          go_ret
          exact ⟨by rw [Hf.out]; rfl, rfl⟩
        by_cases s4 : size < -1099511627776
        · have Hf := Lib.hid (Hb.out (fun h => by have := h.2.2.2; simp only at *; omega))
          go_wp2
          go_ret
          exact ⟨by rw [Hf.out]; rfl, rfl⟩
        have Hq3 := Lib.hid (Hq2.out ⟨by have := Z.out; simp only at *; omega, by have := Z.out; simp only at *; omega, by simp only; omega, by simp only; omega⟩)
        go_wp2
        go_roundg j
        case measure => omega
        case rel => exact ⟨i + 1, by have := Hk.out; omega, by omega, rfl, rfl, Hq3⟩
      · have h12' : (20 : Int) < (l.length : Int) := by omega
        have h12n : ¬ (l.length : Int) ≤ 20 := by omega
        have Hf := Lib.hid (Hlong.out (by omega))
        go_wp2
        go_ret
        exact ⟨by rw [Hf.out]; rfl, rfl⟩
    · by_cases h12 : (l.length : Int) ≤ 20
      · have Hf := Lib.hid (Hgood.out (by omega) (fun x hx => hq.out x (by rw [List.take_of_length_le (by omega)]; exact hx)))
        go_wp2
        go_ret
        exact ⟨by rw [Hf.out]; rfl, rfl⟩
      · have Hf := Lib.hid (Hlong.out (by omega))
        have h12n : decide ((l.length : Int) ≤ 20) = false := by simpa using h12
        go_wp2
        go_ret
        exact ⟨by rw [Hf.out]; rfl, rfl⟩
end Go.Proofs.YtfppancidgamjaaDoor

/- Slices of structs that a law is asked for, as its walk wants them. -/
namespace Go.Proofs.YtfppancidgamjaaDoor
set_option linter.unusedVariables false
set_option linter.unusedSimpArgs false
open Go.RowKit Go.Deep Go.ChangeShapes Go.WideShapes

section
variable {H : Type} {enc : TypeId × Value → H} {P : Program} {w : World} {base : Nat} {spare : Nat → Bool} {held : Bool}
theorem open_slice_fieldsE {t e : TypeId} {fs : Array Field} {fuel : Nat} {cs : List Value} {x : DataW H × List MemPlace} (ht : P.underlying t = some (.slice e)) (he : P.underlying e = some (.struct fs))
    (hone : oneCellFields P fs = true) (hC : P.cellsOf e = fs.size) (h : DataW.trod enc P w base spare held fuel t cs = some x) :
    (cs = [.slice none 0 0] ∧ x = (.nil, [])) ∨
    ∃ (a : Addr) (len cap m : Nat), cs = [.slice (some a) len cap] ∧ base ≤ a.block ∧ len ≤ cap ∧ cap ≤ maxLen ∧ m = (if spare a.block then cap else len) ∧
      ∀ i, i < m → ∃ n : Nat, ∀ (j : Nat) (f : Field), fs[j]? = some f → ∃ (v : Value) (y : DataW H × List MemPlace), w.cell? (a.add (i * fs.size + j)) = some v ∧ DataW.trod enc P w base spare held n f.type [v] = some y := by
  rcases open_slice ht h with h0 | ⟨a, len, cap, m, n, D, Pl, hcs, hb, hl, hm, hmm, hx, hi⟩
  · exact .inl h0
  · refine .inr ⟨a, len, cap, m, hcs, hb, hl, hm, hmm, fun i him => ?_⟩
    obtain ⟨cs', hc, ht'⟩ := hi i him
    rw [hC] at hc
    obtain ⟨ys, n', hn', hy, hlen, hyl, hf⟩ := DataW.trod_struct he ht'
    obtain ⟨_, hcl, hat⟩ := World.cells?_some hc
    refine ⟨n', fun j f hj => ?_⟩
    obtain ⟨ho, hk⟩ := hone_of hone j f hj
    have hjl : j < fs.size := (Array.getElem?_eq_some_iff.1 hj).1
    have hcell := hat j hjl
    have hv : cs'[j]? = some (cs'[j]'(by omega)) := List.getElem?_eq_getElem (by omega)
    have h1 := hf j f hj
    rw [ho, hk] at h1
    have hone' : (cs'.drop j).take 1 = [cs'[j]'(by omega)] := by
      rw [List.drop_eq_getElem_cons (by omega)]
      rfl
    rw [hone'] at h1
    have hys : ys[j]? = some (ys[j]'(by omega)) := List.getElem?_eq_getElem (by omega)
    refine ⟨_, _, ?_, h1.trans hys⟩
    rw [← Go.Deep.add_add, hcell, hv]

/-- A slice of structs of one-cell fields that came in, by what each struct's own reading gives. -/
theorem rd_structs {α : Type} [Inhabited α] (cs : α → List Value) (ok : α → Prop) {t e : TypeId} {fs : Array Field} {v : Value} {d : DataW H} {p : List MemPlace} (ht : P.underlying t = some (.slice e)) (he : P.underlying e = some (.struct fs))
    (hone : oneCellFields P fs = true) (hC : P.cellsOf e = fs.size) (hpos : 0 < fs.size)
    (hel : ∀ (g : Nat → Value) (n : Nat), (∀ (j : Nat) (f : Field), fs[j]? = some f → ∃ y, DataW.trod enc P w base spare held n f.type [g j] = some y) → ∃ a, ok a ∧ ∀ j u, (cs a)[j]? = some u → j < fs.size ∧ u = g j)
    (hv : ∃ A n c, v = .slice A n c) (h : DataW.Trod enc P w base spare held t v d p) : ∃ (A : Option Addr) (l : List α) (c : Nat), v = .slice A l.length c ∧ RdA fs.size cs w A l ∧ l.length ≤ c ∧ c ≤ maxLen ∧ ∀ a ∈ l, ok a := by
  obtain ⟨A, n, c, rfl⟩ := hv
  obtain ⟨fuel, hf⟩ := h
  rcases open_slice_fieldsE ht he hone hC hf with ⟨hcs, _⟩ | ⟨a, len, cap, m, hcs, hb, hl, hm, hmm, hi⟩
  · simp [Value.cells] at hcs
    obtain ⟨rfl, rfl, rfl⟩ := hcs
    exact ⟨none, [], 0, rfl, RdA.nil, Nat.le_refl _, by unfold maxLen; omega, by simp⟩
  · simp [Value.cells] at hcs
    obtain ⟨rfl, rfl, rfl⟩ := hcs
    have hlm : n ≤ m := by rw [hmm]; split <;> omega
    by_cases hn : n = 0
    · subst hn
      exact ⟨some a, [], c, rfl, RdA.nil, Nat.zero_le _, hm, by simp⟩
    have hsp : a.spot = none := by
      obtain ⟨n', hfs⟩ := hi 0 (by omega)
      obtain ⟨f, hf0⟩ : ∃ f, fs[0]? = some f := ⟨_, Array.getElem?_eq_getElem hpos⟩
      obtain ⟨v, y, hq, _⟩ := hfs 0 f hf0
      have := World.cell?_spot hq
      simpa [Addr.add] using this
    obtain ⟨b, off, spot⟩ := a
    simp only at hsp
    subst hsp
    have hel2 : ∀ i, i < n → ∃ q : α, ok q ∧ ∀ j u, (cs q)[j]? = some u → w.cell? ⟨b, off + i * fs.size + j, none⟩ = some u := by
      intro i hin
      obtain ⟨n', hfs⟩ := hi i (by omega)
      obtain ⟨q, hq, hcq⟩ := hel (fun j => (w.cell? ((⟨b, off, none⟩ : Addr).add (i * fs.size + j))).getD undef) n' (fun j f hj => by
        obtain ⟨v, y, hc, hy⟩ := hfs j f hj
        exact ⟨y, by rw [hc]; exact hy⟩)
      refine ⟨q, hq, fun j u hu => ?_⟩
      obtain ⟨hj, e⟩ := hcq j u hu
      obtain ⟨v, y, hc, _⟩ := hfs j _ (Array.getElem?_eq_getElem hj)
      rw [hc] at e
      rw [Addr.add_lit] at hc
      rw [Nat.add_assoc, hc, e]
      rfl
    obtain ⟨g, hg⟩ := choose_lt (n := n) (α := α) (p := fun i q => ok q ∧ ∀ j u, (cs q)[j]? = some u → w.cell? ⟨b, off + i * fs.size + j, none⟩ = some u) hel2
    refine ⟨some ⟨b, off, none⟩, (List.range n).map g, c, by simp, fun i hin => ?_, by simpa using hl, hm, ?_⟩
    · have hin' : i < n := by simpa using hin
      refine ⟨b, off, rfl, ?_, fun j u hu => ?_⟩
      · obtain ⟨n', hfs⟩ := hi i (by omega)
        obtain ⟨v, y, hq, _⟩ := hfs 0 _ (Array.getElem?_eq_getElem hpos)
        have := World.block_lt_of_cell? w _ hq
        rwa [add_block] at this
      · simp at hu
        exact (hg i hin').2 j u hu
    · intro x hx
      obtain ⟨i, hir, rfl⟩ := List.mem_map.1 hx
      exact (hg i (List.mem_range.1 hir)).1

theorem wf_ok {z : Int} (h : (Lit.int .i64 z).wf = true) : okI z := by
  have hw := h
  simp [Lit.wf, IntKind.min, IntKind.max, IntKind.signed, IntKind.bits] at hw
  unfold okI; omega
/-- A slice of bytes that came in, one level down. -/
theorem rd_u8s_in {t e : TypeId} {fuel : Nat} {v : Value} {x : DataW H × List MemPlace} (ht : P.underlying t = some (.slice e)) (he : P.underlying e = some (.int .u8)) (hC : P.cellsOf e = 1)
    (h : DataW.trod enc P w base spare held fuel t [v] = some x) : ∃ (A : Option Addr) (l : List UInt8) (c : Nat), v = .slice A l.length c ∧ Rd w v (bytesU l) ∧ l.length ≤ c ∧ c ≤ maxLen := by
  have hv : ∃ A n c, v = .slice A n c := by
    rcases open_slice1 ht hC h with ⟨hcs, _⟩ | ⟨a, len, cap, m, k, V, D, Pl, hcs, _⟩
    · injection hcs with h1; exact ⟨_, _, _, h1⟩
    · injection hcs with h1; exact ⟨_, _, _, h1⟩
  obtain ⟨A, n, c, rfl⟩ := hv
  obtain ⟨A', l, c', hv, hrd, h1, h2, _⟩ := rd_slice1 (fun x : UInt8 => Value.int .u8 (x.toNat : Int)) (fun _ => True) ht hC (fun fuel u y hy => by
    obtain ⟨n, hn, _, hw⟩ := DataW.trod_int he hy
    have hw := hw
    simp [Lit.wf, IntKind.min, IntKind.max, IntKind.signed, IntKind.bits] at hw
    refine ⟨UInt8.ofNat n.toNat, ?_, trivial⟩
    simp at hn
    subst hn
    congr 1
    simp
    omega) ⟨A, n, c, rfl⟩ ⟨fuel, show DataW.trod enc P w base spare held fuel t (Value.slice A n c).cells.toList = some _ from h⟩
  exact ⟨A', l, c', hv, hrd, h1, h2⟩
/-- A slice of entries that came in. -/
theorem rd_ens {t e ti tstr : TypeId} {f0 f1 f2 f3 f4 f5 f6 : Field} {v : Value} {d : DataW H} {p : List MemPlace} (ht : P.underlying t = some (.slice e)) (he : P.underlying e = some (.struct #[f0, f1, f2, f3, f4, f5, f6])) (hone : oneCellFields P #[f0, f1, f2, f3, f4, f5, f6] = true) (hC : P.cellsOf e = 7)
    (hti : P.underlying ti = some (.int .i64)) (hts : P.underlying tstr = some .string) (h0 : f0.type = tstr) (h1 : f1.type = ti) (h2 : f2.type = ti) (h3 : f3.type = ti) (h4 : f4.type = tstr) (h5 : f5.type = ti) (h6 : f6.type = ti)
    (hv : ∃ A n c, v = .slice A n c) (h : DataW.Trod enc P w base spare held t v d p) : ∃ (A : Option Addr) (l : List En) (c : Nat), v = .slice A l.length c ∧ RdA 7 enL w A l ∧ l.length ≤ c ∧ c ≤ maxLen ∧ ∀ a ∈ l, a.ok := by
  refine rd_structs enL En.ok ht he hone hC (of_decide_eq_true rfl) (fun g n hg => ?_) hv h
  have gi : ∀ (j : Nat) (f : Field), (#[f0, f1, f2, f3, f4, f5, f6] : Array Field)[j]? = some f → f.type = ti → ∃ z : Int, g j = .int .i64 z ∧ okI z := by
    intro j f hj hft
    obtain ⟨y, hy⟩ := hg j f hj
    obtain ⟨z, hz, _, hw⟩ := DataW.trod_int (k := .i64) (by rw [hft]; exact hti) hy
    exact ⟨z, by simpa using hz, wf_ok hw⟩
  have gs : ∀ (j : Nat) (f : Field), (#[f0, f1, f2, f3, f4, f5, f6] : Array Field)[j]? = some f → f.type = tstr → ∃ z : List UInt8, g j = .string (str z) ∧ z.length ≤ 9223372036854775807 := by
    intro j f hj hft
    obtain ⟨y, hy⟩ := hg j f hj
    obtain ⟨b, hb, _, hw⟩ := DataW.trod_string (by rw [hft]; exact hts) hy
    refine ⟨b.data.toList, by rw [str_data]; simpa using hb, ?_⟩
    have := hw
    simp [Lit.wf, maxLen] at this
    exact this
  obtain ⟨z0, e0, w0⟩ := gs 0 f0 rfl h0
  obtain ⟨z1, e1, w1⟩ := gi 1 f1 rfl h1
  obtain ⟨z2, e2, w2⟩ := gi 2 f2 rfl h2
  obtain ⟨z3, e3, w3⟩ := gi 3 f3 rfl h3
  obtain ⟨z4, e4, w4⟩ := gs 4 f4 rfl h4
  obtain ⟨z5, e5, w5⟩ := gi 5 f5 rfl h5
  obtain ⟨z6, e6, w6⟩ := gi 6 f6 rfl h6
  refine ⟨⟨z0, z1, z2, z3, z4, z5, z6⟩, ⟨w0, w1, w2, w3, w4, w5, w6⟩, fun j u hu => ?_⟩
  match j, hu with
  | 0, hu => exact ⟨of_decide_eq_true rfl, (Option.some.inj hu).symm.trans e0.symm⟩
  | 1, hu => exact ⟨of_decide_eq_true rfl, (Option.some.inj hu).symm.trans e1.symm⟩
  | 2, hu => exact ⟨of_decide_eq_true rfl, (Option.some.inj hu).symm.trans e2.symm⟩
  | 3, hu => exact ⟨of_decide_eq_true rfl, (Option.some.inj hu).symm.trans e3.symm⟩
  | 4, hu => exact ⟨of_decide_eq_true rfl, (Option.some.inj hu).symm.trans e4.symm⟩
  | 5, hu => exact ⟨of_decide_eq_true rfl, (Option.some.inj hu).symm.trans e5.symm⟩
  | 6, hu => exact ⟨of_decide_eq_true rfl, (Option.some.inj hu).symm.trans e6.symm⟩
  | j + 7, hu => simp [enL] at hu
/-- A slice of files that came in. -/
theorem rd_files {t e ti tstr tb tu : TypeId} {f0 f1 f2 f3 f4 f5 : Field} {v : Value} {d : DataW H} {p : List MemPlace} (ht : P.underlying t = some (.slice e)) (he : P.underlying e = some (.struct #[f0, f1, f2, f3, f4, f5])) (hone : oneCellFields P #[f0, f1, f2, f3, f4, f5] = true) (hC : P.cellsOf e = 6)
    (hti : P.underlying ti = some (.int .i64)) (hts : P.underlying tstr = some .string) (htb : P.underlying tb = some (.slice tu)) (htu : P.underlying tu = some (.int .u8)) (hCu : P.cellsOf tu = 1)
    (h0 : f0.type = tstr) (h1 : f1.type = ti) (h2 : f2.type = ti) (h3 : f3.type = ti) (h4 : f4.type = tb) (h5 : f5.type = tstr)
    (hv : ∃ A n c, v = .slice A n c) (h : DataW.Trod enc P w base spare held t v d p) : ∃ (A : Option Addr) (l : List (Fi × Value)) (c : Nat), v = .slice A l.length c ∧ RdF w A l ∧ l.length ≤ c ∧ c ≤ maxLen ∧ ∀ a ∈ l, a.1.wide := by
  suffices hel : ∀ (g : Nat → Value) (n : Nat), (∀ (j : Nat) (f : Field), (#[f0, f1, f2, f3, f4, f5] : Array Field)[j]? = some f → ∃ y, DataW.trod enc P w base spare held n f.type [g j] = some y) → ∃ a : Fi × Value, (a.1.wide ∧ Rd w a.2 (bytesU a.1.data)) ∧ ∀ j u, (fiL a)[j]? = some u → j < (#[f0, f1, f2, f3, f4, f5] : Array Field).size ∧ u = g j by
    obtain ⟨A, l, c, hv, hr, hl, hc, hok⟩ := rd_structs fiL (fun x => x.1.wide ∧ Rd w x.2 (bytesU x.1.data)) ht he hone hC (of_decide_eq_true rfl) hel hv h
    exact ⟨A, l, c, hv, ⟨hr, fun x hx => (hok x hx).2⟩, hl, hc, fun x hx => (hok x hx).1⟩
  intro g n hg
  have gi : ∀ (j : Nat) (f : Field), (#[f0, f1, f2, f3, f4, f5] : Array Field)[j]? = some f → f.type = ti → ∃ z : Int, g j = .int .i64 z ∧ okI z := by
    intro j f hj hft
    obtain ⟨y, hy⟩ := hg j f hj
    obtain ⟨z, hz, _, hw⟩ := DataW.trod_int (k := .i64) (by rw [hft]; exact hti) hy
    exact ⟨z, by simpa using hz, wf_ok hw⟩
  have gs : ∀ (j : Nat) (f : Field), (#[f0, f1, f2, f3, f4, f5] : Array Field)[j]? = some f → f.type = tstr → ∃ z : List UInt8, g j = .string (str z) ∧ z.length ≤ 9223372036854775807 := by
    intro j f hj hft
    obtain ⟨y, hy⟩ := hg j f hj
    obtain ⟨b, hb, _, hw⟩ := DataW.trod_string (by rw [hft]; exact hts) hy
    refine ⟨b.data.toList, by rw [str_data]; simpa using hb, ?_⟩
    have := hw
    simp [Lit.wf, maxLen] at this
    exact this
  obtain ⟨z0, e0, w0⟩ := gs 0 f0 rfl h0
  obtain ⟨z1, e1, w1⟩ := gi 1 f1 rfl h1
  obtain ⟨z2, e2, w2⟩ := gi 2 f2 rfl h2
  obtain ⟨z3, e3, w3⟩ := gi 3 f3 rfl h3
  obtain ⟨y4, hy4⟩ := hg 4 f4 rfl
  rw [h4] at hy4
  obtain ⟨A4, l4, c4, e4, r4, k4, m4⟩ := rd_u8s_in htb htu hCu hy4
  obtain ⟨z5, e5, w5⟩ := gs 5 f5 rfl h5
  refine ⟨(⟨z0, z1, z2, z3, l4, z5⟩, g 4), ⟨⟨w0, w1, w2, w3, w5, by have : maxLen = 9223372036854775807 := rfl; show l4.length ≤ _; omega⟩, r4⟩, fun j u hu => ?_⟩
  match j, hu with
  | 0, hu => exact ⟨of_decide_eq_true rfl, (Option.some.inj hu).symm.trans e0.symm⟩
  | 1, hu => exact ⟨of_decide_eq_true rfl, (Option.some.inj hu).symm.trans e1.symm⟩
  | 2, hu => exact ⟨of_decide_eq_true rfl, (Option.some.inj hu).symm.trans e2.symm⟩
  | 3, hu => exact ⟨of_decide_eq_true rfl, (Option.some.inj hu).symm.trans e3.symm⟩
  | 4, hu => exact ⟨of_decide_eq_true rfl, (Option.some.inj hu).symm⟩
  | 5, hu => exact ⟨of_decide_eq_true rfl, (Option.some.inj hu).symm.trans e5.symm⟩
  | j + 6, hu => simp [fiL] at hu
/-- A slice of bytes that came in. -/
theorem rd_u8s {t e : TypeId} {v : Value} {d : DataW H} {p : List MemPlace} (ht : P.underlying t = some (.slice e)) (he : P.underlying e = some (.int .u8)) (hC : P.cellsOf e = 1)
    (hv : ∃ A n c, v = .slice A n c) (h : DataW.Trod enc P w base spare held t v d p) : ∃ (A : Option Addr) (l : List UInt8) (c : Nat), v = .slice A l.length c ∧ Rd w v (bytesU l) ∧ l.length ≤ c ∧ c ≤ maxLen := by
  obtain ⟨A, n, c, rfl⟩ := hv
  obtain ⟨fuel, hf⟩ := h
  exact rd_u8s_in ht he hC (show DataW.trod enc P w base spare held fuel t [Value.slice A n c] = some _ from hf)
end
end Go.Proofs.YtfppancidgamjaaDoor

/- Numbers and bytes in a row: plain laws of what is written, and of what is read. -/
namespace Go.Proofs.YtfppancidgamjaaDoor
set_option linter.unusedVariables false
set_option linter.unusedSimpArgs false

/-- A number's bytes. -/
def onum (n : Nat) : List UInt8 := if n < 128 then [UInt8.ofNat n] else UInt8.ofNat (n % 128 + 128) :: onum (n / 128)
termination_by n
decreasing_by omega
theorem onum_small {n : Nat} (h : n < 128) : onum n = [UInt8.ofNat n] := by rw [onum, if_pos h]
theorem onum_big {n : Nat} (h : ¬ n < 128) : onum n = UInt8.ofNat (n % 128 + 128) :: onum (n / 128) := by rw [onum, if_neg h]
def onumI (n : Int) : List UInt8 := onum (if n < 0 ∨ 1099511627775 < n then 0 else n.toNat)
theorem onum_pos (n : Nat) : 1 ≤ (onum n).length := by rw [onum]; split <;> simp
theorem onum_len : ∀ (k n : Nat), n < 128 ^ (k + 1) → (onum n).length ≤ k + 1
  | 0, n, h => by rw [onum_small (by simpa using h)]; simp
  | k + 1, n, h => by
    by_cases hn : n < 128
    · rw [onum_small hn]; simp
    · rw [onum_big hn, List.length_cons]
      have := onum_len k (n / 128) (by rw [Nat.div_lt_iff_lt_mul (by omega)]; rw [Nat.pow_succ] at h; exact h)
      omega
theorem onum_len6 {n : Nat} (h : n ≤ 1099511627775) : (onum n).length ≤ 6 := onum_len 5 n (Nat.lt_of_le_of_lt h (by decide))
theorem onumI_len (n : Int) : (onumI n).length ≤ 6 := by
  unfold onumI
  split
  · rw [onum_small (by omega)]; simp
  · exact onum_len6 (by omega)

/-- What bytes stand for, the lowest first. -/
def lebV : List UInt8 → Nat
  | [] => 0
  | c :: l => c.toNat % 128 + 128 * lebV l
theorem lebV_lt : ∀ l : List UInt8, lebV l < 128 ^ l.length
  | [] => by simp [lebV]
  | c :: l => by
    have h := lebV_lt l
    rw [lebV, List.length_cons, Nat.pow_succ]
    omega
theorem u8_toNat (n : Nat) (h : n < 256) : (UInt8.ofNat n).toNat = n := by simp; omega
theorem lebV_onum : ∀ (k n : Nat), n < 128 ^ (k + 1) → lebV (onum n) = n
  | 0, n, h => by rw [onum_small (by simpa using h), lebV, lebV, u8_toNat _ (by omega)]; simp at h; omega
  | k + 1, n, h => by
    by_cases hn : n < 128
    · rw [onum_small hn, lebV, lebV, u8_toNat _ (by omega)]; omega
    · rw [onum_big hn, lebV, lebV_onum k _ (by rw [Nat.div_lt_iff_lt_mul (by omega)]; rw [Nat.pow_succ] at h; exact h), u8_toNat _ (by omega)]
      omega

/-- The end of the first number: the place of the first byte below 128. -/
def endN : List UInt8 → Option Nat
  | [] => none
  | c :: l => if c.toNat < 128 then some 0 else (endN l).map (· + 1)
theorem endN_lt : ∀ {l : List UInt8} {k : Nat}, endN l = some k → k < l.length
  | [], k, h => by simp [endN] at h
  | c :: l, k, h => by
    unfold endN at h
    split at h
    · injection h with h; subst h; simp
    · obtain ⟨j, hj, rfl⟩ := Option.map_eq_some_iff.1 h
      have := endN_lt hj
      simp; omega
theorem endN_onum (r : List UInt8) : ∀ (n : Nat), endN (onum n ++ r) = some ((onum n).length - 1) := by
  intro n
  induction n using Nat.strongRecOn with
  | _ n ih =>
    by_cases hn : n < 128
    · rw [onum_small hn]; simp [endN]; omega
    · rw [onum_big hn, List.cons_append, endN, if_neg (by rw [u8_toNat _ (by omega)]; omega), ih (n / 128) (by omega)]
      have := onum_pos (n / 128)
      simp; omega

/-- A reader: what is left, and its error. -/
structure OS where
  rest : List UInt8
  err : Int

def readNum (s : OS) (most : Int) : Int × OS :=
  if s.err ≠ 0 then (0, s) else
  match endN s.rest with
  | none => if 6 ≤ s.rest.length then (0, ⟨s.rest, 4⟩) else (0, ⟨s.rest, 2⟩)
  | some k =>
    if 6 ≤ k then (0, ⟨s.rest, 4⟩) else
    if 0 < k ∧ s.rest[k]? = some 0 then (0, ⟨s.rest.drop (k + 1), 4⟩) else
    if most < lebV (s.rest.take (k + 1)) ∨ 1099511627775 < lebV (s.rest.take (k + 1)) then (0, ⟨s.rest.drop (k + 1), 3⟩) else
    (lebV (s.rest.take (k + 1)), ⟨s.rest.drop (k + 1), 0⟩)
def otake (s : OS) (n : Nat) : List UInt8 × OS :=
  if s.err ≠ 0 then ([], s) else
  if s.rest.length < n then ([], ⟨s.rest, 2⟩) else (s.rest.take n, ⟨s.rest.drop n, 0⟩)
def readBytes (s : OS) (most : Int) : List UInt8 × OS := otake (readNum s most).2 (readNum s most).1.toNat
def oleft (s : OS) : Nat := if s.err ≠ 0 then 0 else s.rest.length
def oend (s : OS) : Int := if 0 < oleft s then 5 else s.err

theorem readNum_err {s : OS} (h : s.err ≠ 0) (most : Int) : readNum s most = (0, s) := by unfold readNum; rw [if_pos h]
theorem otake_err {s : OS} (h : s.err ≠ 0) (n : Nat) : otake s n = ([], s) := by unfold otake; rw [if_pos h]
theorem readNum_range (s : OS) (most : Int) (hm : 0 ≤ most) : 0 ≤ (readNum s most).1 ∧ (readNum s most).1 ≤ most ∧ (readNum s most).1 ≤ 1099511627775 := by
  unfold readNum
  split
  · exact ⟨Int.le_refl _, hm, by omega⟩
  split
  · split <;> exact ⟨Int.le_refl _, hm, by show (0 : Int) ≤ _; omega⟩
  · split
    · exact ⟨Int.le_refl _, hm, by show (0 : Int) ≤ _; omega⟩
    split
    · exact ⟨Int.le_refl _, hm, by show (0 : Int) ≤ _; omega⟩
    split
    · exact ⟨Int.le_refl _, hm, by show (0 : Int) ≤ _; omega⟩
    · rename_i h
      rw [not_or] at h
      exact ⟨Int.natCast_nonneg _, by simp only; omega, by simp only; omega⟩
theorem readNum_rest (s : OS) (most : Int) : (readNum s most).2.rest.length ≤ s.rest.length := by
  unfold readNum
  split
  · exact Nat.le_refl _
  split
  · split <;> exact Nat.le_refl _
  · split
    · exact Nat.le_refl _
    split
    · simp
    split <;> simp

/-- WHAT WAS WRITTEN IS READ. -/
theorem readNum_onum {n : Nat} (h : n ≤ 1099511627775) (most : Int) (hm : (n : Int) ≤ most) (r : List UInt8) : readNum ⟨onum n ++ r, 0⟩ most = ((n : Int), ⟨r, 0⟩) := by
  have h1 := onum_pos n
  have h6 := onum_len6 h
  have e : (onum n).length - 1 + 1 = (onum n).length := by omega
  have hv : lebV (onum n) = n := lebV_onum 5 n (Nat.lt_of_le_of_lt h (by decide))
  unfold readNum
  rw [if_neg (by simp)]
  simp only [endN_onum]
  rw [if_neg (by omega), e, List.take_left, List.drop_left, hv]
  have hz : ∀ m : Nat, 128 ≤ m → ¬ (onum m)[(onum m).length - 1]? = some 0 := by
    intro m
    induction m using Nat.strongRecOn with
    | _ m ih =>
      intro hm
      rw [onum_big (by omega), List.length_cons]
      have hp := onum_pos (m / 128)
      rw [show (onum (m / 128)).length + 1 - 1 = ((onum (m / 128)).length - 1) + 1 by omega, List.getElem?_cons_succ]
      by_cases hs : 128 ≤ m / 128
      · exact ih _ (by omega) hs
      · rw [onum_small (by omega)]
        simp
        intro e
        have := congrArg UInt8.toNat e
        rw [u8_toNat _ (by omega)] at this
        simp at this
        omega
  rw [if_neg, if_neg (by omega)]
  rintro ⟨hk, h0⟩
  rw [List.getElem?_append_left (by omega)] at h0
  by_cases hs : 128 ≤ n
  · exact hz n hs h0
  · rw [onum_small (by omega)] at hk; simp at hk

theorem onum_lebV : ∀ (l r : List UInt8) (k : Nat), endN l = some k → ¬ (0 < k ∧ l[k]? = some 0) → l = onum (lebV (l.take (k + 1))) ++ l.drop (k + 1)
  | [], _, k, h, _ => by simp [endN] at h
  | c :: l, r, k, h, h0 => by
    unfold endN at h
    split at h
    · injection h with h; subst h
      rename_i hc
      rw [List.take_succ_cons, List.take_zero, lebV, lebV, onum_small (by omega)]
      simp only [List.drop_succ_cons, List.drop_zero, List.singleton_append, Nat.mul_zero, Nat.add_zero, List.cons.injEq, and_true]
      apply UInt8.toNat.inj
      rw [u8_toNat _ (by omega)]; omega
    · rename_i hc
      obtain ⟨j, hj, rfl⟩ := Option.map_eq_some_iff.1 h
      have hjl := endN_lt hj
      rw [List.getElem?_cons_succ] at h0
      have h0' : ¬ l[j]? = some 0 := fun e => h0 ⟨by omega, e⟩
      have ih := onum_lebV l r j hj (fun e => h0' e.2)
      have hc8 : c.toNat < 256 := c.toNat_lt
      have hpos : 1 ≤ lebV (l.take (j + 1)) := by
        have hg : ∀ (m : List UInt8) (j : Nat), endN m = some j → ¬ m[j]? = some 0 → 1 ≤ lebV (m.take (j + 1)) := by
          intro m
          induction m with
          | nil => intro j hj; simp [endN] at hj
          | cons d m ihm =>
            intro j hj h0
            unfold endN at hj
            split at hj
            · injection hj with hj; subst hj
              rename_i hd
              rw [List.take_succ_cons, List.take_zero, lebV, lebV]
              rw [List.getElem?_cons_zero] at h0
              have : d.toNat ≠ 0 := fun e => h0 (by congr 1; apply UInt8.toNat.inj; rw [e]; rfl)
              omega
            · obtain ⟨i, hi, rfl⟩ := Option.map_eq_some_iff.1 hj
              rw [List.getElem?_cons_succ] at h0
              have := ihm i hi h0
              rw [List.take_succ_cons, lebV]; omega
        exact hg l j hj h0'
      rw [List.take_succ_cons, lebV, onum_big (by omega)]
      have e1 : (c.toNat % 128 + 128 * lebV (l.take (j + 1))) % 128 = c.toNat % 128 := by omega
      have e2 : (c.toNat % 128 + 128 * lebV (l.take (j + 1))) / 128 = lebV (l.take (j + 1)) := by omega
      rw [e1, e2, List.cons_append, List.drop_succ_cons, ← ih]
      congr 1
      apply UInt8.toNat.inj
      rw [u8_toNat _ (by omega)]; omega
/-- WHAT IS READ IS WHAT WOULD HAVE BEEN WRITTEN. -/
theorem readNum_ok {s : OS} {most n : Int} {t : OS} (h : readNum s most = (n, t)) (ht : t.err = 0) : s.err = 0 ∧ s.rest = onum n.toNat ++ t.rest ∧ 0 ≤ n ∧ n ≤ most ∧ n ≤ 1099511627775 := by
  unfold readNum at h
  split at h
  · rename_i he
    injection h with h1 h2; subst h2; exact absurd ht he
  rename_i he
  have he : s.err = 0 := by simpa using he
  refine ⟨he, ?_⟩
  split at h
  · split at h <;> (injection h with h1 h2; subst h2; simp at ht)
  · rename_i k hk
    split at h
    · injection h with h1 h2; subst h2; simp at ht
    split at h
    · injection h with h1 h2; subst h2; simp at ht
    split at h
    · injection h with h1 h2; subst h2; simp at ht
    · rename_i h0 hr
      rw [not_or] at hr
      injection h with h1 h2
      subst h1; subst h2
      refine ⟨?_, Int.natCast_nonneg _, by omega, by omega⟩
      rw [Int.toNat_natCast]
      exact onum_lebV s.rest [] k hk h0
theorem otake_ok {s : OS} {n : Nat} {x : List UInt8} {t : OS} (h : otake s n = (x, t)) (ht : t.err = 0) : s.err = 0 ∧ s.rest = x ++ t.rest ∧ x.length = n := by
  unfold otake at h
  split at h
  · rename_i he; injection h with h1 h2; subst h2; exact absurd ht he
  rename_i he
  split at h
  · injection h with h1 h2; subst h2; simp at ht
  · injection h with h1 h2; subst h1; subst h2
    rename_i hl
    exact ⟨by simpa using he, by simp, by rw [List.length_take]; omega⟩
/-- How many bytes, and they. -/
def bytesN (x : List UInt8) : List UInt8 := onum x.length ++ x
theorem readBytes_bytes {x : List UInt8} (most : Int) (hm : (x.length : Int) ≤ most) (h : x.length ≤ 1099511627775) (r : List UInt8) : readBytes ⟨bytesN x ++ r, 0⟩ most = (x, ⟨r, 0⟩) := by
  unfold readBytes bytesN
  rw [List.append_assoc, readNum_onum h most hm]
  simp only [Int.toNat_natCast]
  unfold otake
  rw [if_neg (by simp), if_neg (by simp), List.take_left, List.drop_left]
theorem readBytes_ok {s : OS} {most : Int} {x : List UInt8} {t : OS} (h : readBytes s most = (x, t)) (ht : t.err = 0) : s.err = 0 ∧ s.rest = bytesN x ++ t.rest ∧ (x.length : Int) ≤ most ∧ (x.length : Int) ≤ 1099511627775 := by
  unfold readBytes at h
  obtain ⟨h1, h2, h3⟩ := otake_ok h ht
  generalize hr : readNum s most = q at *
  obtain ⟨n, u⟩ := q
  obtain ⟨h4, h5, h6, h7, h8⟩ := readNum_ok hr h1
  simp only at h2 h3
  refine ⟨h4, ?_, by omega, by omega⟩
  unfold bytesN
  rw [h5, h2, h3, List.append_assoc]
theorem readBytes_err {s : OS} (h : s.err ≠ 0) (most : Int) : readBytes s most = ([], s) := by
  unfold readBytes
  rw [readNum_err h]
  exact otake_err h _
theorem otake_len (s : OS) (n : Nat) : (otake s n).1.length ≤ n ∧ (otake s n).2.rest.length ≤ s.rest.length := by
  unfold otake
  split
  · simp
  split
  · simp
  · simp [List.length_take]; omega
theorem readBytes_len (s : OS) (most : Int) (hm : 0 ≤ most) : ((readBytes s most).1.length : Int) ≤ most ∧ (readBytes s most).2.rest.length ≤ s.rest.length := by
  unfold readBytes
  have h1 := otake_len (readNum s most).2 (readNum s most).1.toNat
  have h2 := readNum_range s most hm
  have h3 := readNum_rest s most
  exact ⟨by omega, by omega⟩
end Go.Proofs.YtfppancidgamjaaDoor

/- Bits of whole numbers: and, or, of signed words. -/
namespace Go.Proofs.YtfppancidgamjaaDoor
set_option linter.unusedVariables false
set_option linter.unusedSimpArgs false
open Go

theorem i64_or_nat (a b : Nat) (ha : a < 9223372036854775808) (hb : b < 9223372036854775808) : bits .or .i64 (a : Int) (b : Int) = ((a ||| b : Nat) : Int) := by
  have hx : a ||| b < 2 ^ 63 := Nat.or_lt_two_pow (by omega) (by omega)
  show IntKind.i64.wrap ((BitVec.ofInt 64 (a : Int) ||| BitVec.ofInt 64 (b : Int)).toNat : Int) = _
  rw [BitVec.toNat_or, BitVec.toNat_ofInt, BitVec.toNat_ofInt, IntKind.wrap_i64, show ((((a : Nat) : Int) % ((2 ^ 64 : Nat) : Int)).toNat) = a by omega, show (((b : Int) % ((2 ^ 64 : Nat) : Int)).toNat) = b by omega]
  omega
theorem i64_and_nat (a b : Nat) (ha : a < 9223372036854775808) (hb : b < 9223372036854775808) : bits .and .i64 (a : Int) (b : Int) = ((a &&& b : Nat) : Int) := by
  have hx : a &&& b < 2 ^ 63 := Nat.and_lt_two_pow _ (by omega)
  show IntKind.i64.wrap ((BitVec.ofInt 64 (a : Int) &&& BitVec.ofInt 64 (b : Int)).toNat : Int) = _
  rw [BitVec.toNat_and, BitVec.toNat_ofInt, BitVec.toNat_ofInt, IntKind.wrap_i64, show ((((a : Nat) : Int) % ((2 ^ 64 : Nat) : Int)).toNat) = a by omega, show (((b : Int) % ((2 ^ 64 : Nat) : Int)).toNat) = b by omega]
  omega
theorem or_low (a b k : Nat) (hb : b < 2 ^ k) : (2 ^ k * a) ||| b = 2 ^ k * a + b := (Nat.two_pow_add_eq_or_of_lt hb a).symm
theorem i64_and127 (a : Nat) (ha : a < 9223372036854775808) : bits .and .i64 (a : Int) 127 = ((a % 128 : Nat) : Int) := by
  have := i64_and_nat a 127 ha (by omega)
  rw [show ((127 : Nat) : Int) = 127 from rfl] at this
  rw [this, show (127 : Nat) = 2 ^ 7 - 1 from rfl, Nat.and_two_pow_sub_one_eq_mod]
theorem i64_or128 (a : Nat) (ha : a < 128) : bits .or .i64 (a : Int) 128 = ((a + 128 : Nat) : Int) := by
  have := i64_or_nat a 128 (by omega) (by omega)
  rw [show ((128 : Nat) : Int) = 128 from rfl] at this
  rw [this, Nat.or_comm, show (128 : Nat) = 2 ^ 7 * 1 from rfl, or_low 1 a 7 (by omega), Nat.add_comm]
theorem i64_or_shl7 (a b : Nat) (ha : a < 36028797018963968) (hb : b < 128) : bits .or .i64 ((a : Int) * 128) (b : Int) = ((128 * a + b : Nat) : Int) := by
  have := i64_or_nat (2 ^ 7 * a) b (by omega) (by omega)
  rw [or_low a b 7 (by omega)] at this
  rw [show ((a : Int) * 128) = ((2 ^ 7 * a : Nat) : Int) by omega, this]
theorem i64_or_shl8 (a b : Nat) (ha : a < 36028797018963968) (hb : b < 256) : bits .or .i64 ((a : Int) * 256) (b : Int) = ((256 * a + b : Nat) : Int) := by
  have := i64_or_nat (2 ^ 8 * a) b (by omega) (by omega)
  rw [or_low a b 8 (by omega)] at this
  rw [show ((a : Int) * 256) = ((2 ^ 8 * a : Nat) : Int) by omega, this]
theorem u8_and127 (c : UInt8) : bits .and .u8 (c.toNat : Int) 127 = ((c.toNat % 128 : Nat) : Int) := by
  have hc := c.toNat_lt
  show IntKind.u8.wrap ((BitVec.ofInt 8 (c.toNat : Int) &&& BitVec.ofInt 8 127).toNat : Int) = _
  rw [BitVec.toNat_and, BitVec.toNat_ofInt, show (BitVec.ofInt 8 127).toNat = 2 ^ 7 - 1 from rfl, Nat.and_two_pow_sub_one_eq_mod, show (((c.toNat : Int) % ((2 ^ 8 : Nat) : Int)).toNat) = c.toNat by omega]
  have : c.toNat % 2 ^ 7 < 256 := by omega
  simp [IntKind.wrap, IntKind.bits, IntKind.signed]
  omega
end Go.Proofs.YtfppancidgamjaaDoor

/- The walks over what package octet writes: Number, Bytes. -/
namespace Go.Proofs.YtfppancidgamjaaDoor
set_option linter.unusedVariables false
set_option linter.unusedSimpArgs false
open Go.RowKit


set_option maxRecDepth 100000 in
set_option maxHeartbeats 1600000 in
theorem number_any (v : Value) (l : List UInt8) (hl : l.length ≤ 140737488300000) (n : Int) (w : World) (hr : Rd w v (bytesU l)) :
    Calls Tryd.prog 44 #[v, .int .i64 n] w (RetB w (l ++ onumI n)) := by
  obtain ⟨A0, c0, rfl, _⟩ := id hr
  have Hc := Lib.hid (fun w1 (b : Below w.heap.size w w1) => clone_any (.slice A0 (bytesU l).length c0) l w1 (hr.below b) (by omega))
  rw [bytesU_length] at Hc ⊢
  clear hr
  by_cases h1 : n < 0
  · have hn : onumI n = onum 0 := by unfold onumI; rw [if_pos (.inl h1)]
    rw [hn]
    clear hn
    go_enter Tryd.func44, Tryd.ntmps44
    go_wp2_with fail
    refine (Hc.out _ (Below.refl _ _)).mono ?_
    rintro e w1 ⟨v1, rfl, ho1, b1⟩
    have o1 : Own w.heap.size (Rw 5 1 v1 l.length (bytesU l) * Emp) w1 := Own.fresh (Nat.le_refl _) (Own.start _ _) ho1 b1
    obtain ⟨A1, c1, rfl⟩ := o1.row_n
    clear ho1
    go_wp2
    go_loopg [1, 5] (onum 0).length (fun k x v wr => ∃ (j : Nat) (out : List UInt8) (A : Option Addr) (c : Nat), k = (onum j).length ∧ x = .int .i64 (j : Int) ∧ v = .slice A out.length c ∧ j ≤ 1099511627775 ∧ Own w.heap.size (Rw 5 1 (.slice A out.length c) out.length (bytesU out) * Emp) wr ∧ Below w.heap.size w wr ∧ Hid (out ++ onum j = l ++ onum 0))
    case atStart => exact ⟨0, l, A1, c1, rfl, rfl, rfl, (by omega), o1, b1, Lib.hid rfl⟩
    case round =>
      clear b1 o1
      obtain ⟨j, out, A, c, rfl, rfl, rfl, hj, ho, hb, he⟩ := hrel
      have hol : out.length ≤ 140737488355327 := by
        have h2 := congrArg List.length he.out
        rw [List.length_append, List.length_append] at h2
        have h3 := onum_len6 (n := 0) (by omega)
        omega
      by_cases h127 : (127 : Int) < (j : Int)
      · have hjn : ¬ j < 128 := by omega
        have e1 := i64_and127 j (by omega)
        have e2 := i64_or128 (j % 128) (by omega)
        have hc8 : (UInt8.ofNat (j % 128 + 128)).toNat = j % 128 + 128 := u8_toNat _ (by omega)
        have h2 := onum_big hjn
        obtain ⟨g, cap, w2, hrun, o2, b2⟩ := byte_snoc hb.size ho (UInt8.ofNat (j % 128 + 128)) ((j % 128 + 128 : Nat) : Int) (by rw [hc8]) hol
        obtain ⟨r, hr⟩ : ∃ r : Nat, r = j % 128 := ⟨_, rfl⟩
        obtain ⟨q, hq⟩ : ∃ q : Nat, q = r + 128 := ⟨_, rfl⟩
        obtain ⟨s, hs⟩ : ∃ s : Nat, s = j / 128 := ⟨_, rfl⟩
        rw [← hr] at e1 e2 hrun
        rw [← hq] at e2 hrun
        have hs2 : (j : Int) / 128 = (s : Int) := by omega
        have q1 : (q : Int) < 256 := by omega
        have q0 : (0 : Int) ≤ (q : Int) := by omega
        have Hq := Lib.hid (And.intro hs h2)
        have Hrun := Lib.hid hrun
        clear hr hq hs h2 hc8 hrun hjn
        go_wp2_with (at_builtin; refine wpList_append_run rfl (.tmp 18) (.tmp 23) 39 rfl rfl rfl Hrun.out ?_)
        go_roundg (onum s).length
        case measure => have := Hq.out; rw [this.2, List.length_cons, ← this.1]; omega
        case rel =>
          obtain ⟨q1, q2⟩ := Hq.out
          exact ⟨s, _, _, _, rfl, rfl, by simp, by omega, o2, hb.trans b2, Lib.hid (by rw [← he.out, q2, q1]; simp)⟩
      · have hjn : j < 128 := by omega
        have hc8 : (UInt8.ofNat j).toNat = j := u8_toNat _ (by omega)
        have h2 := onum_small hjn
        obtain ⟨g, cap, w2, hrun, o2, b2⟩ := byte_snoc hb.size ho (UInt8.ofNat j) (j : Int) (by rw [hc8]) hol
        have j1 : (j : Int) < 128 := by omega
        have Hrun := Lib.hid hrun
        have H2 := Lib.hid h2
        have hb2 := hb.trans b2
        clear h2 hrun hc8
        go_wp2_with (at_builtin; refine wpList_append_run rfl (.tmp 25) (.tmp 28) 39 rfl rfl rfl Hrun.out ?_)
        go_ret
        have he2 : out ++ [UInt8.ofNat j] = l ++ onum 0 := by rw [← he.out, H2.out]
        exact RetB.mk rfl (by simp) he2 rfl o2 hb2
  · by_cases h2 : 1099511627775 < n
    · have hn : onumI n = onum 0 := by unfold onumI; rw [if_pos (.inr h2)]
      rw [hn]
      clear hn
      go_enter Tryd.func44, Tryd.ntmps44
      go_wp2_with fail
      refine (Hc.out _ (Below.refl _ _)).mono ?_
      rintro e w1 ⟨v1, rfl, ho1, b1⟩
      have o1 : Own w.heap.size (Rw 5 1 v1 l.length (bytesU l) * Emp) w1 := Own.fresh (Nat.le_refl _) (Own.start _ _) ho1 b1
      obtain ⟨A1, c1, rfl⟩ := o1.row_n
      clear ho1
      go_wp2
      go_loopg [1, 5] (onum 0).length (fun k x v wr => ∃ (j : Nat) (out : List UInt8) (A : Option Addr) (c : Nat), k = (onum j).length ∧ x = .int .i64 (j : Int) ∧ v = .slice A out.length c ∧ j ≤ 1099511627775 ∧ Own w.heap.size (Rw 5 1 (.slice A out.length c) out.length (bytesU out) * Emp) wr ∧ Below w.heap.size w wr ∧ Hid (out ++ onum j = l ++ onum 0))
      case atStart => exact ⟨0, l, A1, c1, rfl, rfl, rfl, (by omega), o1, b1, Lib.hid rfl⟩
      case round =>
        clear b1 o1
        obtain ⟨j, out, A, c, rfl, rfl, rfl, hj, ho, hb, he⟩ := hrel
        have hol : out.length ≤ 140737488355327 := by
          have h2 := congrArg List.length he.out
          rw [List.length_append, List.length_append] at h2
          have h3 := onum_len6 (n := 0) (by omega)
          omega
        by_cases h127 : (127 : Int) < (j : Int)
        · have hjn : ¬ j < 128 := by omega
          have e1 := i64_and127 j (by omega)
          have e2 := i64_or128 (j % 128) (by omega)
          have hc8 : (UInt8.ofNat (j % 128 + 128)).toNat = j % 128 + 128 := u8_toNat _ (by omega)
          have h2 := onum_big hjn
          obtain ⟨g, cap, w2, hrun, o2, b2⟩ := byte_snoc hb.size ho (UInt8.ofNat (j % 128 + 128)) ((j % 128 + 128 : Nat) : Int) (by rw [hc8]) hol
          obtain ⟨r, hr⟩ : ∃ r : Nat, r = j % 128 := ⟨_, rfl⟩
          obtain ⟨q, hq⟩ : ∃ q : Nat, q = r + 128 := ⟨_, rfl⟩
          obtain ⟨s, hs⟩ : ∃ s : Nat, s = j / 128 := ⟨_, rfl⟩
          rw [← hr] at e1 e2 hrun
          rw [← hq] at e2 hrun
          have hs2 : (j : Int) / 128 = (s : Int) := by omega
          have q1 : (q : Int) < 256 := by omega
          have q0 : (0 : Int) ≤ (q : Int) := by omega
          have Hq := Lib.hid (And.intro hs h2)
          have Hrun := Lib.hid hrun
          clear hr hq hs h2 hc8 hrun hjn
          go_wp2_with (at_builtin; refine wpList_append_run rfl (.tmp 18) (.tmp 23) 39 rfl rfl rfl Hrun.out ?_)
          go_roundg (onum s).length
          case measure => have := Hq.out; rw [this.2, List.length_cons, ← this.1]; omega
          case rel =>
            obtain ⟨q1, q2⟩ := Hq.out
            exact ⟨s, _, _, _, rfl, rfl, by simp, by omega, o2, hb.trans b2, Lib.hid (by rw [← he.out, q2, q1]; simp)⟩
        · have hjn : j < 128 := by omega
          have hc8 : (UInt8.ofNat j).toNat = j := u8_toNat _ (by omega)
          have h2 := onum_small hjn
          obtain ⟨g, cap, w2, hrun, o2, b2⟩ := byte_snoc hb.size ho (UInt8.ofNat j) (j : Int) (by rw [hc8]) hol
          have j1 : (j : Int) < 128 := by omega
          have Hrun := Lib.hid hrun
          have H2 := Lib.hid h2
          have hb2 := hb.trans b2
          clear h2 hrun hc8
          go_wp2_with (at_builtin; refine wpList_append_run rfl (.tmp 25) (.tmp 28) 39 rfl rfl rfl Hrun.out ?_)
          go_ret
          have he2 : out ++ [UInt8.ofNat j] = l ++ onum 0 := by rw [← he.out, H2.out]
          exact RetB.mk rfl (by simp) he2 rfl o2 hb2
    · have hn : onumI n = onum n.toNat := by unfold onumI; rw [if_neg (by omega)]
      obtain ⟨m, rfl⟩ : ∃ m : Nat, n = (m : Int) := ⟨n.toNat, by omega⟩
      rw [hn, Int.toNat_natCast]
      clear hn
      go_enter Tryd.func44, Tryd.ntmps44
      go_wp2_with fail
      refine (Hc.out _ (Below.refl _ _)).mono ?_
      rintro e w1 ⟨v1, rfl, ho1, b1⟩
      have o1 : Own w.heap.size (Rw 5 1 v1 l.length (bytesU l) * Emp) w1 := Own.fresh (Nat.le_refl _) (Own.start _ _) ho1 b1
      obtain ⟨A1, c1, rfl⟩ := o1.row_n
      clear ho1
      go_wp2
      go_loopg [1, 5] (onum m).length (fun k x v wr => ∃ (j : Nat) (out : List UInt8) (A : Option Addr) (c : Nat), k = (onum j).length ∧ x = .int .i64 (j : Int) ∧ v = .slice A out.length c ∧ j ≤ 1099511627775 ∧ Own w.heap.size (Rw 5 1 (.slice A out.length c) out.length (bytesU out) * Emp) wr ∧ Below w.heap.size w wr ∧ Hid (out ++ onum j = l ++ onum m))
      case atStart => exact ⟨m, l, A1, c1, rfl, rfl, rfl, (by omega), o1, b1, Lib.hid rfl⟩
      case round =>
        clear b1 o1
        obtain ⟨j, out, A, c, rfl, rfl, rfl, hj, ho, hb, he⟩ := hrel
        have hol : out.length ≤ 140737488355327 := by
          have h2 := congrArg List.length he.out
          rw [List.length_append, List.length_append] at h2
          have h3 := onum_len6 (n := m) (by omega)
          omega
        by_cases h127 : (127 : Int) < (j : Int)
        · have hjn : ¬ j < 128 := by omega
          have e1 := i64_and127 j (by omega)
          have e2 := i64_or128 (j % 128) (by omega)
          have hc8 : (UInt8.ofNat (j % 128 + 128)).toNat = j % 128 + 128 := u8_toNat _ (by omega)
          have h2 := onum_big hjn
          obtain ⟨g, cap, w2, hrun, o2, b2⟩ := byte_snoc hb.size ho (UInt8.ofNat (j % 128 + 128)) ((j % 128 + 128 : Nat) : Int) (by rw [hc8]) hol
          obtain ⟨r, hr⟩ : ∃ r : Nat, r = j % 128 := ⟨_, rfl⟩
          obtain ⟨q, hq⟩ : ∃ q : Nat, q = r + 128 := ⟨_, rfl⟩
          obtain ⟨s, hs⟩ : ∃ s : Nat, s = j / 128 := ⟨_, rfl⟩
          rw [← hr] at e1 e2 hrun
          rw [← hq] at e2 hrun
          have hs2 : (j : Int) / 128 = (s : Int) := by omega
          have q1 : (q : Int) < 256 := by omega
          have q0 : (0 : Int) ≤ (q : Int) := by omega
          have Hq := Lib.hid (And.intro hs h2)
          have Hrun := Lib.hid hrun
          clear hr hq hs h2 hc8 hrun hjn
          go_wp2_with (at_builtin; refine wpList_append_run rfl (.tmp 18) (.tmp 23) 39 rfl rfl rfl Hrun.out ?_)
          go_roundg (onum s).length
          case measure => have := Hq.out; rw [this.2, List.length_cons, ← this.1]; omega
          case rel =>
            obtain ⟨q1, q2⟩ := Hq.out
            exact ⟨s, _, _, _, rfl, rfl, by simp, by omega, o2, hb.trans b2, Lib.hid (by rw [← he.out, q2, q1]; simp)⟩
        · have hjn : j < 128 := by omega
          have hc8 : (UInt8.ofNat j).toNat = j := u8_toNat _ (by omega)
          have h2 := onum_small hjn
          obtain ⟨g, cap, w2, hrun, o2, b2⟩ := byte_snoc hb.size ho (UInt8.ofNat j) (j : Int) (by rw [hc8]) hol
          have j1 : (j : Int) < 128 := by omega
          have Hrun := Lib.hid hrun
          have H2 := Lib.hid h2
          have hb2 := hb.trans b2
          clear h2 hrun hc8
          go_wp2_with (at_builtin; refine wpList_append_run rfl (.tmp 25) (.tmp 28) 39 rfl rfl rfl Hrun.out ?_)
          go_ret
          have he2 : out ++ [UInt8.ofNat j] = l ++ onum m := by rw [← he.out, H2.out]
          exact RetB.mk rfl (by simp) he2 rfl o2 hb2

set_option maxRecDepth 100000 in
set_option maxHeartbeats 1600000 in
theorem obytes_any (v u : Value) (l x : List UInt8) (hl : l.length ≤ 140737488000000) (hx : x.length ≤ 200000) (w : World) (hr : Rd w v (bytesU l)) (hu : Rd w u (bytesU x)) :
    Calls Tryd.prog 45 #[v, u] w (RetB w (l ++ onumI x.length ++ x)) := by
  have N := number_any v l (by omega) (x.length : Int) w hr
  have Hu := Lib.hid (fun w1 (b : Below w.heap.size w w1) => hu.below b)
  obtain ⟨A0, c0, rfl, _⟩ := id hr
  obtain ⟨A, c, rfl, _⟩ := id hu
  rw [bytesU_length] at N ⊢
  rw [bytesU_length] at Hu ⊢
  have h6 : (l ++ onumI (x.length : Int)).length ≤ 140737488000006 := by have := onumI_len (x.length : Int); rw [List.length_append]; omega
  generalize l ++ onumI (x.length : Int) = L at N h6 ⊢
  clear hr hu
  go_enter Tryd.func45, Tryd.ntmps45
  go_wp2_with fail
  refine N.mono ?_
  rintro e w1 ⟨v1, rfl, ho1, b1⟩
  have o1 : Own w.heap.size (Rw 5 1 v1 L.length (bytesU L) * Emp) w1 := Own.fresh (Nat.le_refl _) (Own.start _ _) ho1 b1
  obtain ⟨v2, w2, hrun, o2, b2⟩ := byte_append b1.size o1 (Hu.out _ b1) (by omega)
  obtain ⟨A1, c1, rfl⟩ := o1.row_n
  have Hrun := Lib.hid hrun
  have hb2 := b1.trans b2
  clear hrun ho1 N
  go_wp2_with (at_builtin; refine wpList_append_run rfl (.tmp 8) (.tmp 9) 39 rfl rfl rfl Hrun.out ?_)
  go_ret
  exact RetB.mk rfl rfl rfl rfl o2 hb2
end Go.Proofs.YtfppancidgamjaaDoor
