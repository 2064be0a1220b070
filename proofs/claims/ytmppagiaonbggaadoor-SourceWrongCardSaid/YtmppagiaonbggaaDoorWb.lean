/- Texts of one proof, merged: XFoc XTwo XOb XG0 XG2 XG1. -/
import Derived.Test.YtmppagiaonbggaaDoorWa
import Derived.BigQuiet
import Derived.RowKit
import Derived.KernelRfl
import Derived.Deep.LoopGhost
import Derived.Lib.Hide
import Derived.Laws.ShiftsVar
import Derived.WalkSpells
import Derived.Lib.BufferMore
import Derived.WalkSmall
/- Words to find a part of what is owned, wherever it stands. -/
namespace Go.Proofs.YtmppagiaonbggaaDoor
set_option linter.unusedVariables false
set_option linter.unusedSimpArgs false
set_option maxRecDepth 100000
open Go.RowKit

/-- A stands somewhere in W; R is the rest. -/
class Foc (A W : HP) (R : outParam HP) : Prop where
  out : W = A * R
instance (priority := high) Foc.here {A C : HP} : Foc A (A * C) C := ⟨rfl⟩
instance (priority := low) Foc.there {A D C R : HP} [f : Foc A C R] : Foc A (D * C) (D * R) := ⟨by rw [f.out]; exact sep_left_comm _ _ _⟩
theorem Own.foc {B : Nat} {W R : HP} {w : World} (A : HP) [f : Foc A W R] (h : Own B W w) : Own B (A * R) w := by rw [f.out] at h; exact h

/-- Block X stands somewhere in W. -/
class HasBk (B : Nat) (X : Nat) (W : HP) (t : outParam TypeId) (cs : outParam (Array Value)) (rep : outParam (Array Value → HP)) : Prop where
  out : ∃ C : HP, Loc B C ∧ W = Bk X t cs * C ∧ ∀ cs', rep cs' = Bk X t cs' * C
instance (priority := high) HasBk.here {B X : Nat} {t : TypeId} {cs : Array Value} {C : HP} [k : Loc B C] : HasBk B X (Bk X t cs * C) t cs (fun cs' => Bk X t cs' * C) := ⟨⟨C, k, rfl, fun _ => rfl⟩⟩
instance (priority := low) HasBk.there {B X : Nat} {t : TypeId} {cs : Array Value} {D C : HP} {rep : Array Value → HP} [k : Loc B D] [f : HasBk B X C t cs rep] : HasBk B X (D * C) t cs (fun cs' => D * rep cs') := ⟨by
  obtain ⟨E, kE, h1, h2⟩ := f.out
  exact ⟨D * E, inferInstance, by rw [h1]; exact sep_left_comm _ _ _, fun cs' => by rw [h2]; exact sep_left_comm _ _ _⟩⟩

section
variable {B : Nat} {W : HP} {w : World} {t : TypeId} {cs : Array Value} {rep : Array Value → HP}
theorem Own.cellOf (h : Own B W w) (X : Nat) [f : HasBk B X W t cs rep] (i : Nat) : w.cell? ⟨X, i, none⟩ = cs[i]? := by
  obtain ⟨C, _, h1, _⟩ := f.out
  rw [h1] at h
  exact h.cell i
theorem Own.freeOf (h : Own B W w) (X : Nat) [f : HasBk B X W t cs rep] (i : Nat) : w.frozen? ⟨X, i, none⟩ = false := by
  obtain ⟨C, _, h1, _⟩ := f.out
  rw [h1] at h
  exact h.unfrozen i
theorem Own.setOf (h : Own B W w) (hB : B ≤ w.heap.size) (X : Nat) [f : HasBk B X W t cs rep] (i : Nat) (u : Value) : Own B (rep (cs.setIfInBounds i u)) (w.setCell ⟨X, i, none⟩ u) ∧ Below B w (w.setCell ⟨X, i, none⟩ u) := by
  obtain ⟨C, k, h1, h2⟩ := f.out
  rw [h1] at h
  rw [h2]
  exact ⟨h.set hB i u, h.below_set i u⟩
theorem Own.blockOf (h : Own B W w) (X : Nat) [f : HasBk B X W t cs rep] : w.heap[X]? = some (.cells cs t (0, 0)) := by
  obtain ⟨C, _, h1, _⟩ := f.out
  rw [h1] at h
  exact h.bk.1
end
end Go.Proofs.YtmppagiaonbggaaDoor

/- A statement whose order Go leaves open, of two threads, each with what it owns: in whatever order their steps come, both end as each ends alone; then comes the rest. -/
namespace Go.Proofs.YtmppagiaonbggaaDoor
set_option linter.unusedVariables false
set_option linter.unusedSimpArgs false
set_option maxRecDepth 100000
open Go.RowKit

section
variable {P : Program} {ops : Array Oper} {md : Region.Mode} {Q : Exit → Act → World → Prop} {B : Nat}

/-- From every world in which A is owned (beside whatever) the operation ends in some value and some owning that Ψ tells. -/
def StepR (P : Program) (B : Nat) (o : Oper) (a : Act) (A : HP) (Ψ : Value → HP → Prop) : Prop :=
  ∀ (R : HP) [Loc B R] (w : World), B ≤ w.heap.size → Own B (A * R) w → match (execOp a.eval o).run P w with
    | .ok (.value u) w' => ∃ A', Ψ u A' ∧ Own B (A' * R) w' ∧ Below B w w'
    | .ok .skip w' => ∃ A', Ψ undef A' ∧ Own B (A' * R) w' ∧ Below B w w'
    | .ok (.enter f args) w' => Calls P f args w' fun e w'' => ∃ u A', e = .returned u ∧ Ψ u A' ∧ Own B (A' * R) w'' ∧ Below B w w''
    | _ => False

/-- A thread: its operations in their order, each from what the one ahead has left; at the end Φ tells of the values and of what is owned. -/
def TW (P : Program) (ops : Array Oper) (B : Nat) : List Oper → (List Value → HP → Prop) → Act → HP → Prop
  | [], Φ, _, A => Φ [] A
  | o :: l, Φ, a, A => Loc B A ∧ ((Region.wanted o (yielded ops a.tmps) = true ∧ StepR P B o a A (fun v A' => Loc B A' ∧ TW P ops B l (fun vs => Φ (v :: vs)) (a.put o.dst v) A')) ∨
      (Region.wanted o (yielded ops a.tmps) = false ∧ TW P ops B l (fun vs => Φ (undef :: vs)) (a.put o.dst undef) A))

def putAll : List Oper → List Value → Act → Act
  | o :: l, v :: vs, a => putAll l vs (a.put o.dst v)
  | _, _, a => a

theorem StepR.imp {o : Oper} {a : Act} {A : HP} {Ψ Ψ' : Value → HP → Prop} (h : StepR P B o a A Ψ) (hi : ∀ v A', Ψ v A' → Ψ' v A') : StepR P B o a A Ψ' := by
  intro R _ w hB hO
  have h1 := h R w hB hO
  generalize (execOp a.eval o).run P w = r at h1 ⊢
  cases r with
  | ok n w' =>
    cases n <;> simp only at h1 ⊢
    case value u => obtain ⟨A', h2, h3⟩ := h1; exact ⟨A', hi _ _ h2, h3⟩
    case skip => obtain ⟨A', h2, h3⟩ := h1; exact ⟨A', hi _ _ h2, h3⟩
    case enter f args => exact h1.mono fun e w'' ⟨u, A', he, h2, h3⟩ => ⟨u, A', he, hi _ _ h2, h3⟩
  | halt x w' => cases x <;> exact h1.elim

theorem TW.put (hsel : Region.noSelect ops = true) {oi : Oper} {v : Value} : ∀ (l : List Oper) (Φ : List Value → HP → Prop) (a : Act) (A : HP), (∀ o ∈ l, (∃ j : Nat, ops[j]? = some o) ∧ o.apart ops oi = true) → TW P ops B l Φ a A → TW P ops B l Φ (a.put oi.dst v) A
  | [], _, _, _, _, h => h
  | o :: l, Φ, a, A, hap, h => by
    obtain ⟨⟨j, hj⟩, hoa⟩ := hap o List.mem_cons_self
    obtain ⟨h1, h2, h3⟩ := Oper.apart_spec hoa
    have sj := Region.noSelect_spec hsel j o
    have he := execOp_put o (fun cs b => sj cs b hj) a oi.dst v h3
    have hw := wanted_put o a oi.dst v h3
    have hl : ∀ o' ∈ l, (∃ j : Nat, ops[j]? = some o') ∧ o'.apart ops oi = true := fun o' ho' => hap o' (List.mem_cons_of_mem _ ho')
    obtain ⟨hloc, h⟩ := h
    refine ⟨hloc, ?_⟩
    rcases h with ⟨hwa, hst⟩ | ⟨hwa, hr⟩
    · left
      refine ⟨by rw [hw]; exact hwa, ?_⟩
      have hst' : StepR P B o (a.put oi.dst v) A (fun v' A' => Loc B A' ∧ TW P ops B l (fun vs => Φ (v' :: vs)) (a.put o.dst v') A') := by
        unfold StepR at hst ⊢
        rw [he]
        exact hst
      refine hst'.imp fun v' A' ⟨hl', ht⟩ => ⟨hl', ?_⟩
      rw [← Act.put_comm a v' v h2]
      exact TW.put hsel l _ _ _ hl ht
    · right
      refine ⟨by rw [hw]; exact hwa, ?_⟩
      rw [← Act.put_comm a undef v h2]
      exact TW.put hsel l _ _ _ hl hr

theorem putAll_put : ∀ (l : List Oper) (vs : List Value) (a : Act) (oi : Oper) (v : Value), (∀ o ∈ l, o.apart ops oi = true) → putAll l vs (a.put oi.dst v) = (putAll l vs a).put oi.dst v
  | [], _, _, _, _, _ => by simp [putAll]
  | o :: l, [], _, _, _, _ => by simp [putAll]
  | o :: l, u :: vs, a, oi, v, h => by
    obtain ⟨h1, h2, h3⟩ := Oper.apart_spec (h o List.mem_cons_self)
    show putAll l vs ((a.put oi.dst v).put o.dst u) = (putAll l vs (a.put o.dst u)).put oi.dst v
    rw [← Act.put_comm a u v h2]
    exact putAll_put l vs _ oi v (fun o' ho' => h o' (List.mem_cons_of_mem _ ho'))

theorem StepR.wp {o : Oper} {a : Act} {A R : HP} [Loc B R] {Ψ : Value → HP → Prop} {w : World} (h : StepR P B o a A Ψ) (hB : B ≤ w.heap.size) (hO : Own B (A * R) w) {K : Act → World → Prop}
    (hK : ∀ v A' w', Ψ v A' → Own B (A' * R) w' → Below B w w' → K (a.put o.dst v) w') : o.wp P a w K Q := by
  have h1 := h R w hB hO
  unfold Oper.wp
  generalize (execOp a.eval o).run P w = r at h1
  cases r with
  | ok n w' =>
    cases n <;> simp only [Oper.upon] at h1 ⊢
    case value u => obtain ⟨A', h2, h3, h4⟩ := h1; exact hK _ _ _ h2 h3 h4
    case skip => obtain ⟨A', h2, h3, h4⟩ := h1; exact hK _ _ _ h2 h3 h4
    case enter f args => exact h1.mono fun e w'' ⟨u, A', he, h2, h3, h4⟩ => by subst he; exact hK _ _ _ h2 h3 h4
  | halt x w' => cases x <;> exact h1.elim

/-! the static look -/
def apartAll (ops : Array Oper) (l1 l2 : List Nat) : Bool := l1.all fun i => l2.all fun j => match ops[i]?, ops[j]? with | some oi, some oj => oi.apart ops oj && oj.apart ops oi | _, _ => false
def lastOf : List Nat → Option Nat
  | [] => none
  | [i] => some i
  | _ :: l => lastOf l
def behind (md : Region.Mode) (ops : Array Oper) (l : List Nat) (t : Nat) : Bool := match lastOf l with | none => true | some i => Region.waitsFor md ops t i
def twoB (md : Region.Mode) (ops : Array Oper) (listed : Array Bool) (l1 l2 ts : List Nat) : Bool :=
  Region.noSelect ops && decide (listed.size = ops.size) &&
  ((List.range ops.size).all fun j => listed.getD j true || l1.contains j || l2.contains j || ts.contains j) &&
  ((l1 ++ l2 ++ ts).all fun j => decide (j < ops.size) && !listed.getD j true) &&
  decide (l1 ++ l2).Nodup && lexOk md ops l1 listed && lexOk md ops l2 listed && chained md ops l1 && chained md ops l2 &&
  (ts.all fun t => !(l1 ++ l2).contains t && ((ts.any fun s => Region.waitsFor md ops t s) || (behind md ops l1 t && behind md ops l2 t))) && apartAll ops l1 l2

structure TwoOk (md : Region.Mode) (ops : Array Oper) (listed : Array Bool) (l1 l2 ts : List Nat) : Prop where
  size : listed.size = ops.size
  cover : ∀ j, j < ops.size → listed.getD j true = false → j ∈ l1 ∨ j ∈ l2 ∨ j ∈ ts
  un : ∀ j, j ∈ l1 ∨ j ∈ l2 ∨ j ∈ ts → j < ops.size ∧ listed.getD j true = false
  nd1 : l1.Nodup
  nd2 : l2.Nodup
  dis : ∀ i ∈ l1, i ∉ l2
  ndt : ∀ t ∈ ts, t ∉ l1 ∧ t ∉ l2
  lex1 : lexOk md ops l1 listed = true
  lex2 : lexOk md ops l2 listed = true
  ch1 : chained md ops l1 = true
  ch2 : chained md ops l2 = true
  root : ∀ t ∈ ts, (∃ s ∈ ts, Region.waitsFor md ops t s = true) ∨ (behind md ops l1 t = true ∧ behind md ops l2 t = true)
  apart : ∀ i ∈ l1, ∀ j ∈ l2, ∀ oi oj, ops[i]? = some oi → ops[j]? = some oj → oi.apart ops oj = true ∧ oj.apart ops oi = true

theorem twoB_ok {listed : Array Bool} {l1 l2 ts : List Nat} (h : twoB md ops listed l1 l2 ts = true) : Region.noSelect ops = true ∧ TwoOk md ops listed l1 l2 ts := by
  simp only [twoB, Bool.and_eq_true, decide_eq_true_eq] at h
  obtain ⟨⟨⟨⟨⟨⟨⟨⟨⟨⟨h1, h2⟩, h3⟩, h4⟩, h5⟩, h6⟩, h7⟩, h8⟩, h9⟩, h10⟩, h11⟩ := h
  have hnd := List.nodup_append.1 h5
  refine ⟨h1, h2, fun j hj hl => ?_, fun j hj => ?_, hnd.1, hnd.2.1, fun i hi hi2 => hnd.2.2 i hi i hi2 rfl, fun t ht => ?_, h6, h7, h8, h9, fun t ht => ?_, fun i hi j hj oi oj hoi hoj => ?_⟩
  · have := List.all_eq_true.1 h3 j (List.mem_range.2 hj)
    rw [hl] at this
    simpa [or_assoc] using this
  · have := List.all_eq_true.1 h4 j (by simp; exact hj)
    simp only [Bool.and_eq_true, decide_eq_true_eq, Bool.not_eq_true'] at this
    exact this
  · have := List.all_eq_true.1 h10 t ht
    simp only [Bool.and_eq_true, Bool.not_eq_true'] at this
    have h := this.1
    simp at h
    exact h
  · have := List.all_eq_true.1 h10 t ht
    simp only [Bool.and_eq_true, Bool.or_eq_true, List.any_eq_true] at this
    exact this.2
  · have := List.all_eq_true.1 (List.all_eq_true.1 h11 i hi) j hj
    rw [hoi, hoj] at this
    simpa [Bool.and_eq_true] using this

theorem lastOf_mem : ∀ (l : List Nat) (i : Nat), lastOf l = some i → i ∈ l
  | [x], i, h => by injection h with h; subst h; exact List.mem_cons_self
  | x :: y :: l, i, h => List.mem_cons_of_mem _ (lastOf_mem (y :: l) i h)
theorem lastOf_some : ∀ (x : Nat) (l : List Nat), ∃ i, lastOf (x :: l) = some i
  | x, [] => ⟨x, rfl⟩
  | _, y :: l => lastOf_some y l

theorem TwoOk.only {listed : Array Bool} {l1 l2 ts : List Nat} (ok : TwoOk md ops listed l1 l2 ts) (hne : l1 ≠ [] ∨ l2 ≠ []) {i : Nat} (hi : i ∈ Region.ready md ops listed) : (∃ l, l1 = i :: l) ∨ (∃ l, l2 = i :: l) := by
  obtain ⟨hlt, hun, hed⟩ := mem_ready'.1 hi
  have bad : ∀ s, s ∈ l1 ∨ s ∈ l2 ∨ s ∈ ts → Region.waitsFor md ops i s = true → False := fun s hs' hw => by
    have h1 := edgesIn_waits hed hw
    rw [getD_both (ok.un s hs').2] at h1
    cases h1
  rcases ok.cover i hlt hun with h | h | h
  · rcases chained_prev l1 i ok.ch1 h with h2 | ⟨s, hs, hw⟩
    · exact .inl h2
    · exact (bad s (.inl hs) hw).elim
  · rcases chained_prev l2 i ok.ch2 h with h2 | ⟨s, hs, hw⟩
    · exact .inr h2
    · exact (bad s (.inr (.inl hs)) hw).elim
  · exfalso
    rcases ok.root i h with ⟨s, hs, hw⟩ | ⟨hb1, hb2⟩
    · exact bad s (.inr (.inr hs)) hw
    · rcases hne with hne | hne
      · obtain ⟨x, l, rfl⟩ : ∃ x l, l1 = x :: l := by cases l1 with | nil => exact absurd rfl hne | cons x l => exact ⟨x, l, rfl⟩
        obtain ⟨j, hj⟩ := lastOf_some x l
        rw [behind, hj] at hb1
        exact bad j (.inl (lastOf_mem _ _ hj)) hb1
      · obtain ⟨x, l, rfl⟩ : ∃ x l, l2 = x :: l := by cases l2 with | nil => exact absurd rfl hne | cons x l => exact ⟨x, l, rfl⟩
        obtain ⟨j, hj⟩ := lastOf_some x l
        rw [behind, hj] at hb2
        exact bad j (.inr (.inl (lastOf_mem _ _ hj))) hb2

theorem behind_tail {i : Nat} {l : List Nat} {t : Nat} (h : behind md ops (i :: l) t = true) : behind md ops l t = true := by
  cases l with
  | nil => rfl
  | cons y l => exact h
theorem chained_tail {i : Nat} {l : List Nat} (h : chained md ops (i :: l) = true) : chained md ops l = true := by
  simp only [chained, Bool.and_eq_true] at h
  exact h.2

theorem TwoOk.swap {listed : Array Bool} {l1 l2 ts : List Nat} (ok : TwoOk md ops listed l1 l2 ts) : TwoOk md ops listed l2 l1 ts :=
  ⟨ok.size, fun j hj hl => (by rcases ok.cover j hj hl with h | h | h <;> simp [h]), fun j hj => ok.un j (by rcases hj with h | h | h <;> simp [h]), ok.nd2, ok.nd1, fun i hi h => ok.dis i h hi, fun t ht => (ok.ndt t ht).symm, ok.lex2, ok.lex1, ok.ch2, ok.ch1,
   fun t ht => (ok.root t ht).imp id And.symm, fun i hi j hj oi oj hoi hoj => (ok.apart j hj i hi oj oi hoj hoi).symm⟩

theorem TwoOk.strike {listed : Array Bool} {i : Nat} {l1 l2 ts : List Nat} (ok : TwoOk md ops listed (i :: l1) l2 ts) : TwoOk md ops (listed.setIfInBounds i true) l1 l2 ts := by
  obtain ⟨hlt, hui⟩ := ok.un i (.inl List.mem_cons_self)
  have hn := List.nodup_cons.1 ok.nd1
  have hi2 := ok.dis i List.mem_cons_self
  have hne : ∀ j, j ∈ l1 ∨ j ∈ l2 ∨ j ∈ ts → i ≠ j := by
    rintro j hj rfl
    rcases hj with h | h | h
    · exact hn.1 h
    · exact hi2 h
    · exact (ok.ndt i h).1 List.mem_cons_self
  have hlex := ok.lex1
  simp only [lexOk, Bool.and_eq_true] at hlex
  refine ⟨by simp [ok.size], fun j hj hl => ?_, fun j hj => ?_, hn.2, ok.nd2, fun j hj => ok.dis j (List.mem_cons_of_mem _ hj), fun t ht => ⟨fun h => (ok.ndt t ht).1 (List.mem_cons_of_mem _ h), (ok.ndt t ht).2⟩, hlex.2, lexOk_set _ _ ok.lex2, chained_tail ok.ch1, ok.ch2,
    fun t ht => (ok.root t ht).imp id (fun h => ⟨behind_tail h.1, h.2⟩), fun a ha b hb => ok.apart a (List.mem_cons_of_mem _ ha) b hb⟩
  · by_cases hij : i = j
    · subst hij
      rw [show (listed.setIfInBounds i true).getD i true = true by simp [ok.size, hlt]] at hl
      cases hl
    · rw [getD_set_ne true hij] at hl
      rcases ok.cover j hj hl with h | h | h
      · rcases List.mem_cons.1 h with h | h
        · exact absurd h.symm hij
        · exact .inl h
      · exact .inr (.inl h)
      · exact .inr (.inr h)
  · have := ok.un j (by rcases hj with h | h | h <;> simp [h])
    exact ⟨this.1, by rw [getD_set_ne true (hne j hj)]; exact this.2⟩

theorem markAll_set : ∀ (l : List Nat) (i : Nat) (listed : Array Bool), markAll l (listed.setIfInBounds i true) = (markAll l listed).setIfInBounds i true
  | [], _, _ => rfl
  | j :: l, i, listed => by
    show markAll l ((listed.setIfInBounds i true).setIfInBounds j true) = (markAll l (listed.setIfInBounds j true)).setIfInBounds i true
    rw [← markAll_set l i]
    by_cases h : i = j
    · subst h; rfl
    · rw [Array.setIfInBounds_comm _ _ h]

def opsOf (ops : Array Oper) (l : List Nat) : List Oper := l.filterMap fun i => ops[i]?
theorem opsOf_cons {i : Nat} {l : List Nat} {o : Oper} (h : ops[i]? = some o) : opsOf ops (i :: l) = o :: opsOf ops l := by simp [opsOf, h]
theorem mem_opsOf {l : List Nat} {o : Oper} (h : o ∈ opsOf ops l) : ∃ i ∈ l, ops[i]? = some o := by
  simpa [opsOf] using h

theorem wpAny_two (hsel : Region.noSelect ops = true) {ts : List Nat} {R : HP} [Loc B R] {fuel : Nat} : ∀ (n : Nat) (l1 l2 : List Nat) (listed : Array Bool) (a : Act) (w : World) (Φ1 Φ2 : List Value → HP → Prop) (A1 A2 : HP), l1.length + l2.length = n → Loc B A1 → Loc B A2 →
    TwoOk md ops listed l1 l2 ts → TW P ops B (opsOf ops l1) Φ1 a A1 → TW P ops B (opsOf ops l2) Φ2 a A2 → B ≤ w.heap.size → Own B (A1 * (A2 * R)) w →
    (∀ vs1 A1' vs2 A2' w', Φ1 vs1 A1' → Φ2 vs2 A2' → Own B (A1' * (A2' * R)) w' → Below B w w' → wpAny P md ops Q fuel (markAll l2 (markAll l1 listed)) (putAll (opsOf ops l2) vs2 (putAll (opsOf ops l1) vs1 a)) w') →
    wpAny P md ops Q (n + fuel) listed a w
  | 0, l1, l2, listed, a, w, Φ1, Φ2, A1, A2, hn, _, _, ok, h1, h2, hB, hO, hK => by
    obtain rfl : l1 = [] := List.eq_nil_of_length_eq_zero (by omega)
    obtain rfl : l2 = [] := List.eq_nil_of_length_eq_zero (by omega)
    rw [Nat.zero_add]
    exact hK [] A1 [] A2 w h1 h2 hO (Below.refl B w)
  | n + 1, l1, l2, listed, a, w, Φ1, Φ2, A1, A2, hn, k1, k2, ok, h1, h2, hB, hO, hK => by
    rw [show n + 1 + fuel = (n + fuel) + 1 by omega]
    have hne : l1 ≠ [] ∨ l2 ≠ [] := by
      cases l1 with
      | nil => right; intro e; subst e; simp at hn
      | cons x l => left; simp
    have hrdy : Region.ready md ops listed ≠ [] := by
      intro h0
      rcases hne with hne | hne
      · obtain ⟨x, l, rfl⟩ : ∃ x l, l1 = x :: l := by cases l1 with | nil => exact absurd rfl hne | cons x l => exact ⟨x, l, rfl⟩
        have hlex := ok.lex1
        simp only [lexOk, Bool.and_eq_true] at hlex
        have hun := ok.un x (by simp)
        have : x ∈ Region.ready md ops listed := mem_ready'.2 ⟨hun.1, hun.2, hlex.1⟩
        rw [h0] at this; cases this
      · obtain ⟨x, l, rfl⟩ : ∃ x l, l2 = x :: l := by cases l2 with | nil => exact absurd rfl hne | cons x l => exact ⟨x, l, rfl⟩
        have hlex := ok.lex2
        simp only [lexOk, Bool.and_eq_true] at hlex
        have hun := ok.un x (by simp)
        have : x ∈ Region.ready md ops listed := mem_ready'.2 ⟨hun.1, hun.2, hlex.1⟩
        rw [h0] at this; cases this
    refine ⟨fun h0 => absurd h0 hrdy, fun i hi => ?_⟩
    have hlt := (mem_ready'.1 hi).1
    obtain ⟨o, ho⟩ : ∃ o, ops[i]? = some o := ⟨_, Array.getElem?_eq_getElem hlt⟩
    unfold wpOp
    simp only [ho]
    rcases ok.only hne hi with ⟨l, rfl⟩ | ⟨l, rfl⟩
    · rw [opsOf_cons ho] at h1
      have hap : ∀ o' ∈ opsOf ops l2, (∃ j : Nat, ops[j]? = some o') ∧ o'.apart ops o = true := fun o' h' => by
        obtain ⟨j, hj, hoj⟩ := mem_opsOf h'
        exact ⟨⟨j, hoj⟩, (ok.apart i List.mem_cons_self j hj o o' ho hoj).2⟩
      have hlen : l.length + l2.length = n := by simp at hn; omega
      obtain ⟨_, h1 | h1⟩ := h1
      · rw [if_pos h1.1]
        left
        refine h1.2.wp hB hO fun v A' w' ⟨kl, ht⟩ hO' hb => ?_
        refine wpAny_two hsel n l l2 _ _ w' (fun vs => Φ1 (v :: vs)) Φ2 A' A2 hlen kl k2 ok.strike ht (h2.put hsel _ _ _ _ hap) (Nat.le_trans hB hb.size) hO' fun vs1 A1' vs2 A2' w'' p1 p2 hO'' hb' => ?_
        have := hK (v :: vs1) A1' vs2 A2' w'' p1 p2 hO'' (hb.trans hb')
        rw [opsOf_cons ho] at this
        exact this
      · rw [if_neg (by rw [h1.1]; exact Bool.false_ne_true)]
        refine wpAny_two hsel n l l2 _ _ w (fun vs => Φ1 (undef :: vs)) Φ2 A1 A2 hlen k1 k2 ok.strike h1.2 (h2.put hsel _ _ _ _ hap) hB hO fun vs1 A1' vs2 A2' w'' p1 p2 hO'' hb' => ?_
        have := hK (undef :: vs1) A1' vs2 A2' w'' p1 p2 hO'' hb'
        rw [opsOf_cons ho] at this
        exact this
    · rw [opsOf_cons ho] at h2
      have hap : ∀ o' ∈ opsOf ops l1, (∃ j : Nat, ops[j]? = some o') ∧ o'.apart ops o = true := fun o' h' => by
        obtain ⟨j, hj, hoj⟩ := mem_opsOf h'
        exact ⟨⟨j, hoj⟩, (ok.apart j hj i List.mem_cons_self o' o hoj ho).1⟩
      have hlen : l1.length + l.length = n := by simp at hn; omega
      obtain ⟨_, h2 | h2⟩ := h2
      · rw [if_pos h2.1]
        left
        refine h2.2.wp hB (hO.cast (sep_left_comm _ _ _)) fun v A' w' ⟨kl, ht⟩ hO' hb => ?_
        refine wpAny_two hsel n l1 l _ _ w' Φ1 (fun vs => Φ2 (v :: vs)) A1 A' hlen k1 kl ok.swap.strike.swap (h1.put hsel _ _ _ _ hap) ht (Nat.le_trans hB hb.size) (hO'.cast (sep_left_comm _ _ _)) fun vs1 A1' vs2 A2' w'' p1 p2 hO'' hb' => ?_
        have := hK vs1 A1' (v :: vs2) A2' w'' p1 p2 hO'' (hb.trans hb')
        rw [opsOf_cons ho] at this
        rw [putAll_put _ _ _ _ _ (fun o' h' => (hap o' h').2), markAll_set]
        exact this
      · rw [if_neg (by rw [h2.1]; exact Bool.false_ne_true)]
        refine wpAny_two hsel n l1 l _ _ w Φ1 (fun vs => Φ2 (undef :: vs)) A1 A2 hlen k1 k2 ok.swap.strike.swap (h1.put hsel _ _ _ _ hap) h2.2 hB hO fun vs1 A1' vs2 A2' w'' p1 p2 hO'' hb' => ?_
        have := hK vs1 A1' (undef :: vs2) A2' w'' p1 p2 hO'' hb'
        rw [opsOf_cons ho] at this
        rw [putAll_put _ _ _ _ _ (fun o' h' => (hap o' h').2), markAll_set]
        exact this

/-- THE RULE: us free, at whatever time · l1 and l2 two threads · ts behind both. -/
theorem wp_region_two {id : Nat} {a : Act} {w : World} (us l1 l2 ts : List Nat) (A1 A2 R : HP) [k1 : Loc B A1] [k2 : Loc B A2] [Loc B R] (hm : P.follows .mixedOrders = true)
    (hB : (freeB .any ops us (Array.replicate ops.size false) && twoB .any ops (markAll us (Array.replicate ops.size false)) l1 l2 ts) = true) (hf : ops.size = us.length + ((l1.length + l2.length) + ts.length))
    (hQ : ∀ c a d v w, Q (.panic c) (a.put (some d) v) w → Q (.panic c) a w) (hsz : B ≤ w.heap.size) (hO : Own B (A1 * (A2 * R)) w.drew)
    (h : wpFree P ops (fun a1 => ∃ Φ1 Φ2 : List Value → HP → Prop, TW P ops B (opsOf ops l1) Φ1 a1 A1 ∧ TW P ops B (opsOf ops l2) Φ2 a1 A2 ∧
      ∀ vs1 A1' vs2 A2' w', Φ1 vs1 A1' → Φ2 vs2 A2' → Own B (A1' * (A2' * R)) w' → Below B w w' → wpAny P .any ops Q ts.length (markAll l2 (markAll l1 (markAll us (Array.replicate ops.size false)))) (putAll (opsOf ops l2) vs2 (putAll (opsOf ops l1) vs1 a1)) w')
      (us.filterMap fun i => ops[i]?) a) : (Code.region id ops true).wp P Q a w := by
  rw [Bool.and_eq_true] at hB
  refine wp_region_any hm ?_
  obtain ⟨hsel, ok⟩ := twoB_ok hB.2
  have hgo : wpAny P .any ops Q (us.length + ((l1.length + l2.length) + ts.length)) (Array.replicate ops.size false) a w.drew := by
    refine wpAny_free hQ hsel us _ a hB.1 (fun a' ⟨Φ1, Φ2, t1, t2, hK⟩ => ?_) h
    exact wpAny_two hsel (l1.length + l2.length) l1 l2 _ a' _ Φ1 Φ2 A1 A2 rfl k1 k2 ok t1 t2 hsz hO fun vs1 A1' vs2 A2' w' p1 p2 ho hb => hK vs1 A1' vs2 A2' w' p1 p2 ho ((Below.refl B w).drew.trans hb)
  rw [← hf] at hgo
  exact hgo

/-! the steps -/
theorem tw_nil {Φ : List Value → HP → Prop} {a : Act} {A : HP} (h : Φ [] A) : TW P ops B [] Φ a A := h
theorem tw_val {o : Oper} {l : List Oper} {Φ : List Value → HP → Prop} {a : Act} {A : HP} [k : Loc B A] (v : Value) (hw : Region.wanted o (yielded ops a.tmps) = true)
    (hv : ∀ (R : HP) [Loc B R] (w : World), Own B (A * R) w → (execOp a.eval o).run P w = .ok (.value v) w) (h : TW P ops B l (fun vs => Φ (v :: vs)) (a.put o.dst v) A) : TW P ops B (o :: l) Φ a A :=
  ⟨k, .inl ⟨hw, fun R _ w hB hO => by rw [hv R w hO]; exact ⟨A, ⟨k, h⟩, hO, Below.refl B w⟩⟩⟩
theorem tw_call {o : Oper} {l : List Oper} {Φ : List Value → HP → Prop} {a : Act} {A : HP} [k : Loc B A] (f : FuncId) (args : Array Value) (Ψ : Value → HP → Prop) (hw : Region.wanted o (yielded ops a.tmps) = true)
    (hr : ∀ (R : HP) [Loc B R] (w : World), Own B (A * R) w → (execOp a.eval o).run P w = .ok (.enter f args) w)
    (hc : ∀ (R : HP) [Loc B R] (w : World), B ≤ w.heap.size → Own B (A * R) w → Calls P f args w fun e w' => ∃ v A', e = .returned v ∧ (Loc B A' ∧ Ψ v A') ∧ Own B (A' * R) w' ∧ Below B w w')
    (h : ∀ v A', Loc B A' → Ψ v A' → TW P ops B l (fun vs => Φ (v :: vs)) (a.put o.dst v) A') : TW P ops B (o :: l) Φ a A :=
  ⟨k, .inl ⟨hw, fun R _ w hB hO => by rw [hr R w hO]; exact (hc R w hB hO).mono fun e w' ⟨v, A', he, ⟨kl, hp⟩, ho, hb⟩ => ⟨v, A', he, ⟨kl, h v A' kl hp⟩, ho, hb⟩⟩⟩
theorem Own.row_n {B : Nat} {R : HP} {w : World} {e : TypeId} {size : Nat} {v : Value} {n : Nat} {xs : List Value} (h : Own B (Rw e size v n xs * R) w) : ∃ A c, v = .slice A n c := by
  rcases h.row.2 with ⟨rfl, rfl⟩ | ⟨g, cap, cur, rfl, _⟩
  · exact ⟨_, _, rfl⟩
  · exact ⟨_, _, rfl⟩
end
end Go.Proofs.YtmppagiaonbggaaDoor

/- Rows of bytes: one more byte, a clone. -/
namespace Go.Proofs.YtmppagiaonbggaaDoor
set_option linter.unusedVariables false
set_option linter.unusedSimpArgs false
set_option maxRecDepth 100000
open Go.RowKit

def bytesU (l : List UInt8) : List Value := l.map fun x => Value.int .u8 (x.toNat : Int)
theorem infoU8 : (Tryd.prog.info? 5).map (fun i => (i.zero, i.size, i.bytes)) = some (some (.int .u8 0), 1, 1) := by kernel_rfl
theorem run_append_none {P : Program} {w : World} (base : Nat) (t ty e : TypeId) (i : TypeInfo) (size : Nat) (ht : P.underlying t = some (.slice e)) (hi : P.info? e = some i)
    (v : Value) (n : Nat) (xs : List Value) (hown : w.ownsRow base e size v n xs) (c : Nat) :
    (Builtin.append_ #[t, t] ty #[v, .slice none 0 c]).run P w = .ok v w := by
  rcases hown.2 with ⟨rfl, rfl⟩ | ⟨g, cap, cur, rfl, _, _, hnc, _⟩
  · simp [Builtin.append_, run_underlying ht, sizeOf, typeInfo, hi, Builtin.lenOf, Builtin.firstCells]
  · simp [Builtin.append_, run_underlying ht, sizeOf, typeInfo, hi, Builtin.lenOf, Builtin.firstCells, hnc, storeCells]
theorem bytesU_length (l : List UInt8) : (bytesU l).length = l.length := by simp [bytesU]
theorem bytesU_append (a b : List UInt8) : bytesU (a ++ b) = bytesU a ++ bytesU b := by simp [bytesU]
set_option maxRecDepth 100000 in
/-- Bytes that one can read go behind a row that one owns. -/
theorem byte_append {B : Nat} {R : HP} [Loc B R] {w : World} (hB : B ≤ w.heap.size) {v : Value} {xs ys : List UInt8} {A : Option Addr} {c : Nat} (h : Own B (Rw 5 1 v xs.length (bytesU xs) * R) w) (hr : Rd w (.slice A ys.length c) (bytesU ys))
    (hn : xs.length + ys.length ≤ 140737488355328) :
    ∃ v' w', (Builtin.append_ #[32, 32] 32 #[v, .slice A ys.length c]).run Tryd.prog w = .ok v' w' ∧ Own B (Rw 5 1 v' (xs ++ ys).length (bytesU (xs ++ ys)) * R) w' ∧ Below B w w' := by
  obtain ⟨i0, hi, hz0, hz1, hz2⟩ := info_parts infoU8
  obtain ⟨A', c', hv, hrd⟩ := hr
  injection hv with e1 e2 e3
  subst e1; subst e3
  cases A with
  | none =>
    obtain rfl : ys = [] := by
      cases ys with
      | nil => rfl
      | cons y ys =>
        obtain ⟨ad, h1, _⟩ := hrd (by simp [bytesU])
        cases h1
    refine ⟨v, w, run_append_none (P := Tryd.prog) B 32 32 5 i0 1 Tryd.underlying32 hi v xs.length (bytesU xs) h.row c, by simpa using h, Below.refl B w⟩
  | some ad =>
    obtain ⟨v', w', hr, h2, h3, _, h5⟩ := run_append_own_at (P := Tryd.prog) w B 32 32 5 i0 _ 1 1 Tryd.underlying32 hi hz0 hz1 hz2 rfl (by omega) v xs.length (bytesU xs) h.row
      ad ys.length c (bytesU ys) (by rw [bytesU_length]; omega) (by
        intro j x hj
        have hne : bytesU ys ≠ [] := by intro e; rw [e] at hj; simp at hj
        obtain ⟨ad', h1, h2⟩ := hrd hne
        injection h1 with h1
        subst h1
        exact h2 j x hj) (by intro x hx; obtain ⟨y, _, rfl⟩ := List.mem_map.1 hx; rfl) (by unfold maxLen; omega) (by omega) hB
    have h6 := Own.appended hB h h2 h3 h5
    refine ⟨v', w', hr, ?_, h6.2⟩
    have := h6.1
    rw [List.length_append, bytesU_append]
    exact this
/-- A part of bytes that one can read. -/
theorem Rd.part {w : World} {A : Option Addr} {n c : Nat} {xs : List Value} (h : Rd w (.slice A n c) xs) (i m c' : Nat) (ys : List Value) (hy : ys = (xs.drop i).take m) (hm : ys.length = m) : Rd w (.slice (A.map (·.add i)) m c') ys := by
  obtain ⟨A', c1, hv, hrd⟩ := h
  injection hv with e1 e2 e3
  subst e1
  refine ⟨_, c', by rw [hm], fun hne => ?_⟩
  have hx : xs ≠ [] := by intro e; subst e; simp at hy; exact hne hy
  obtain ⟨ad, rfl, hc⟩ := hrd hx
  refine ⟨ad.add i, rfl, fun j u hj => ?_⟩
  rw [hy, List.getElem?_take] at hj
  split at hj
  · rw [List.getElem?_drop] at hj
    have := hc _ _ hj
    rw [Addr.add_add]
    exact this
  · cases hj
/-- What a call leaves that returns bytes of its own. -/
def RetB (w : World) (l : List UInt8) (e : Ending) (w' : World) : Prop := ∃ v, e = .returned v ∧ w'.ownsRow w.heap.size 5 1 v l.length (bytesU l) ∧ Below w.heap.size w w'
theorem RetB.mk {w w' : World} {l l' : List UInt8} {e : Ending} {v v' : Value} {B : Nat} {R : HP} (he : e = .returned v) (hv : v = v') (hl : l' = l) (hB : B = w.heap.size) (ho : Own B (Rw 5 1 v' l'.length (bytesU l') * R) w') (hb : Below w.heap.size w w') : RetB w l e w' := by
  subst hv; subst hl; subst hB; exact ⟨_, he, ho.row, hb⟩
theorem u8_cast (c : UInt8) : (c.toNat : Int) % 256 = c.toNat := by have := c.toNat_lt; omega
theorem byte_snoc {B : Nat} {R : HP} [Loc B R] {w : World} (hB : B ≤ w.heap.size) {v : Value} {xs : List UInt8} (h : Own B (Rw 5 1 v xs.length (bytesU xs) * R) w) (c : UInt8) (n : Int) (hn : n = (c.toNat : Int)) (hl : xs.length ≤ 140737488355327) :
    ∃ g cap w', (Builtin.append_ #[32, 32] 32 #[v, .slice (some ⟨w.heap.size, 0, none⟩) 1 1]).run Tryd.prog (w.alloc (.cells #[.int .u8 n] 5)) = .ok (.slice (some ⟨g, 0, none⟩) (xs ++ [c]).length cap) w' ∧
      Own B (Rw 5 1 (.slice (some ⟨g, 0, none⟩) (xs ++ [c]).length cap) (xs ++ [c]).length (bytesU (xs ++ [c])) * R) w' ∧ Below B w w' := by
  subst hn
  have h1 := h.alloc_keep hB (.cells #[.int .u8 (c.toNat : Int)] 5)
  have hB1 : B ≤ (w.alloc (.cells #[.int .u8 (c.toNat : Int)] 5)).heap.size := by simp; omega
  obtain ⟨v', w', hr, h2, h3⟩ := byte_append (A := some ⟨w.heap.size, 0, none⟩) (c := 1) (ys := [c]) hB1 h1
    ⟨_, 1, rfl, fun _ => ⟨_, rfl, fun j u hj => by
      match j, hj with
      | 0, hj => simp [bytesU] at hj; subst hj; simp [Addr.add]⟩⟩ (by simp; omega)
  obtain ⟨g, cap, rfl, _⟩ := h2.row.form (by simp)
  exact ⟨g, cap, w', hr, h2, ((Below.refl B w).alloc hB _).trans h3⟩

set_option maxRecDepth 100000 in
theorem clone_any (v : Value) (l : List UInt8) (w : World) (hr : Rd w v (bytesU l)) (hl : l.length ≤ 140737488355328) :
    Calls Tryd.prog 37 #[v] w (RetB w l) := by
  obtain ⟨i0, hi, hz0, hz1, hz2⟩ := info_parts infoU8
  obtain ⟨A, c, rfl, hr⟩ := hr
  have hlen : (bytesU l).length = l.length := by simp [bytesU]
  rcases A with _ | ad
  · obtain rfl : l = [] := by
      cases l with
      | nil => rfl
      | cons x l => obtain ⟨ad, h, _⟩ := hr (by simp [bytesU]); cases h
    have he := fun W : World => Lib.run_eql_slice_nil_nil (P := Tryd.prog) W (t := 32) (e := 5) 0 c Tryd.underlying32
    show Calls _ _ #[.slice none 0 c] _ _
    go_enter Tryd.func37, Tryd.ntmps37
    go_wp2
    go_ret
    exact ⟨.slice none 0 0, rfl, World.ownsRow_nil _ _ _ _, Below.refl _ _⟩
  · have hc : ∀ j u, (bytesU l)[j]? = some u → w.cell? (ad.add j) = some u := by
      intro j u hu
      obtain ⟨ad', h, hcc⟩ := hr (by intro e; rw [e] at hu; cases hu)
      injection h with h
      subst h
      exact hcc j u hu
    clear hr
    obtain ⟨v', w', hrun, ho, hg, _, hat⟩ := run_append_own_at (P := Tryd.prog) (w.alloc (.cells #[] 5)) w.heap.size 32 32 5 i0 _ 1 1 Tryd.underlying32 hi hz0 hz1 hz2 rfl (by omega)
      (.slice (some ⟨w.heap.size, 0, none⟩) 0 0) 0 [] ⟨rfl, .inr ⟨w.heap.size, 0, #[], rfl, Nat.le_refl _, heap_alloc_new w _, Nat.le_refl _, by unfold maxLen; omega, rfl, rfl⟩⟩ ad l.length c (bytesU l) (by rw [hlen]; omega)
      (fun j u hu => by
        have h1 := hc j u hu
        rw [World.cell?_alloc_lt _ _ _ (World.block_lt_of_cell? w _ h1)]
        exact h1)
      (by intro u hu; obtain ⟨x, _, rfl⟩ := List.mem_map.1 hu; rfl) (by unfold maxLen; omega) (by omega) (by simp)
    have hbe : Below w.heap.size w w' := ((Below.refl _ w).alloc (Nat.le_refl _) _).grown hg (by simp) (fun k hk => by simp [Value.ownBlock] at hk; omega)
    rw [List.nil_append, Nat.zero_add] at ho
    clear hc
    have he := fun W : World => Lib.run_eql_slice_some_nil (P := Tryd.prog) W (t := 32) (e := 5) ad (bytesU l).length c Tryd.underlying32
    rw [hlen] at he ⊢
    go_enter Tryd.func37, Tryd.ntmps37
    go_wp2_with (at_builtin; refine wpList_append_run rfl (.tmp 5) (.tmp 6) 32 rfl rfl rfl hrun ?_)
    go_ret
    exact ⟨v', rfl, ho, hbe⟩
end Go.Proofs.YtmppagiaonbggaaDoor

/- Package digest: words, turned, and read of bytes. -/
namespace Go.Proofs.YtmppagiaonbggaaDoor
set_option linter.unusedVariables false
set_option linter.unusedSimpArgs false
set_option maxRecDepth 100000
open Go.RowKit

/-- A call that leaves the world as it is, and returns this word. -/
def RetU (z : Int) (w : World) (e : Ending) (w' : World) : Prop := e = .returned (.int .u32 z) ∧ w' = w
def turn7 (x : Int) : Int := bits .or .u32 (x * 33554432 % 4294967296) (x / 128)
theorem rot7 (x : Int) (w : World) : Calls Tryd.prog 77 #[.int .u32 x, .int .i64 (-7)] w (RetU (turn7 x) w) := by
  have h1 : bits .and .u64 (IntKind.u64.wrap (-7)) 31 = 25 := by decide
  go_enter Tryd.func77, Tryd.ntmps77
  go_wp2
  go_ret
  exact ⟨rfl, rfl⟩
theorem turn7_any (x : Int) (w : World) : Calls Tryd.prog 64 #[.int .u32 x, .int .i64 7] w (RetU (turn7 x) w) := by
  have Hz := Lib.hid (rot7 x w)
  generalize turn7 x = z at *
  go_enter Tryd.func64, Tryd.ntmps64
  go_wp2_with fail
  refine Hz.out.mono ?_
  rintro e w1 ⟨rfl, rfl⟩
  go_wp2
  go_ret
  exact ⟨rfl, rfl⟩
def turn18 (x : Int) : Int := bits .or .u32 (x * 16384 % 4294967296) (x / 262144)
theorem rot18 (x : Int) (w : World) : Calls Tryd.prog 77 #[.int .u32 x, .int .i64 (-18)] w (RetU (turn18 x) w) := by
  have h1 : bits .and .u64 (IntKind.u64.wrap (-18)) 31 = 14 := by decide
  go_enter Tryd.func77, Tryd.ntmps77
  go_wp2
  go_ret
  exact ⟨rfl, rfl⟩
theorem turn18_any (x : Int) (w : World) : Calls Tryd.prog 64 #[.int .u32 x, .int .i64 18] w (RetU (turn18 x) w) := by
  have Hz := Lib.hid (rot18 x w)
  generalize turn18 x = z at *
  go_enter Tryd.func64, Tryd.ntmps64
  go_wp2_with fail
  refine Hz.out.mono ?_
  rintro e w1 ⟨rfl, rfl⟩
  go_wp2
  go_ret
  exact ⟨rfl, rfl⟩
def turn17 (x : Int) : Int := bits .or .u32 (x * 32768 % 4294967296) (x / 131072)
theorem rot17 (x : Int) (w : World) : Calls Tryd.prog 77 #[.int .u32 x, .int .i64 (-17)] w (RetU (turn17 x) w) := by
  have h1 : bits .and .u64 (IntKind.u64.wrap (-17)) 31 = 15 := by decide
  go_enter Tryd.func77, Tryd.ntmps77
  go_wp2
  go_ret
  exact ⟨rfl, rfl⟩
theorem turn17_any (x : Int) (w : World) : Calls Tryd.prog 64 #[.int .u32 x, .int .i64 17] w (RetU (turn17 x) w) := by
  have Hz := Lib.hid (rot17 x w)
  generalize turn17 x = z at *
  go_enter Tryd.func64, Tryd.ntmps64
  go_wp2_with fail
  refine Hz.out.mono ?_
  rintro e w1 ⟨rfl, rfl⟩
  go_wp2
  go_ret
  exact ⟨rfl, rfl⟩
def turn19 (x : Int) : Int := bits .or .u32 (x * 8192 % 4294967296) (x / 524288)
theorem rot19 (x : Int) (w : World) : Calls Tryd.prog 77 #[.int .u32 x, .int .i64 (-19)] w (RetU (turn19 x) w) := by
  have h1 : bits .and .u64 (IntKind.u64.wrap (-19)) 31 = 13 := by decide
  go_enter Tryd.func77, Tryd.ntmps77
  go_wp2
  go_ret
  exact ⟨rfl, rfl⟩
theorem turn19_any (x : Int) (w : World) : Calls Tryd.prog 64 #[.int .u32 x, .int .i64 19] w (RetU (turn19 x) w) := by
  have Hz := Lib.hid (rot19 x w)
  generalize turn19 x = z at *
  go_enter Tryd.func64, Tryd.ntmps64
  go_wp2_with fail
  refine Hz.out.mono ?_
  rintro e w1 ⟨rfl, rfl⟩
  go_wp2
  go_ret
  exact ⟨rfl, rfl⟩
def turn6 (x : Int) : Int := bits .or .u32 (x * 67108864 % 4294967296) (x / 64)
theorem rot6 (x : Int) (w : World) : Calls Tryd.prog 77 #[.int .u32 x, .int .i64 (-6)] w (RetU (turn6 x) w) := by
  have h1 : bits .and .u64 (IntKind.u64.wrap (-6)) 31 = 26 := by decide
  go_enter Tryd.func77, Tryd.ntmps77
  go_wp2
  go_ret
  exact ⟨rfl, rfl⟩
theorem turn6_any (x : Int) (w : World) : Calls Tryd.prog 64 #[.int .u32 x, .int .i64 6] w (RetU (turn6 x) w) := by
  have Hz := Lib.hid (rot6 x w)
  generalize turn6 x = z at *
  go_enter Tryd.func64, Tryd.ntmps64
  go_wp2_with fail
  refine Hz.out.mono ?_
  rintro e w1 ⟨rfl, rfl⟩
  go_wp2
  go_ret
  exact ⟨rfl, rfl⟩
def turn11 (x : Int) : Int := bits .or .u32 (x * 2097152 % 4294967296) (x / 2048)
theorem rot11 (x : Int) (w : World) : Calls Tryd.prog 77 #[.int .u32 x, .int .i64 (-11)] w (RetU (turn11 x) w) := by
  have h1 : bits .and .u64 (IntKind.u64.wrap (-11)) 31 = 21 := by decide
  go_enter Tryd.func77, Tryd.ntmps77
  go_wp2
  go_ret
  exact ⟨rfl, rfl⟩
theorem turn11_any (x : Int) (w : World) : Calls Tryd.prog 64 #[.int .u32 x, .int .i64 11] w (RetU (turn11 x) w) := by
  have Hz := Lib.hid (rot11 x w)
  generalize turn11 x = z at *
  go_enter Tryd.func64, Tryd.ntmps64
  go_wp2_with fail
  refine Hz.out.mono ?_
  rintro e w1 ⟨rfl, rfl⟩
  go_wp2
  go_ret
  exact ⟨rfl, rfl⟩
def turn25 (x : Int) : Int := bits .or .u32 (x * 128 % 4294967296) (x / 33554432)
theorem rot25 (x : Int) (w : World) : Calls Tryd.prog 77 #[.int .u32 x, .int .i64 (-25)] w (RetU (turn25 x) w) := by
  have h1 : bits .and .u64 (IntKind.u64.wrap (-25)) 31 = 7 := by decide
  go_enter Tryd.func77, Tryd.ntmps77
  go_wp2
  go_ret
  exact ⟨rfl, rfl⟩
theorem turn25_any (x : Int) (w : World) : Calls Tryd.prog 64 #[.int .u32 x, .int .i64 25] w (RetU (turn25 x) w) := by
  have Hz := Lib.hid (rot25 x w)
  generalize turn25 x = z at *
  go_enter Tryd.func64, Tryd.ntmps64
  go_wp2_with fail
  refine Hz.out.mono ?_
  rintro e w1 ⟨rfl, rfl⟩
  go_wp2
  go_ret
  exact ⟨rfl, rfl⟩
def turn2 (x : Int) : Int := bits .or .u32 (x * 1073741824 % 4294967296) (x / 4)
theorem rot2 (x : Int) (w : World) : Calls Tryd.prog 77 #[.int .u32 x, .int .i64 (-2)] w (RetU (turn2 x) w) := by
  have h1 : bits .and .u64 (IntKind.u64.wrap (-2)) 31 = 30 := by decide
  go_enter Tryd.func77, Tryd.ntmps77
  go_wp2
  go_ret
  exact ⟨rfl, rfl⟩
theorem turn2_any (x : Int) (w : World) : Calls Tryd.prog 64 #[.int .u32 x, .int .i64 2] w (RetU (turn2 x) w) := by
  have Hz := Lib.hid (rot2 x w)
  generalize turn2 x = z at *
  go_enter Tryd.func64, Tryd.ntmps64
  go_wp2_with fail
  refine Hz.out.mono ?_
  rintro e w1 ⟨rfl, rfl⟩
  go_wp2
  go_ret
  exact ⟨rfl, rfl⟩
def turn13 (x : Int) : Int := bits .or .u32 (x * 524288 % 4294967296) (x / 8192)
theorem rot13 (x : Int) (w : World) : Calls Tryd.prog 77 #[.int .u32 x, .int .i64 (-13)] w (RetU (turn13 x) w) := by
  have h1 : bits .and .u64 (IntKind.u64.wrap (-13)) 31 = 19 := by decide
  go_enter Tryd.func77, Tryd.ntmps77
  go_wp2
  go_ret
  exact ⟨rfl, rfl⟩
theorem turn13_any (x : Int) (w : World) : Calls Tryd.prog 64 #[.int .u32 x, .int .i64 13] w (RetU (turn13 x) w) := by
  have Hz := Lib.hid (rot13 x w)
  generalize turn13 x = z at *
  go_enter Tryd.func64, Tryd.ntmps64
  go_wp2_with fail
  refine Hz.out.mono ?_
  rintro e w1 ⟨rfl, rfl⟩
  go_wp2
  go_ret
  exact ⟨rfl, rfl⟩
def turn22 (x : Int) : Int := bits .or .u32 (x * 1024 % 4294967296) (x / 4194304)
theorem rot22 (x : Int) (w : World) : Calls Tryd.prog 77 #[.int .u32 x, .int .i64 (-22)] w (RetU (turn22 x) w) := by
  have h1 : bits .and .u64 (IntKind.u64.wrap (-22)) 31 = 10 := by decide
  go_enter Tryd.func77, Tryd.ntmps77
  go_wp2
  go_ret
  exact ⟨rfl, rfl⟩
theorem turn22_any (x : Int) (w : World) : Calls Tryd.prog 64 #[.int .u32 x, .int .i64 22] w (RetU (turn22 x) w) := by
  have Hz := Lib.hid (rot22 x w)
  generalize turn22 x = z at *
  go_enter Tryd.func64, Tryd.ntmps64
  go_wp2_with fail
  refine Hz.out.mono ?_
  rintro e w1 ⟨rfl, rfl⟩
  go_wp2
  go_ret
  exact ⟨rfl, rfl⟩

/-- A slice's bytes, as a word. -/
def word4 (a b c d : Int) : Int := bits .or .u32 (bits .or .u32 (bits .or .u32 (a * 16777216) (b * 65536)) (c * 256)) d
theorem word_any (b0 o0 n c : Nat) (x0 x1 x2 x3 : Int) (w : World) (hn : 4 ≤ n) (h0 : 0 ≤ x0 ∧ x0 < 256) (h1 : 0 ≤ x1 ∧ x1 < 256) (h2 : 0 ≤ x2 ∧ x2 < 256) (h3 : 0 ≤ x3 ∧ x3 < 256)
    (c0 : w.cell? ⟨b0, o0, none⟩ = some (.int .u8 x0)) (c1 : w.cell? ⟨b0, o0 + 1, none⟩ = some (.int .u8 x1)) (c2 : w.cell? ⟨b0, o0 + 2, none⟩ = some (.int .u8 x2)) (c3 : w.cell? ⟨b0, o0 + 3, none⟩ = some (.int .u8 x3)) :
    Calls Tryd.prog 63 #[.slice (some ⟨b0, o0, none⟩) n c] w fun e w' => ∃ k, e = .returned (.int .u32 (word4 x0 x1 x2 x3)) ∧ w' = w.drewN k := by
  have n0 : (4 : Int) ≤ (n : Int) := by omega
  unfold word4
  go_enter Tryd.func63, Tryd.ntmps63
  go_wp2
  go_quiet (fail)
  go_wp2
  go_ret
  exact ⟨_, rfl, rfl⟩
def u32A (l : List Int) : Array Value := (l.map (Value.int .u32)).toArray
def u8A (l : List Int) : Array Value := (l.map (Value.int .u8)).toArray
def byteL (l : List Int) : Prop := ∀ c ∈ l, 0 ≤ c ∧ c < 256
theorem u32A_get (l : List Int) (i : Nat) (h : i < l.length) : (u32A l)[i]? = some (.int .u32 l[i]) := by simp [u32A, h]
theorem u8A_get (l : List Int) (i : Nat) (h : i < l.length) : (u8A l)[i]? = some (.int .u8 l[i]) := by simp [u8A, h]
theorem u32A_getD (l : List Int) (i : Nat) (h : i < l.length) : (u32A l)[i]? = some (.int .u32 (l.getD i 0)) := by simp [u32A, h, List.getD_eq_getElem?_getD]
theorem u32A_set (l : List Int) (i : Nat) (z : Int) : (u32A l).setIfInBounds i (.int .u32 z) = u32A (l.set i z) := by simp [u32A, List.map_set]
def z64 : List Int := List.replicate 64 0

theorem World.size_alloc9 (w : World) (o : Obj) : (w.alloc o).heap.size = w.heap.size + 1 := by simp
end Go.Proofs.YtmppagiaonbggaaDoor

/- The table of package digest lies in the world. -/
namespace Go.Proofs.YtmppagiaonbggaaDoor
set_option linter.unusedVariables false
set_option linter.unusedSimpArgs false
set_option maxRecDepth 100000
open Go.RowKit

theorem begin0 : ((begin Tryd.prog (fun _ _ => 0) default).world.heap[0]?).bind Obj.row? = some (u32A (List.replicate 64 0), 96) := by kernel_rfl
def intOf : Value → Int
  | .int _ z => z
  | _ => 0
theorem table_any {w : World} (h : Sh w) : ∃ T : List Int, T.length = 64 ∧ w.heap[0]? = some (.cells (u32A T) 96) := by
  have hg : 0 < Tryd.prog.globals.size := of_decide_eq_true (by kernel_rfl)
  obtain ⟨cs, hh, hs, hr⟩ := h.1 0 _ _ hg begin0
  obtain ⟨ts, hts, hlen, hall⟩ := hr (by kernel_rfl)
  have hct : Tryd.prog.cellTypes Tryd.prog.depth 96 = some (List.replicate 64 78) := by kernel_rfl
  rw [hct] at hts
  cases hts
  have hz : cs.size = 64 := by rw [hs]; simp [u32A]
  have hu := Tryd.underlying78
  have hel : ∀ i (h : i < cs.size), ∃ z : Int, cs[i] = .int .u32 z := by
    intro i hi
    obtain ⟨u, hu', hok⟩ := hall i cs[i] (by simp [hi])
    have : u = 78 := by
      have hlt : i % (List.replicate 64 78).length < 64 := Nat.mod_lt _ (by simp)
      rw [List.getElem?_replicate, if_pos hlt] at hu'
      exact (Option.some.inj hu').symm
    subst this
    unfold Cell.ok at hok
    rw [hu] at hok
    cases hv : cs[i] <;> rw [hv] at hok <;> simp at hok
    obtain ⟨rfl, _⟩ := hok
    exact ⟨_, rfl⟩
  refine ⟨cs.toList.map intOf, by simp [hz], ?_⟩
  rw [hh]
  congr 2
  apply Array.ext
  · simp [u32A]
  · intro i h1 h2
    obtain ⟨z, hzv⟩ := hel i h1
    simp [u32A, hzv, intOf]
theorem index64 (T : List Int) (hT : T.length = 64) (i : Nat) (hi : i < 64) (w : World) : (Instr.index 96 (.agg (u32A T)) (.int .i64 (i : Int))).run Tryd.prog w = .ok (.int .u32 (T.getD i 0)) w := by
  have h := Tryd.underlying96
  have hc : Tryd.prog.cellsOf 78 = 1 := by kernel_rfl
  have hb : (0 : Int) ≤ (i : Int) ∧ (i : Int) < 64 := by omega
  have hu := Tryd.underlying78
  have hg := u32A_getD T i (by omega)
  rw [List.getD_eq_getElem?_getD] at hg
  simp [Instr.index, run_underlying h, asIntOf, hb, go_sem, hi, hg]
theorem Own.set8 {B X : Nat} {T : TypeId} {R : HP} [Loc B R] {x0 x1 x2 x3 x4 x5 x6 x7 : Value} {w : World} (hB : B ≤ w.heap.size) (h : Own B (Bk X T #[x0, x1, x2, x3, x4, x5, x6, x7] * R) w) (y0 y1 y2 y3 y4 y5 y6 y7 : Value) :
    Own B (Bk X T #[y0, y1, y2, y3, y4, y5, y6, y7] * R) ((((((((w.setCell ⟨X, 0, none⟩ y0).setCell ⟨X, 1, none⟩ y1).setCell ⟨X, 2, none⟩ y2).setCell ⟨X, 3, none⟩ y3).setCell ⟨X, 4, none⟩ y4).setCell ⟨X, 5, none⟩ y5).setCell ⟨X, 6, none⟩ y6).setCell ⟨X, 7, none⟩ y7) ∧
    Below B w ((((((((w.setCell ⟨X, 0, none⟩ y0).setCell ⟨X, 1, none⟩ y1).setCell ⟨X, 2, none⟩ y2).setCell ⟨X, 3, none⟩ y3).setCell ⟨X, 4, none⟩ y4).setCell ⟨X, 5, none⟩ y5).setCell ⟨X, 6, none⟩ y6).setCell ⟨X, 7, none⟩ y7) := by
  have s0 : Own B (Bk X T #[y0, x1, x2, x3, x4, x5, x6, x7] * R) _ := h.set hB 0 y0
  have t0 := h.below_set 0 y0
  have b1 := Nat.le_trans hB t0.size
  have s1 : Own B (Bk X T #[y0, y1, x2, x3, x4, x5, x6, x7] * R) _ := s0.set b1 1 y1
  have t1 := s0.below_set 1 y1
  have b2 := Nat.le_trans b1 t1.size
  have s2 : Own B (Bk X T #[y0, y1, y2, x3, x4, x5, x6, x7] * R) _ := s1.set b2 2 y2
  have t2 := s1.below_set 2 y2
  have b3 := Nat.le_trans b2 t2.size
  have s3 : Own B (Bk X T #[y0, y1, y2, y3, x4, x5, x6, x7] * R) _ := s2.set b3 3 y3
  have t3 := s2.below_set 3 y3
  have b4 := Nat.le_trans b3 t3.size
  have s4 : Own B (Bk X T #[y0, y1, y2, y3, y4, x5, x6, x7] * R) _ := s3.set b4 4 y4
  have t4 := s3.below_set 4 y4
  have b5 := Nat.le_trans b4 t4.size
  have s5 : Own B (Bk X T #[y0, y1, y2, y3, y4, y5, x6, x7] * R) _ := s4.set b5 5 y5
  have t5 := s4.below_set 5 y5
  have b6 := Nat.le_trans b5 t5.size
  have s6 : Own B (Bk X T #[y0, y1, y2, y3, y4, y5, y6, x7] * R) _ := s5.set b6 6 y6
  have t6 := s5.below_set 6 y6
  have b7 := Nat.le_trans b6 t6.size
  have s7 : Own B (Bk X T #[y0, y1, y2, y3, y4, y5, y6, y7] * R) _ := s6.set b7 7 y7
  have t7 := s6.below_set 7 y7
  exact ⟨s7, (((((((t0.trans t1).trans t2).trans t3).trans t4).trans t5).trans t6).trans t7)⟩
theorem list8 (l : List Int) (h : l.length = 8) : ∃ t0 t1 t2 t3 t4 t5 t6 t7, l = [t0, t1, t2, t3, t4, t5, t6, t7] := by
  match l, h with
  | [a, b, c, d, e, f, g, i], _ => exact ⟨a, b, c, d, e, f, g, i, rfl⟩
end Go.Proofs.YtmppagiaonbggaaDoor

/- The walk over Block of package digest: it ends, with eight words. -/
namespace Go.Proofs.YtmppagiaonbggaaDoor
set_option linter.unusedVariables false
set_option linter.unusedSimpArgs false
set_option maxRecDepth 100000
open Go.RowKit

theorem slice_array (X m : Nat) (hm : m < 64) (w : World) : (Instr.sliceAt 82 (.pointer (some ⟨X, 0, none⟩)) (some (.int .i64 (m : Int))) none none).run Tryd.prog w = .ok (.slice (some ⟨X, m, none⟩) (64 - m) (64 - m)) w := by
  have hal : Tryd.prog.arrayLen 82 = 64 := by kernel_rfl
  have hel : Tryd.prog.elem 82 = 5 := by kernel_rfl
  obtain ⟨i0, hi, hz0, hz1, hz2⟩ := info_parts infoU8
  have ht : Tryd.prog.underlying 82 = some (.array (Tryd.prog.arrayLen 82) (Tryd.prog.elem 82)) := by kernel_rfl
  rw [run_sliceAt_array_l w 82 ⟨X, 0, none⟩ ht .i64 (m : Int) (by omega) (by rw [hal]; omega), hel, hal]
  have hne : ¬ 64 = m := by omega
  simp [sizeOf, typeInfo, hi, hz1, slicedAt, Addr.add, hne]
  intro h
  omega
set_option maxHeartbeats 1600000 in
theorem block_any (s0 s1 s2 s3 s4 s5 s6 s7 : Int) (x : List Int) (hx : x.length = 64) (hxb : byteL x) (T : List Int) (hT : T.length = 64) (w : World) (hTw : w.heap[0]? = some (.cells (u32A T) 96)) :
    Calls Tryd.prog 43 #[.agg #[.int .u32 s0, .int .u32 s1, .int .u32 s2, .int .u32 s3, .int .u32 s4, .int .u32 s5, .int .u32 s6, .int .u32 s7], .agg (u8A x)] w
      fun e w' => (∃ t0 t1 t2 t3 t4 t5 t6 t7, e = .returned (.agg #[.int .u32 t0, .int .u32 t1, .int .u32 t2, .int .u32 t3, .int .u32 t4, .int .u32 t5, .int .u32 t6, .int .u32 t7])) ∧ Below w.heap.size w w' := by
  have o0 := (Own.start w.heap.size w).new (Nat.le_refl _) 79 #[.int .u32 s0, .int .u32 s1, .int .u32 s2, .int .u32 s3, .int .u32 s4, .int .u32 s5, .int .u32 s6, .int .u32 s7]
  have b0 := (Below.refl w.heap.size w).alloc (Nat.le_refl _) (.cells #[.int .u32 s0, .int .u32 s1, .int .u32 s2, .int .u32 s3, .int .u32 s4, .int .u32 s5, .int .u32 s6, .int .u32 s7] 79)
  have o1 := o0.new b0.size 82 (u8A x)
  have b1 := b0.alloc b0.size (.cells (u8A x) 82)
  have o2 := o1.new b1.size 79 #[.int .u32 0, .int .u32 0, .int .u32 0, .int .u32 0, .int .u32 0, .int .u32 0, .int .u32 0, .int .u32 0]
  have b2 := b1.alloc b1.size (.cells #[.int .u32 0, .int .u32 0, .int .u32 0, .int .u32 0, .int .u32 0, .int .u32 0, .int .u32 0, .int .u32 0] 79)
  have o3 := o2.new b2.size 96 (u32A z64)
  have b3 := b2.alloc b2.size (.cells (u32A z64) 96)
  simp only [World.size_alloc9] at o3
  have hz : z64.length = 64 := List.length_replicate ..
  clear o0 b0 o1 b1 o2 b2
  have hTs : (u32A T).size = 64 := by simp [u32A, hT]
  have hpos : 0 < w.heap.size := (Array.getElem?_eq_some_iff.1 hTw).1
  have HT := Lib.hid (fun W (h : Below w.heap.size w W) => (h.block 0 hpos).trans hTw)
  clear hTw hpos
  go_enter Tryd.func43, Tryd.ntmps43
  go_wp2
  generalize hX0 : w.heap.size = X0 at *
  obtain ⟨X1, hX1⟩ : ∃ X1, X0 + 1 = X1 := ⟨_, rfl⟩
  rw [hX1] at o3 ⊢
  obtain ⟨X2, hX2⟩ : ∃ X2, X1 + 1 = X2 := ⟨_, rfl⟩
  rw [hX2] at o3 ⊢
  obtain ⟨X3, hX3⟩ : ∃ X3, X2 + 1 = X3 := ⟨_, rfl⟩
  rw [hX3] at o3 ⊢
  clear hX1 hX2 hX3
  go_loopg [18] 16 (fun kk v18 wr => ∃ (i : Nat) (ws : List Int), kk + i = 16 ∧ v18 = .int .i64 (i : Int) ∧ ws.length = 64 ∧ Own X0 (Bk X3 96 (u32A ws) * (Bk X0 79 #[.int .u32 s0, .int .u32 s1, .int .u32 s2, .int .u32 s3, .int .u32 s4, .int .u32 s5, .int .u32 s6, .int .u32 s7] * (Bk X1 82 (u8A x) * (Bk X2 79 #[.int .u32 0, .int .u32 0, .int .u32 0, .int .u32 0, .int .u32 0, .int .u32 0, .int .u32 0, .int .u32 0] * Emp)))) wr ∧ Below X0 w wr)
  case atStart => exact ⟨0, z64, rfl, rfl, hz, o3.cast (by ac_rfl), b3⟩
  case round =>
    clear o3 b3
    obtain ⟨i, ws, hk, rfl, hws, ho, hb⟩ := hrel
    have i0 : (0 : Int) ≤ (i : Int) := by omega
    have Bw : X0 ≤ wr.heap.size := by rw [← hX0]; exact hb.size
    by_cases hlt : (i : Int) < 16
    · obtain ⟨j, rfl⟩ : ∃ j, gk = j + 1 := ⟨gk - 1, by omega⟩
      have g := fun q (hq : q < 64) => (ho.cellOf X1 q).trans (u8A_get x q (by omega))
      have HW := Lib.hid (word_any X1 (4 * i) (64 - 4 * i) (64 - 4 * i) (x[4 * i]'(by omega)) (x[4 * i + 1]'(by omega)) (x[4 * i + 2]'(by omega)) (x[4 * i + 3]'(by omega)) wr (by omega) (hxb _ (List.getElem_mem _)) (hxb _ (List.getElem_mem _)) (hxb _ (List.getElem_mem _)) (hxb _ (List.getElem_mem _)) (g (4 * i) (by omega)) (g (4 * i + 1) (by omega)) (g (4 * i + 2) (by omega)) (g (4 * i + 3) (by omega)))
      generalize word4 (x[4 * i]'(by omega)) (x[4 * i + 1]'(by omega)) (x[4 * i + 2]'(by omega)) (x[4 * i + 3]'(by omega)) = z at *
      clear g
      obtain ⟨m, hm⟩ : ∃ m, 4 * i = m := ⟨_, rfl⟩
      rw [hm] at HW
      have e1 : (4 : Int) * (i : Int) = (m : Int) := by omega
      have e2 : (m : Int) ≤ 60 := by omega
      have e3 : (0 : Int) ≤ (m : Int) := by omega
      have e4 : ¬ 64 = m := by omega
      have hi64 : i < ws.length := by omega
      have cw : wr.cell? ⟨X3, i, none⟩ = some (.int .u32 ws[i]) := (ho.cell i).trans (u32A_get ws i hi64)
      have Hk := Lib.hid (And.intro hk hws)
      have hsl := slice_array X1 m (by omega) wr
      clear hm hk hws
      go_wp2_with fail
      refine HW.out.mono ?_
      rintro e w2 ⟨kd, rfl, rfl⟩
      have ho2 := ho.drewN Bw kd
      have hb2 := below_drewN hb kd
      have B2 : X0 ≤ (wr.drewN kd).heap.size := Bw
      generalize wr.drewN kd = w2 at *
      have cw2 : w2.cell? ⟨X3, i, none⟩ = some (.int .u32 ws[i]) := (ho2.cell i).trans (u32A_get ws i hi64)
      have z2 := ho2.unfrozen i
      have s2' := ho2.set B2 i (.int .u32 z)
      have t2 := ho2.below_set i (.int .u32 z)
      rw [u32A_set] at s2'
      have hb3 := hb2.trans t2
      have Fin := Lib.hid (And.intro s2' hb3)
      clear s2' t2 hb3 hb2 ho2 ho hb HW cw
      generalize ws.getD i 0 = wi at *
      go_wp2
      go_roundg j
      case measure => omega
      case rel => exact ⟨i + 1, ws.set i z, by have := Hk.out.1; omega, rfl, by rw [List.length_set]; exact Hk.out.2, Fin.out.1, Fin.out.2⟩
    · go_wp2
      go_loopg [7] 48 (fun kk v7 wr => ∃ (i : Nat) (ws : List Int), kk + i = 64 ∧ 16 ≤ i ∧ v7 = .int .i64 (i : Int) ∧ ws.length = 64 ∧ Own X0 (Bk X3 96 (u32A ws) * (Bk X0 79 #[.int .u32 s0, .int .u32 s1, .int .u32 s2, .int .u32 s3, .int .u32 s4, .int .u32 s5, .int .u32 s6, .int .u32 s7] * (Bk X1 82 (u8A x) * (Bk X2 79 #[.int .u32 0, .int .u32 0, .int .u32 0, .int .u32 0, .int .u32 0, .int .u32 0, .int .u32 0, .int .u32 0] * Emp)))) wr ∧ Below X0 w wr)
      case atStart => exact ⟨16, ws, rfl, by omega, rfl, hws, ho, hb⟩
      case round =>
        clear ho hb hk hws
        obtain ⟨i, ws, hk, hi16, rfl, hws, ho, hb⟩ := hrel
        have i0 : (16 : Int) ≤ (i : Int) := by omega
        have Bw : X0 ≤ wr.heap.size := by rw [← hX0]; exact hb.size
        by_cases hlt : (i : Int) < 64
        · obtain ⟨j, rfl⟩ : ∃ j, gk = j + 1 := ⟨gk - 1, by omega⟩
          obtain ⟨i15, h15⟩ : ∃ q, q + 15 = i := ⟨i - 15, by omega⟩
          obtain ⟨i2, h2⟩ : ∃ q, q + 2 = i := ⟨i - 2, by omega⟩
          obtain ⟨i16, h16⟩ : ∃ q, q + 16 = i := ⟨i - 16, by omega⟩
          obtain ⟨i7, h7⟩ : ∃ q, q + 7 = i := ⟨i - 7, by omega⟩
          have g := fun W (h : Own X0 (Bk X3 96 (u32A ws) * (Bk X0 79 #[.int .u32 s0, .int .u32 s1, .int .u32 s2, .int .u32 s3, .int .u32 s4, .int .u32 s5, .int .u32 s6, .int .u32 s7] * (Bk X1 82 (u8A x) * (Bk X2 79 #[.int .u32 0, .int .u32 0, .int .u32 0, .int .u32 0, .int .u32 0, .int .u32 0, .int .u32 0, .int .u32 0] * Emp)))) W) q (hq : q < 64) => (h.cellOf X3 q).trans (u32A_getD ws q (by omega))
          have f15 : (i : Int) - 15 = (i15 : Int) := by omega
          have f2 : (i : Int) - 2 = (i2 : Int) := by omega
          have f16 : (i : Int) - 16 = (i16 : Int) := by omega
          have f7 : (i : Int) - 7 = (i7 : Int) := by omega
          have l15 : (i15 : Int) < 64 := by omega
          have l2 : (i2 : Int) < 64 := by omega
          have l16 : (i16 : Int) < 64 := by omega
          have l7 : (i7 : Int) < 64 := by omega
          have p15 : (0 : Int) ≤ (i15 : Int) := by omega
          have p2 : (0 : Int) ≤ (i2 : Int) := by omega
          have p16 : (0 : Int) ≤ (i16 : Int) := by omega
          have p7 : (0 : Int) ≤ (i7 : Int) := by omega
          have G := Lib.hid (fun W h => And.intro (g W h i15 (by omega)) (And.intro (g W h i2 (by omega)) (And.intro (g W h i16 (by omega)) (And.intro (g W h i7 (by omega)) (g W h i (by omega))))))
          have c15 := (G.out wr ho).1
          have c2 := (G.out wr ho).2.1
          have Hk := Lib.hid (And.intro hk (And.intro hi16 hws))
          clear g h15 h2 h16 h7 hk hi16 hws
          generalize ws.getD i15 0 = xv at *
          generalize ws.getD i2 0 = yv at *
          generalize ws.getD i16 0 = x16 at *
          generalize ws.getD i7 0 = x7 at *
          generalize ws.getD i 0 = xi at *
          go_wp2
          go_quiet (fail)
          go_wp2
          have ho := ho.drewN Bw nq
          have hb := below_drewN hb nq
          have Bw : X0 ≤ (wr.drewN nq).heap.size := Bw
          clear c15 c2
          generalize wr.drewN nq = wr at *
          refine wp_region_mix (St X0 _ wr) [0, 1, 2, 3, 4, 5, 6, 7, 8, 9, 10, 11, 12, 13, 14, 15, 16, 17, 18, 19, 20, 21, 22, 23, 24, 25, 26, 27, 28] [29] mixed (by kernel_rfl) rfl (St.drew Bw ho) ?_
          simp only [List.filterMap_cons, List.filterMap_nil, List.getElem?_toArray, List.getElem?_cons_succ, List.getElem?_cons_zero]
          repeat (first
            | (refine held_val ?_ rfl (fun w1 hS => ?_) ?_
               rotate_left
               · (have c16 := (G.out w1 hS.2.1).2.2.1
                  go_simp
                  try go_bits
                  rfl)
               simp only [Act.put, List.setIfInBounds_toArray, List.set_cons_zero, List.set_cons_succ])
            | (refine held_off rfl ?_
               simp only [Act.put, List.setIfInBounds_toArray, List.set_cons_zero, List.set_cons_succ]))
          refine held_call 64 #[.int .u32 xv, .int .i64 7] (.int .u32 (turn7 xv)) rfl (fun w1 hS => by go_simp) (fun w1 hS => (turn7_any xv w1).mono ?_) ?_
          · rintro e w2 ⟨rfl, rfl⟩
            exact ⟨rfl, hS⟩
          simp only [Act.put, List.setIfInBounds_toArray, List.set_cons_zero, List.set_cons_succ]
          repeat (first
            | (refine held_val ?_ rfl (fun w1 hS => ?_) ?_
               rotate_left
               · (skip
                  go_simp
                  try go_bits
                  rfl)
               simp only [Act.put, List.setIfInBounds_toArray, List.set_cons_zero, List.set_cons_succ])
            | (refine held_off rfl ?_
               simp only [Act.put, List.setIfInBounds_toArray, List.set_cons_zero, List.set_cons_succ]))
          refine held_call 64 #[.int .u32 xv, .int .i64 18] (.int .u32 (turn18 xv)) rfl (fun w1 hS => by go_simp) (fun w1 hS => (turn18_any xv w1).mono ?_) ?_
          · rintro e w2 ⟨rfl, rfl⟩
            exact ⟨rfl, hS⟩
          simp only [Act.put, List.setIfInBounds_toArray, List.set_cons_zero, List.set_cons_succ]
          repeat (first
            | (refine held_val ?_ rfl (fun w1 hS => ?_) ?_
               rotate_left
               · (have c16 := (G.out w1 hS.2.1).2.2.1; have c7 := (G.out w1 hS.2.1).2.2.2.1
                  go_simp
                  try go_bits
                  rfl)
               simp only [Act.put, List.setIfInBounds_toArray, List.set_cons_zero, List.set_cons_succ])
            | (refine held_off rfl ?_
               simp only [Act.put, List.setIfInBounds_toArray, List.set_cons_zero, List.set_cons_succ]))
          refine held_call 64 #[.int .u32 yv, .int .i64 17] (.int .u32 (turn17 yv)) rfl (fun w1 hS => by go_simp) (fun w1 hS => (turn17_any yv w1).mono ?_) ?_
          · rintro e w2 ⟨rfl, rfl⟩
            exact ⟨rfl, hS⟩
          simp only [Act.put, List.setIfInBounds_toArray, List.set_cons_zero, List.set_cons_succ]
          repeat (first
            | (refine held_val ?_ rfl (fun w1 hS => ?_) ?_
               rotate_left
               · (skip
                  go_simp
                  try go_bits
                  rfl)
               simp only [Act.put, List.setIfInBounds_toArray, List.set_cons_zero, List.set_cons_succ])
            | (refine held_off rfl ?_
               simp only [Act.put, List.setIfInBounds_toArray, List.set_cons_zero, List.set_cons_succ]))
          refine held_call 64 #[.int .u32 yv, .int .i64 19] (.int .u32 (turn19 yv)) rfl (fun w1 hS => by go_simp) (fun w1 hS => (turn19_any yv w1).mono ?_) ?_
          · rintro e w2 ⟨rfl, rfl⟩
            exact ⟨rfl, hS⟩
          simp only [Act.put, List.setIfInBounds_toArray, List.set_cons_zero, List.set_cons_succ]
          repeat (first
            | (refine held_val ?_ rfl (fun w1 hS => ?_) ?_
               rotate_left
               · (have ci := (G.out w1 hS.2.1).2.2.2.2
                  go_simp
                  try go_bits
                  rfl)
               simp only [Act.put, List.setIfInBounds_toArray, List.set_cons_zero, List.set_cons_succ])
            | (refine held_off rfl ?_
               simp only [Act.put, List.setIfInBounds_toArray, List.set_cons_zero, List.set_cons_succ]))
          refine held_nil (fun w9 hS => ?_)
          obtain ⟨B9, o9, b9⟩ := hS
          have hb9 := hb.trans b9
          have ci := (G.out w9 o9).2.2.2.2
          have zi := o9.unfrozen i
          have Fin := Lib.hid (fun z => (And.intro ((u32A_set ws i z) ▸ (o9.set B9 i (.int .u32 z))) (hb9.trans (o9.below_set i (.int .u32 z)))))
          clear ho hb o9 b9 hb9 G
          go_wp2
          go_roundg j
          case measure => omega
          case rel => exact ⟨i + 1, ws.set i _, by have := Hk.out.1; omega, by have := Hk.out.2.1; omega, rfl, by rw [List.length_set]; exact Hk.out.2.2, (Fin.out _).1, (Fin.out _).2⟩
        · have c0 := ho.cellOf X0 0
          have c1 := ho.cellOf X0 1
          have c2 := ho.cellOf X0 2
          have c3 := ho.cellOf X0 3
          have c4 := ho.cellOf X0 4
          have c5 := ho.cellOf X0 5
          have c6 := ho.cellOf X0 6
          have c7 := ho.cellOf X0 7
          have o10 := ho.new Bw 79 #[.int .u32 s0, .int .u32 s1, .int .u32 s2, .int .u32 s3, .int .u32 s4, .int .u32 s5, .int .u32 s6, .int .u32 s7]
          have b10 := hb.alloc Bw (.cells #[.int .u32 s0, .int .u32 s1, .int .u32 s2, .int .u32 s3, .int .u32 s4, .int .u32 s5, .int .u32 s6, .int .u32 s7] 79)
          have HT2 := Lib.hid (HT.out _ b10)
          obtain ⟨X4, hX4⟩ : ∃ X4, wr.heap.size = X4 := ⟨_, rfl⟩
          go_wp2_with (refine wpList_load_row rfl 96 (.global 0) rfl 0 rfl 96 (u32A T) (0, 0) _ HT2.out Tryd.underlying96 rfl (by rw [hTs]; kernel_rfl) ?_)
          rw [hX4] at o10
          have o10 := o10.cast (show _ = Bk X4 79 #[.int .u32 s0, .int .u32 s1, .int .u32 s2, .int .u32 s3, .int .u32 s4, .int .u32 s5, .int .u32 s6, .int .u32 s7] * (Bk X3 96 (u32A ws) * (Bk X0 79 #[.int .u32 s0, .int .u32 s1, .int .u32 s2, .int .u32 s3, .int .u32 s4, .int .u32 s5, .int .u32 s6, .int .u32 s7] * (Bk X2 79 #[.int .u32 0, .int .u32 0, .int .u32 0, .int .u32 0, .int .u32 0, .int .u32 0, .int .u32 0, .int .u32 0] * (Bk X1 82 (u8A x) * Emp)))) by ac_rfl)
          go_loopg [71] 64 (fun kk v71 wr => ∃ (i : Nat) (a0 a1 a2 a3 a4 a5 a6 a7 : Int), kk + i = 64 ∧ v71 = .int .i64 (i : Int) ∧ Own X0 (Bk X4 79 #[.int .u32 a0, .int .u32 a1, .int .u32 a2, .int .u32 a3, .int .u32 a4, .int .u32 a5, .int .u32 a6, .int .u32 a7] * (Bk X3 96 (u32A ws) * (Bk X0 79 #[.int .u32 s0, .int .u32 s1, .int .u32 s2, .int .u32 s3, .int .u32 s4, .int .u32 s5, .int .u32 s6, .int .u32 s7] * (Bk X2 79 #[.int .u32 0, .int .u32 0, .int .u32 0, .int .u32 0, .int .u32 0, .int .u32 0, .int .u32 0, .int .u32 0] * (Bk X1 82 (u8A x) * Emp))))) wr ∧ Below X0 w wr)
          case atStart => exact ⟨0, s0, s1, s2, s3, s4, s5, s6, s7, rfl, rfl, o10, b10⟩
          case round =>
            clear o10 b10 ho hb HT2 HT c0 c1 c2 c3 c4 c5 c6 c7 Bw hX4
            obtain ⟨i, a0, a1, a2, a3, a4, a5, a6, a7, hk, rfl, ho, hb⟩ := hrel
            have Bw : X0 ≤ wr.heap.size := by rw [← hX0]; exact hb.size
            have i0 : (0 : Int) ≤ (i : Int) := by omega
            by_cases hlt : (i : Int) < 64
            · obtain ⟨j, rfl⟩ : ∃ j, gk = j + 1 := ⟨gk - 1, by omega⟩
              have hti := fun W => index64 T hT i (by omega) W
              have c0 : wr.cell? ⟨X4, 0, none⟩ = some (.int .u32 a0) := ho.cell 0
              have c1 : wr.cell? ⟨X4, 1, none⟩ = some (.int .u32 a1) := ho.cell 1
              have c2 : wr.cell? ⟨X4, 2, none⟩ = some (.int .u32 a2) := ho.cell 2
              have c3 : wr.cell? ⟨X4, 3, none⟩ = some (.int .u32 a3) := ho.cell 3
              have c4 : wr.cell? ⟨X4, 4, none⟩ = some (.int .u32 a4) := ho.cell 4
              have c5 : wr.cell? ⟨X4, 5, none⟩ = some (.int .u32 a5) := ho.cell 5
              have c6 : wr.cell? ⟨X4, 6, none⟩ = some (.int .u32 a6) := ho.cell 6
              have c7 : wr.cell? ⟨X4, 7, none⟩ = some (.int .u32 a7) := ho.cell 7
              have cw : wr.cell? ⟨X3, i, none⟩ = some (.int .u32 (ws.getD i 0)) := (ho.cellOf X3 i).trans (u32A_getD ws i (by omega))
              generalize ws.getD i 0 = wi at *
              generalize T.getD i 0 = ti at *
              have Hk := Lib.hid hk
              clear hk
              go_wp2
              go_quiet (fail)
              go_wp2
              have ho := ho.drewN Bw nq
              have hb := below_drewN hb nq
              have Bw : X0 ≤ (wr.drewN nq).heap.size := Bw
              clear c0 c1 c2 c3 c4 c5 c6 c7 cw hti
              generalize wr.drewN nq = wr at *
              have G := Lib.hid (fun W (h : Own X0 (Bk X4 79 #[.int .u32 a0, .int .u32 a1, .int .u32 a2, .int .u32 a3, .int .u32 a4, .int .u32 a5, .int .u32 a6, .int .u32 a7] * (Bk X3 96 (u32A ws) * (Bk X0 79 #[.int .u32 s0, .int .u32 s1, .int .u32 s2, .int .u32 s3, .int .u32 s4, .int .u32 s5, .int .u32 s6, .int .u32 s7] * (Bk X2 79 #[.int .u32 0, .int .u32 0, .int .u32 0, .int .u32 0, .int .u32 0, .int .u32 0, .int .u32 0, .int .u32 0] * (Bk X1 82 (u8A x) * Emp))))) W) =>
                (show W.cell? ⟨X4, 1, none⟩ = some (.int .u32 a1) ∧ W.cell? ⟨X4, 2, none⟩ = some (.int .u32 a2) ∧ W.cell? ⟨X4, 3, none⟩ = some (.int .u32 a3) ∧ W.cell? ⟨X4, 5, none⟩ = some (.int .u32 a5) ∧ W.cell? ⟨X4, 6, none⟩ = some (.int .u32 a6) ∧ W.cell? ⟨X4, 7, none⟩ = some (.int .u32 a7) ∧ W.cell? ⟨X3, i, none⟩ = some (.int .u32 (ws.getD i 0)) from ⟨h.cell 1, h.cell 2, h.cell 3, h.cell 5, h.cell 6, h.cell 7, (h.cellOf X3 i).trans (u32A_getD ws i (by omega))⟩))
              refine wp_region_mix (St X0 _ wr) [0, 1, 2, 3, 4, 5, 6, 7, 8, 9, 10, 11, 12, 13, 14, 15, 16, 17, 18, 19, 20, 21, 22, 23, 24, 25, 26, 27] [28] mixed (by kernel_rfl) rfl (St.drew Bw ho) ?_
              simp only [List.filterMap_cons, List.filterMap_nil, List.getElem?_toArray, List.getElem?_cons_succ, List.getElem?_cons_zero]
              repeat (first
                | (refine held_val ?_ rfl (fun w1 hS => ?_) ?_
                   rotate_left
                   · (have k := (G.out w1 hS.2.1).2.2.2.2.2.1
                      go_simp
                      try go_bits
                      rfl)
                   simp only [Act.put, List.setIfInBounds_toArray, List.set_cons_zero, List.set_cons_succ])
                | (refine held_off rfl ?_
                   simp only [Act.put, List.setIfInBounds_toArray, List.set_cons_zero, List.set_cons_succ]))
              refine held_call 64 #[.int .u32 a4, .int .i64 6] (.int .u32 (turn6 a4)) rfl (fun w1 hS => by go_simp) (fun w1 hS => (turn6_any a4 w1).mono ?_) ?_
              · rintro e w2 ⟨rfl, rfl⟩
                exact ⟨rfl, hS⟩
              simp only [Act.put, List.setIfInBounds_toArray, List.set_cons_zero, List.set_cons_succ]
              repeat (first
                | (refine held_val ?_ rfl (fun w1 hS => ?_) ?_
                   rotate_left
                   · (skip
                      go_simp
                      try go_bits
                      rfl)
                   simp only [Act.put, List.setIfInBounds_toArray, List.set_cons_zero, List.set_cons_succ])
                | (refine held_off rfl ?_
                   simp only [Act.put, List.setIfInBounds_toArray, List.set_cons_zero, List.set_cons_succ]))
              refine held_call 64 #[.int .u32 a4, .int .i64 11] (.int .u32 (turn11 a4)) rfl (fun w1 hS => by go_simp) (fun w1 hS => (turn11_any a4 w1).mono ?_) ?_
              · rintro e w2 ⟨rfl, rfl⟩
                exact ⟨rfl, hS⟩
              simp only [Act.put, List.setIfInBounds_toArray, List.set_cons_zero, List.set_cons_succ]
              repeat (first
                | (refine held_val ?_ rfl (fun w1 hS => ?_) ?_
                   rotate_left
                   · (skip
                      go_simp
                      try go_bits
                      rfl)
                   simp only [Act.put, List.setIfInBounds_toArray, List.set_cons_zero, List.set_cons_succ])
                | (refine held_off rfl ?_
                   simp only [Act.put, List.setIfInBounds_toArray, List.set_cons_zero, List.set_cons_succ]))
              refine held_call 64 #[.int .u32 a4, .int .i64 25] (.int .u32 (turn25 a4)) rfl (fun w1 hS => by go_simp) (fun w1 hS => (turn25_any a4 w1).mono ?_) ?_
              · rintro e w2 ⟨rfl, rfl⟩
                exact ⟨rfl, hS⟩
              simp only [Act.put, List.setIfInBounds_toArray, List.set_cons_zero, List.set_cons_succ]
              repeat (first
                | (refine held_val ?_ rfl (fun w1 hS => ?_) ?_
                   rotate_left
                   · (have k5 := (G.out w1 hS.2.1).2.2.2.1; have k6 := (G.out w1 hS.2.1).2.2.2.2.1; have kw := (G.out w1 hS.2.1).2.2.2.2.2.2
                      go_simp
                      try go_bits
                      rfl)
                   simp only [Act.put, List.setIfInBounds_toArray, List.set_cons_zero, List.set_cons_succ])
                | (refine held_off rfl ?_
                   simp only [Act.put, List.setIfInBounds_toArray, List.set_cons_zero, List.set_cons_succ]))
              refine held_nil (fun w9 hS => ?_)
              obtain ⟨B9, o9, b9⟩ := hS
              have hb9 := hb.trans b9
              clear ho hb b9 Bw
              go_wp2
              refine wp_region_mix (St X0 _ w9) [0, 1, 2, 3, 4, 5, 6, 7, 8, 9, 10, 11, 12, 13, 14, 15, 16, 17, 18, 19, 20, 21, 22, 23] [24] mixed (by kernel_rfl) rfl (St.drew B9 o9) ?_
              simp only [List.filterMap_cons, List.filterMap_nil, List.getElem?_toArray, List.getElem?_cons_succ, List.getElem?_cons_zero]
              repeat (first
                | (refine held_val ?_ rfl (fun w1 hS => ?_) ?_
                   rotate_left
                   · (skip
                      go_simp
                      try go_bits
                      rfl)
                   simp only [Act.put, List.setIfInBounds_toArray, List.set_cons_zero, List.set_cons_succ])
                | (refine held_off rfl ?_
                   simp only [Act.put, List.setIfInBounds_toArray, List.set_cons_zero, List.set_cons_succ]))
              refine held_call 64 #[.int .u32 a0, .int .i64 2] (.int .u32 (turn2 a0)) rfl (fun w1 hS => by go_simp) (fun w1 hS => (turn2_any a0 w1).mono ?_) ?_
              · rintro e w2 ⟨rfl, rfl⟩
                exact ⟨rfl, hS⟩
              simp only [Act.put, List.setIfInBounds_toArray, List.set_cons_zero, List.set_cons_succ]
              repeat (first
                | (refine held_val ?_ rfl (fun w1 hS => ?_) ?_
                   rotate_left
                   · (skip
                      go_simp
                      try go_bits
                      rfl)
                   simp only [Act.put, List.setIfInBounds_toArray, List.set_cons_zero, List.set_cons_succ])
                | (refine held_off rfl ?_
                   simp only [Act.put, List.setIfInBounds_toArray, List.set_cons_zero, List.set_cons_succ]))
              refine held_call 64 #[.int .u32 a0, .int .i64 13] (.int .u32 (turn13 a0)) rfl (fun w1 hS => by go_simp) (fun w1 hS => (turn13_any a0 w1).mono ?_) ?_
              · rintro e w2 ⟨rfl, rfl⟩
                exact ⟨rfl, hS⟩
              simp only [Act.put, List.setIfInBounds_toArray, List.set_cons_zero, List.set_cons_succ]
              repeat (first
                | (refine held_val ?_ rfl (fun w1 hS => ?_) ?_
                   rotate_left
                   · (skip
                      go_simp
                      try go_bits
                      rfl)
                   simp only [Act.put, List.setIfInBounds_toArray, List.set_cons_zero, List.set_cons_succ])
                | (refine held_off rfl ?_
                   simp only [Act.put, List.setIfInBounds_toArray, List.set_cons_zero, List.set_cons_succ]))
              refine held_call 64 #[.int .u32 a0, .int .i64 22] (.int .u32 (turn22 a0)) rfl (fun w1 hS => by go_simp) (fun w1 hS => (turn22_any a0 w1).mono ?_) ?_
              · rintro e w2 ⟨rfl, rfl⟩
                exact ⟨rfl, hS⟩
              simp only [Act.put, List.setIfInBounds_toArray, List.set_cons_zero, List.set_cons_succ]
              repeat (first
                | (refine held_val ?_ rfl (fun w1 hS => ?_) ?_
                   rotate_left
                   · (have k1 := (G.out w1 hS.2.1).1; have k2 := (G.out w1 hS.2.1).2.1
                      go_simp
                      try go_bits
                      rfl)
                   simp only [Act.put, List.setIfInBounds_toArray, List.set_cons_zero, List.set_cons_succ])
                | (refine held_off rfl ?_
                   simp only [Act.put, List.setIfInBounds_toArray, List.set_cons_zero, List.set_cons_succ]))
              refine held_nil (fun wa hS => ?_)
              obtain ⟨Ba, oa, ba⟩ := hS
              have hba := hb9.trans ba
              have c0 : wa.cell? ⟨X4, 0, none⟩ = some (.int .u32 a0) := oa.cell 0
              have c1 : wa.cell? ⟨X4, 1, none⟩ = some (.int .u32 a1) := oa.cell 1
              have c2 : wa.cell? ⟨X4, 2, none⟩ = some (.int .u32 a2) := oa.cell 2
              have c3 : wa.cell? ⟨X4, 3, none⟩ = some (.int .u32 a3) := oa.cell 3
              have c4 : wa.cell? ⟨X4, 4, none⟩ = some (.int .u32 a4) := oa.cell 4
              have c5 : wa.cell? ⟨X4, 5, none⟩ = some (.int .u32 a5) := oa.cell 5
              have c6 : wa.cell? ⟨X4, 6, none⟩ = some (.int .u32 a6) := oa.cell 6
              have c7 : wa.cell? ⟨X4, 7, none⟩ = some (.int .u32 a7) := oa.cell 7
              have z0 := oa.unfrozen 0
              have z1 := oa.unfrozen 1
              have z2 := oa.unfrozen 2
              have z3 := oa.unfrozen 3
              have z4 := oa.unfrozen 4
              have z5 := oa.unfrozen 5
              have z6 := oa.unfrozen 6
              have z7 := oa.unfrozen 7
              have Fin := Lib.hid (fun y0 y1 y2 y3 y4 y5 y6 y7 => (And.intro (oa.set8 Ba y0 y1 y2 y3 y4 y5 y6 y7).1 (hba.trans (oa.set8 Ba y0 y1 y2 y3 y4 y5 y6 y7).2)))
              clear oa ba hba hb9 o9 B9 G
              go_wp2
              go_roundg j
              case measure => omega
              case rel => exact ⟨i + 1, _, _, _, _, _, _, _, _, by have := Hk.out; omega, rfl, (Fin.out _ _ _ _ _ _ _ _).1, (Fin.out _ _ _ _ _ _ _ _).2⟩
            · have o3 : Own X0 (Bk X4 79 (u32A [a0, a1, a2, a3, a4, a5, a6, a7]) * (Bk X0 79 (u32A [s0, s1, s2, s3, s4, s5, s6, s7]) * (Bk X2 79 #[.int .u32 0, .int .u32 0, .int .u32 0, .int .u32 0, .int .u32 0, .int .u32 0, .int .u32 0, .int .u32 0] * Emp))) wr :=
                (ho.cast (show _ = Bk X3 96 (u32A ws) * (Bk X1 82 (u8A x) * (Bk X4 79 #[.int .u32 a0, .int .u32 a1, .int .u32 a2, .int .u32 a3, .int .u32 a4, .int .u32 a5, .int .u32 a6, .int .u32 a7] * (Bk X0 79 #[.int .u32 s0, .int .u32 s1, .int .u32 s2, .int .u32 s3, .int .u32 s4, .int .u32 s5, .int .u32 s6, .int .u32 s7] * (Bk X2 79 #[.int .u32 0, .int .u32 0, .int .u32 0, .int .u32 0, .int .u32 0, .int .u32 0, .int .u32 0, .int .u32 0] * Emp)))) by ac_rfl)).drop.drop
              obtain ⟨S, hS⟩ : ∃ S : List Int, S = [s0, s1, s2, s3, s4, s5, s6, s7] := ⟨_, rfl⟩
              rw [← hS] at o3
              have hSl : S.length = 8 := by rw [hS]; rfl
              clear ho hS
              go_wp2
              go_loopg [150] 8 (fun kk v150 wr => ∃ (i : Nat) (l : List Int), kk + i = 8 ∧ v150 = .int .i64 (i : Int) ∧ l.length = 8 ∧ Own X0 (Bk X4 79 (u32A l) * (Bk X0 79 (u32A S) * (Bk X2 79 #[.int .u32 0, .int .u32 0, .int .u32 0, .int .u32 0, .int .u32 0, .int .u32 0, .int .u32 0, .int .u32 0] * Emp))) wr ∧ Below X0 w wr)
              case atStart => exact ⟨0, _, rfl, rfl, rfl, o3, hb⟩
              case round =>
                clear o3 hb hk Bw
                obtain ⟨i, l, hk, rfl, hl, ho, hb⟩ := hrel
                have Bw : X0 ≤ wr.heap.size := by rw [← hX0]; exact hb.size
                have i0 : (0 : Int) ≤ (i : Int) := by omega
                by_cases hlt : (i : Int) < 8
                · obtain ⟨j, rfl⟩ : ∃ j, gk = j + 1 := ⟨gk - 1, by omega⟩
                  have hil : i < 8 := by omega
                  have Hk := Lib.hid (And.intro hk hl)
                  have HG := Lib.hid (fun W (h : Own X0 (Bk X4 79 (u32A l) * (Bk X0 79 (u32A S) * (Bk X2 79 #[.int .u32 0, .int .u32 0, .int .u32 0, .int .u32 0, .int .u32 0, .int .u32 0, .int .u32 0, .int .u32 0] * Emp))) W) => And.intro ((h.cell i).trans (u32A_getD l i (by omega))) ((h.cellOf X0 i).trans (u32A_getD S i (by omega))))
                  clear hk hl
                  generalize l.getD i 0 = li at *
                  generalize S.getD i 0 = si at *
                  go_wp2
                  refine wp_region_mix (St X0 _ wr) [0, 1, 2, 3, 4, 5, 6, 7] [8] mixed (by kernel_rfl) rfl (St.drew Bw ho) ?_
                  simp only [List.filterMap_cons, List.filterMap_nil, List.getElem?_toArray, List.getElem?_cons_succ, List.getElem?_cons_zero]
                  repeat (first
                    | (refine held_val ?_ rfl (fun w1 hS => ?_) ?_
                       rotate_left
                       · (have k1 := (HG.out w1 hS.2.1).1; have k2 := (HG.out w1 hS.2.1).2
                          go_simp
                          try go_bits
                          rfl)
                       simp only [Act.put, List.setIfInBounds_toArray, List.set_cons_zero, List.set_cons_succ])
                    | (refine held_off rfl ?_
                       simp only [Act.put, List.setIfInBounds_toArray, List.set_cons_zero, List.set_cons_succ]))
                  refine held_nil (fun w9 hS => ?_)
                  obtain ⟨B9, o9, b9⟩ := hS
                  have hb9 := hb.trans b9
                  have ci := (HG.out w9 o9).1
                  have zi := o9.unfrozen i
                  have Fin := Lib.hid (fun z => (And.intro ((u32A_set l i z) ▸ (o9.set B9 i (.int .u32 z))) (hb9.trans (o9.below_set i (.int .u32 z)))))
                  clear ho hb o9 b9 hb9 HG
                  go_wp2
                  go_roundg j
                  case measure => omega
                  case rel => exact ⟨i + 1, l.set i _, by have := Hk.out.1; omega, rfl, by rw [List.length_set]; exact Hk.out.2, (Fin.out _).1, (Fin.out _).2⟩
                · obtain ⟨t0, t1, t2, t3, t4, t5, t6, t7, rfl⟩ := list8 l hl
                  have ho : Own X0 (Bk X4 79 #[.int .u32 t0, .int .u32 t1, .int .u32 t2, .int .u32 t3, .int .u32 t4, .int .u32 t5, .int .u32 t6, .int .u32 t7] * (Bk X0 79 (u32A S) * (Bk X2 79 #[.int .u32 0, .int .u32 0, .int .u32 0, .int .u32 0, .int .u32 0, .int .u32 0, .int .u32 0, .int .u32 0] * Emp))) wr := ho
                  have c0 := ho.cell 0
                  have c1 := ho.cell 1
                  have c2 := ho.cell 2
                  have c3 := ho.cell 3
                  have c4 := ho.cell 4
                  have c5 := ho.cell 5
                  have c6 := ho.cell 6
                  have c7 := ho.cell 7
                  have d0 := ho.cellOf X2 0
                  have d1 := ho.cellOf X2 1
                  have d2 := ho.cellOf X2 2
                  have d3 := ho.cellOf X2 3
                  have d4 := ho.cellOf X2 4
                  have d5 := ho.cellOf X2 5
                  have d6 := ho.cellOf X2 6
                  have d7 := ho.cellOf X2 7
                  have z0 := ho.freeOf X2 0
                  have z1 := ho.freeOf X2 1
                  have z2 := ho.freeOf X2 2
                  have z3 := ho.freeOf X2 3
                  have z4 := ho.freeOf X2 4
                  have z5 := ho.freeOf X2 5
                  have z6 := ho.freeOf X2 6
                  have z7 := ho.freeOf X2 7
                  obtain ⟨p, pb⟩ := (ho.drop.drop).set8 Bw (.int .u32 t0) (.int .u32 t1) (.int .u32 t2) (.int .u32 t3) (.int .u32 t4) (.int .u32 t5) (.int .u32 t6) (.int .u32 t7)
                  go_wp2
                  refine bodyPost_ret (results_cell_row rfl _ _ X2 79 #[.int .u32 t0, .int .u32 t1, .int .u32 t2, .int .u32 t3, .int .u32 t4, .int .u32 t5, .int .u32 t6, .int .u32 t7] (0, 0) _ rfl p.bk.1 Tryd.underlying79 rfl (by kernel_rfl)) rfl ?_
                  exact ⟨⟨t0, t1, t2, t3, t4, t5, t6, t7, rfl⟩, hb.trans pb⟩
end Go.Proofs.YtmppagiaonbggaaDoor
