/- A statement whose order Go leaves open, of two threads, each with what it owns: in whatever order their steps come, both end as each ends alone; then comes the rest. -/
import Derived.Test.YtfppancidgamjaaDoorMix
import Derived.Test.YtfppancidgamjaaDoorSl
namespace Go.Proofs.YtfppancidgamjaaDoor
set_option linter.unusedVariables false
set_option linter.unusedSimpArgs false
open Go.RowKit

section
variable {P : Program} {ops : Array Oper} {md : Region.Mode} {Q : Exit → Act → World → Prop} {B : Nat}

/-- From every world in which A is owned (beside whatever) the operation ends in some value and some owning that Ψ tells. -/
def StepR (P : Program) (B : Nat) (o : Oper) (a : Act) (A : HP) (Ψ : Value → HP → Prop) : Prop :=
  ∀ (R : HP) [Loc B R] (w : World), B ≤ w.heap.size → Own B (A * R) w → match (execOp a.eval o).run P w with
    | .ok (.value u) w' => ∃ A', Ψ u A' ∧ Own B (A' * R) w' ∧ Below B w w'
    | .ok .skip w' => ∃ A', Ψ undef A' ∧ Own B (A' * R) w' ∧ Below B w w'
    | .ok (.enter f args) w' => Calls P f args w' fun e w'' => ∃ u A', e = .returned u ∧ Ψ u A' ∧ Own B (A' * R) w'' ∧ Below B w w''
    | _ => False

/-- A thread: its operations in their order, each from what the one ahead has left; at the end Φ tells of the values and of what is owned. -/
def TW (P : Program) (ops : Array Oper) (B : Nat) : List Oper → (List Value → HP → Prop) → Act → HP → Prop
  | [], Φ, _, A => Φ [] A
  | o :: l, Φ, a, A => Loc B A ∧ ((Region.wanted o (yielded ops a.tmps) = true ∧ StepR P B o a A (fun v A' => Loc B A' ∧ TW P ops B l (fun vs => Φ (v :: vs)) (a.put o.dst v) A')) ∨
      (Region.wanted o (yielded ops a.tmps) = false ∧ TW P ops B l (fun vs => Φ (undef :: vs)) (a.put o.dst undef) A))

def putAll : List Oper → List Value → Act → Act
  | o :: l, v :: vs, a => putAll l vs (a.put o.dst v)
  | _, _, a => a

theorem StepR.imp {o : Oper} {a : Act} {A : HP} {Ψ Ψ' : Value → HP → Prop} (h : StepR P B o a A Ψ) (hi : ∀ v A', Ψ v A' → Ψ' v A') : StepR P B o a A Ψ' := by
  intro R _ w hB hO
  have h1 := h R w hB hO
  generalize (execOp a.eval o).run P w = r at h1 ⊢
  cases r with
  | ok n w' =>
    cases n <;> simp only at h1 ⊢
    case value u => obtain ⟨A', h2, h3⟩ := h1; exact ⟨A', hi _ _ h2, h3⟩
    case skip => obtain ⟨A', h2, h3⟩ := h1; exact ⟨A', hi _ _ h2, h3⟩
    case enter f args => exact h1.mono fun e w'' ⟨u, A', he, h2, h3⟩ => ⟨u, A', he, hi _ _ h2, h3⟩
  | halt x w' => cases x <;> exact h1.elim

theorem TW.put (hsel : Region.noSelect ops = true) {oi : Oper} {v : Value} : ∀ (l : List Oper) (Φ : List Value → HP → Prop) (a : Act) (A : HP), (∀ o ∈ l, (∃ j : Nat, ops[j]? = some o) ∧ o.apart ops oi = true) → TW P ops B l Φ a A → TW P ops B l Φ (a.put oi.dst v) A
  | [], _, _, _, _, h => h
  | o :: l, Φ, a, A, hap, h => by
    obtain ⟨⟨j, hj⟩, hoa⟩ := hap o List.mem_cons_self
    obtain ⟨h1, h2, h3⟩ := Oper.apart_spec hoa
    have sj := Region.noSelect_spec hsel j o
    have he := execOp_put o (fun cs b => sj cs b hj) a oi.dst v h3
    have hw := wanted_put o a oi.dst v h3
    have hl : ∀ o' ∈ l, (∃ j : Nat, ops[j]? = some o') ∧ o'.apart ops oi = true := fun o' ho' => hap o' (List.mem_cons_of_mem _ ho')
    obtain ⟨hloc, h⟩ := h
    refine ⟨hloc, ?_⟩
    rcases h with ⟨hwa, hst⟩ | ⟨hwa, hr⟩
    · left
      refine ⟨by rw [hw]; exact hwa, ?_⟩
      have hst' : StepR P B o (a.put oi.dst v) A (fun v' A' => Loc B A' ∧ TW P ops B l (fun vs => Φ (v' :: vs)) (a.put o.dst v') A') := by
        unfold StepR at hst ⊢
        rw [he]
        exact hst
      refine hst'.imp fun v' A' ⟨hl', ht⟩ => ⟨hl', ?_⟩
      rw [← Act.put_comm a v' v h2]
      exact TW.put hsel l _ _ _ hl ht
    · right
      refine ⟨by rw [hw]; exact hwa, ?_⟩
      rw [← Act.put_comm a undef v h2]
      exact TW.put hsel l _ _ _ hl hr

theorem putAll_put : ∀ (l : List Oper) (vs : List Value) (a : Act) (oi : Oper) (v : Value), (∀ o ∈ l, o.apart ops oi = true) → putAll l vs (a.put oi.dst v) = (putAll l vs a).put oi.dst v
  | [], _, _, _, _, _ => by simp [putAll]
  | o :: l, [], _, _, _, _ => by simp [putAll]
  | o :: l, u :: vs, a, oi, v, h => by
    obtain ⟨h1, h2, h3⟩ := Oper.apart_spec (h o List.mem_cons_self)
    show putAll l vs ((a.put oi.dst v).put o.dst u) = (putAll l vs (a.put o.dst u)).put oi.dst v
    rw [← Act.put_comm a u v h2]
    exact putAll_put l vs _ oi v (fun o' ho' => h o' (List.mem_cons_of_mem _ ho'))

theorem StepR.wp {o : Oper} {a : Act} {A R : HP} [Loc B R] {Ψ : Value → HP → Prop} {w : World} (h : StepR P B o a A Ψ) (hB : B ≤ w.heap.size) (hO : Own B (A * R) w) {K : Act → World → Prop}
    (hK : ∀ v A' w', Ψ v A' → Own B (A' * R) w' → Below B w w' → K (a.put o.dst v) w') : o.wp P a w K Q := by
  have h1 := h R w hB hO
  unfold Oper.wp
  generalize (execOp a.eval o).run P w = r at h1
  cases r with
  | ok n w' =>
    cases n <;> simp only [Oper.upon] at h1 ⊢
    case value u => obtain ⟨A', h2, h3, h4⟩ := h1; exact hK _ _ _ h2 h3 h4
    case skip => obtain ⟨A', h2, h3, h4⟩ := h1; exact hK _ _ _ h2 h3 h4
    case enter f args => exact h1.mono fun e w'' ⟨u, A', he, h2, h3, h4⟩ => by subst he; exact hK _ _ _ h2 h3 h4
  | halt x w' => cases x <;> exact h1.elim

/-! the static look -/
def apartAll (ops : Array Oper) (l1 l2 : List Nat) : Bool := l1.all fun i => l2.all fun j => match ops[i]?, ops[j]? with | some oi, some oj => oi.apart ops oj && oj.apart ops oi | _, _ => false
def lastOf : List Nat → Option Nat
  | [] => none
  | [i] => some i
  | _ :: l => lastOf l
def behind (md : Region.Mode) (ops : Array Oper) (l : List Nat) (t : Nat) : Bool := match lastOf l with | none => true | some i => Region.waitsFor md ops t i
def twoB (md : Region.Mode) (ops : Array Oper) (listed : Array Bool) (l1 l2 ts : List Nat) : Bool :=
  Region.noSelect ops && decide (listed.size = ops.size) &&
  ((List.range ops.size).all fun j => listed.getD j true || l1.contains j || l2.contains j || ts.contains j) &&
  ((l1 ++ l2 ++ ts).all fun j => decide (j < ops.size) && !listed.getD j true) &&
  decide (l1 ++ l2).Nodup && lexOk md ops l1 listed && lexOk md ops l2 listed && chained md ops l1 && chained md ops l2 &&
  (ts.all fun t => !(l1 ++ l2).contains t && ((ts.any fun s => Region.waitsFor md ops t s) || (behind md ops l1 t && behind md ops l2 t))) && apartAll ops l1 l2

structure TwoOk (md : Region.Mode) (ops : Array Oper) (listed : Array Bool) (l1 l2 ts : List Nat) : Prop where
  size : listed.size = ops.size
  cover : ∀ j, j < ops.size → listed.getD j true = false → j ∈ l1 ∨ j ∈ l2 ∨ j ∈ ts
  un : ∀ j, j ∈ l1 ∨ j ∈ l2 ∨ j ∈ ts → j < ops.size ∧ listed.getD j true = false
  nd1 : l1.Nodup
  nd2 : l2.Nodup
  dis : ∀ i ∈ l1, i ∉ l2
  ndt : ∀ t ∈ ts, t ∉ l1 ∧ t ∉ l2
  lex1 : lexOk md ops l1 listed = true
  lex2 : lexOk md ops l2 listed = true
  ch1 : chained md ops l1 = true
  ch2 : chained md ops l2 = true
  root : ∀ t ∈ ts, (∃ s ∈ ts, Region.waitsFor md ops t s = true) ∨ (behind md ops l1 t = true ∧ behind md ops l2 t = true)
  apart : ∀ i ∈ l1, ∀ j ∈ l2, ∀ oi oj, ops[i]? = some oi → ops[j]? = some oj → oi.apart ops oj = true ∧ oj.apart ops oi = true

theorem twoB_ok {listed : Array Bool} {l1 l2 ts : List Nat} (h : twoB md ops listed l1 l2 ts = true) : Region.noSelect ops = true ∧ TwoOk md ops listed l1 l2 ts := by
  simp only [twoB, Bool.and_eq_true, decide_eq_true_eq] at h
  obtain ⟨⟨⟨⟨⟨⟨⟨⟨⟨⟨h1, h2⟩, h3⟩, h4⟩, h5⟩, h6⟩, h7⟩, h8⟩, h9⟩, h10⟩, h11⟩ := h
  have hnd := List.nodup_append.1 h5
  refine ⟨h1, h2, fun j hj hl => ?_, fun j hj => ?_, hnd.1, hnd.2.1, fun i hi hi2 => hnd.2.2 i hi i hi2 rfl, fun t ht => ?_, h6, h7, h8, h9, fun t ht => ?_, fun i hi j hj oi oj hoi hoj => ?_⟩
  · have := List.all_eq_true.1 h3 j (List.mem_range.2 hj)
    rw [hl] at this
    simpa [or_assoc] using this
  · have := List.all_eq_true.1 h4 j (by simp; exact hj)
    simp only [Bool.and_eq_true, decide_eq_true_eq, Bool.not_eq_true'] at this
    exact this
  · have := List.all_eq_true.1 h10 t ht
    simp only [Bool.and_eq_true, Bool.not_eq_true'] at this
    have h := this.1
    simp at h
    exact h
  · have := List.all_eq_true.1 h10 t ht
    simp only [Bool.and_eq_true, Bool.or_eq_true, List.any_eq_true] at this
    exact this.2
  · have := List.all_eq_true.1 (List.all_eq_true.1 h11 i hi) j hj
    rw [hoi, hoj] at this
    simpa [Bool.and_eq_true] using this

theorem lastOf_mem : ∀ (l : List Nat) (i : Nat), lastOf l = some i → i ∈ l
  | [x], i, h => by injection h with h; subst h; exact List.mem_cons_self
  | x :: y :: l, i, h => List.mem_cons_of_mem _ (lastOf_mem (y :: l) i h)
theorem lastOf_some : ∀ (x : Nat) (l : List Nat), ∃ i, lastOf (x :: l) = some i
  | x, [] => ⟨x, rfl⟩
  | _, y :: l => lastOf_some y l

theorem TwoOk.only {listed : Array Bool} {l1 l2 ts : List Nat} (ok : TwoOk md ops listed l1 l2 ts) (hne : l1 ≠ [] ∨ l2 ≠ []) {i : Nat} (hi : i ∈ Region.ready md ops listed) : (∃ l, l1 = i :: l) ∨ (∃ l, l2 = i :: l) := by
  obtain ⟨hlt, hun, hed⟩ := mem_ready'.1 hi
  have bad : ∀ s, s ∈ l1 ∨ s ∈ l2 ∨ s ∈ ts → Region.waitsFor md ops i s = true → False := fun s hs' hw => by
    have h1 := edgesIn_waits hed hw
    rw [getD_both (ok.un s hs').2] at h1
    cases h1
  rcases ok.cover i hlt hun with h | h | h
  · rcases chained_prev l1 i ok.ch1 h with h2 | ⟨s, hs, hw⟩
    · exact .inl h2
    · exact (bad s (.inl hs) hw).elim
  · rcases chained_prev l2 i ok.ch2 h with h2 | ⟨s, hs, hw⟩
    · exact .inr h2
    · exact (bad s (.inr (.inl hs)) hw).elim
  · exfalso
    rcases ok.root i h with ⟨s, hs, hw⟩ | ⟨hb1, hb2⟩
    · exact bad s (.inr (.inr hs)) hw
    · rcases hne with hne | hne
      · obtain ⟨x, l, rfl⟩ : ∃ x l, l1 = x :: l := by cases l1 with | nil => exact absurd rfl hne | cons x l => exact ⟨x, l, rfl⟩
        obtain ⟨j, hj⟩ := lastOf_some x l
        rw [behind, hj] at hb1
        exact bad j (.inl (lastOf_mem _ _ hj)) hb1
      · obtain ⟨x, l, rfl⟩ : ∃ x l, l2 = x :: l := by cases l2 with | nil => exact absurd rfl hne | cons x l => exact ⟨x, l, rfl⟩
        obtain ⟨j, hj⟩ := lastOf_some x l
        rw [behind, hj] at hb2
        exact bad j (.inr (.inl (lastOf_mem _ _ hj))) hb2

theorem behind_tail {i : Nat} {l : List Nat} {t : Nat} (h : behind md ops (i :: l) t = true) : behind md ops l t = true := by
  cases l with
  | nil => rfl
  | cons y l => exact h
theorem chained_tail {i : Nat} {l : List Nat} (h : chained md ops (i :: l) = true) : chained md ops l = true := by
  simp only [chained, Bool.and_eq_true] at h
  exact h.2

theorem TwoOk.swap {listed : Array Bool} {l1 l2 ts : List Nat} (ok : TwoOk md ops listed l1 l2 ts) : TwoOk md ops listed l2 l1 ts :=
  ⟨ok.size, fun j hj hl => (by rcases ok.cover j hj hl with h | h | h <;> simp [h]), fun j hj => ok.un j (by rcases hj with h | h | h <;> simp [h]), ok.nd2, ok.nd1, fun i hi h => ok.dis i h hi, fun t ht => (ok.ndt t ht).symm, ok.lex2, ok.lex1, ok.ch2, ok.ch1,
   fun t ht => (ok.root t ht).imp id And.symm, fun i hi j hj oi oj hoi hoj => (ok.apart j hj i hi oj oi hoj hoi).symm⟩

theorem TwoOk.strike {listed : Array Bool} {i : Nat} {l1 l2 ts : List Nat} (ok : TwoOk md ops listed (i :: l1) l2 ts) : TwoOk md ops (listed.setIfInBounds i true) l1 l2 ts := by
  obtain ⟨hlt, hui⟩ := ok.un i (.inl List.mem_cons_self)
  have hn := List.nodup_cons.1 ok.nd1
  have hi2 := ok.dis i List.mem_cons_self
  have hne : ∀ j, j ∈ l1 ∨ j ∈ l2 ∨ j ∈ ts → i ≠ j := by
    rintro j hj rfl
    rcases hj with h | h | h
    · exact hn.1 h
    · exact hi2 h
    · exact (ok.ndt i h).1 List.mem_cons_self
  have hlex := ok.lex1
  simp only [lexOk, Bool.and_eq_true] at hlex
  refine ⟨by simp [ok.size], fun j hj hl => ?_, fun j hj => ?_, hn.2, ok.nd2, fun j hj => ok.dis j (List.mem_cons_of_mem _ hj), fun t ht => ⟨fun h => (ok.ndt t ht).1 (List.mem_cons_of_mem _ h), (ok.ndt t ht).2⟩, hlex.2, lexOk_set _ _ ok.lex2, chained_tail ok.ch1, ok.ch2,
    fun t ht => (ok.root t ht).imp id (fun h => ⟨behind_tail h.1, h.2⟩), fun a ha b hb => ok.apart a (List.mem_cons_of_mem _ ha) b hb⟩
  · by_cases hij : i = j
    · subst hij
      rw [show (listed.setIfInBounds i true).getD i true = true by simp [ok.size, hlt]] at hl
      cases hl
    · rw [getD_set_ne true hij] at hl
      rcases ok.cover j hj hl with h | h | h
      · rcases List.mem_cons.1 h with h | h
        · exact absurd h.symm hij
        · exact .inl h
      · exact .inr (.inl h)
      · exact .inr (.inr h)
  · have := ok.un j (by rcases hj with h | h | h <;> simp [h])
    exact ⟨this.1, by rw [getD_set_ne true (hne j hj)]; exact this.2⟩

theorem markAll_set : ∀ (l : List Nat) (i : Nat) (listed : Array Bool), markAll l (listed.setIfInBounds i true) = (markAll l listed).setIfInBounds i true
  | [], _, _ => rfl
  | j :: l, i, listed => by
    show markAll l ((listed.setIfInBounds i true).setIfInBounds j true) = (markAll l (listed.setIfInBounds j true)).setIfInBounds i true
    rw [← markAll_set l i]
    by_cases h : i = j
    · subst h; rfl
    · rw [Array.setIfInBounds_comm _ _ h]

def opsOf (ops : Array Oper) (l : List Nat) : List Oper := l.filterMap fun i => ops[i]?
theorem opsOf_cons {i : Nat} {l : List Nat} {o : Oper} (h : ops[i]? = some o) : opsOf ops (i :: l) = o :: opsOf ops l := by simp [opsOf, h]
theorem mem_opsOf {l : List Nat} {o : Oper} (h : o ∈ opsOf ops l) : ∃ i ∈ l, ops[i]? = some o := by
  simpa [opsOf] using h

theorem wpAny_two (hsel : Region.noSelect ops = true) {ts : List Nat} {R : HP} [Loc B R] {fuel : Nat} : ∀ (n : Nat) (l1 l2 : List Nat) (listed : Array Bool) (a : Act) (w : World) (Φ1 Φ2 : List Value → HP → Prop) (A1 A2 : HP), l1.length + l2.length = n → Loc B A1 → Loc B A2 →
    TwoOk md ops listed l1 l2 ts → TW P ops B (opsOf ops l1) Φ1 a A1 → TW P ops B (opsOf ops l2) Φ2 a A2 → B ≤ w.heap.size → Own B (A1 * (A2 * R)) w →
    (∀ vs1 A1' vs2 A2' w', Φ1 vs1 A1' → Φ2 vs2 A2' → Own B (A1' * (A2' * R)) w' → Below B w w' → wpAny P md ops Q fuel (markAll l2 (markAll l1 listed)) (putAll (opsOf ops l2) vs2 (putAll (opsOf ops l1) vs1 a)) w') →
    wpAny P md ops Q (n + fuel) listed a w
  | 0, l1, l2, listed, a, w, Φ1, Φ2, A1, A2, hn, _, _, ok, h1, h2, hB, hO, hK => by
    obtain rfl : l1 = [] := List.eq_nil_of_length_eq_zero (by omega)
    obtain rfl : l2 = [] := List.eq_nil_of_length_eq_zero (by omega)
    rw [Nat.zero_add]
    exact hK [] A1 [] A2 w h1 h2 hO (Below.refl B w)
  | n + 1, l1, l2, listed, a, w, Φ1, Φ2, A1, A2, hn, k1, k2, ok, h1, h2, hB, hO, hK => by
    rw [show n + 1 + fuel = (n + fuel) + 1 by omega]
    have hne : l1 ≠ [] ∨ l2 ≠ [] := by
      cases l1 with
      | nil => right; intro e; subst e; simp at hn
      | cons x l => left; simp
    have hrdy : Region.ready md ops listed ≠ [] := by
      intro h0
      rcases hne with hne | hne
      · obtain ⟨x, l, rfl⟩ : ∃ x l, l1 = x :: l := by cases l1 with | nil => exact absurd rfl hne | cons x l => exact ⟨x, l, rfl⟩
        have hlex := ok.lex1
        simp only [lexOk, Bool.and_eq_true] at hlex
        have hun := ok.un x (by simp)
        have : x ∈ Region.ready md ops listed := mem_ready'.2 ⟨hun.1, hun.2, hlex.1⟩
        rw [h0] at this; cases this
      · obtain ⟨x, l, rfl⟩ : ∃ x l, l2 = x :: l := by cases l2 with | nil => exact absurd rfl hne | cons x l => exact ⟨x, l, rfl⟩
        have hlex := ok.lex2
        simp only [lexOk, Bool.and_eq_true] at hlex
        have hun := ok.un x (by simp)
        have : x ∈ Region.ready md ops listed := mem_ready'.2 ⟨hun.1, hun.2, hlex.1⟩
        rw [h0] at this; cases this
    refine ⟨fun h0 => absurd h0 hrdy, fun i hi => ?_⟩
    have hlt := (mem_ready'.1 hi).1
    obtain ⟨o, ho⟩ : ∃ o, ops[i]? = some o := ⟨_, Array.getElem?_eq_getElem hlt⟩
    unfold wpOp
    simp only [ho]
    rcases ok.only hne hi with ⟨l, rfl⟩ | ⟨l, rfl⟩
    · rw [opsOf_cons ho] at h1
      have hap : ∀ o' ∈ opsOf ops l2, (∃ j : Nat, ops[j]? = some o') ∧ o'.apart ops o = true := fun o' h' => by
        obtain ⟨j, hj, hoj⟩ := mem_opsOf h'
        exact ⟨⟨j, hoj⟩, (ok.apart i List.mem_cons_self j hj o o' ho hoj).2⟩
      have hlen : l.length + l2.length = n := by simp at hn; omega
      obtain ⟨_, h1 | h1⟩ := h1
      · rw [if_pos h1.1]
        left
        refine h1.2.wp hB hO fun v A' w' ⟨kl, ht⟩ hO' hb => ?_
        refine wpAny_two hsel n l l2 _ _ w' (fun vs => Φ1 (v :: vs)) Φ2 A' A2 hlen kl k2 ok.strike ht (h2.put hsel _ _ _ _ hap) (Nat.le_trans hB hb.size) hO' fun vs1 A1' vs2 A2' w'' p1 p2 hO'' hb' => ?_
        have := hK (v :: vs1) A1' vs2 A2' w'' p1 p2 hO'' (hb.trans hb')
        rw [opsOf_cons ho] at this
        exact this
      · rw [if_neg (by rw [h1.1]; exact Bool.false_ne_true)]
        refine wpAny_two hsel n l l2 _ _ w (fun vs => Φ1 (undef :: vs)) Φ2 A1 A2 hlen k1 k2 ok.strike h1.2 (h2.put hsel _ _ _ _ hap) hB hO fun vs1 A1' vs2 A2' w'' p1 p2 hO'' hb' => ?_
        have := hK (undef :: vs1) A1' vs2 A2' w'' p1 p2 hO'' hb'
        rw [opsOf_cons ho] at this
        exact this
    · rw [opsOf_cons ho] at h2
      have hap : ∀ o' ∈ opsOf ops l1, (∃ j : Nat, ops[j]? = some o') ∧ o'.apart ops o = true := fun o' h' => by
        obtain ⟨j, hj, hoj⟩ := mem_opsOf h'
        exact ⟨⟨j, hoj⟩, (ok.apart j hj i List.mem_cons_self o' o hoj ho).1⟩
      have hlen : l1.length + l.length = n := by simp at hn; omega
      obtain ⟨_, h2 | h2⟩ := h2
      · rw [if_pos h2.1]
        left
        refine h2.2.wp hB (hO.cast (sep_left_comm _ _ _)) fun v A' w' ⟨kl, ht⟩ hO' hb => ?_
        refine wpAny_two hsel n l1 l _ _ w' Φ1 (fun vs => Φ2 (v :: vs)) A1 A' hlen k1 kl ok.swap.strike.swap (h1.put hsel _ _ _ _ hap) ht (Nat.le_trans hB hb.size) (hO'.cast (sep_left_comm _ _ _)) fun vs1 A1' vs2 A2' w'' p1 p2 hO'' hb' => ?_
        have := hK vs1 A1' (v :: vs2) A2' w'' p1 p2 hO'' (hb.trans hb')
        rw [opsOf_cons ho] at this
        rw [putAll_put _ _ _ _ _ (fun o' h' => (hap o' h').2), markAll_set]
        exact this
      · rw [if_neg (by rw [h2.1]; exact Bool.false_ne_true)]
        refine wpAny_two hsel n l1 l _ _ w Φ1 (fun vs => Φ2 (undef :: vs)) A1 A2 hlen k1 k2 ok.swap.strike.swap (h1.put hsel _ _ _ _ hap) h2.2 hB hO fun vs1 A1' vs2 A2' w'' p1 p2 hO'' hb' => ?_
        have := hK vs1 A1' (undef :: vs2) A2' w'' p1 p2 hO'' hb'
        rw [opsOf_cons ho] at this
        rw [putAll_put _ _ _ _ _ (fun o' h' => (hap o' h').2), markAll_set]
        exact this

/-- THE RULE: us free, at whatever time · l1 and l2 two threads · ts behind both. -/
theorem wp_region_two {id : Nat} {a : Act} {w : World} (us l1 l2 ts : List Nat) (A1 A2 R : HP) [k1 : Loc B A1] [k2 : Loc B A2] [Loc B R] (hm : P.follows .mixedOrders = true)
    (hB : (freeB .any ops us (Array.replicate ops.size false) && twoB .any ops (markAll us (Array.replicate ops.size false)) l1 l2 ts) = true) (hf : ops.size = us.length + ((l1.length + l2.length) + ts.length))
    (hQ : ∀ c a d v w, Q (.panic c) (a.put (some d) v) w → Q (.panic c) a w) (hsz : B ≤ w.heap.size) (hO : Own B (A1 * (A2 * R)) w.drew)
    (h : wpFree P ops (fun a1 => ∃ Φ1 Φ2 : List Value → HP → Prop, TW P ops B (opsOf ops l1) Φ1 a1 A1 ∧ TW P ops B (opsOf ops l2) Φ2 a1 A2 ∧
      ∀ vs1 A1' vs2 A2' w', Φ1 vs1 A1' → Φ2 vs2 A2' → Own B (A1' * (A2' * R)) w' → Below B w w' → wpAny P .any ops Q ts.length (markAll l2 (markAll l1 (markAll us (Array.replicate ops.size false)))) (putAll (opsOf ops l2) vs2 (putAll (opsOf ops l1) vs1 a1)) w')
      (us.filterMap fun i => ops[i]?) a) : (Code.region id ops true).wp P Q a w := by
  rw [Bool.and_eq_true] at hB
  refine wp_region_any hm ?_
  obtain ⟨hsel, ok⟩ := twoB_ok hB.2
  have hgo : wpAny P .any ops Q (us.length + ((l1.length + l2.length) + ts.length)) (Array.replicate ops.size false) a w.drew := by
    refine wpAny_free hQ hsel us _ a hB.1 (fun a' ⟨Φ1, Φ2, t1, t2, hK⟩ => ?_) h
    exact wpAny_two hsel (l1.length + l2.length) l1 l2 _ a' _ Φ1 Φ2 A1 A2 rfl k1 k2 ok t1 t2 hsz hO fun vs1 A1' vs2 A2' w' p1 p2 ho hb => hK vs1 A1' vs2 A2' w' p1 p2 ho ((Below.refl B w).drew.trans hb)
  rw [← hf] at hgo
  exact hgo

/-! the steps -/
theorem tw_nil {Φ : List Value → HP → Prop} {a : Act} {A : HP} (h : Φ [] A) : TW P ops B [] Φ a A := h
theorem tw_val {o : Oper} {l : List Oper} {Φ : List Value → HP → Prop} {a : Act} {A : HP} [k : Loc B A] (v : Value) (hw : Region.wanted o (yielded ops a.tmps) = true)
    (hv : ∀ (R : HP) [Loc B R] (w : World), Own B (A * R) w → (execOp a.eval o).run P w = .ok (.value v) w) (h : TW P ops B l (fun vs => Φ (v :: vs)) (a.put o.dst v) A) : TW P ops B (o :: l) Φ a A :=
  ⟨k, .inl ⟨hw, fun R _ w hB hO => by rw [hv R w hO]; exact ⟨A, ⟨k, h⟩, hO, Below.refl B w⟩⟩⟩
theorem tw_call {o : Oper} {l : List Oper} {Φ : List Value → HP → Prop} {a : Act} {A : HP} [k : Loc B A] (f : FuncId) (args : Array Value) (Ψ : Value → HP → Prop) (hw : Region.wanted o (yielded ops a.tmps) = true)
    (hr : ∀ (R : HP) [Loc B R] (w : World), Own B (A * R) w → (execOp a.eval o).run P w = .ok (.enter f args) w)
    (hc : ∀ (R : HP) [Loc B R] (w : World), B ≤ w.heap.size → Own B (A * R) w → Calls P f args w fun e w' => ∃ v A', e = .returned v ∧ (Loc B A' ∧ Ψ v A') ∧ Own B (A' * R) w' ∧ Below B w w')
    (h : ∀ v A', Loc B A' → Ψ v A' → TW P ops B l (fun vs => Φ (v :: vs)) (a.put o.dst v) A') : TW P ops B (o :: l) Φ a A :=
  ⟨k, .inl ⟨hw, fun R _ w hB hO => by rw [hr R w hO]; exact (hc R w hB hO).mono fun e w' ⟨v, A', he, ⟨kl, hp⟩, ho, hb⟩ => ⟨v, A', he, ⟨kl, h v A' kl hp⟩, ho, hb⟩⟩⟩
theorem Own.row_n {B : Nat} {R : HP} {w : World} {e : TypeId} {size : Nat} {v : Value} {n : Nat} {xs : List Value} (h : Own B (Rw e size v n xs * R) w) : ∃ A c, v = .slice A n c := by
  rcases h.row.2 with ⟨rfl, rfl⟩ | ⟨g, cap, cur, rfl, _⟩
  · exact ⟨_, _, rfl⟩
  · exact ⟨_, _, rfl⟩
end
end Go.Proofs.YtfppancidgamjaaDoor
