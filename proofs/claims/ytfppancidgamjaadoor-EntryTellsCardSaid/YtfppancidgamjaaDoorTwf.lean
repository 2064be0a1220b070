/- The rule of two threads of which the first one has steps that are free as soon as they are ready (fl): these come at once. -/
import Derived.Test.YtfppancidgamjaaDoorTwo
namespace Go.Proofs.YtfppancidgamjaaDoor
set_option linter.unusedVariables false
set_option linter.unusedSimpArgs false
open Go.RowKit

section
variable {P : Program} {ops : Array Oper} {md : Region.Mode} {Q : Exit → Act → World → Prop} {B : Nat}

theorem getD_set_tt {a : Array Bool} {k j : Nat} (h : a.getD k true = true) : (a.setIfInBounds j true).getD k true = true := by
  by_cases e : j = k
  · subst e
    by_cases hs : j < a.size
    · simp [Array.getD_eq_getD_getElem?, hs]
    · simp [Array.getD_eq_getD_getElem?, hs]
  · rw [getD_set_ne true e]; exact h
theorem free_set {listed : Array Bool} {i j : Nat} (h : Region.free md ops listed i = true) : Region.free md ops (listed.setIfInBounds j true) i = true := by
  unfold Region.free at *
  split at h
  · cases h
  · rename_i oi _
    simp only [List.all_eq_true] at h ⊢
    intro k hk
    have h1 := h k hk
    simp only [Bool.or_eq_true] at h1 ⊢
    rcases h1 with (h1 | h1) | h1
    · exact .inl (.inl h1)
    · exact .inl (.inr (getD_set_tt h1))
    · exact .inr h1
def freeL (fl : List Nat) (md : Region.Mode) (ops : Array Oper) : List Nat → Array Bool → Bool
  | [], _ => true
  | i :: l, listed => (!fl.contains i || Region.free md ops listed i) && freeL fl md ops l (listed.setIfInBounds i true)
theorem freeL_set {fl : List Nat} {j : Nat} : ∀ (l : List Nat) (listed : Array Bool), freeL fl md ops l listed = true → freeL fl md ops l (listed.setIfInBounds j true) = true
  | [], _, _ => rfl
  | i :: l, listed, h => by
    simp only [freeL, Bool.and_eq_true, Bool.or_eq_true] at h ⊢
    refine ⟨h.1.imp id free_set, ?_⟩
    by_cases hij : i = j
    · subst hij; exact freeL_set l _ h.2
    · rw [Array.setIfInBounds_comm _ _ (Ne.symm hij)]; exact freeL_set l _ h.2
def rootedF (fl : List Nat) (md : Region.Mode) (ops : Array Oper) : List Nat → Bool
  | [] => true
  | s :: l => (fl.contains s || l.all fun t => (s :: l).any fun x => Region.waitsFor md ops t x) && rootedF fl md ops l
def twofB (fl : List Nat) (md : Region.Mode) (ops : Array Oper) (listed : Array Bool) (l1 l2 ts : List Nat) : Bool :=
  Region.noSelect ops && decide (listed.size = ops.size) &&
  ((List.range ops.size).all fun j => listed.getD j true || l1.contains j || l2.contains j || ts.contains j) &&
  ((l1 ++ l2 ++ ts).all fun j => decide (j < ops.size) && !listed.getD j true) &&
  decide (l1 ++ l2).Nodup && lexOk md ops l1 listed && lexOk md ops l2 listed && rootedF fl md ops l1 && freeL fl md ops l1 listed && chained md ops l2 &&
  (ts.all fun t => !(l1 ++ l2).contains t && ((ts.any fun s => Region.waitsFor md ops t s) || (behind md ops l1 t && behind md ops l2 t))) && apartAll ops l1 l2

structure TwofOk (fl : List Nat) (md : Region.Mode) (ops : Array Oper) (listed : Array Bool) (l1 l2 ts : List Nat) : Prop where
  size : listed.size = ops.size
  cover : ∀ j, j < ops.size → listed.getD j true = false → j ∈ l1 ∨ j ∈ l2 ∨ j ∈ ts
  un : ∀ j, j ∈ l1 ∨ j ∈ l2 ∨ j ∈ ts → j < ops.size ∧ listed.getD j true = false
  nd1 : l1.Nodup
  nd2 : l2.Nodup
  dis : ∀ i ∈ l1, i ∉ l2
  ndt : ∀ t ∈ ts, t ∉ l1 ∧ t ∉ l2
  lex1 : lexOk md ops l1 listed = true
  lex2 : lexOk md ops l2 listed = true
  ch1 : rootedF fl md ops l1 = true
  fr1 : freeL fl md ops l1 listed = true
  ch2 : chained md ops l2 = true
  root : ∀ t ∈ ts, (∃ s ∈ ts, Region.waitsFor md ops t s = true) ∨ (behind md ops l1 t = true ∧ behind md ops l2 t = true)
  apart : ∀ i ∈ l1, ∀ j ∈ l2, ∀ oi oj, ops[i]? = some oi → ops[j]? = some oj → oi.apart ops oj = true ∧ oj.apart ops oi = true

theorem twofB_ok {fl : List Nat} {listed : Array Bool} {l1 l2 ts : List Nat} (h : twofB fl md ops listed l1 l2 ts = true) : Region.noSelect ops = true ∧ TwofOk fl md ops listed l1 l2 ts := by
  simp only [twofB, Bool.and_eq_true, decide_eq_true_eq] at h
  obtain ⟨⟨⟨⟨⟨⟨⟨⟨⟨⟨⟨h1, h2⟩, h3⟩, h4⟩, h5⟩, h6⟩, h7⟩, h8⟩, h8'⟩, h9⟩, h10⟩, h11⟩ := h
  have hnd := List.nodup_append.1 h5
  refine ⟨h1, h2, fun j hj hl => ?_, fun j hj => ?_, hnd.1, hnd.2.1, fun i hi hi2 => hnd.2.2 i hi i hi2 rfl, fun t ht => ?_, h6, h7, h8, h8', h9, fun t ht => ?_, fun i hi j hj oi oj hoi hoj => ?_⟩
  · have := List.all_eq_true.1 h3 j (List.mem_range.2 hj)
    rw [hl] at this
    simpa [or_assoc] using this
  · have := List.all_eq_true.1 h4 j (by simp; exact hj)
    simp only [Bool.and_eq_true, decide_eq_true_eq, Bool.not_eq_true'] at this
    exact this
  · have := List.all_eq_true.1 h10 t ht
    simp only [Bool.and_eq_true, Bool.not_eq_true'] at this
    have h := this.1
    simp at h
    exact h
  · have := List.all_eq_true.1 h10 t ht
    simp only [Bool.and_eq_true, Bool.or_eq_true, List.any_eq_true] at this
    exact this.2
  · have := List.all_eq_true.1 (List.all_eq_true.1 h11 i hi) j hj
    rw [hoi, hoj] at this
    simpa [Bool.and_eq_true] using this

/-- Where the head of the first thread is no free step, the heads alone are ready. -/
theorem TwofOk.only {fl : List Nat} {listed : Array Bool} {l1 l2 ts : List Nat} (ok : TwofOk fl md ops listed l1 l2 ts) (hh : ∀ x l, l1 = x :: l → x ∉ fl) (hne : l1 ≠ [] ∨ l2 ≠ []) {i : Nat} (hi : i ∈ Region.ready md ops listed) : (∃ l, l1 = i :: l) ∨ (∃ l, l2 = i :: l) := by
  obtain ⟨hlt, hun, hed⟩ := mem_ready'.1 hi
  have bad : ∀ s, s ∈ l1 ∨ s ∈ l2 ∨ s ∈ ts → Region.waitsFor md ops i s = true → False := fun s hs' hw => by
    have h1 := edgesIn_waits hed hw
    rw [getD_both (ok.un s hs').2] at h1
    cases h1
  rcases ok.cover i hlt hun with h | h | h
  · cases l1 with
    | nil => cases h
    | cons x l =>
      rcases List.mem_cons.1 h with rfl | h
      · exact .inl ⟨l, rfl⟩
      · exfalso
        have hr := ok.ch1
        simp only [rootedF, Bool.and_eq_true, Bool.or_eq_true] at hr
        rcases hr.1 with h1 | h1
        · exact hh x l rfl (by simpa using h1)
        · obtain ⟨s, hs, hw⟩ := List.any_eq_true.1 (List.all_eq_true.1 h1 i h)
          exact bad s (.inl hs) hw
  · rcases chained_prev l2 i ok.ch2 h with h2 | ⟨s, hs, hw⟩
    · exact .inr h2
    · exact (bad s (.inr (.inl hs)) hw).elim
  · exfalso
    rcases ok.root i h with ⟨s, hs, hw⟩ | ⟨hb1, hb2⟩
    · exact bad s (.inr (.inr hs)) hw
    · rcases hne with hne | hne
      · obtain ⟨x, l, rfl⟩ : ∃ x l, l1 = x :: l := by cases l1 with | nil => exact absurd rfl hne | cons x l => exact ⟨x, l, rfl⟩
        obtain ⟨j, hj⟩ := lastOf_some x l
        rw [behind, hj] at hb1
        exact bad j (.inl (lastOf_mem _ _ hj)) hb1
      · obtain ⟨x, l, rfl⟩ : ∃ x l, l2 = x :: l := by cases l2 with | nil => exact absurd rfl hne | cons x l => exact ⟨x, l, rfl⟩
        obtain ⟨j, hj⟩ := lastOf_some x l
        rw [behind, hj] at hb2
        exact bad j (.inr (.inl (lastOf_mem _ _ hj))) hb2

theorem TwofOk.strike1 {fl : List Nat} {listed : Array Bool} {i : Nat} {l1 l2 ts : List Nat} (ok : TwofOk fl md ops listed (i :: l1) l2 ts) : TwofOk fl md ops (listed.setIfInBounds i true) l1 l2 ts := by
  obtain ⟨hlt, hui⟩ := ok.un i (.inl List.mem_cons_self)
  have hn := List.nodup_cons.1 ok.nd1
  have hi2 := ok.dis i List.mem_cons_self
  have hne : ∀ j, j ∈ l1 ∨ j ∈ l2 ∨ j ∈ ts → i ≠ j := by
    rintro j hj rfl
    rcases hj with h | h | h
    · exact hn.1 h
    · exact hi2 h
    · exact (ok.ndt i h).1 List.mem_cons_self
  have hlex := ok.lex1
  simp only [lexOk, Bool.and_eq_true] at hlex
  have hroot := ok.ch1
  simp only [rootedF, Bool.and_eq_true] at hroot
  have hfree := ok.fr1
  simp only [freeL, Bool.and_eq_true] at hfree
  refine ⟨by simp [ok.size], fun j hj hl => ?_, fun j hj => ?_, hn.2, ok.nd2, fun j hj => ok.dis j (List.mem_cons_of_mem _ hj), fun t ht => ⟨fun h => (ok.ndt t ht).1 (List.mem_cons_of_mem _ h), (ok.ndt t ht).2⟩, hlex.2, lexOk_set _ _ ok.lex2, hroot.2, hfree.2, ok.ch2,
    fun t ht => (ok.root t ht).imp id (fun h => ⟨behind_tail h.1, h.2⟩), fun a ha b hb => ok.apart a (List.mem_cons_of_mem _ ha) b hb⟩
  · by_cases hij : i = j
    · subst hij
      rw [show (listed.setIfInBounds i true).getD i true = true by simp [ok.size, hlt]] at hl
      cases hl
    · rw [getD_set_ne true hij] at hl
      rcases ok.cover j hj hl with h | h | h
      · rcases List.mem_cons.1 h with h | h
        · exact absurd h.symm hij
        · exact .inl h
      · exact .inr (.inl h)
      · exact .inr (.inr h)
  · have := ok.un j (by rcases hj with h | h | h <;> simp [h])
    exact ⟨this.1, by rw [getD_set_ne true (hne j hj)]; exact this.2⟩
theorem TwofOk.strike2 {fl : List Nat} {listed : Array Bool} {i : Nat} {l1 l2 ts : List Nat} (ok : TwofOk fl md ops listed l1 (i :: l2) ts) : TwofOk fl md ops (listed.setIfInBounds i true) l1 l2 ts := by
  obtain ⟨hlt, hui⟩ := ok.un i (.inr (.inl List.mem_cons_self))
  have hn := List.nodup_cons.1 ok.nd2
  have hne : ∀ j, j ∈ l1 ∨ j ∈ l2 ∨ j ∈ ts → i ≠ j := by
    rintro j hj rfl
    rcases hj with h | h | h
    · exact ok.dis _ h List.mem_cons_self
    · exact hn.1 h
    · exact (ok.ndt i h).2 List.mem_cons_self
  have hlex := ok.lex2
  simp only [lexOk, Bool.and_eq_true] at hlex
  refine ⟨by simp [ok.size], fun j hj hl => ?_, fun j hj => ?_, ok.nd1, hn.2, fun j hj h => ok.dis j hj (List.mem_cons_of_mem _ h), fun t ht => ⟨(ok.ndt t ht).1, fun h => (ok.ndt t ht).2 (List.mem_cons_of_mem _ h)⟩, lexOk_set _ _ ok.lex1, hlex.2, ok.ch1, freeL_set _ _ ok.fr1, chained_tail ok.ch2,
    fun t ht => (ok.root t ht).imp id (fun h => ⟨h.1, behind_tail h.2⟩), fun a ha b hb => ok.apart a ha b (List.mem_cons_of_mem _ hb)⟩
  · by_cases hij : i = j
    · subst hij
      rw [show (listed.setIfInBounds i true).getD i true = true by simp [ok.size, hlt]] at hl
      cases hl
    · rw [getD_set_ne true hij] at hl
      rcases ok.cover j hj hl with h | h | h
      · exact .inl h
      · rcases List.mem_cons.1 h with h | h
        · exact absurd h.symm hij
        · exact .inr (.inl h)
      · exact .inr (.inr h)
  · have := ok.un j (by rcases hj with h | h | h <;> simp [h])
    exact ⟨this.1, by rw [getD_set_ne true (hne j hj)]; exact this.2⟩

/-- A thread some steps of which (fl) yield one value in whatever world. -/
def TWF (P : Program) (ops : Array Oper) (B : Nat) (fl : List Nat) : List Nat → (List Value → HP → Prop) → Act → HP → Prop
  | [], Φ, _, A => Φ [] A
  | i :: l, Φ, a, A => Loc B A ∧ ∃ o, ops[i]? = some o ∧ ((i ∈ fl ∧ ∃ v, Yields P ops o v a ∧ TWF P ops B fl l (fun vs => Φ (v :: vs)) (a.put o.dst v) A) ∨
      (i ∉ fl ∧ ((Region.wanted o (yielded ops a.tmps) = true ∧ StepR P B o a A (fun v A' => Loc B A' ∧ TWF P ops B fl l (fun vs => Φ (v :: vs)) (a.put o.dst v) A')) ∨
      (Region.wanted o (yielded ops a.tmps) = false ∧ TWF P ops B fl l (fun vs => Φ (undef :: vs)) (a.put o.dst undef) A))))

theorem Yields.put (hsel : Region.noSelect ops = true) {o oi : Oper} {j : Nat} (hj : ops[j]? = some o) (hoa : o.apart ops oi = true) {u v : Value} {a : Act} (h : Yields P ops o u a) : Yields P ops o u (a.put oi.dst v) := by
  obtain ⟨h1, h2, h3⟩ := Oper.apart_spec hoa
  have sj := Region.noSelect_spec hsel j o
  have he := execOp_put o (fun cs b => sj cs b hj) a oi.dst v h3
  have hw := wanted_put o a oi.dst v h3
  unfold Yields at *
  rw [he, hw]
  exact h
theorem TWF.put (hsel : Region.noSelect ops = true) {fl : List Nat} {oi : Oper} {v : Value} : ∀ (l : List Nat) (Φ : List Value → HP → Prop) (a : Act) (A : HP), (∀ j ∈ l, ∀ o, ops[j]? = some o → o.apart ops oi = true) → TWF P ops B fl l Φ a A → TWF P ops B fl l Φ (a.put oi.dst v) A
  | [], _, _, _, _, h => h
  | j :: l, Φ, a, A, hap, h => by
    obtain ⟨hloc, o, hj, h⟩ := h
    have hoa := hap j List.mem_cons_self o hj
    obtain ⟨h1, h2, h3⟩ := Oper.apart_spec hoa
    have sj := Region.noSelect_spec hsel j o
    have he := execOp_put o (fun cs b => sj cs b hj) a oi.dst v h3
    have hw := wanted_put o a oi.dst v h3
    have hl : ∀ j' ∈ l, ∀ o, ops[j']? = some o → o.apart ops oi = true := fun j' hj' => hap j' (List.mem_cons_of_mem _ hj')
    refine ⟨hloc, o, hj, ?_⟩
    rcases h with ⟨hf, u, hy, ht⟩ | ⟨hf, ⟨hwa, hst⟩ | ⟨hwa, hr⟩⟩
    · left
      refine ⟨hf, u, Yields.put hsel hj hoa hy, ?_⟩
      rw [← Act.put_comm a u v h2]
      exact TWF.put hsel l _ _ _ hl ht
    · right
      refine ⟨hf, .inl ⟨by rw [hw]; exact hwa, ?_⟩⟩
      have hst' : StepR P B o (a.put oi.dst v) A (fun v' A' => Loc B A' ∧ TWF P ops B fl l (fun vs => Φ (v' :: vs)) (a.put o.dst v') A') := by
        unfold StepR at hst ⊢
        rw [he]
        exact hst
      refine hst'.imp fun v' A' ⟨hl', ht⟩ => ⟨hl', ?_⟩
      rw [← Act.put_comm a v' v h2]
      exact TWF.put hsel l _ _ _ hl ht
    · right
      refine ⟨hf, .inr ⟨by rw [hw]; exact hwa, ?_⟩⟩
      rw [← Act.put_comm a undef v h2]
      exact TWF.put hsel l _ _ _ hl hr

theorem wpAny_twof {fl : List Nat} (hsel : Region.noSelect ops = true) (hQ : ∀ c a d v w, Q (.panic c) (a.put (some d) v) w → Q (.panic c) a w) {ts : List Nat} {R : HP} [Loc B R] {fuel : Nat} : ∀ (n : Nat) (l1 l2 : List Nat) (listed : Array Bool) (a : Act) (w : World) (Φ1 Φ2 : List Value → HP → Prop) (A1 A2 : HP), l1.length + l2.length = n → Loc B A1 → Loc B A2 →
    TwofOk fl md ops listed l1 l2 ts → TWF P ops B fl l1 Φ1 a A1 → TW P ops B (opsOf ops l2) Φ2 a A2 → B ≤ w.heap.size → Own B (A1 * (A2 * R)) w →
    (∀ vs1 A1' vs2 A2' w', Φ1 vs1 A1' → Φ2 vs2 A2' → Own B (A1' * (A2' * R)) w' → Below B w w' → wpAny P md ops Q fuel (markAll l2 (markAll l1 listed)) (putAll (opsOf ops l2) vs2 (putAll (opsOf ops l1) vs1 a)) w') →
    wpAny P md ops Q (n + fuel) listed a w
  | 0, l1, l2, listed, a, w, Φ1, Φ2, A1, A2, hn, _, _, ok, h1, h2, hB, hO, hK => by
    obtain rfl : l1 = [] := List.eq_nil_of_length_eq_zero (by omega)
    obtain rfl : l2 = [] := List.eq_nil_of_length_eq_zero (by omega)
    rw [Nat.zero_add]
    exact hK [] A1 [] A2 w h1 h2 hO (Below.refl B w)
  | n + 1, l1, l2, listed, a, w, Φ1, Φ2, A1, A2, hn, k1, k2, ok, h1, h2, hB, hO, hK => by
    rw [show n + 1 + fuel = (n + fuel) + 1 by omega]
    by_cases hfl : ∃ x l, l1 = x :: l ∧ x ∈ fl
    · obtain ⟨i, l, rfl, hif⟩ := hfl
      obtain ⟨_, o, ho, h1 | h1⟩ := h1
      · obtain ⟨_, v, hy, ht⟩ := h1
        have hlex := ok.lex1
        simp only [lexOk, Bool.and_eq_true] at hlex
        have hfr := ok.fr1
        simp only [freeL, Bool.and_eq_true, Bool.or_eq_true] at hfr
        have hfree : Region.free md ops listed i = true := by
          rcases hfr.1 with h | h
          · simp [hif] at h
          · exact h
        have hun := ok.un i (by simp)
        have hrd : i ∈ Region.ready md ops listed := mem_ready'.2 ⟨hun.1, hun.2, hlex.1⟩
        have hap : ∀ o' ∈ opsOf ops l2, (∃ j : Nat, ops[j]? = some o') ∧ o'.apart ops o = true := fun o' h' => by
          obtain ⟨j, hj, hoj⟩ := mem_opsOf h'
          exact ⟨⟨j, hoj⟩, (ok.apart i List.mem_cons_self j hj o o' ho hoj).2⟩
        have hlen : l.length + l2.length = n := by simp at hn; omega
        refine wpAny_take ho hsel hfree (by simpa using hrd) (fun c a w hq => ?_) hy ?_
        · cases hd : o.dst with
          | none => rw [hd] at hq; exact hq
          | some d => rw [hd] at hq; exact hQ c a d v w hq
        · refine wpAny_twof hsel hQ n l l2 _ _ w (fun vs => Φ1 (v :: vs)) Φ2 A1 A2 hlen k1 k2 ok.strike1 ht (h2.put hsel _ _ _ _ hap) hB hO fun vs1 A1' vs2 A2' w'' p1 p2 hO'' hb' => ?_
          have := hK (v :: vs1) A1' vs2 A2' w'' p1 p2 hO'' hb'
          rw [opsOf_cons ho] at this
          exact this
      · exact absurd hif h1.1
    have hh : ∀ x l, l1 = x :: l → x ∉ fl := fun x l e hx => hfl ⟨x, l, e, hx⟩
    have hne : l1 ≠ [] ∨ l2 ≠ [] := by
      cases l1 with
      | nil => right; intro e; subst e; simp at hn
      | cons x l => left; simp
    have hrdy : Region.ready md ops listed ≠ [] := by
      intro h0
      rcases hne with hne | hne
      · obtain ⟨x, l, rfl⟩ : ∃ x l, l1 = x :: l := by cases l1 with | nil => exact absurd rfl hne | cons x l => exact ⟨x, l, rfl⟩
        have hlex := ok.lex1
        simp only [lexOk, Bool.and_eq_true] at hlex
        have hun := ok.un x (by simp)
        have : x ∈ Region.ready md ops listed := mem_ready'.2 ⟨hun.1, hun.2, hlex.1⟩
        rw [h0] at this; cases this
      · obtain ⟨x, l, rfl⟩ : ∃ x l, l2 = x :: l := by cases l2 with | nil => exact absurd rfl hne | cons x l => exact ⟨x, l, rfl⟩
        have hlex := ok.lex2
        simp only [lexOk, Bool.and_eq_true] at hlex
        have hun := ok.un x (by simp)
        have : x ∈ Region.ready md ops listed := mem_ready'.2 ⟨hun.1, hun.2, hlex.1⟩
        rw [h0] at this; cases this
    refine ⟨fun h0 => absurd h0 hrdy, fun i hi => ?_⟩
    have hlt := (mem_ready'.1 hi).1
    obtain ⟨o, ho⟩ : ∃ o, ops[i]? = some o := ⟨_, Array.getElem?_eq_getElem hlt⟩
    unfold wpOp
    simp only [ho]
    rcases ok.only hh hne hi with ⟨l, rfl⟩ | ⟨l, rfl⟩
    · obtain ⟨_, o', ho', h1⟩ := h1
      obtain rfl := Option.some.inj (ho.symm.trans ho')
      have hap : ∀ o' ∈ opsOf ops l2, (∃ j : Nat, ops[j]? = some o') ∧ o'.apart ops o = true := fun o' h' => by
        obtain ⟨j, hj, hoj⟩ := mem_opsOf h'
        exact ⟨⟨j, hoj⟩, (ok.apart i List.mem_cons_self j hj o o' ho hoj).2⟩
      have hlen : l.length + l2.length = n := by simp at hn; omega
      rcases h1 with h1 | ⟨_, h1⟩
      · exact absurd h1.1 (hh i l rfl)
      rcases h1 with h1 | h1
      · rw [if_pos h1.1]
        left
        refine h1.2.wp hB hO fun v A' w' ⟨kl, ht⟩ hO' hb => ?_
        refine wpAny_twof hsel hQ n l l2 _ _ w' (fun vs => Φ1 (v :: vs)) Φ2 A' A2 hlen kl k2 ok.strike1 ht (h2.put hsel _ _ _ _ hap) (Nat.le_trans hB hb.size) hO' fun vs1 A1' vs2 A2' w'' p1 p2 hO'' hb' => ?_
        have := hK (v :: vs1) A1' vs2 A2' w'' p1 p2 hO'' (hb.trans hb')
        rw [opsOf_cons ho] at this
        exact this
      · rw [if_neg (by rw [h1.1]; exact Bool.false_ne_true)]
        refine wpAny_twof hsel hQ n l l2 _ _ w (fun vs => Φ1 (undef :: vs)) Φ2 A1 A2 hlen k1 k2 ok.strike1 h1.2 (h2.put hsel _ _ _ _ hap) hB hO fun vs1 A1' vs2 A2' w'' p1 p2 hO'' hb' => ?_
        have := hK (undef :: vs1) A1' vs2 A2' w'' p1 p2 hO'' hb'
        rw [opsOf_cons ho] at this
        exact this
    · rw [opsOf_cons ho] at h2
      have hap1 : ∀ j ∈ l1, ∀ o', ops[j]? = some o' → o'.apart ops o = true := fun j hj o' hoj => (ok.apart j hj i List.mem_cons_self o' o hoj ho).1
      have hap : ∀ o' ∈ opsOf ops l1, o'.apart ops o = true := fun o' h' => by
        obtain ⟨j, hj, hoj⟩ := mem_opsOf h'
        exact hap1 j hj o' hoj
      have hlen : l1.length + l.length = n := by simp at hn; omega
      obtain ⟨_, h2 | h2⟩ := h2
      · rw [if_pos h2.1]
        left
        refine h2.2.wp hB (hO.cast (sep_left_comm _ _ _)) fun v A' w' ⟨kl, ht⟩ hO' hb => ?_
        refine wpAny_twof hsel hQ n l1 l _ _ w' Φ1 (fun vs => Φ2 (v :: vs)) A1 A' hlen k1 kl ok.strike2 (h1.put hsel _ _ _ _ hap1) ht (Nat.le_trans hB hb.size) (hO'.cast (sep_left_comm _ _ _)) fun vs1 A1' vs2 A2' w'' p1 p2 hO'' hb' => ?_
        have := hK vs1 A1' (v :: vs2) A2' w'' p1 p2 hO'' (hb.trans hb')
        rw [opsOf_cons ho] at this
        rw [putAll_put _ _ _ _ _ hap, markAll_set]
        exact this
      · rw [if_neg (by rw [h2.1]; exact Bool.false_ne_true)]
        refine wpAny_twof hsel hQ n l1 l _ _ w Φ1 (fun vs => Φ2 (undef :: vs)) A1 A2 hlen k1 k2 ok.strike2 (h1.put hsel _ _ _ _ hap1) h2.2 hB hO fun vs1 A1' vs2 A2' w'' p1 p2 hO'' hb' => ?_
        have := hK vs1 A1' (undef :: vs2) A2' w'' p1 p2 hO'' hb'
        rw [opsOf_cons ho] at this
        rw [putAll_put _ _ _ _ _ hap, markAll_set]
        exact this

/-- THE RULE: us free · l1 and l2 two threads, those of fl free as soon as they are ready · ts behind both. -/
theorem wp_region_twof {id : Nat} {a : Act} {w : World} (us fl l1 l2 ts : List Nat) (A1 A2 R : HP) [k1 : Loc B A1] [k2 : Loc B A2] [Loc B R] (hm : P.follows .mixedOrders = true)
    (hB : (freeB .any ops us (Array.replicate ops.size false) && twofB fl .any ops (markAll us (Array.replicate ops.size false)) l1 l2 ts) = true) (hf : ops.size = us.length + ((l1.length + l2.length) + ts.length))
    (hQ : ∀ c a d v w, Q (.panic c) (a.put (some d) v) w → Q (.panic c) a w) (hsz : B ≤ w.heap.size) (hO : Own B (A1 * (A2 * R)) w.drew)
    (h : wpFree P ops (fun a1 => ∃ Φ1 Φ2 : List Value → HP → Prop, TWF P ops B fl l1 Φ1 a1 A1 ∧ TW P ops B (opsOf ops l2) Φ2 a1 A2 ∧
      ∀ vs1 A1' vs2 A2' w', Φ1 vs1 A1' → Φ2 vs2 A2' → Own B (A1' * (A2' * R)) w' → Below B w w' → wpAny P .any ops Q ts.length (markAll l2 (markAll l1 (markAll us (Array.replicate ops.size false)))) (putAll (opsOf ops l2) vs2 (putAll (opsOf ops l1) vs1 a1)) w')
      (us.filterMap fun i => ops[i]?) a) : (Code.region id ops true).wp P Q a w := by
  rw [Bool.and_eq_true] at hB
  refine wp_region_any hm ?_
  obtain ⟨hsel, ok⟩ := twofB_ok hB.2
  have hgo : wpAny P .any ops Q (us.length + ((l1.length + l2.length) + ts.length)) (Array.replicate ops.size false) a w.drew := by
    refine wpAny_free hQ hsel us _ a hB.1 (fun a' ⟨Φ1, Φ2, t1, t2, hK⟩ => ?_) h
    exact wpAny_twof hsel hQ (l1.length + l2.length) l1 l2 _ a' _ Φ1 Φ2 A1 A2 rfl k1 k2 ok t1 t2 hsz hO fun vs1 A1' vs2 A2' w' p1 p2 ho hb => hK vs1 A1' vs2 A2' w' p1 p2 ho ((Below.refl B w).drew.trans hb)
  rw [← hf] at hgo
  exact hgo

theorem twf_nil {fl : List Nat} {Φ : List Value → HP → Prop} {a : Act} {A : HP} (h : Φ [] A) : TWF P ops B fl [] Φ a A := h
theorem twf_free {fl : List Nat} {i : Nat} {o : Oper} {l : List Nat} {Φ : List Value → HP → Prop} {a : Act} {A : HP} [k : Loc B A] (ho : ops[i]? = some o) (hi : i ∈ fl) (v : Value) (hw : Region.wanted o (yielded ops a.tmps) = true)
    (hv : ∀ w, (execOp a.eval o).run P w = .ok (.value v) w) (h : TWF P ops B fl l (fun vs => Φ (v :: vs)) (a.put o.dst v) A) : TWF P ops B fl (i :: l) Φ a A :=
  ⟨k, o, ho, .inl ⟨hi, v, .inl ⟨hw, hv⟩, h⟩⟩
theorem twf_val {fl : List Nat} {i : Nat} {o : Oper} {l : List Nat} {Φ : List Value → HP → Prop} {a : Act} {A : HP} [k : Loc B A] (ho : ops[i]? = some o) (hi : i ∉ fl) (v : Value) (hw : Region.wanted o (yielded ops a.tmps) = true)
    (hv : ∀ (R : HP) [Loc B R] (w : World), Own B (A * R) w → (execOp a.eval o).run P w = .ok (.value v) w) (h : TWF P ops B fl l (fun vs => Φ (v :: vs)) (a.put o.dst v) A) : TWF P ops B fl (i :: l) Φ a A :=
  ⟨k, o, ho, .inr ⟨hi, .inl ⟨hw, fun R _ w hB hO => by rw [hv R w hO]; exact ⟨A, ⟨k, h⟩, hO, Below.refl B w⟩⟩⟩⟩
theorem twf_call {fl : List Nat} {i : Nat} {o : Oper} {l : List Nat} {Φ : List Value → HP → Prop} {a : Act} {A : HP} [k : Loc B A] (ho : ops[i]? = some o) (hi : i ∉ fl) (f : FuncId) (args : Array Value) (Ψ : Value → HP → Prop) (hw : Region.wanted o (yielded ops a.tmps) = true)
    (hr : ∀ (R : HP) [Loc B R] (w : World), Own B (A * R) w → (execOp a.eval o).run P w = .ok (.enter f args) w)
    (hc : ∀ (R : HP) [Loc B R] (w : World), B ≤ w.heap.size → Own B (A * R) w → Calls P f args w fun e w' => ∃ v A', e = .returned v ∧ (Loc B A' ∧ Ψ v A') ∧ Own B (A' * R) w' ∧ Below B w w')
    (h : ∀ v A', Loc B A' → Ψ v A' → TWF P ops B fl l (fun vs => Φ (v :: vs)) (a.put o.dst v) A') : TWF P ops B fl (i :: l) Φ a A :=
  ⟨k, o, ho, .inr ⟨hi, .inl ⟨hw, fun R _ w hB hO => by rw [hr R w hO]; exact (hc R w hB hO).mono fun e w' ⟨v, A', he, ⟨kl, hp⟩, ho, hb⟩ => ⟨v, A', he, ⟨kl, h v A' kl hp⟩, ho, hb⟩⟩⟩⟩
end
end Go.Proofs.YtfppancidgamjaaDoor
