/- The rule of two threads once more: with reads that what both leave alone decides, in whatever order; and steps that append. -/
import Derived.Test.YtfppancidgamjaaDoorTwo
import Derived.Test.YtfppancidgamjaaDoorTwo
import Derived.Laws.OwnMore
namespace Go.Proofs.YtfppancidgamjaaDoor
set_option linter.unusedVariables false
set_option linter.unusedSimpArgs false
open Go.RowKit

section
variable {P : Program} {ops : Array Oper} {md : Region.Mode} {Q : Exit → Act → World → Prop} {B : Nat}

theorem wpL_two (hsel : Region.noSelect ops = true) {ts : List Nat} {R : HP} [Loc B R] {T : Act → World → Prop} : ∀ (n : Nat) (l1 l2 : List Nat) (listed : Array Bool) (a : Act) (w : World) (Φ1 Φ2 : List Value → HP → Prop) (A1 A2 : HP), l1.length + l2.length = n → Loc B A1 → Loc B A2 →
    TwoOk md ops listed l1 l2 ts → TW P ops B (opsOf ops l1) Φ1 a A1 → TW P ops B (opsOf ops l2) Φ2 a A2 → B ≤ w.heap.size → Own B (A1 * (A2 * R)) w →
    (∀ vs1 A1' vs2 A2' w', Φ1 vs1 A1' → Φ2 vs2 A2' → Own B (A1' * (A2' * R)) w' → Below B w w' → T (putAll (opsOf ops l2) vs2 (putAll (opsOf ops l1) vs1 a)) w') →
    wpL P md ops Q (fun w => Own B R w) T n listed a w
  | 0, l1, l2, listed, a, w, Φ1, Φ2, A1, A2, hn, _, _, ok, h1, h2, hB, hO, hK => by
    obtain rfl : l1 = [] := List.eq_nil_of_length_eq_zero (by omega)
    obtain rfl : l2 = [] := List.eq_nil_of_length_eq_zero (by omega)
    exact hK [] A1 [] A2 w h1 h2 hO (Below.refl B w)
  | n + 1, l1, l2, listed, a, w, Φ1, Φ2, A1, A2, hn, k1, k2, ok, h1, h2, hB, hO, hK => by
    have hne : l1 ≠ [] ∨ l2 ≠ [] := by
      cases l1 with
      | nil => right; intro e; subst e; simp at hn
      | cons x l => left; simp
    have hrdy : Region.ready md ops listed ≠ [] := by
      intro h0
      rcases hne with hne | hne
      · obtain ⟨x, l, rfl⟩ : ∃ x l, l1 = x :: l := by cases l1 with | nil => exact absurd rfl hne | cons x l => exact ⟨x, l, rfl⟩
        have hlex := ok.lex1
        simp only [lexOk, Bool.and_eq_true] at hlex
        have hun := ok.un x (by simp)
        have : x ∈ Region.ready md ops listed := mem_ready'.2 ⟨hun.1, hun.2, hlex.1⟩
        rw [h0] at this; cases this
      · obtain ⟨x, l, rfl⟩ : ∃ x l, l2 = x :: l := by cases l2 with | nil => exact absurd rfl hne | cons x l => exact ⟨x, l, rfl⟩
        have hlex := ok.lex2
        simp only [lexOk, Bool.and_eq_true] at hlex
        have hun := ok.un x (by simp)
        have : x ∈ Region.ready md ops listed := mem_ready'.2 ⟨hun.1, hun.2, hlex.1⟩
        rw [h0] at this; cases this
    have hd : ∀ {A1' A2' : HP} {w' : World}, Loc B A1' → Loc B A2' → Own B (A1' * (A2' * R)) w' → Own B R w' := fun _ _ h => h.right.right
    refine ⟨hrdy, fun i hi => ?_⟩
    have hlt := (mem_ready'.1 hi).1
    obtain ⟨o, ho⟩ : ∃ o, ops[i]? = some o := ⟨_, Array.getElem?_eq_getElem hlt⟩
    unfold wpOp
    simp only [ho]
    rcases ok.only hne hi with ⟨l, rfl⟩ | ⟨l, rfl⟩
    · rw [opsOf_cons ho] at h1
      have hap : ∀ o' ∈ opsOf ops l2, (∃ j : Nat, ops[j]? = some o') ∧ o'.apart ops o = true := fun o' h' => by
        obtain ⟨j, hj, hoj⟩ := mem_opsOf h'
        exact ⟨⟨j, hoj⟩, (ok.apart i List.mem_cons_self j hj o o' ho hoj).2⟩
      have hlen : l.length + l2.length = n := by simp at hn; omega
      obtain ⟨_, h1 | h1⟩ := h1
      · rw [if_pos h1.1]
        left
        refine h1.2.wp hB hO fun v A' w' ⟨kl, ht⟩ hO' hb => ⟨hd kl k2 hO', ?_⟩
        refine wpL_two hsel n l l2 _ _ w' (fun vs => Φ1 (v :: vs)) Φ2 A' A2 hlen kl k2 ok.strike ht (h2.put hsel _ _ _ _ hap) (Nat.le_trans hB hb.size) hO' fun vs1 A1' vs2 A2' w'' p1 p2 hO'' hb' => ?_
        have := hK (v :: vs1) A1' vs2 A2' w'' p1 p2 hO'' (hb.trans hb')
        rw [opsOf_cons ho] at this
        exact this
      · rw [if_neg (by rw [h1.1]; exact Bool.false_ne_true)]
        refine ⟨hd k1 k2 hO, wpL_two hsel n l l2 _ _ w (fun vs => Φ1 (undef :: vs)) Φ2 A1 A2 hlen k1 k2 ok.strike h1.2 (h2.put hsel _ _ _ _ hap) hB hO fun vs1 A1' vs2 A2' w'' p1 p2 hO'' hb' => ?_⟩
        have := hK (undef :: vs1) A1' vs2 A2' w'' p1 p2 hO'' hb'
        rw [opsOf_cons ho] at this
        exact this
    · rw [opsOf_cons ho] at h2
      have hap : ∀ o' ∈ opsOf ops l1, (∃ j : Nat, ops[j]? = some o') ∧ o'.apart ops o = true := fun o' h' => by
        obtain ⟨j, hj, hoj⟩ := mem_opsOf h'
        exact ⟨⟨j, hoj⟩, (ok.apart j hj i List.mem_cons_self o' o hoj ho).1⟩
      have hlen : l1.length + l.length = n := by simp at hn; omega
      obtain ⟨_, h2 | h2⟩ := h2
      · rw [if_pos h2.1]
        left
        refine h2.2.wp hB (hO.cast (sep_left_comm _ _ _)) fun v A' w' ⟨kl, ht⟩ hO' hb => ⟨hd kl k1 hO', ?_⟩
        refine wpL_two hsel n l1 l _ _ w' Φ1 (fun vs => Φ2 (v :: vs)) A1 A' hlen k1 kl ok.swap.strike.swap (h1.put hsel _ _ _ _ hap) ht (Nat.le_trans hB hb.size) (hO'.cast (sep_left_comm _ _ _)) fun vs1 A1' vs2 A2' w'' p1 p2 hO'' hb' => ?_
        have := hK vs1 A1' (v :: vs2) A2' w'' p1 p2 hO'' (hb.trans hb')
        rw [opsOf_cons ho] at this
        rw [putAll_put _ _ _ _ _ (fun o' h' => (hap o' h').2)]
        exact this
      · rw [if_neg (by rw [h2.1]; exact Bool.false_ne_true)]
        refine ⟨hd k1 k2 hO, wpL_two hsel n l1 l _ _ w Φ1 (fun vs => Φ2 (undef :: vs)) A1 A2 hlen k1 k2 ok.swap.strike.swap (h1.put hsel _ _ _ _ hap) h2.2 hB hO fun vs1 A1' vs2 A2' w'' p1 p2 hO'' hb' => ?_⟩
        have := hK vs1 A1' (undef :: vs2) A2' w'' p1 p2 hO'' hb'
        rw [opsOf_cons ho] at this
        rw [putAll_put _ _ _ _ _ (fun o' h' => (hap o' h').2)]
        exact this

/-- THE RULE: us free · ls: reads that R decides, ahead of ts · l1 and l2 two threads · ts the rest, in their order. -/
theorem wp_region_ltwo {id : Nat} {a : Act} {w : World} (us ls l1 l2 ts : List Nat) (A1 A2 R : HP) [k1 : Loc B A1] [k2 : Loc B A2] [Loc B R] (hm : P.follows .mixedOrders = true)
    (hB : (freeB .any ops us (Array.replicate ops.size false) && mixB .any ops (markAll us (Array.replicate ops.size false)) (ls ++ (l1 ++ l2)) ts && twoB .any ops (markAll ls (markAll us (Array.replicate ops.size false))) l1 l2 ts) = true)
    (hf : ops.size = us.length + ((ls.length + (l1.length + l2.length)) + ts.length))
    (hQ : ∀ c a d v w, Q (.panic c) (a.put (some d) v) w → Q (.panic c) a w) (hsz : B ≤ w.heap.size) (hO : Own B (A1 * (A2 * R)) w.drew)
    (h : wpFree P ops (fun a1 => wpLate P ops (fun w => Own B R w) (fun a2 => ∃ Φ1 Φ2 : List Value → HP → Prop, TW P ops B (opsOf ops l1) Φ1 a2 A1 ∧ TW P ops B (opsOf ops l2) Φ2 a2 A2 ∧
      ∀ vs1 A1' vs2 A2' w', Φ1 vs1 A1' → Φ2 vs2 A2' → Own B (A1' * (A2' * R)) w' → Below B w w' → wpList P ops Q (ts.filterMap fun i => ops[i]?) (putAll (opsOf ops l2) vs2 (putAll (opsOf ops l1) vs1 a2)) w')
      (ls.filterMap fun i => ops[i]?) a1) (us.filterMap fun i => ops[i]?) a) : (Code.region id ops true).wp P Q a w := by
  simp only [Bool.and_eq_true] at hB
  obtain ⟨⟨hB1, hB2⟩, hB3⟩ := hB
  obtain ⟨hsel, ok1⟩ := mixB_ok hB2
  obtain ⟨_, ok2⟩ := twoB_ok hB3
  have hts : ∀ i ∈ ts, i < ops.size := fun i hi => (ok1.un i (by simp [hi])).1
  refine wp_region_any hm ?_
  have hR : Own B R w.drew := hO.right.right
  have hgo : wpAny P .any ops Q (us.length + ((ls.length + (l1.length + l2.length)) + ts.length)) (Array.replicate ops.size false) a w.drew := by
    refine wpAny_free hQ hsel us _ a hB1 (fun a1 h1 => ?_) h
    refine wpL_any (S := fun w => Own B R w) (T := fun a4 w4 => wpOps P ops Q ts a4 w4) (fun _ _ h => h) _ (ls ++ (l1 ++ l2)) _ a1 _ (by simp) ok1 ?_
    have := wpL_lates (P := P) (S := fun w => Own B R w) (T := fun a4 w4 => wpOps P ops Q ts a4 w4) (w := w.drew) hsel hQ hR ls (l1 ++ l2) _ a1 ok1 (fun a2 ⟨Φ1, Φ2, t1, t2, hK⟩ _ => ?_) h1
    · rw [List.length_append]
      exact wpL_two hsel (l1.length + l2.length) l1 l2 _ a2 _ Φ1 Φ2 A1 A2 rfl k1 k2 ok2 t1 t2 hsz hO fun vs1 A1' vs2 A2' w' p1 p2 ho hb => wpOps_list ts _ w' hts (hK vs1 A1' vs2 A2' w' p1 p2 ho ((Below.refl B w).drew.trans hb))
    · rw [List.length_append] at this
      exact this
  rw [← hf] at hgo
  exact hgo

/-- A step that makes memory, or turns what the thread owns. -/
theorem tw_run {o : Oper} {l : List Oper} {Φ : List Value → HP → Prop} {a : Act} {A : HP} [k : Loc B A] (Ψ : Value → HP → Prop) (hw : Region.wanted o (yielded ops a.tmps) = true)
    (hr : ∀ (R : HP) [Loc B R] (w : World), B ≤ w.heap.size → Own B (A * R) w → ∃ v A' w', (execOp a.eval o).run P w = .ok (.value v) w' ∧ (Loc B A' ∧ Ψ v A') ∧ Own B (A' * R) w' ∧ Below B w w')
    (h : ∀ v A', Loc B A' → Ψ v A' → TW P ops B l (fun vs => Φ (v :: vs)) (a.put o.dst v) A') : TW P ops B (o :: l) Φ a A :=
  ⟨k, .inl ⟨hw, fun R _ w hB hO => by
    obtain ⟨v, A', w', he, ⟨kl, hp⟩, ho, hb⟩ := hr R w hB hO
    rw [he]
    exact ⟨A', ⟨kl, h v A' kl hp⟩, ho, hb⟩⟩⟩

theorem exec_append {o : Oper} {a : Act} {w w' : World} (s x : Operand) (t : TypeId) {v u v' : Value} (ho : o.op = .call { callee := .builtin .append, args := #[s, x], argTypes := #[t, t] }) (hs : a.eval s = v) (hx : a.eval x = u)
    (hr : (Builtin.append_ #[t, t] o.type #[v, u]).run P w = .ok v' w') : (execOp a.eval o).run P w = .ok (.value v') w' := by
  unfold execOp
  simp only [ho, resolve, invoke, builtin, Sem.run_bind, Sem.run_pure, Result.andThen_ok, List.map_toArray, List.map_cons, List.map_nil, hs, hx, hr]
end
end Go.Proofs.YtfppancidgamjaaDoor
