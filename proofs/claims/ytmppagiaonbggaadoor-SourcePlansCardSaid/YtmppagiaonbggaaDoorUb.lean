/- Texts of one proof, merged: XMix XSm XQ5 XQ6 XQ7 XQ9 XQa XQb XQd. -/
import Derived.Test.YtmppagiaonbggaaDoorUa
import Derived.StillTail
import Derived.OrdersHeld
import Derived.WalkKit
import Derived.Test.YtmppagiaonbggaaDoorProg
import Derived.Laws.OwnMore
import Derived.Maps.AppendAt
import Derived.Deep.AppendLies
import Derived.Laws.Cover1
/- A statement whose order Go leaves open: what keeps one condition on the world (reads, calls that leave it, whatever memory they make) may come in any order; what stands behind all of these comes last, in its own order. -/
namespace Go.Proofs.YtmppagiaonbggaaDoor
set_option linter.unusedVariables false
set_option linter.unusedSimpArgs false
set_option maxRecDepth 100000

section
variable {P : Program} {ops : Array Oper} {md : Region.Mode} {S : World → Prop} {Q : Exit → Act → World → Prop}

/-- From every world that meets S the operation ends in one and the same value, in a world that meets S. -/
def HeldR (P : Program) (S : World → Prop) (o : Oper) (v : Value) (a : Act) : Prop :=
  ∀ w, S w → match (execOp a.eval o).run P w with
    | .ok (.value u) w' => u = v ∧ S w'
    | .ok .skip w' => undef = v ∧ S w'
    | .ok (.enter f args) w' => Calls P f args w' fun e w'' => e = .returned v ∧ S w''
    | _ => False

def Held (P : Program) (ops : Array Oper) (S : World → Prop) (o : Oper) (v : Value) (a : Act) : Prop :=
  (Region.wanted o (yielded ops a.tmps) = true ∧ HeldR P S o v a) ∨ (Region.wanted o (yielded ops a.tmps) = false ∧ v = undef)

theorem HeldR.wp {o : Oper} {v : Value} {a : Act} {w : World} (h : HeldR P S o v a) (hS : S w) {K : Act → World → Prop} (hK : ∀ w', S w' → K (a.put o.dst v) w') : o.wp P a w K Q := by
  have h1 := h w hS
  unfold Oper.wp
  generalize (execOp a.eval o).run P w = r at h1
  cases r with
  | ok n w' =>
    cases n <;> simp only [Oper.upon] at h1 ⊢
    case value u => obtain ⟨rfl, hs⟩ := h1; exact hK _ hs
    case skip => obtain ⟨rfl, hs⟩ := h1; exact hK _ hs
    case enter f args => exact h1.mono fun e w'' ⟨he, hs⟩ => by subst he; exact hK _ hs
  | halt x w' => cases x <;> exact h1.elim

theorem Held.of_same {o : Oper} {v : Value} {a a' : Act} (h : Held P ops S o v a) (he : execOp a'.eval o = execOp a.eval o)
    (hw : Region.wanted o (yielded ops a'.tmps) = Region.wanted o (yielded ops a.tmps)) : Held P ops S o v a' := by
  unfold Held HeldR at *
  rw [he, hw]
  exact h

theorem Held.wpOp {i : Nat} {o : Oper} {v : Value} {a : Act} {w : World} (ho : ops[i]? = some o) (h : Held P ops S o v a) (hS : S w) {K : Act → World → Prop} (hK : ∀ w', S w' → K (a.put o.dst v) w') : wpOp P ops Q i K a w := by
  unfold Go.wpOp
  simp only [ho]
  rcases h with ⟨hw, h⟩ | ⟨hw, rfl⟩
  · rw [if_pos hw]; exact .inl (h.wp hS hK)
  · rw [if_neg (by rw [hw]; exact Bool.false_ne_true)]; exact hK w hS

def wpMix (P : Program) (ops : Array Oper) (S : World → Prop) (T : Act → Prop) : List Nat → Act → Prop
  | [], a => T a
  | i :: l, a => ∃ o v, ops[i]? = some o ∧ Held P ops S o v a ∧ wpMix P ops S T l (a.put o.dst v)

theorem wpMix_front {T : Act → Prop} {i : Nat} {post : List Nat} (hsel : Region.noSelect ops = true) :
    ∀ (pre : List Nat) (a : Act), (∀ p ∈ pre, ∀ op oi, ops[p]? = some op → ops[i]? = some oi → oi.apart ops op = true) → wpMix P ops S T (pre ++ i :: post) a →
      ∃ oi v, ops[i]? = some oi ∧ Held P ops S oi v a ∧ wpMix P ops S T (pre ++ post) (a.put oi.dst v)
  | [], a, _, h => h
  | p :: pre, a, hap, h => by
    obtain ⟨op, vp, hop, hheld, hrest⟩ := h
    obtain ⟨oi, v, hoi, hi, hr⟩ := wpMix_front hsel pre (a.put op.dst vp) (fun q hq => hap q (List.mem_cons_of_mem _ hq)) hrest
    obtain ⟨h1, h2, h3⟩ := Oper.apart_spec (hap p List.mem_cons_self op oi hop hoi)
    have si := Region.noSelect_spec hsel i oi
    have sp := Region.noSelect_spec hsel p op
    refine ⟨oi, v, hoi, hi.of_same (execOp_put oi (fun cs b => si cs b hoi) a op.dst vp h3).symm (wanted_put oi a op.dst vp h3).symm, op, vp, hop, hheld.of_same (execOp_put op (fun cs b => sp cs b hop) a oi.dst v h1) (wanted_put op a oi.dst v h1), ?_⟩
    rw [Act.put_comm a v vp h2]
    exact hr

/-! the static look -/
def edgesIn (md : Region.Mode) (ops : Array Oper) (listed : Array Bool) (i : Nat) : Bool := ((ops[i]?).map (·.after.all fun e => !Region.binds md e || listed.getD e.on false)).getD false
def lexOk (md : Region.Mode) (ops : Array Oper) : List Nat → Array Bool → Bool
  | [], _ => true
  | i :: l, listed => edgesIn md ops listed i && lexOk md ops l (listed.setIfInBounds i true)
def sinks (md : Region.Mode) (ops : Array Oper) (t : Nat) : List Nat → Bool
  | [] => true
  | h :: l => (Region.waitsFor md ops t h || l.any fun h' => Region.waitsFor md ops h' h) && sinks md ops t l
def chained (md : Region.Mode) (ops : Array Oper) : List Nat → Bool
  | [] => true
  | s :: l => (match l with | [] => true | t :: _ => Region.waitsFor md ops t s) && chained md ops l
def apartB (md : Region.Mode) (ops : Array Oper) (i j : Nat) : Bool :=
  Region.waitsFor md ops i j || Region.waitsFor md ops j i || (match ops[i]?, ops[j]? with | some oi, some oj => oi.apart ops oj | _, _ => true)
def mixB (md : Region.Mode) (ops : Array Oper) (listed : Array Bool) (hs ts : List Nat) : Bool :=
  Region.noSelect ops && decide (listed.size = ops.size) &&
  ((List.range ops.size).all fun j => listed.getD j true || hs.contains j || ts.contains j) &&
  ((hs ++ ts).all fun j => decide (j < ops.size) && !listed.getD j true) &&
  decide (hs ++ ts).Nodup && lexOk md ops (hs ++ ts) listed &&
  (match ts with | [] => true | t :: _ => sinks md ops t hs) && chained md ops ts &&
  hs.all fun i => hs.all fun j => i == j || apartB md ops i j

structure MixOk (md : Region.Mode) (ops : Array Oper) (listed : Array Bool) (hs ts : List Nat) : Prop where
  size : listed.size = ops.size
  cover : ∀ j, j < ops.size → listed.getD j true = false → j ∈ hs ∨ j ∈ ts
  un : ∀ j ∈ hs ++ ts, j < ops.size ∧ listed.getD j true = false
  nd : (hs ++ ts).Nodup
  lex : lexOk md ops (hs ++ ts) listed = true
  sink : ∀ t l, ts = t :: l → sinks md ops t hs = true
  chain : chained md ops ts = true
  apart : ∀ i ∈ hs, ∀ j ∈ hs, i ≠ j → apartB md ops i j = true

theorem mixB_ok {listed : Array Bool} {hs ts : List Nat} (h : mixB md ops listed hs ts = true) : Region.noSelect ops = true ∧ MixOk md ops listed hs ts := by
  simp only [mixB, Bool.and_eq_true, decide_eq_true_eq] at h
  obtain ⟨⟨⟨⟨⟨⟨⟨⟨h1, h2⟩, h3⟩, h4⟩, h5⟩, h6⟩, h7⟩, h8⟩, h9⟩ := h
  refine ⟨h1, h2, fun j hj hl => ?_, fun j hj => ?_, h5, h6, fun t l e => ?_, h8, fun i hi j hj hne => ?_⟩
  · have := List.all_eq_true.1 h3 j (List.mem_range.2 hj)
    rw [hl] at this
    simpa using this
  · have := List.all_eq_true.1 h4 j hj
    simp only [Bool.and_eq_true, decide_eq_true_eq, Bool.not_eq_true'] at this
    exact this
  · subst e; exact h7
  · have := List.all_eq_true.1 (List.all_eq_true.1 h9 i hi) j hj
    simp only [Bool.or_eq_true, beq_iff_eq] at this
    exact this.resolve_left hne

theorem mem_ready' {j : Nat} {listed : Array Bool} : j ∈ Region.ready md ops listed ↔ j < ops.size ∧ listed.getD j true = false ∧ edgesIn md ops listed j = true := by
  unfold Region.ready edgesIn
  simp [List.mem_filter, List.mem_range]

theorem edgesIn_waits {i j : Nat} {listed : Array Bool} (h : edgesIn md ops listed i = true) (hw : Region.waitsFor md ops i j = true) : listed.getD j false = true := by
  obtain ⟨oi, hoi, e, he, hb, rfl⟩ := Region.waitsFor_spec hw
  unfold edgesIn at h
  rw [hoi] at h
  simp only [Option.map_some, Option.getD_some] at h
  have h2 := Array.all_eq_true_iff_forall_mem.1 h e he
  simpa [hb] using h2

theorem edgesIn_set {i j : Nat} {listed : Array Bool} (h : edgesIn md ops listed i = true) : edgesIn md ops (listed.setIfInBounds j true) i = true := by
  unfold edgesIn at *
  cases hoi : ops[i]? with
  | none => rw [hoi] at h; exact h
  | some oi =>
    rw [hoi] at h
    simp only [Option.map_some, Option.getD_some] at h ⊢
    rw [Array.all_eq_true_iff_forall_mem] at h ⊢
    intro e he
    have := h e he
    simp only [Bool.or_eq_true] at this ⊢
    exact this.imp id getD_set_true

theorem lexOk_set {j : Nat} : ∀ (l : List Nat) (listed : Array Bool), lexOk md ops l listed = true → lexOk md ops l (listed.setIfInBounds j true) = true
  | [], _, _ => rfl
  | i :: l, listed, h => by
    simp only [lexOk, Bool.and_eq_true] at h ⊢
    refine ⟨edgesIn_set h.1, ?_⟩
    by_cases hij : i = j
    · subst hij
      exact lexOk_set l _ h.2
    · rw [Array.setIfInBounds_comm _ _ (Ne.symm hij)]
      exact lexOk_set l _ h.2

/-- One that is ready is struck out of the list. -/
theorem lexOk_strike {i : Nat} {post : List Nat} : ∀ (pre : List Nat) (listed : Array Bool), i ∉ pre → lexOk md ops (pre ++ i :: post) listed = true → lexOk md ops (pre ++ post) (listed.setIfInBounds i true) = true
  | [], listed, _, h => by simp only [List.nil_append, lexOk, Bool.and_eq_true] at h; exact h.2
  | p :: pre, listed, hni, h => by
    simp only [List.cons_append, lexOk, Bool.and_eq_true] at h ⊢
    refine ⟨edgesIn_set h.1, ?_⟩
    rw [Array.setIfInBounds_comm _ _ (fun e => hni (by rw [e]; exact List.mem_cons_self))]
    exact lexOk_strike pre _ (fun hm => hni (List.mem_cons_of_mem _ hm)) h.2

theorem lexOk_waits {i : Nat} {post : List Nat} : ∀ (pre : List Nat) (listed : Array Bool) (p : Nat), p ∈ pre → i ∉ pre → listed.getD i false = false → lexOk md ops (pre ++ i :: post) listed = true → Region.waitsFor md ops p i = false
  | q :: pre, listed, p, hp, hni, hl, h => by
    simp only [List.cons_append, lexOk, Bool.and_eq_true] at h
    rcases List.mem_cons.1 hp with rfl | hp
    · cases hw : Region.waitsFor md ops p i with
      | false => rfl
      | true => have := edgesIn_waits h.1 hw; rw [hl] at this; cases this
    · refine lexOk_waits pre _ p hp (fun hm => hni (List.mem_cons_of_mem _ hm)) ?_ h.2
      rw [getD_set_ne false (fun e => hni (by rw [e]; exact List.mem_cons_self))]
      exact hl

theorem sinks_strike {i t : Nat} {listed : Array Bool} (hi : edgesIn md ops listed i = true) {post : List Nat} : ∀ (pre : List Nat), (∀ p ∈ pre, listed.getD p false = false) → sinks md ops t (pre ++ i :: post) = true → sinks md ops t (pre ++ post) = true
  | [], _, h => by simp only [List.nil_append, sinks, Bool.and_eq_true] at h; exact h.2
  | p :: pre, hun, h => by
    simp only [List.cons_append, sinks, Bool.and_eq_true] at h ⊢
    refine ⟨?_, sinks_strike hi pre (fun q hq => hun q (List.mem_cons_of_mem _ hq)) h.2⟩
    have h1 := h.1
    simp only [Bool.or_eq_true, List.any_eq_true, List.mem_append, List.mem_cons] at h1 ⊢
    refine h1.imp id fun ⟨x, hx, hw⟩ => ⟨x, ?_, hw⟩
    rcases hx with hx | rfl | hx
    · exact .inl hx
    · have := edgesIn_waits hi hw
      rw [hun p List.mem_cons_self] at this
      cases this
    · exact .inr hx

theorem sinks_last {t : Nat} : ∀ (l : List Nat), l ≠ [] → sinks md ops t l = true → ∃ h ∈ l, Region.waitsFor md ops t h = true
  | [], hne, _ => absurd rfl hne
  | [h], _, hs => by
    simp only [sinks, List.any_nil, Bool.or_false, Bool.and_true] at hs
    exact ⟨h, List.mem_cons_self, hs⟩
  | h :: h' :: l, _, hs => by
    simp only [sinks, Bool.and_eq_true] at hs
    obtain ⟨x, hx, hw⟩ := sinks_last (h' :: l) (by simp) (by simp only [sinks, Bool.and_eq_true]; exact hs.2)
    exact ⟨x, List.mem_cons_of_mem _ hx, hw⟩

theorem chained_prev : ∀ (l : List Nat) (t : Nat), chained md ops l = true → t ∈ l → (∃ l', l = t :: l') ∨ ∃ s ∈ l, Region.waitsFor md ops t s = true
  | [], _, _, h => by cases h
  | s :: l, t, hc, h => by
    rcases List.mem_cons.1 h with rfl | h
    · exact .inl ⟨l, rfl⟩
    · simp only [chained, Bool.and_eq_true] at hc
      right
      rcases chained_prev l t hc.2 h with ⟨l', rfl⟩ | ⟨x, hx, hw⟩
      · exact ⟨s, List.mem_cons_self, hc.1⟩
      · exact ⟨x, List.mem_cons_of_mem _ hx, hw⟩

/-- While one of the first lot has not come, none of the tail can. -/
theorem MixOk.not_tail {listed : Array Bool} {hs ts : List Nat} (ok : MixOk md ops listed hs ts) (hne : hs ≠ []) {i : Nat} (hi : i ∈ Region.ready md ops listed) : i ∈ hs := by
  obtain ⟨hlt, hun, hed⟩ := mem_ready'.1 hi
  rcases ok.cover i hlt hun with h | h
  · exact h
  · exfalso
    have bad : ∀ s, s ∈ hs ++ ts → Region.waitsFor md ops i s = true → False := fun s hs' hw => by
      have h1 := edgesIn_waits hed hw
      rw [getD_both (ok.un s hs').2] at h1
      cases h1
    rcases chained_prev ts i ok.chain h with ⟨l', e⟩ | ⟨s, hs', hw⟩
    · obtain ⟨s, hs', hw⟩ := sinks_last hs hne (ok.sink i l' e)
      exact bad s (List.mem_append_left _ hs') hw
    · exact bad s (List.mem_append_right _ hs') hw

theorem MixOk.strike {listed : Array Bool} {pre post ts : List Nat} {i : Nat} (ok : MixOk md ops listed (pre ++ i :: post) ts) (hi : i ∈ Region.ready md ops listed) : MixOk md ops (listed.setIfInBounds i true) (pre ++ post) ts := by
  obtain ⟨hlt, hun, hed⟩ := mem_ready'.1 hi
  have nd := ok.nd
  have hni : i ∉ pre ∧ i ∉ post ∧ i ∉ ts := by
    rw [List.append_assoc, List.cons_append] at nd
    have := (List.nodup_cons.1 ((List.perm_middle.nodup_iff).1 nd)).1
    simp only [List.mem_append, not_or] at this
    exact this
  refine ⟨by simp [ok.size], fun j hj hl => ?_, fun j hj => ?_, ?_, ?_, fun t l e => ?_, ok.chain, fun a ha b hb hne => ok.apart a ?_ b ?_ hne⟩
  · by_cases hij : i = j
    · subst hij
      rw [show (listed.setIfInBounds i true).getD i true = true by simp [ok.size, hlt]] at hl
      cases hl
    · rw [getD_set_ne true hij] at hl
      have := ok.cover j hj hl
      simp only [List.mem_append, List.mem_cons] at this ⊢
      rcases this with (h | rfl | h) | h
      · exact .inl (.inl h)
      · exact absurd rfl hij
      · exact .inl (.inr h)
      · exact .inr h
  · have hj' : j ∈ (pre ++ i :: post) ++ ts := by
      simp only [List.mem_append, List.mem_cons] at hj ⊢
      rcases hj with (h | h) | h
      · exact .inl (.inl h)
      · exact .inl (.inr (.inr h))
      · exact .inr h
    have hne : i ≠ j := by
      rintro rfl
      simp only [List.mem_append] at hj
      rcases hj with (h | h) | h
      · exact hni.1 h
      · exact hni.2.1 h
      · exact hni.2.2 h
    exact ⟨(ok.un j hj').1, by rw [getD_set_ne true hne]; exact (ok.un j hj').2⟩
  · rw [List.append_assoc, List.cons_append] at nd
    rw [List.append_assoc]
    exact (List.nodup_cons.1 ((List.perm_middle.nodup_iff).1 nd)).2
  · have := ok.lex
    rw [List.append_assoc, List.cons_append] at this
    rw [List.append_assoc]
    exact lexOk_strike pre listed hni.1 this
  · exact sinks_strike hed pre (fun p hp => getD_both (ok.un p (by simp [hp])).2) (ok.sink t l e)
  · simp only [List.mem_append, List.mem_cons] at ha ⊢
    exact ha.imp id .inr
  · simp only [List.mem_append, List.mem_cons] at hb ⊢
    exact hb.imp id .inr

theorem wpAny_tail : ∀ (ts : List Nat) (listed : Array Bool) (a : Act) (w : World), MixOk md ops listed [] ts → wpOps P ops Q ts a w → wpAny P md ops Q ts.length listed a w
  | [], listed, a, w, ok, h => by
    refine ⟨?_, h⟩
    cases hr : Region.ready md ops listed with
    | nil => rfl
    | cons x l =>
      obtain ⟨hlt, hun, _⟩ := mem_ready'.1 (show x ∈ Region.ready md ops listed by rw [hr]; exact List.mem_cons_self)
      have := ok.cover x hlt hun
      simp at this
  | t :: ts, listed, a, w, ok, h => by
    have hlex : edgesIn md ops listed t = true ∧ lexOk md ops ts (listed.setIfInBounds t true) = true := by
      have := ok.lex
      simpa only [List.nil_append, lexOk, Bool.and_eq_true] using this
    have hun := ok.un t (by simp)
    have hr : t ∈ Region.ready md ops listed := mem_ready'.2 ⟨hun.1, hun.2, hlex.1⟩
    rw [wpOps_cons] at h
    refine ⟨fun h0 => (by rw [h0] at hr; cases hr), fun i hi => ?_⟩
    obtain ⟨hlt, hui, hed⟩ := mem_ready'.1 hi
    have hit : i = t := by
      have hm := (ok.cover i hlt hui).resolve_left (by simp)
      rcases chained_prev (t :: ts) i ok.chain hm with ⟨l', e⟩ | ⟨s, hs', hw⟩
      · injection e with e _; exact e.symm
      · have h1 := edgesIn_waits hed hw
        rw [getD_both (ok.un s (by simpa using hs')).2] at h1
        cases h1
    subst hit
    have nd := ok.nd
    rw [List.nil_append] at nd
    have hnd := List.nodup_cons.1 nd
    refine wpOp_mono (fun a' w' h' => wpAny_tail ts _ a' w' ⟨by simp [ok.size], fun j hj hl => ?_, fun j hj => ?_, by simpa using hnd.2, by simpa using hlex.2, fun _ _ _ => rfl, ?_, fun a ha => by cases ha⟩ h') h
    · by_cases hij : i = j
      · subst hij
        rw [show (listed.setIfInBounds i true).getD i true = true by simp [ok.size, hlt]] at hl
        cases hl
      · rw [getD_set_ne true hij] at hl
        have := ok.cover j hj hl
        simp only [List.mem_cons, List.not_mem_nil, false_or] at this
        exact .inr (this.resolve_left (Ne.symm hij))
    · have hj' : j ∈ ts := by simpa using hj
      have hne : i ≠ j := fun e => hnd.1 (e ▸ hj')
      have := ok.un j (by simp [hj'])
      exact ⟨this.1, by rw [getD_set_ne true hne]; exact this.2⟩
    · have := ok.chain
      simp only [chained, Bool.and_eq_true] at this
      exact this.2

theorem wpAny_mix' (hsel : Region.noSelect ops = true) {ts : List Nat} : ∀ (n : Nat) (hs : List Nat) (listed : Array Bool) (a : Act) (w : World), hs.length = n → MixOk md ops listed hs ts → S w →
    wpMix P ops S (fun a' => ∀ w', S w' → wpOps P ops Q ts a' w') hs a → wpAny P md ops Q (hs.length + ts.length) listed a w
  | 0, hs, listed, a, w, hn, ok, hS, h => by
    obtain rfl : hs = [] := List.eq_nil_of_length_eq_zero hn
    rw [List.length_nil, Nat.zero_add]
    exact wpAny_tail ts listed a w ok (h w hS)
  | n + 1, hs, listed, a, w, hn, ok, hS, h => by
    obtain ⟨x, l, rfl⟩ : ∃ x l, hs = x :: l := by cases hs with | nil => simp at hn | cons x l => exact ⟨x, l, rfl⟩
    rw [show (x :: l).length + ts.length = (l.length + ts.length) + 1 by simp; omega]
    have hr : x ∈ Region.ready md ops listed := by
      have hlex := ok.lex
      simp only [List.cons_append, lexOk, Bool.and_eq_true] at hlex
      have hun := ok.un x (by simp)
      exact mem_ready'.2 ⟨hun.1, hun.2, hlex.1⟩
    refine ⟨fun h0 => (by rw [h0] at hr; cases hr), fun i hi => ?_⟩
    have him := ok.not_tail (by simp) hi
    obtain ⟨hlt, hui, hed⟩ := mem_ready'.1 hi
    obtain ⟨pre, post, e⟩ := List.append_of_mem him
    rw [e] at ok h
    have nd := ok.nd
    have hni : i ∉ pre := by
      rw [List.append_assoc, List.cons_append] at nd
      have := (List.nodup_cons.1 ((List.perm_middle.nodup_iff).1 nd)).1
      simp only [List.mem_append, not_or] at this
      exact this.1
    obtain ⟨oi, v, hoi, hheld, hrest⟩ := wpMix_front (P := P) (S := S) hsel pre a (fun p hp op oi hop hoi => by
      have hne : i ≠ p := fun e => hni (e ▸ hp)
      have h1 := ok.apart i (by simp) p (by simp [hp]) hne
      have hunp := ok.un p (by simp [hp])
      have h2 : Region.waitsFor md ops i p = false := by
        cases hw : Region.waitsFor md ops i p with
        | false => rfl
        | true => have := edgesIn_waits hed hw; rw [getD_both hunp.2] at this; cases this
      have h3 : Region.waitsFor md ops p i = false := by
        have hlex := ok.lex
        rw [List.append_assoc, List.cons_append] at hlex
        exact lexOk_waits pre listed p hp hni (getD_both hui) hlex
      simpa [apartB, h2, h3, hop, hoi] using h1) h
    have hlen : l.length = (pre ++ post).length := by
      have := congrArg List.length e
      simp at this ⊢
      omega
    refine hheld.wpOp hoi hS fun w' hS' => ?_
    rw [hlen]
    exact wpAny_mix' hsel n (pre ++ post) _ _ w' (by rw [← hlen]; simpa using hn) (ok.strike hi) hS' hrest

theorem wpOps_list (l : List Nat) : ∀ (a : Act) (w : World), (∀ i ∈ l, i < ops.size) → wpList P ops Q (l.filterMap fun i => ops[i]?) a w → wpOps P ops Q l a w := by
  induction l with
  | nil => exact fun _ _ _ h => h
  | cons i l ih =>
    intro a w hl h
    have hi : i < ops.size := hl i List.mem_cons_self
    have ho : ops[i]? = some ops[i] := Array.getElem?_eq_getElem hi
    simp only [List.filterMap_cons, ho] at h
    have hl' : ∀ j ∈ l, j < ops.size := fun j hj => hl j (List.mem_cons_of_mem _ hj)
    unfold wpList at h
    unfold wpOps
    simp only [ho]
    split
    · rename_i hw
      rw [if_pos hw] at h
      exact h.imp (Oper.wp_mono fun a w h' => ih a w hl' h') id
    · rename_i hw
      rw [if_neg hw] at h
      exact ih _ _ hl' h

/-- The same over the operations themselves. -/
def wpHeld (P : Program) (ops : Array Oper) (S : World → Prop) (T : Act → Prop) : List Oper → Act → Prop
  | [], a => T a
  | o :: l, a => ∃ v, Held P ops S o v a ∧ wpHeld P ops S T l (a.put o.dst v)

theorem wpMix_of_held {T T' : Act → Prop} (hT : ∀ a, T a → T' a) : ∀ (l : List Nat) (a : Act), (∀ i ∈ l, i < ops.size) → wpHeld P ops S T (l.filterMap fun i => ops[i]?) a → wpMix P ops S T' l a
  | [], a, _, h => hT a h
  | i :: l, a, hl, h => by
    obtain ⟨o, ho⟩ : ∃ o, ops[i]? = some o := ⟨_, Array.getElem?_eq_getElem (hl i List.mem_cons_self)⟩
    simp only [List.filterMap_cons, ho] at h
    obtain ⟨v, hh, hr⟩ := h
    exact ⟨_, v, ho, hh, wpMix_of_held hT l _ (fun j hj => hl j (List.mem_cons_of_mem _ hj)) hr⟩

/-- THE RULE: the numbers hs in whatever order, then ts in theirs. -/
theorem wpAny_mix {fuel : Nat} {listed : Array Bool} {a : Act} {w : World} (S : World → Prop) (hs ts : List Nat) (hB : mixB md ops listed hs ts = true) (hf : fuel = hs.length + ts.length) (hS : S w)
    (h : wpHeld P ops S (fun a' => ∀ w', S w' → wpList P ops Q (ts.filterMap fun i => ops[i]?) a' w') (hs.filterMap fun i => ops[i]?) a) : wpAny P md ops Q fuel listed a w := by
  obtain ⟨hsel, ok⟩ := mixB_ok hB
  subst hf
  have hts : ∀ i ∈ ts, i < ops.size := fun i hi => (ok.un i (by simp [hi])).1
  have hhs : ∀ i ∈ hs, i < ops.size := fun i hi => (ok.un i (by simp [hi])).1
  exact wpAny_mix' hsel _ hs listed a w rfl ok hS (wpMix_of_held (fun a' h w' hw' => wpOps_list ts a' w' hts (h w' hw')) hs a hhs h)

theorem wp_region_mix {id : Nat} {a : Act} {w : World} (S : World → Prop) (hs ts : List Nat) (hm : P.follows .mixedOrders = true) (hB : mixB .any ops (Array.replicate ops.size false) hs ts = true) (hf : ops.size = hs.length + ts.length)
    (hS : S w.drew) (h : wpHeld P ops S (fun a' => ∀ w', S w' → wpList P ops Q (ts.filterMap fun i => ops[i]?) a' w') (hs.filterMap fun i => ops[i]?) a) : (Code.region id ops true).wp P Q a w :=
  wp_region_any hm (wpAny_mix S hs ts hB hf hS h)

/-! what yields its value in whatever world comes first -/
def wpFree (P : Program) (ops : Array Oper) (T : Act → Prop) : List Oper → Act → Prop
  | [], a => T a
  | o :: l, a => ∃ v, Yields P ops o v a ∧ wpFree P ops T l (a.put o.dst v)
def freeB (md : Region.Mode) (ops : Array Oper) : List Nat → Array Bool → Bool
  | [], _ => true
  | i :: l, listed => decide (i < ops.size) && Region.free md ops listed i && (Region.ready md ops listed).contains i && freeB md ops l (listed.setIfInBounds i true)
def markAll : List Nat → Array Bool → Array Bool
  | [], listed => listed
  | i :: l, listed => markAll l (listed.setIfInBounds i true)
theorem wpAny_free (hQ : ∀ c a d v w, Q (.panic c) (a.put (some d) v) w → Q (.panic c) a w) (hsel : Region.noSelect ops = true) {fuel : Nat} {w : World} {T : Act → Prop} :
    ∀ (us : List Nat) (listed : Array Bool) (a : Act), freeB md ops us listed = true → (∀ a', T a' → wpAny P md ops Q fuel (markAll us listed) a' w) →
      wpFree P ops T (us.filterMap fun i => ops[i]?) a → wpAny P md ops Q (us.length + fuel) listed a w
  | [], listed, a, _, hT, h => by rw [List.length_nil, Nat.zero_add]; exact hT a h
  | i :: us, listed, a, hB, hT, h => by
    simp only [freeB, Bool.and_eq_true, decide_eq_true_eq] at hB
    obtain ⟨⟨⟨hi, hf⟩, hr⟩, hB'⟩ := hB
    obtain ⟨o, ho⟩ : ∃ o, ops[i]? = some o := ⟨_, Array.getElem?_eq_getElem hi⟩
    simp only [List.filterMap_cons, ho] at h
    obtain ⟨v, hy, h⟩ := h
    rw [show (i :: us).length + fuel = (us.length + fuel) + 1 by simp; omega]
    refine wpAny_take ho hsel hf hr (fun c a w hq => ?_) hy (wpAny_free hQ hsel us _ _ hB' hT h)
    cases hd : o.dst with
    | none => rw [hd] at hq; exact hq
    | some d => rw [hd] at hq; exact hQ c a d v w hq

/-- THE RULE, WITH us FIRST: what yields its value in whatever world, at whatever time. -/
theorem wp_region_umix {id : Nat} {a : Act} {w : World} (S : World → Prop) (us hs ts : List Nat) (hm : P.follows .mixedOrders = true)
    (hB : (freeB .any ops us (Array.replicate ops.size false) && mixB .any ops (markAll us (Array.replicate ops.size false)) hs ts) = true) (hf : ops.size = us.length + (hs.length + ts.length))
    (hQ : ∀ c a d v w, Q (.panic c) (a.put (some d) v) w → Q (.panic c) a w) (hS : S w.drew)
    (h : wpFree P ops (fun a1 => wpHeld P ops S (fun a' => ∀ w', S w' → wpList P ops Q (ts.filterMap fun i => ops[i]?) a' w') (hs.filterMap fun i => ops[i]?) a1) (us.filterMap fun i => ops[i]?) a) :
    (Code.region id ops true).wp P Q a w := by
  rw [Bool.and_eq_true] at hB
  refine wp_region_any hm ?_
  rw [hf]
  rw [hf] at hB
  exact wpAny_free hQ (mixB_ok hB.2).1 us _ a hB.1 (fun a' h' => wpAny_mix S hs ts hB.2 rfl hS h') h

/-! the widest rule: reads that come before the tail's own writes, but may come behind a making of memory -/
def wpL (P : Program) (md : Region.Mode) (ops : Array Oper) (Q : Exit → Act → World → Prop) (S : World → Prop) (T : Act → World → Prop) : Nat → Array Bool → Act → World → Prop
  | 0, _, a, w => T a w
  | f + 1, listed, a, w => Region.ready md ops listed ≠ [] ∧ ∀ i ∈ Region.ready md ops listed, wpOp P ops Q i (fun a' w' => S w' ∧ wpL P md ops Q S T f (listed.setIfInBounds i true) a' w') a w

theorem MixOk.strike' {listed : Array Bool} {L ts : List Nat} {i : Nat} (ok : MixOk md ops listed L ts) (hne : L ≠ []) (hi : i ∈ Region.ready md ops listed) : ∃ L', MixOk md ops (listed.setIfInBounds i true) L' ts ∧ L'.length + 1 = L.length ∧ (∀ j ∈ L, j ≠ i → j ∈ L') := by
  obtain ⟨pre, post, e⟩ := List.append_of_mem (ok.not_tail hne hi)
  rw [e] at ok
  refine ⟨pre ++ post, ok.strike hi, by rw [e]; simp; omega, fun j hj hne => ?_⟩
  rw [e] at hj
  simp only [List.mem_append, List.mem_cons] at hj ⊢
  rcases hj with h | h | h
  · exact .inl h
  · exact absurd h hne
  · exact .inr h

theorem wpL_any {T : Act → World → Prop} {ts : List Nat} (hT : ∀ a w, T a w → wpOps P ops Q ts a w) : ∀ (n : Nat) (L : List Nat) (listed : Array Bool) (a : Act) (w : World), L.length = n → MixOk md ops listed L ts → wpL P md ops Q S T n listed a w →
    wpAny P md ops Q (n + ts.length) listed a w
  | 0, L, listed, a, w, hn, ok, h => by
    obtain rfl : L = [] := List.eq_nil_of_length_eq_zero hn
    rw [Nat.zero_add]
    exact wpAny_tail ts listed a w ok (hT a w h)
  | n + 1, L, listed, a, w, hn, ok, h => by
    rw [show n + 1 + ts.length = (n + ts.length) + 1 by omega]
    have hne : L ≠ [] := fun e => by subst e; simp at hn
    refine ⟨fun h0 => absurd h0 h.1, fun i hi => ?_⟩
    obtain ⟨L', ok', hl, _⟩ := ok.strike' hne hi
    exact wpOp_mono (fun a' w' h' => wpL_any hT n L' _ a' w' (by omega) ok' h'.2) (h.2 i hi)

theorem wpL_late {T : Act → World → Prop} {ts : List Nat} {i : Nat} {oi : Oper} {v : Value} (hoi : ops[i]? = some oi) (hsel : Region.noSelect ops = true) (hQ : ∀ c a w, Q (.panic c) (a.put oi.dst v) w → Q (.panic c) a w) :
    ∀ (n : Nat) (L : List Nat) (listed : Array Bool) (a : Act) (w : World), L.length = n + 1 → MixOk md ops listed L ts → i ∈ Region.ready md ops listed → i ∈ L → YieldsIf P ops S oi v a → S w →
      wpL P md ops Q S T n (listed.setIfInBounds i true) (a.put oi.dst v) w → wpL P md ops Q S T (n + 1) listed a w
  | 0, L, listed, a, w, hn, ok, hr, hiL, hy, hS, H => by
    refine ⟨fun h => (by rw [h] at hr; cases hr), fun j hj => ?_⟩
    have hne : L ≠ [] := fun e => by subst e; simp at hn
    obtain ⟨x, rfl⟩ := List.length_eq_one_iff.1 hn
    have h1 := ok.not_tail hne hj
    have h2 := ok.not_tail hne hr
    simp only [List.mem_singleton] at h1 h2
    obtain rfl : j = i := h1.trans h2.symm
    exact hy.wpOp hoi hS ⟨hS, H⟩
  | n + 1, L, listed, a, w, hn, ok, hr, hiL, hy, hS, H => by
    have hne : L ≠ [] := fun e => by subst e; simp at hn
    refine ⟨fun h => (by rw [h] at hr; cases hr), fun j hj => ?_⟩
    by_cases hji : j = i
    · subst hji; exact hy.wpOp hoi hS ⟨hS, H⟩
    · have h1 := H.2 j (ready_mono hj hji)
      obtain ⟨hjlt, hjun, hjed⟩ := mem_ready'.1 hj
      obtain ⟨hilt, hiun, hied⟩ := mem_ready'.1 hr
      obtain ⟨oj, hoj⟩ : ∃ o, ops[j]? = some o := ⟨_, Array.getElem?_eq_getElem hjlt⟩
      have hjL := ok.not_tail hne hj
      have hap : oi.apart ops oj = true := by
        have h := ok.apart i hiL j hjL (Ne.symm hji)
        have h2 : Region.waitsFor md ops i j = false := by
          cases hw : Region.waitsFor md ops i j with
          | false => rfl
          | true => have := edgesIn_waits hied hw; rw [getD_both hjun] at this; cases this
        have h3 : Region.waitsFor md ops j i = false := by
          cases hw : Region.waitsFor md ops j i with
          | false => rfl
          | true => have := edgesIn_waits hjed hw; rw [getD_both hiun] at this; cases this
        simpa [apartB, h2, h3, hoi, hoj] using h
      have h2 := wpOp_putIf hoj hap (fun cs b => Region.noSelect_spec hsel i oi cs b hoi) (fun cs b => Region.noSelect_spec hsel j oj cs b hoj) hQ hy h1
      obtain ⟨L', ok', hl, hmem⟩ := ok.strike' hne hj
      refine wpOp_mono (fun a' w' h3 => ⟨h3.2.1, wpL_late hoi hsel hQ n L' _ a' w' (by omega) ok' (ready_mono hr (Ne.symm hji)) (hmem i hiL (Ne.symm hji)) h3.1 h3.2.1 ?_⟩) h2
      rw [Array.setIfInBounds_comm _ _ hji]
      exact h3.2.2

def wpLate (P : Program) (ops : Array Oper) (S : World → Prop) (T : Act → Prop) : List Oper → Act → Prop
  | [], a => T a
  | o :: l, a => ∃ v, YieldsIf P ops S o v a ∧ wpLate P ops S T l (a.put o.dst v)

theorem wpL_lates {T : Act → World → Prop} {ts : List Nat} {w : World} {T1 : Act → Prop} (hsel : Region.noSelect ops = true) (hQ : ∀ c a d v w, Q (.panic c) (a.put (some d) v) w → Q (.panic c) a w) (hS : S w) :
    ∀ (ls rest : List Nat) (listed : Array Bool) (a : Act), MixOk md ops listed (ls ++ rest) ts → (∀ a', T1 a' → MixOk md ops (markAll ls listed) rest ts → wpL P md ops Q S T rest.length (markAll ls listed) a' w) →
      wpLate P ops S T1 (ls.filterMap fun i => ops[i]?) a → wpL P md ops Q S T (ls.length + rest.length) listed a w
  | [], rest, listed, a, ok, hT, h => by rw [List.length_nil, Nat.zero_add]; exact hT a h ok
  | i :: ls, rest, listed, a, ok, hT, h => by
    have hun := ok.un i (by simp)
    obtain ⟨o, ho⟩ : ∃ o, ops[i]? = some o := ⟨_, Array.getElem?_eq_getElem hun.1⟩
    simp only [List.filterMap_cons, ho] at h
    obtain ⟨v, hy, h⟩ := h
    have hr : i ∈ Region.ready md ops listed := by
      have hlex := ok.lex
      simp only [List.cons_append, lexOk, Bool.and_eq_true] at hlex
      exact mem_ready'.2 ⟨hun.1, hun.2, hlex.1⟩
    rw [show (i :: ls).length + rest.length = (ls.length + rest.length) + 1 by simp; omega]
    refine wpL_late ho hsel (fun c a w hq => ?_) _ _ listed a w (by simp) ok hr (by simp) hy hS (wpL_lates hsel hQ hS ls rest _ _ (MixOk.strike (pre := []) ok hr) hT h)
    cases hd : o.dst with
    | none => rw [hd] at hq; exact hq
    | some d => rw [hd] at hq; exact hQ c a d v w hq

/-- The first of the tail keep S, too. -/
def wpKeep (P : Program) (ops : Array Oper) (Q : Exit → Act → World → Prop) (S : World → Prop) (T : Act → World → Prop) : List Nat → Act → World → Prop
  | [], a, w => T a w
  | i :: l, a, w => wpOp P ops Q i (fun a' w' => S w' ∧ wpKeep P ops Q S T l a' w') a w

theorem wpL_keep {T : Act → World → Prop} {ts : List Nat} : ∀ (l : List Nat) (listed : Array Bool) (a : Act) (w : World), MixOk md ops listed [] (l ++ ts) → wpKeep P ops Q S T l a w → wpL P md ops Q S T l.length listed a w
  | [], _, _, _, _, h => h
  | t :: l, listed, a, w, ok, h => by
    have hlex : edgesIn md ops listed t = true ∧ lexOk md ops (l ++ ts) (listed.setIfInBounds t true) = true := by
      have := ok.lex
      simpa only [List.nil_append, List.cons_append, lexOk, Bool.and_eq_true] using this
    have hun := ok.un t (by simp)
    have hr : t ∈ Region.ready md ops listed := mem_ready'.2 ⟨hun.1, hun.2, hlex.1⟩
    refine ⟨fun h0 => (by rw [h0] at hr; cases hr), fun i hi => ?_⟩
    obtain ⟨hlt, hui, hed⟩ := mem_ready'.1 hi
    have hit : i = t := by
      have hm := (ok.cover i hlt hui).resolve_left (by simp)
      rcases chained_prev (t :: (l ++ ts)) i ok.chain hm with ⟨l', e⟩ | ⟨s, hs', hw⟩
      · injection e with e _; exact e.symm
      · have h1 := edgesIn_waits hed hw
        rw [getD_both (ok.un s (by simpa using hs')).2] at h1
        cases h1
    subst hit
    have nd := ok.nd
    rw [List.nil_append, List.cons_append] at nd
    have hnd := List.nodup_cons.1 nd
    refine wpOp_mono (fun a' w' h' => ⟨h'.1, wpL_keep l _ a' w' ⟨by simp [ok.size], fun j hj hl => ?_, fun j hj => ?_, by simpa using hnd.2, by simpa using hlex.2, fun _ _ _ => rfl, ?_, fun a ha => by cases ha⟩ h'.2⟩) h
    · by_cases hij : i = j
      · subst hij
        rw [show (listed.setIfInBounds i true).getD i true = true by simp [ok.size, hlt]] at hl
        cases hl
      · rw [getD_set_ne true hij] at hl
        have := ok.cover j hj hl
        simp only [List.cons_append, List.mem_cons, List.not_mem_nil, false_or] at this
        exact .inr (this.resolve_left (Ne.symm hij))
    · have hj' : j ∈ l ++ ts := by simpa using hj
      have hne : i ≠ j := fun e => hnd.1 (e ▸ hj')
      have := ok.un j (by simp only [List.nil_append, List.cons_append, List.mem_cons]; exact .inr hj')
      exact ⟨this.1, by rw [getD_set_ne true hne]; exact this.2⟩
    · have := ok.chain
      simp only [List.cons_append, chained, Bool.and_eq_true] at this
      exact this.2

theorem wpL_held (hsel : Region.noSelect ops = true) {T : Act → World → Prop} {ts0 ts : List Nat} : ∀ (n : Nat) (hs : List Nat) (listed : Array Bool) (a : Act) (w : World), hs.length = n → MixOk md ops listed hs (ts0 ++ ts) → S w →
    wpMix P ops S (fun a' => ∀ w', S w' → wpKeep P ops Q S T ts0 a' w') hs a → wpL P md ops Q S T (hs.length + ts0.length) listed a w
  | 0, hs, listed, a, w, hn, ok, hS, h => by
    obtain rfl : hs = [] := List.eq_nil_of_length_eq_zero hn
    rw [List.length_nil, Nat.zero_add]
    exact wpL_keep ts0 listed a w ok (h w hS)
  | n + 1, hs, listed, a, w, hn, ok, hS, h => by
    obtain ⟨x, l, rfl⟩ : ∃ x l, hs = x :: l := by cases hs with | nil => simp at hn | cons x l => exact ⟨x, l, rfl⟩
    rw [show (x :: l).length + ts0.length = (l.length + ts0.length) + 1 by simp; omega]
    have hr : x ∈ Region.ready md ops listed := by
      have hlex := ok.lex
      simp only [List.cons_append, lexOk, Bool.and_eq_true] at hlex
      have hun := ok.un x (by simp)
      exact mem_ready'.2 ⟨hun.1, hun.2, hlex.1⟩
    refine ⟨fun h0 => (by rw [h0] at hr; cases hr), fun i hi => ?_⟩
    have him := ok.not_tail (by simp) hi
    obtain ⟨hlt, hui, hed⟩ := mem_ready'.1 hi
    obtain ⟨pre, post, e⟩ := List.append_of_mem him
    rw [e] at ok h
    have nd := ok.nd
    have hni : i ∉ pre := by
      rw [List.append_assoc, List.cons_append] at nd
      have := (List.nodup_cons.1 ((List.perm_middle.nodup_iff).1 nd)).1
      simp only [List.mem_append, not_or] at this
      exact this.1
    obtain ⟨oi, v, hoi, hheld, hrest⟩ := wpMix_front (P := P) (S := S) hsel pre a (fun p hp op oi hop hoi => by
      have hne : i ≠ p := fun e => hni (e ▸ hp)
      have h1 := ok.apart i (by simp) p (by simp [hp]) hne
      have hunp := ok.un p (by simp [hp])
      have h2 : Region.waitsFor md ops i p = false := by
        cases hw : Region.waitsFor md ops i p with
        | false => rfl
        | true => have := edgesIn_waits hed hw; rw [getD_both hunp.2] at this; cases this
      have h3 : Region.waitsFor md ops p i = false := by
        have hlex := ok.lex
        rw [List.append_assoc, List.cons_append] at hlex
        exact lexOk_waits pre listed p hp hni (getD_both hui) hlex
      simpa [apartB, h2, h3, hop, hoi] using h1) h
    have hlen : l.length = (pre ++ post).length := by
      have := congrArg List.length e
      simp at this ⊢
      omega
    refine hheld.wpOp hoi hS fun w' hS' => ⟨hS', ?_⟩
    rw [hlen]
    exact wpL_held hsel n (pre ++ post) _ _ w' (by rw [← hlen]; simpa using hn) (ok.strike hi) hS' hrest

/-- As wpKeep, over the operations themselves. -/
def wpKept (P : Program) (ops : Array Oper) (Q : Exit → Act → World → Prop) (S : World → Prop) (T : Act → World → Prop) : List Oper → Act → World → Prop
  | [], a, w => T a w
  | o :: l, a, w => if Region.wanted o (yielded ops a.tmps) then o.wp P a w (fun a' w' => S w' ∧ wpKept P ops Q S T l a' w') Q else S w ∧ wpKept P ops Q S T l (a.put o.dst undef) w

theorem wpKeep_of_kept {T T' : Act → World → Prop} (hT : ∀ a w, T a w → T' a w) : ∀ (l : List Nat) (a : Act) (w : World), (∀ i ∈ l, i < ops.size) → wpKept P ops Q S T (l.filterMap fun i => ops[i]?) a w → wpKeep P ops Q S T' l a w
  | [], a, w, _, h => hT a w h
  | i :: l, a, w, hl, h => by
    obtain ⟨o, ho⟩ : ∃ o, ops[i]? = some o := ⟨_, Array.getElem?_eq_getElem (hl i List.mem_cons_self)⟩
    have hl' : ∀ j ∈ l, j < ops.size := fun j hj => hl j (List.mem_cons_of_mem _ hj)
    simp only [List.filterMap_cons, ho] at h
    unfold wpKept at h
    unfold wpKeep wpOp
    simp only [ho]
    split
    · rename_i hw
      rw [if_pos hw] at h
      exact .inl (Oper.wp_mono (fun a w h' => ⟨h'.1, wpKeep_of_kept hT l a w hl' h'.2⟩) h)
    · rename_i hw
      rw [if_neg hw] at h
      exact ⟨h.1, wpKeep_of_kept hT l _ _ hl' h.2⟩

def lmixB (md : Region.Mode) (ops : Array Oper) (listed : Array Bool) (ls hs ts0 ts : List Nat) : Bool :=
  mixB md ops listed (ls ++ (hs ++ ts0)) ts && mixB md ops (markAll ls listed) hs (ts0 ++ ts)

/-- THE WIDEST RULE. us: free, at whatever time · ls: reads that S decides, ahead of ts · hs: calls that keep S, ahead of ts0 · ts0: make memory, keep S · ts: the rest, in their order. -/
theorem wp_region_lmix {id : Nat} {a : Act} {w : World} (S : World → Prop) (us ls hs ts0 ts : List Nat) (hm : P.follows .mixedOrders = true)
    (hB : (freeB .any ops us (Array.replicate ops.size false) && lmixB .any ops (markAll us (Array.replicate ops.size false)) ls hs ts0 ts) = true) (hf : ops.size = us.length + ((ls.length + (hs.length + ts0.length)) + ts.length))
    (hQ : ∀ c a d v w, Q (.panic c) (a.put (some d) v) w → Q (.panic c) a w) (hS : S w.drew)
    (h : wpFree P ops (fun a1 => wpLate P ops S (fun a2 => wpHeld P ops S (fun a3 => ∀ w', S w' → wpKept P ops Q S (fun a4 w4 => wpList P ops Q (ts.filterMap fun i => ops[i]?) a4 w4) (ts0.filterMap fun i => ops[i]?) a3 w')
      (hs.filterMap fun i => ops[i]?) a2) (ls.filterMap fun i => ops[i]?) a1) (us.filterMap fun i => ops[i]?) a) :
    (Code.region id ops true).wp P Q a w := by
  simp only [lmixB, Bool.and_eq_true] at hB
  obtain ⟨hB1, hB2, hB3⟩ := hB
  obtain ⟨hsel, ok1⟩ := mixB_ok hB2
  obtain ⟨_, ok2⟩ := mixB_ok hB3
  have hts : ∀ i ∈ ts, i < ops.size := fun i hi => (ok1.un i (by simp [hi])).1
  have hts0 : ∀ i ∈ ts0, i < ops.size := fun i hi => (ok1.un i (by simp [hi])).1
  have hhs : ∀ i ∈ hs, i < ops.size := fun i hi => (ok1.un i (by simp [hi])).1
  refine wp_region_any hm ?_
  generalize ops.size = n at hf hB1 ok1 ok2 ⊢
  subst hf
  refine wpAny_free hQ hsel us _ a hB1 (fun a1 h1 => ?_) h
  refine wpL_any (S := S) (T := fun a4 w4 => wpOps P ops Q ts a4 w4) (fun _ _ h => h) _ (ls ++ (hs ++ ts0)) _ a1 _ (by simp) ok1 ?_
  have := wpL_lates (P := P) (S := S) (T := fun a4 w4 => wpOps P ops Q ts a4 w4) (w := w.drew) hsel hQ hS ls (hs ++ ts0) _ a1 ok1 (fun a2 h2 _ => ?_) h1
  · simpa using this
  · rw [List.length_append]
    exact wpL_held hsel _ hs _ a2 _ rfl ok2 hS (wpMix_of_held (fun a3 h3 w' hw' => wpKeep_of_kept (fun a4 w4 h4 => wpOps_list ts a4 w4 hts h4) ts0 a3 w' hts0 (h3 w' hw')) hs a2 hhs h2)

theorem late_nil {T : Act → Prop} {a : Act} (h : T a) : wpLate P ops S T [] a := h
theorem late_val {T : Act → Prop} {l : List Oper} {a : Act} {o : Oper} (v : Value) (hw : Region.wanted o (yielded ops a.tmps) = true) (hv : ∀ w, S w → (execOp a.eval o).run P w = .ok (.value v) w)
    (h : wpLate P ops S T l (a.put o.dst v)) : wpLate P ops S T (o :: l) a := ⟨v, .inl ⟨hw, hv⟩, h⟩
theorem late_off {T : Act → Prop} {l : List Oper} {a : Act} {o : Oper} (hw : Region.wanted o (yielded ops a.tmps) = false)
    (h : wpLate P ops S T l (a.put o.dst undef)) : wpLate P ops S T (o :: l) a := ⟨undef, .inr ⟨hw, rfl⟩, h⟩
theorem kept_nil {T : Act → World → Prop} {a : Act} {w : World} (h : T a w) : wpKept P ops Q S T [] a w := h
theorem kept_val {T : Act → World → Prop} {l : List Oper} {a : Act} {w w1 : World} {o : Oper} (v : Value) (hw : Region.wanted o (yielded ops a.tmps) = true) (hv : (execOp a.eval o).run P w = .ok (.value v) w1) (hS : S w1)
    (h : wpKept P ops Q S T l (a.put o.dst v) w1) : wpKept P ops Q S T (o :: l) a w := by
  unfold wpKept
  rw [if_pos hw]
  unfold Oper.wp
  rw [hv]
  exact ⟨hS, h⟩
theorem free_nil {T : Act → Prop} {a : Act} (h : T a) : wpFree P ops T [] a := h
theorem free_val {T : Act → Prop} {l : List Oper} {a : Act} {o : Oper} (v : Value) (hw : Region.wanted o (yielded ops a.tmps) = true) (hv : ∀ w, (execOp a.eval o).run P w = .ok (.value v) w)
    (h : wpFree P ops T l (a.put o.dst v)) : wpFree P ops T (o :: l) a := ⟨v, .inl ⟨hw, hv⟩, h⟩

/-! the steps -/
theorem held_nil {T : Act → Prop} {a : Act} (h : T a) : wpHeld P ops S T [] a := h
theorem held_val {T : Act → Prop} {l : List Oper} {a : Act} {o : Oper} (v : Value) (hw : Region.wanted o (yielded ops a.tmps) = true) (hv : ∀ w, S w → (execOp a.eval o).run P w = .ok (.value v) w)
    (h : wpHeld P ops S T l (a.put o.dst v)) : wpHeld P ops S T (o :: l) a :=
  ⟨v, .inl ⟨hw, fun w hS => by rw [hv w hS]; exact ⟨rfl, hS⟩⟩, h⟩
theorem held_off {T : Act → Prop} {l : List Oper} {a : Act} {o : Oper} (hw : Region.wanted o (yielded ops a.tmps) = false)
    (h : wpHeld P ops S T l (a.put o.dst undef)) : wpHeld P ops S T (o :: l) a :=
  ⟨undef, .inr ⟨hw, rfl⟩, h⟩
theorem held_call {T : Act → Prop} {l : List Oper} {a : Act} {o : Oper} (f : FuncId) (args : Array Value) (v : Value) (hw : Region.wanted o (yielded ops a.tmps) = true)
    (hr : ∀ w, S w → (execOp a.eval o).run P w = .ok (.enter f args) w) (hv : ∀ w, S w → Calls P f args w fun e w' => e = .returned v ∧ S w')
    (h : wpHeld P ops S T l (a.put o.dst v)) : wpHeld P ops S T (o :: l) a :=
  ⟨v, .inl ⟨hw, fun w hS => by rw [hr w hS]; exact hv w hS⟩, h⟩
end
end Go.Proofs.YtmppagiaonbggaaDoor

/- Shared words: what a call leaves behind, mixed orders, an append met by its run, a store into a row. -/
namespace Go.Proofs.YtmppagiaonbggaaDoor
set_option linter.unusedVariables false
set_option linter.unusedSimpArgs false
set_option maxRecDepth 100000
open Go.RowKit

def Ret (B : Nat) (w : World) (v : Value) (A : HP) (e : Ending) (w' : World) : Prop := e = .returned v ∧ Own B A w' ∧ Below B w w'
theorem mixed : Tryd.prog.follows .mixedOrders = true := by kernel_rfl

theorem wpList_append_run {P : Program} {ops : Array Oper} {Q : Exit → Act → World → Prop} {rest : List Oper} {o : Oper} {a : Act} {w w' : World} (hgd : o.guard = none) (s x : Operand) (t : TypeId) {v u v' : Value}
    (ho : o.op = .call { callee := .builtin .append, args := #[s, x], argTypes := #[t, t] }) (hs : a.eval s = v) (hx : a.eval x = u) (hr : (Builtin.append_ #[t, t] o.type #[v, u]).run P w = .ok v' w')
    (h : wpList P ops Q rest (a.put o.dst v') w') : wpList P ops Q (o :: rest) a w := by
  refine wpList_plain hgd fun K hK => ?_
  unfold Oper.wp execOp
  simp only [ho, resolve, invoke, builtin, Sem.run_bind, Sem.run_pure, Result.andThen_ok, List.map_toArray, List.map_cons, List.map_nil, hs, hx, hr]
  exact hK _ _ h

theorem Own.row_set {B : Nat} {R : HP} [Loc B R] {w : World} {e : TypeId} {g n cap : Nat} {xs : List Value} (hB : B ≤ w.heap.size) (h : Own B (Rw e 1 (.slice (some ⟨g, 0, none⟩) n cap) n xs * R) w) (j : Nat) (u : Value) :
    Own B (Rw e 1 (.slice (some ⟨g, 0, none⟩) n cap) n (xs.set j u) * R) (w.setCell ⟨g, j, none⟩ u) ∧ Below B w (w.setCell ⟨g, j, none⟩ u) := by
  have hrow := h.row
  have hlt := hrow.lt g (by simp [Value.ownBlock])
  refine ⟨Own.turn hB h (by simp [World.setCell]) fun F _ ⟨ho, hb⟩ => ⟨F, fun k hk => .inl hk, ⟨(World.ownsRow.stored ho j u).1, hb⟩, fun k _ hk => Below.heap_setCell _ _ _ _ (fun e => hk (by rw [show k = g from e]; exact hb g (by simp [Value.ownBlock])))⟩, (Below.refl B w).setCell (p := ⟨g, j, none⟩) hlt.1 u⟩

end Go.Proofs.YtmppagiaonbggaaDoor

/- The walk over the reference's Split. -/
namespace Go.Proofs.YtmppagiaonbggaaDoor
set_option linter.unusedVariables false
set_option linter.unusedSimpArgs false
set_option maxRecDepth 100000
open Go.RowKit

theorem psplit_snoc_slash : ∀ l : List UInt8, psplit (l ++ [47]) = psplit l ++ [[]]
  | [] => rfl
  | c :: l => by
    have ih := psplit_snoc_slash l
    by_cases hc : c = 47
    · subst hc
      rw [List.cons_append, psplit_slash, psplit_slash, ih]
      rfl
    · obtain ⟨p, ps, hl⟩ : ∃ p ps, psplit l = p :: ps := by
        cases h : psplit l with
        | nil => exact absurd h (psplit_ne l)
        | cons p ps => exact ⟨p, ps, rfl⟩
      rw [hl] at ih
      rw [List.cons_append, psplit_other hc hl, psplit_other hc ih]
      rfl
theorem psplit_snoc : ∀ (l : List UInt8) (c : UInt8), c ≠ 47 → ∃ ini last, psplit l = ini ++ [last] ∧ psplit (l ++ [c]) = ini ++ [last ++ [c]]
  | [], c, hc => ⟨[], [], rfl, by rw [List.nil_append, psplit_other hc (show psplit [] = [] :: [] from rfl)]; rfl⟩
  | b :: l, c, hc => by
    obtain ⟨ini, last, h1, h2⟩ := psplit_snoc l c hc
    by_cases hb : b = 47
    · subst hb
      exact ⟨[] :: ini, last, by rw [psplit_slash, h1]; rfl, by rw [List.cons_append, psplit_slash, h2]; rfl⟩
    · cases ini with
      | nil => exact ⟨[], b :: last, by rw [psplit_other hb h1]; rfl, by rw [List.cons_append, psplit_other hb h2]; rfl⟩
      | cons p ps => exact ⟨(b :: p) :: ps, last, by rw [psplit_other hb h1]; rfl, by rw [List.cons_append, psplit_other hb h2]; rfl⟩

def strsV (l : List (List UInt8)) : List Value := l.map fun x => Value.string (str x)
theorem infoStr : (Tryd.prog.info? 9).map (fun i => (i.zero, i.size, i.bytes)) = some (some (.string ByteArray.empty), 1, 16) := by kernel_rfl
theorem strs_append {B : Nat} {R : HP} [Loc B R] {w : World} (hB : B ≤ w.heap.size) {v : Value} {l : List (List UInt8)} (h : Own B (Rw 9 1 v l.length (strsV l) * R) w) (x : List UInt8) (hl : l.length + 1 ≤ 4294967298) :
    ∃ g cap w', (Builtin.append_ #[83, 83] 83 #[v, .slice (some ⟨w.heap.size, 0, none⟩) 1 1]).run Tryd.prog (w.alloc (.cells #[.string (str x)] 9)) = .ok (.slice (some ⟨g, 0, none⟩) (l ++ [x]).length cap) w' ∧
      Own B (Rw 9 1 (.slice (some ⟨g, 0, none⟩) (l ++ [x]).length cap) (l ++ [x]).length (strsV (l ++ [x])) * R) w' ∧ Below B w w' := by
  obtain ⟨i0, hi, hz0, hz1, hz2⟩ := info_parts infoStr
  have h1 := h.alloc_keep hB (.cells #[.string (str x)] 9)
  have hB1 : B ≤ (w.alloc (.cells #[.string (str x)] 9)).heap.size := by simp; omega
  obtain ⟨v', w', hr, h2, h3, _, h5⟩ := run_append_own_at (P := Tryd.prog) (w.alloc (.cells #[.string (str x)] 9)) B 83 83 9 i0 _ 1 16 Tryd.underlying83 hi hz0 hz1 hz2 rfl (by omega) v l.length (strsV l) h1.row
    ⟨w.heap.size, 0, none⟩ 1 1 [.string (str x)] rfl (by
      intro j u hj
      match j, hj with
      | 0, hj => simp at hj; subst hj; simp [Addr.add]) (by intro u hu; simp at hu; subst hu; rfl) (by unfold maxLen; omega) (by omega) hB1
  have h6 := Own.appended hB1 h1 h2 h3 h5
  obtain ⟨g, cap, rfl, _⟩ := h2.form (by omega)
  have e : (l ++ [x]).length = l.length + 1 := by simp
  rw [e]
  refine ⟨g, cap, w', hr, ?_, ((Below.refl B w).alloc hB _).trans h6.2⟩
  have := h6.1
  simpa [strsV] using this

set_option maxHeartbeats 1600000 in
theorem refsplit_any (s : ByteArray) (hs : s.size ≤ 4294967296) (w : World) : Calls Tryd.prog 44 #[.string s] w fun e w' => ∃ A c, e = .returned (.slice A (psplit s.data.toList).length c) ∧ RdS w' A (psplit s.data.toList) ∧ Below w.heap.size w w' := by
  have hB : w.heap.size ≤ w.heap.size := Nat.le_refl _
  have hO := Own.start w.heap.size w
  generalize hH : w.heap.size = B at hB hO ⊢
  have hB : B ≤ w.heap.size := by omega
  clear hH
  have hsz : (s.size : Int) ≤ 4294967296 := by omega
  have o1 : Own B (Rw 9 1 (.slice (some ⟨w.heap.size, 0, none⟩) 1 1) 1 (strsV [[]]) * Emp) (w.alloc (.cells #[.string ByteArray.empty] 9)) := (hO.new hB 9 #[.string ByteArray.empty]).rw_of_bk rfl (by unfold maxLen; decide)
  have b1 := (Below.refl B w).alloc hB (.cells #[.string ByteArray.empty] 9)
  go_enter Tryd.func44, Tryd.ntmps44
  go_wp2
  go_loopg [3, 4] s.size (fun k v i wr => k ≤ s.size ∧ i = .int .i64 ((s.size : Int) - (k : Int)) ∧ ∃ (l : List (List UInt8)) (g cap : Nat), l = psplit (s.data.toList.take (s.size - k)) ∧ v = .slice (some ⟨g, 0, none⟩) l.length cap ∧ Own B (Rw 9 1 (.slice (some ⟨g, 0, none⟩) l.length cap) l.length (strsV l) * Emp) wr ∧ Below B w wr)
  case atStart => exact ⟨Nat.le_refl _, congrArg (Value.int .i64) (by omega), [[]], w.heap.size, 1, by rw [Nat.sub_self, List.take_zero]; rfl, rfl, o1, b1⟩
  case round =>
    obtain ⟨hk, rfl, l, g, cap, hl, rfl, ho, hbb⟩ := hrel
    have Bw : B ≤ wr.heap.size := Nat.le_trans hB hbb.size
    by_cases hk0 : gk ≠ 0
    · obtain ⟨j, rfl⟩ : ∃ j, gk = j + 1 := ⟨gk - 1, by omega⟩
      obtain ⟨i, hi⟩ : ∃ i : Nat, i + (j + 1) = s.size := ⟨s.size - (j + 1), by omega⟩
      have hil : i < s.size := by omega
      have e1 : (s.size : Int) - ((j + 1 : Nat) : Int) = (i : Int) := by omega
      have i0 : (0 : Int) ≤ (i : Int) := by omega
      have i1 : (i : Int) < (s.size : Int) := by omega
      rw [e1]
      clear e1
      have hll : l.length ≤ 4294967297 := by
        have := (psplit_len (s.data.toList.take (s.size - (j + 1)))).1
        rw [← hl] at this
        have h2 : (s.data.toList.take (s.size - (j + 1))).length ≤ s.data.toList.length := by rw [List.length_take]; omega
        have h3 : s.data.toList.length = s.size := rfl
        omega
      have htk : s.data.toList.take (s.size - j) = s.data.toList.take (s.size - (j + 1)) ++ [s[i]] := by
        rw [show s.size - j = i + 1 by omega, show s.size - (j + 1) = i by omega]
        rw [List.take_succ_eq_append_getElem (by exact hil)]
        rfl
      have Hll := Lib.hid hll
      have Hi := Lib.hid hi
      clear hll hi
      by_cases hc : s[i] = 47
      · have hc' : s[i].toNat = 47 := by rw [hc]; rfl
        have hl2 : psplit (s.data.toList.take (s.size - j)) = l ++ [[]] := by rw [htk, hc, psplit_snoc_slash, hl]
        have Hl2 := Lib.hid hl2
        obtain ⟨g2, cap2, w2, hrun, o2, b2⟩ := strs_append Bw ho [] (by have := Hll.out; omega)
        have Hrun := Lib.hid hrun
        clear hl hl2 htk hc hrun
        go_wp2_with (at_builtin; refine wpList_append_run rfl (.tmp 16) (.tmp 17) 83 rfl rfl rfl Hrun.out ?_)
        go_roundg j
        case measure => omega
        case rel => exact ⟨by omega, congrArg (Value.int .i64) (by have := Hi.out; omega), l ++ [[]], g2, cap2, Hl2.out.symm, by rw [List.length_append]; rfl, o2, hbb.trans b2⟩
      · obtain ⟨ini, last, p1, p2⟩ := psplit_snoc (s.data.toList.take (s.size - (j + 1))) s[i] hc
        rw [← hl] at p1
        rw [← htk] at p2
        obtain ⟨m, hm⟩ : ∃ m, ini.length = m := ⟨_, rfl⟩
        have hlm : l.length = m + 1 := by rw [p1, List.length_append, hm]; rfl
        have hc' : ¬ s[i].toNat = 47 := fun h => hc (UInt8.toNat_inj.1 h)
        have hcell : (strsV l)[m]? = some (.string (str last)) := by
          rw [p1]
          simp [strsV, ← hm]
        have hset : ∀ x : List UInt8, (strsV l).set m (.string (str x)) = strsV (ini ++ [x]) := fun x => by
          rw [p1]
          simp [strsV, List.set_append, ← hm]
        have hadd : str last ++ s.extract i (i + 1) = str (last ++ [s[i]]) := by
          have e0 : s.extract i (i + 1) = str [s[i]] := by
            refine Go.WideShapes.bytes_inj ?_
            rw [Lib.extract_data]
            have hil' : i < s.data.toList.length := hil
            rw [List.drop_eq_getElem_cons hil', show i + 1 - i = 1 by omega]
            rfl
          rw [e0]
          rfl
        have hz : (str last).size + (s.extract i (i + 1)).size ≤ 9223372036854775807 := by
          have h1 : last ∈ psplit (s.data.toList.take (s.size - (j + 1))) := by rw [← hl, p1]; simp
          have h2 := (psplit_len (s.data.toList.take (s.size - (j + 1)))).2 last h1
          rw [List.length_take] at h2
          have h3 : s.data.toList.length = s.size := rfl
          have h4 : (str last).size = last.length := rfl
          have h5 : (s.extract i (i + 1)).size ≤ i + 1 := by rw [ByteArray.size_extract]; omega
          omega
        have hraw := fun W => run_string_add_sum (P := Tryd.prog) (w := W) (str last) (s.extract i (i + 1)) hz
        rw [hadd] at hraw
        have Hm := Lib.hid hm
        have Hp2 := Lib.hid p2
        have Hset := Lib.hid hset
        have Hcell := Lib.hid hcell
        rw [hlm] at ho ⊢
        have Hlm := Lib.hid hlm
        have hmm : (m : Int) ≤ 4294967296 := by have := Hll.out; omega
        have m0 : (0 : Int) ≤ (m : Int) := by omega
        have m2 : (m : Int) < (m : Int) + 1 := by omega
        have i2 : (i : Int) + 1 ≤ (s.size : Int) := by omega
        have i3 : (0 : Int) ≤ (i : Int) + 1 := by omega
        have i4 : (i : Int) ≤ (i : Int) + 1 := by omega
        clear hl htk hc hm p1 p2 hset hcell hlm
        go_wp2
        refine wp_region_mix (St B _ wr) [0, 1, 2, 3, 4, 5, 6, 7, 8, 9, 10, 11, 12, 13, 14, 15, 16] [17] mixed (by kernel_rfl) rfl (St.drew Bw ho) ?_
        simp only [List.filterMap_cons, List.filterMap_nil, List.getElem?_toArray, List.getElem?_cons_succ, List.getElem?_cons_zero]
        repeat (first
          | (refine held_val ?_ rfl (fun w1 hS => ?_) ?_
             rotate_left
             · (have k0 : w1.cell? ⟨g, m, none⟩ = some (.string (str last)) := (hS.2.1.row.cellAt m (by omega)).trans Hcell.out
                go_simp
                try go_bits
                rfl)
             simp only [Act.put, List.setIfInBounds_toArray, List.set_cons_zero, List.set_cons_succ])
          | (refine held_off rfl ?_
             simp only [Act.put, List.setIfInBounds_toArray, List.set_cons_zero, List.set_cons_succ]))
        refine held_nil (fun w4 hS => ?_)
        obtain ⟨k2, k3, k4⟩ := hS
        have k0 : w4.cell? ⟨g, m, none⟩ = some (.string (str last)) := (k3.row.cellAt m (by omega)).trans Hcell.out
        have z0 := k3.row.frozenAt m
        have s0 := k3.row_set k2 m (.string (str (last ++ [s[i]])))
        rw [Hset.out] at s0
        go_wp2
        go_roundg j
        case measure => omega
        case rel =>
          have hlen : (ini ++ [last ++ [s[i]]]).length = m + 1 := by rw [List.length_append, Hm.out]; rfl
          refine ⟨by omega, congrArg (Value.int .i64) (by have := Hi.out; omega), ini ++ [last ++ [s[i]]], g, cap, Hp2.out.symm, by rw [hlen], ?_, (hbb.trans k4).trans s0.2⟩
          rw [hlen]
          exact s0.1
    · obtain rfl : gk = 0 := by omega
      go_wp2
      go_ret
      rw [Nat.sub_zero, List.take_of_length_le (by show s.data.toList.length ≤ s.size; exact Nat.le_refl _)] at hl
      subst hl
      refine ⟨_, _, rfl, fun i hi => ⟨g, 0, rfl, ?_⟩, hbb⟩
      have := ho.row.cells (g := g) rfl i (.string (str (psplit s.data.toList)[i])) (by simp [strsV, hi])
      rw [Addr.add_lit] at this
      exact this
end Go.Proofs.YtmppagiaonbggaaDoor

/- The walks over the reference's part and Right. -/
namespace Go.Proofs.YtmppagiaonbggaaDoor
set_option linter.unusedVariables false
set_option linter.unusedSimpArgs false
set_option maxRecDepth 100000
open Go.RowKit

set_option maxHeartbeats 1600000 in
theorem refpart_any (s : ByteArray) (hs : s.size ≤ 4294967296) (w : World) : Calls Tryd.prog 45 #[.string s] w fun e w' => e = .returned (.bool (okPart s.data.toList)) ∧ w = w' := by
  have hsz : (s.size : Int) ≤ 4294967296 := by omega
  go_enter Tryd.func45, Tryd.ntmps45
  go_wp2
  go_loopg [3] s.size (fun k i wr => k ≤ s.size ∧ i = .int .i64 ((s.size : Int) - (k : Int)) ∧ wr = w ∧ Hid (∀ j (hj : j < s.size), j < s.size - k → okByte s[j] = true))
  case atStart => exact ⟨Nat.le_refl _, congrArg (Value.int .i64) (by omega), rfl, Lib.hid (fun j hj h => by omega)⟩
  case round =>
    obtain ⟨hk, rfl, rfl, hgood⟩ := hrel
    by_cases hk0 : gk = 0
    · subst hk0
      have hall := all_get (s := s) (fun j hj => hgood.out j hj (by omega))
      have hlen : s.data.toList.length = s.size := rfl
      have hfin : okPart s.data.toList = (decide (1 ≤ s.size) && decide (s.size ≤ 64) && !decide (s.toList = [46]) && !decide (s.toList = [46, 46])) := by
        unfold okPart
        rw [hall, hlen, ByteArray.toList_eq]
        simp only [ne_eq, Bool.true_and, decide_not]
      have Hfin := Lib.hid hfin
      clear hfin hall hlen
      by_cases h1 : 0 < (s.size : Int)
      · by_cases h2 : (s.size : Int) ≤ 64
        · by_cases h3 : s.toList = [46]
          · have Hf : Hid (okPart s.data.toList = false) := Lib.hid (by rw [Hfin.out, decide_eq_true h3]; simp)
            go_wp2
            go_ret
            exact ⟨by rw [Hf.out]; rfl, rfl⟩
          · by_cases h4 : s.toList = [46, 46]
            · have Hf : Hid (okPart s.data.toList = false) := Lib.hid (by rw [Hfin.out, decide_eq_true h4]; simp)
              go_wp2
              go_ret
              exact ⟨by rw [Hf.out]; rfl, rfl⟩
            · have Hf : Hid (okPart s.data.toList = true) := Lib.hid (by rw [Hfin.out, decide_eq_true (show 1 ≤ s.size by omega), decide_eq_true (show s.size ≤ 64 by omega), decide_eq_false h3, decide_eq_false h4]; rfl)
              have h3' : (s.toList == [46]) = false := by simpa using h3
              have h4' : (s.toList == [46, 46]) = false := by simpa using h4
              go_wp2
              go_ret
              refine ⟨?_, rfl⟩
              rw [Hf.out]
              first
                | rfl
                | (show Ending.returned (.bool (!(s.toList == [46]) && !(s.toList == [46, 46]))) = _
                   simp [h3, h4])
        · have Hf : Hid (okPart s.data.toList = false) := Lib.hid (by rw [Hfin.out, decide_eq_false (show ¬ s.size ≤ 64 by omega)]; simp)
          go_wp2
          go_ret
          exact ⟨by rw [Hf.out]; rfl, rfl⟩
      · have Hf : Hid (okPart s.data.toList = false) := Lib.hid (by rw [Hfin.out, decide_eq_false (show ¬ 1 ≤ s.size by omega)]; rfl)
        go_wp2
        go_ret
        exact ⟨by rw [Hf.out]; rfl, rfl⟩
    · obtain ⟨j, rfl⟩ : ∃ j, gk = j + 1 := ⟨gk - 1, by omega⟩
      obtain ⟨i, hi⟩ : ∃ i : Nat, i + (j + 1) = s.size := ⟨s.size - (j + 1), by omega⟩
      have hil : i < s.size := by omega
      have e1 : (s.size : Int) - ((j + 1 : Nat) : Int) = (i : Int) := by omega
      have i0 : (0 : Int) ≤ (i : Int) := by omega
      have i1 : (i : Int) < (s.size : Int) := by omega
      rw [e1]
      clear e1
      have hb256 : s[i].toNat < 256 := UInt8.toNat_lt _
      by_cases hb : okByte s[i] = true
      · have hb' := hb
        simp only [okByte, Bool.and_eq_true, decide_eq_true_eq] at hb'
        have hgood2 : Hid (∀ j' (hj : j' < s.size), j' < s.size - j → okByte s[j'] = true) := Lib.hid (fun j' hj hlt' => by
          by_cases h : j' = i
          · subst h; exact hb
          · exact hgood.out j' hj (by omega))
        have c0 : ¬ (s[i].toNat : Int) < 33 := by omega
        have c1 : ¬ 126 < (s[i].toNat : Int) := by omega
        have c2 : ((s[i].toNat : Int) == 92) = false := by simp; omega
        have Hi := Lib.hid hi
        clear hb hi hb'
        go_wp2
        go_roundg j
        case measure => omega
        case rel => exact ⟨by omega, congrArg (Value.int .i64) (by have := Hi.out; omega), rfl, hgood2⟩
      · have Hbad := Lib.hid (okPart_bad (not_all_get i hil (by simpa using hb)))
        simp only [okByte, Bool.and_eq_true, decide_eq_true_eq] at hb
        have hcase : (s[i].toNat : Int) < 33 ∨ (¬ (s[i].toNat : Int) < 33 ∧ 126 < (s[i].toNat : Int)) ∨ s[i].toNat = 92 := by omega
        clear hb hi
        rcases hcase with h | ⟨h, h'⟩ | h
        · go_wp2
          go_ret
          exact ⟨by rw [Hbad.out]; rfl, rfl⟩
        · go_wp2
          go_ret
          exact ⟨by rw [Hbad.out]; rfl, rfl⟩
        · have h3 : (s[i].toNat : Int) = 92 := by omega
          go_wp2
          go_ret
          exact ⟨by rw [Hbad.out]; rfl, rfl⟩
end Go.Proofs.YtmppagiaonbggaaDoor

/- The walk over the reference's Right. -/
namespace Go.Proofs.YtmppagiaonbggaaDoor
set_option linter.unusedVariables false
set_option linter.unusedSimpArgs false
set_option maxRecDepth 100000
open Go.RowKit

set_option maxHeartbeats 1600000 in
theorem refright_any (s : ByteArray) (hs : s.size ≤ 4294967296) (w : World) : Calls Tryd.prog 28 #[.string s] w fun e w' => e = .returned (.bool (okPath s.data.toList)) ∧ Below w.heap.size w w' := by
  have hsz : (s.size : Int) ≤ 4294967296 := by omega
  have hlen : s.data.toList.length = s.size := rfl
  obtain ⟨hl1, hl2⟩ := psplit_len s.data.toList
  have hpath : ∀ l, l = psplit s.data.toList → okPath s.data.toList = (decide (s.size ≤ 256) && l.all okPart) := by
    rintro l rfl
    rfl
  have Hpath := Lib.hid hpath
  have hsp := Lib.hid (refsplit_any s hs w)
  clear hpath
  obtain ⟨l, hl⟩ : ∃ l, psplit s.data.toList = l := ⟨_, rfl⟩
  rw [hl] at hl1 hl2 hsp
  have Hl2 := Lib.hid hl2
  have hp := Hpath.out l hl.symm
  have Hp := Lib.hid hp
  have hll : (l.length : Int) ≤ 4294967297 := by omega
  clear hl hl1 hl2 hp Hpath
  go_enter Tryd.func28, Tryd.ntmps28
  go_wp2_with fail
  refine hsp.out.mono ?_
  rintro e w1 ⟨A, c, rfl, r1, b1⟩
  have Hr := Lib.hid r1
  clear r1 hsp
  go_wp2
  go_loopg [4] l.length (fun k i wr => k ≤ l.length ∧ i = .int .i64 ((l.length : Int) - (k : Int)) ∧ Below w.heap.size w wr ∧ Hid (RdS wr A l) ∧ Hid (∀ j (h : j < l.length), j < l.length - k → okPart l[j] = true))
  case atStart => exact ⟨Nat.le_refl _, congrArg (Value.int .i64) (by omega), b1, Hr, Lib.hid (fun j h h2 => by omega)⟩
  case round =>
    obtain ⟨hk, rfl, hbb, hrd, hg⟩ := hrel
    by_cases hk0 : gk ≠ 0
    · obtain ⟨j, rfl⟩ : ∃ j, gk = j + 1 := ⟨gk - 1, by omega⟩
      obtain ⟨i, hi⟩ : ∃ i : Nat, i + (j + 1) = l.length := ⟨l.length - (j + 1), by omega⟩
      have hil : i < l.length := by omega
      obtain ⟨b, off, rfl, hcw⟩ := hrd.out i hil
      have hxi := Hl2.out _ (List.getElem_mem hil)
      have hg2 : okPart l[i] = true → Hid (∀ j' (h : j' < l.length), j' < l.length - j → okPart l[j'] = true) := fun h1 => Lib.hid (fun j' h h2 => by
        by_cases e : j' = i
        · subst e; exact h1
        · exact hg.out j' h (by omega))
      have hbad : okPart l[i] = false → Hid (okPath s.data.toList = false) := fun h1 => Lib.hid (by
        rw [Hp.out]
        have : l.all okPart = false := by
          rw [List.all_eq_false]
          exact ⟨_, List.getElem_mem hil, by simp [h1]⟩
        rw [this, Bool.and_false])
      have Hg2 := Lib.hid hg2
      have Hbad := Lib.hid hbad
      clear hg2 hbad
      generalize l[i] = x at hcw hxi Hg2 Hbad
      have e1 : (l.length : Int) - ((j + 1 : Nat) : Int) = (i : Int) := by omega
      have i0 : (0 : Int) ≤ (i : Int) := by omega
      have i1 : (i : Int) < (l.length : Int) := by omega
      rw [e1]
      clear e1
      have Hi := Lib.hid hi
      clear hi
      go_wp2_with fail
      refine (refpart_any (str x) (by show x.length ≤ _; omega) wr).mono ?_
      rintro e w3 ⟨rfl, rfl⟩
      clear hcw
      cases hok : okPart x with
      | true =>
        have hv : okPart (str x).data.toList = true := hok
        rw [hv]
        go_wp2
        go_roundg j
        case measure => omega
        case rel => exact ⟨by omega, congrArg (Value.int .i64) (by have := Hi.out; omega), hbb, hrd, Hg2.out hok⟩
      | false =>
        have hv : okPart (str x).data.toList = false := hok
        rw [hv]
        go_wp2
        go_ret
        exact ⟨by rw [(Hbad.out hok).out]; rfl, hbb⟩
    · obtain rfl : gk = 0 := by omega
      have hall : l.all okPart = true := by
        rw [List.all_eq_true]
        intro x hx
        obtain ⟨i, hi, rfl⟩ := List.mem_iff_getElem.1 hx
        exact hg.out i hi (by omega)
      by_cases hle : (s.size : Int) ≤ 256
      · have Hf : Hid (okPath s.data.toList = true) := Lib.hid (by rw [Hp.out, hall, decide_eq_true (show s.size ≤ 256 by omega)]; rfl)
        clear hall
        go_wp2
        go_ret
        exact ⟨by rw [Hf.out]; rfl, hbb⟩
      · have Hf : Hid (okPath s.data.toList = false) := Lib.hid (by rw [Hp.out, decide_eq_false (show ¬ s.size ≤ 256 by omega)]; rfl)
        clear hall
        go_wp2
        go_ret
        refine ⟨?_, hbb⟩
        rw [Hf.out]
        first
          | rfl
          | (show Ending.returned (.bool (decide ((s.size : Int) ≤ 256))) = _
             rw [decide_eq_false hle])
end Go.Proofs.YtmppagiaonbggaaDoor

/- The walk over cmp.Compare at texts. -/
namespace Go.Proofs.YtmppagiaonbggaaDoor
set_option linter.unusedVariables false
set_option linter.unusedSimpArgs false
set_option maxRecDepth 100000
open Go.RowKit

theorem isNaN_any (s : ByteArray) (w : World) : Calls Tryd.prog 91 #[.string s] w fun e w' => e = .returned (.bool false) ∧ w = w' := by
  go_enter Tryd.func91, Tryd.ntmps91
  go_wp2
  go_ret
  refine ⟨?_, rfl⟩
  first
    | rfl
    | (show Ending.returned (.bool (!(s.toList == s.toList))) = _
       simp)

/-- Which of two texts stands ahead, byte by byte. -/
def cmpT (a b : List UInt8) : Int := if Op.bytesLess a b then -1 else if a = b then 0 else 1
theorem cmp_any (a b : ByteArray) (w : World) : Calls Tryd.prog 86 #[.string a, .string b] w fun e w' => e = .returned (.int .i64 (cmpT a.data.toList b.data.toList)) ∧ w = w' := by
  have ea : a.toList = a.data.toList := ByteArray.toList_eq a
  have eb : b.toList = b.data.toList := ByteArray.toList_eq b
  rw [← ea, ← eb]
  clear ea eb
  cases h1 : Op.bytesLess a.toList b.toList with
  | true =>
    have hv : cmpT a.toList b.toList = -1 := by unfold cmpT; rw [h1]; rfl
    rw [hv]
    clear hv
    go_enter Tryd.func86, Tryd.ntmps86
    go_wp2_with (go_at_call 91; refine (isNaN_any _ _).mono ?_; rintro e w1 ⟨rfl, rfl⟩)
    go_ret
    exact ⟨rfl, rfl⟩
  | false =>
    by_cases h2 : a.toList = b.toList
    · have hv : cmpT a.toList b.toList = 0 := by unfold cmpT; rw [h1, if_pos h2]; rfl
      rw [hv]
      clear hv
      rw [h2] at h1
      go_enter Tryd.func86, Tryd.ntmps86
      go_wp2_with (go_at_call 91; refine (isNaN_any _ _).mono ?_; rintro e w1 ⟨rfl, rfl⟩)
      go_ret
      exact ⟨rfl, rfl⟩
    · have hv : cmpT a.toList b.toList = 1 := by unfold cmpT; rw [h1, if_neg h2]; rfl
      rw [hv]
      clear hv
      have h3 : (a.toList == b.toList) = false := by simpa using h2
      go_enter Tryd.func86, Tryd.ntmps86
      go_wp2_with (go_at_call 91; refine (isNaN_any _ _).mono ?_; rintro e w1 ⟨rfl, rfl⟩)
      go_ret
      exact ⟨rfl, rfl⟩
end Go.Proofs.YtmppagiaonbggaaDoor

/- The walks over slices.Compare at texts, and Compare of package path. -/
namespace Go.Proofs.YtmppagiaonbggaaDoor
set_option linter.unusedVariables false
set_option linter.unusedSimpArgs false
set_option maxRecDepth 100000
open Go.RowKit

/-- Which of two lists of texts stands ahead. -/
def cmpL : List (List UInt8) → List (List UInt8) → Int
  | [], [] => 0
  | [], _ :: _ => -1
  | _ :: _, [] => 1
  | x :: xs, y :: ys => if cmpT x y = 0 then cmpL xs ys else cmpT x y

set_option maxHeartbeats 1600000 in
theorem slicesCompare_any (A1 A2 : Option Addr) (c1 c2 : Nat) (l1 l2 : List (List UInt8)) (hl1 : l1.length ≤ 4294967296) (hl2 : l2.length ≤ 4294967296) (w : World) (h1 : RdS w A1 l1) (h2 : RdS w A2 l2) :
    Calls Tryd.prog 82 #[.slice A1 l1.length c1, .slice A2 l2.length c2] w fun e w' => e = .returned (.int .i64 (cmpL l1 l2)) ∧ w = w' := by
  have H1 := Lib.hid h1
  have H2 := Lib.hid h2
  clear h1 h2
  have n1 : (l1.length : Int) ≤ 4294967296 := by omega
  have n2 : (l2.length : Int) ≤ 4294967296 := by omega
  go_enter Tryd.func82, Tryd.ntmps82
  go_wp2
  go_loopg [11] l1.length (fun k i wr => k ≤ l1.length ∧ i = .int .i64 ((l1.length : Int) - (k : Int)) ∧ wr = w ∧ Hid (l1.length - k ≤ l2.length ∧ cmpL l1 l2 = cmpL (l1.drop (l1.length - k)) (l2.drop (l1.length - k))))
  case atStart => exact ⟨Nat.le_refl _, congrArg (Value.int .i64) (by omega), rfl, Lib.hid ⟨by omega, by rw [Nat.sub_self]; rfl⟩⟩
  case round =>
    obtain ⟨hk, rfl, rfl, hg⟩ := hrel
    by_cases hk0 : gk ≠ 0
    · obtain ⟨j, rfl⟩ : ∃ j, gk = j + 1 := ⟨gk - 1, by omega⟩
      obtain ⟨i, hi⟩ : ∃ i : Nat, i + (j + 1) = l1.length := ⟨l1.length - (j + 1), by omega⟩
      have hil : i < l1.length := by omega
      have hg' := hg.out
      rw [show l1.length - (j + 1) = i by omega] at hg'
      obtain ⟨hle, hcmp⟩ := hg'
      obtain ⟨b, off, rfl, hc1⟩ := H1.out i hil
      have e1 : (l1.length : Int) - ((j + 1 : Nat) : Int) = (i : Int) := by omega
      have i0 : (0 : Int) ≤ (i : Int) := by omega
      have i1 : (i : Int) < (l1.length : Int) := by omega
      rw [e1]
      clear e1
      rw [List.drop_eq_getElem_cons hil] at hcmp
      by_cases hi2 : i < l2.length
      · obtain ⟨b2, off2, rfl, hc2⟩ := H2.out i hi2
        rw [List.drop_eq_getElem_cons hi2] at hcmp
        have i2 : (i : Int) < (l2.length : Int) := by omega
        have i3 : ¬ (l2.length : Int) ≤ (i : Int) := by omega
        have Hi := Lib.hid hi
        have hnext : cmpT l1[i] l2[i] = 0 → Hid (l1.length - j ≤ l2.length ∧ cmpL l1 l2 = cmpL (l1.drop (l1.length - j)) (l2.drop (l1.length - j))) := fun h0 => Lib.hid (by
          rw [show l1.length - j = i + 1 by omega]
          refine ⟨by omega, ?_⟩
          rw [hcmp]
          show (if cmpT l1[i] l2[i] = 0 then _ else _) = _
          rw [if_pos h0])
        have hend : cmpT l1[i] l2[i] ≠ 0 → Hid (cmpL l1 l2 = cmpT l1[i] l2[i]) := fun h0 => Lib.hid (by
          rw [hcmp]
          show (if cmpT l1[i] l2[i] = 0 then _ else _) = _
          rw [if_neg h0])
        have Hnext := Lib.hid hnext
        have Hend := Lib.hid hend
        clear hnext hend hcmp hi hg
        generalize l1[i] = x at hc1 Hnext Hend
        generalize l2[i] = y at hc2 Hnext Hend
        go_wp2_with fail
        refine (cmp_any (str x) (str y) wr).mono ?_
        rintro e w3 ⟨rfl, rfl⟩
        clear hc1 hc2
        obtain ⟨r, hr⟩ : ∃ r, cmpT x y = r := ⟨_, rfl⟩
        have hv : cmpT (str x).data.toList (str y).data.toList = r := hr
        rw [hv]
        rw [hr] at Hnext Hend
        clear hv
        by_cases h0 : r = 0
        · subst h0
          go_wp2
          go_roundg j
          case measure => omega
          case rel => exact ⟨by omega, congrArg (Value.int .i64) (by have := Hi.out; omega), rfl, Hnext.out (by simp)⟩
        · have h0' : (r == 0) = false := by simpa using h0
          go_wp2
          go_ret
          exact ⟨by rw [(Hend.out h0).out]; rfl, rfl⟩
      · have i3 : (l2.length : Int) ≤ (i : Int) := by omega
        rw [List.drop_eq_nil_of_le (show l2.length ≤ i by omega)] at hcmp
        have Hv : Hid (cmpL l1 l2 = 1) := Lib.hid hcmp
        clear hcmp hi hg
        go_wp2
        go_ret
        exact ⟨by rw [Hv.out]; rfl, rfl⟩
    · obtain rfl : gk = 0 := by omega
      have hg' := hg.out
      rw [Nat.sub_zero, List.drop_length] at hg'
      obtain ⟨hle, hcmp⟩ := hg'
      by_cases hlt : (l1.length : Int) < (l2.length : Int)
      · have Hv : Hid (cmpL l1 l2 = -1) := Lib.hid (by
          rw [hcmp, List.drop_eq_getElem_cons (show l1.length < l2.length by omega)]
          rfl)
        clear hcmp hg
        go_wp2
        go_ret
        exact ⟨by rw [Hv.out]; rfl, rfl⟩
      · have Hv : Hid (cmpL l1 l2 = 0) := Lib.hid (by
          rw [hcmp, List.drop_eq_nil_of_le (show l2.length ≤ l1.length by omega)]
          rfl)
        clear hcmp hg
        go_wp2
        go_ret
        exact ⟨by rw [Hv.out]; rfl, rfl⟩
end Go.Proofs.YtmppagiaonbggaaDoor

/- The walk over Compare of package path. -/
namespace Go.Proofs.YtmppagiaonbggaaDoor
set_option linter.unusedVariables false
set_option linter.unusedSimpArgs false
set_option maxRecDepth 100000
open Go.RowKit

theorem compare_any (a b : ByteArray) (ha : a.size ≤ 4294967280) (hb : b.size ≤ 4294967280) (w : World) (h : Sh w) : Calls Tryd.prog 76 #[.string a, .string b] w fun e w' => e = .returned (.int .i64 (cmpL (psplit a.data.toList) (psplit b.data.toList))) ∧ Below w.heap.size w w' := by
  have ha1 := (psplit_len a.data.toList).1
  have hb1 := (psplit_len b.data.toList).1
  have ha2 : a.data.toList.length = a.size := rfl
  have hb2 : b.data.toList.length = b.size := rfl
  have Hs := Lib.hid (fun w1 => split_any a (by omega) w1)
  have Ht := Lib.hid (fun w1 => split_any b (by omega) w1)
  have Hc := Lib.hid (fun A1 A2 c1 c2 (w1 : World) => slicesCompare_any A1 A2 c1 c2 (psplit a.data.toList) (psplit b.data.toList) (by omega) (by omega) w1)
  have Hh := Lib.hid h
  clear ha1 hb1 ha2 hb2 h
  generalize psplit a.data.toList = l1 at Hs Hc ⊢
  generalize psplit b.data.toList = l2 at Ht Hc ⊢
  go_enter Tryd.func76, Tryd.ntmps76
  go_wp2_with fail
  refine (Hs.out w Hh.out).mono ?_
  rintro e w1 ⟨rfl, r1, b1⟩
  go_wp2_with fail
  refine (Ht.out w1 (sh_below Hh.out b1)).mono ?_
  rintro e w2 ⟨rfl, r2, b2⟩
  go_wp2_with fail
  refine (Hc.out _ _ _ _ w2 (r1.below b2) r2).mono ?_
  rintro e w3 ⟨rfl, rfl⟩
  go_wp2
  go_ret
  exact ⟨rfl, b1.trans (b2.mono b1.size)⟩
end Go.Proofs.YtmppagiaonbggaaDoor

/- The walk over Sorted of package path. -/
namespace Go.Proofs.YtmppagiaonbggaaDoor
set_option linter.unusedVariables false
set_option linter.unusedSimpArgs false
set_option maxRecDepth 100000
open Go.RowKit

/-- Each text may be a path, and stands behind the one ahead of it. -/
def SortedP (l : List (List UInt8)) : Prop := ∀ i (h : i < l.length), okPath l[i] = true ∧ (∀ h0 : 0 < i, cmpL (psplit (l[i - 1]'(by omega))) (psplit l[i]) < 0)
theorem cmpL_range : ∀ a b : List (List UInt8), -1 ≤ cmpL a b ∧ cmpL a b ≤ 1
  | [], [] => by decide
  | [], _ :: _ => by show (-1 : Int) ≤ -1 ∧ (-1 : Int) ≤ 1; omega
  | _ :: _, [] => by show (-1 : Int) ≤ 1 ∧ (1 : Int) ≤ 1; omega
  | x :: xs, y :: ys => by
    show -1 ≤ (if cmpT x y = 0 then cmpL xs ys else cmpT x y) ∧ (if cmpT x y = 0 then cmpL xs ys else cmpT x y) ≤ 1
    split
    · exact cmpL_range xs ys
    · unfold cmpT; split
      · decide
      · split <;> decide

set_option maxHeartbeats 1600000 in
theorem sorted_any (A : Option Addr) (c : Nat) (l : List (List UInt8)) (hl : l.length ≤ 4294967296) (hx : ∀ x ∈ l, x.length ≤ 4294967280) (w : World) (h : Sh w) (hr : RdS w A l) :
    Calls Tryd.prog 56 #[.slice A l.length c] w fun e w' => ∃ r : Bool, e = .returned (.bool r) ∧ (r = true ↔ SortedP l) ∧ Below w.heap.size w w' := by
  have Hr := Lib.hid hr
  have Hx := Lib.hid hx
  have Hh := Lib.hid h
  clear hr hx h
  have hl' : (l.length : Int) ≤ 4294967296 := by omega
  go_enter Tryd.func56, Tryd.ntmps56
  go_wp2
  go_loopg [7] l.length (fun k i wr => k ≤ l.length ∧ i = .int .i64 ((l.length : Int) - (k : Int)) ∧ Below w.heap.size w wr ∧ Hid (∀ i (h : i < l.length), i < l.length - k → okPath l[i] = true ∧ (∀ h0 : 0 < i, cmpL (psplit (l[i - 1]'(by omega))) (psplit l[i]) < 0)))
  case atStart => exact ⟨Nat.le_refl _, congrArg (Value.int .i64) (by omega), Below.refl _ _, Lib.hid (fun j h h2 => by omega)⟩
  case round =>
    obtain ⟨hk, rfl, hbb, hg⟩ := hrel
    by_cases hk0 : gk ≠ 0
    · obtain ⟨j, rfl⟩ : ∃ j, gk = j + 1 := ⟨gk - 1, by omega⟩
      obtain ⟨i, hi⟩ : ∃ i : Nat, i + (j + 1) = l.length := ⟨l.length - (j + 1), by omega⟩
      have hil : i < l.length := by omega
      obtain ⟨b, off, rfl, hcell⟩ := Hr.out i hil
      have hcw : wr.cell? ⟨b, off + i, none⟩ = some (.string (str l[i])) := (hbb.cell (World.block_lt_of_cell? w _ hcell)).trans hcell
      have e1 : (l.length : Int) - ((j + 1 : Nat) : Int) = (i : Int) := by omega
      have i0 : (0 : Int) ≤ (i : Int) := by omega
      have i1 : (i : Int) < (l.length : Int) := by omega
      rw [e1]
      clear e1
      have Hi := Lib.hid hi
      clear hi
      have hxi := Hx.out _ (List.getElem_mem hil)
      have Hri := Lib.hid (right_any (str l[i]) (by show l[i].length ≤ _; omega) wr (sh_below Hh.out hbb))
      cases hok : okPath l[i] with
      | false =>
        have Hno : Hid (¬ SortedP l) := Lib.hid (fun hs => by have := (hs i hil).1; rw [hok] at this; cases this)
        have hv : okPath (str l[i]).data.toList = false := hok
        rw [hv] at Hri
        clear hv hok hcell hxi
        generalize l[i] = x at hcw Hri
        go_wp2_with fail
        refine Hri.out.mono ?_
        rintro e w3 ⟨rfl, b3⟩
        go_wp2
        go_ret
        exact ⟨false, rfl, ⟨fun h => (by cases h), fun h => absurd h Hno.out⟩, hbb.trans (b3.mono hbb.size)⟩
      | true =>
        have hv : okPath (str l[i]).data.toList = true := hok
        rw [hv] at Hri
        clear hv
        by_cases hi0 : i = 0
        · have hg2 : Hid (∀ i (h : i < l.length), i < l.length - j → okPath l[i] = true ∧ (∀ h0 : 0 < i, cmpL (psplit (l[i - 1]'(by omega))) (psplit l[i]) < 0)) := Lib.hid (fun i' h h2 => by
            have : i' = i := by have := Hi.out; omega
            subst this
            exact ⟨hok, fun h0 => by omega⟩)
          subst hi0
          clear hok hcell hxi
          generalize l[0] = x at hcw Hri
          rw [Nat.add_zero] at hcw
          go_wp2_with fail
          refine Hri.out.mono ?_
          rintro e w3 ⟨rfl, b3⟩
          go_wp2
          go_roundg j
          case measure => omega
          case rel => exact ⟨by omega, congrArg (Value.int .i64) (by have := Hi.out; omega), hbb.trans (b3.mono hbb.size), hg2⟩
        · have hil1 : i - 1 < l.length := by omega
          obtain ⟨b', off', hA, hcell1⟩ := Hr.out (i - 1) hil1
          injection hA with hA
          injection hA with hb hoff
          subst hb; subst hoff
          have hcw1 : wr.cell? ⟨b, off + (i - 1), none⟩ = some (.string (str l[i - 1])) := (hbb.cell (World.block_lt_of_cell? w _ hcell1)).trans hcell1
          obtain ⟨m, rfl⟩ : ∃ m, i = m + 1 := ⟨i - 1, by omega⟩
          simp only [Nat.add_sub_cancel] at hcw1 hil1
          have hxm := Hx.out _ (List.getElem_mem hil1)
          have hg2 : cmpL (psplit l[m]) (psplit l[m + 1]) < 0 → Hid (∀ i (h : i < l.length), i < l.length - j → okPath l[i] = true ∧ (∀ h0 : 0 < i, cmpL (psplit (l[i - 1]'(by omega))) (psplit l[i]) < 0)) := fun hlt => Lib.hid (fun i' h h2 => by
            by_cases he : i' = m + 1
            · subst he
              exact ⟨hok, fun _ => hlt⟩
            · exact hg.out i' h (by have := Hi.out; omega))
          have hno : ¬ cmpL (psplit l[m]) (psplit l[m + 1]) < 0 → Hid (¬ SortedP l) := fun hlt => Lib.hid (fun hs => hlt ((hs (m + 1) hil).2 (by omega)))
          have Hg2 := Lib.hid hg2
          have Hno := Lib.hid hno
          have hrange := cmpL_range (psplit l[m]) (psplit l[m + 1])
          have Hcmp := Lib.hid (fun w1 h1 => compare_any (str l[m]) (str l[m + 1]) (by show l[m].length ≤ _; omega) (by show l[m + 1].length ≤ _; omega) w1 h1)
          clear hg2 hno hok hcell hcell1 hxi hxm
          generalize l[m + 1] = x at hcw Hri Hg2 Hno Hcmp hrange
          generalize l[m] = y at hcw1 Hg2 Hno Hcmp hrange
          have m0 : (0 : Int) ≤ (m : Int) := by omega
          have m1 : (m : Int) < (l.length : Int) := by omega
          have m2 : ((m + 1 : Nat) : Int) = (m : Int) + 1 := by omega
          rw [m2] at i0 i1 ⊢
          have m3 : (0 : Int) < (m : Int) + 1 := by omega
          go_wp2_with fail
          refine Hri.out.mono ?_
          rintro e w3 ⟨rfl, b3⟩
          have hcw3 := (b3.cell (World.block_lt_of_cell? wr _ hcw1)).trans hcw1
          have hb3 := hbb.trans (b3.mono hbb.size)
          clear hcw hcw1
          go_wp2_with fail
          refine (Hcmp.out w3 (sh_below Hh.out hb3)).mono ?_
          rintro e w4 ⟨rfl, b4⟩
          obtain ⟨r, hr⟩ : ∃ r, cmpL (psplit y) (psplit x) = r := ⟨_, rfl⟩
          have hv : cmpL (psplit (str y).data.toList) (psplit (str x).data.toList) = r := hr
          rw [hv]
          rw [hr] at Hg2 Hno hrange
          clear hv hr hcw3
          by_cases hlt : r < 0
          · have hge : ¬ 0 ≤ r := by omega
            go_wp2
            go_roundg j
            case measure => omega
            case rel => exact ⟨by omega, congrArg (Value.int .i64) (by have := Hi.out; omega), hb3.trans (b4.mono hb3.size), Hg2.out (by omega)⟩
          · have hge : 0 ≤ r := by omega
            go_wp2
            go_ret
            exact ⟨false, rfl, ⟨fun h => (by cases h), fun h => absurd h (Hno.out (by omega)).out⟩, hb3.trans (b4.mono hb3.size)⟩
    · obtain rfl : gk = 0 := by omega
      have Hs : Hid (SortedP l) := Lib.hid (fun i h => hg.out i h (by omega))
      go_wp2
      go_ret
      exact ⟨true, rfl, ⟨fun _ => Hs.out, fun _ => rfl⟩, hbb⟩
end Go.Proofs.YtmppagiaonbggaaDoor
