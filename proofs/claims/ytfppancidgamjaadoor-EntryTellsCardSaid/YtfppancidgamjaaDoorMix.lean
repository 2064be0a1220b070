/- A statement whose order Go leaves open: what keeps one condition on the world (reads, calls that leave it, whatever memory they make) may come in any order; what stands behind all of these comes last, in its own order. -/
import Derived.StillTail
import Derived.OrdersHeld
import Derived.WalkKit
namespace Go.Proofs.YtfppancidgamjaaDoor
set_option linter.unusedVariables false
set_option linter.unusedSimpArgs false

section
variable {P : Program} {ops : Array Oper} {md : Region.Mode} {S : World → Prop} {Q : Exit → Act → World → Prop}

/-- From every world that meets S the operation ends in one and the same value, in a world that meets S. -/
def HeldR (P : Program) (S : World → Prop) (o : Oper) (v : Value) (a : Act) : Prop :=
  ∀ w, S w → match (execOp a.eval o).run P w with
    | .ok (.value u) w' => u = v ∧ S w'
    | .ok .skip w' => undef = v ∧ S w'
    | .ok (.enter f args) w' => Calls P f args w' fun e w'' => e = .returned v ∧ S w''
    | _ => False

def Held (P : Program) (ops : Array Oper) (S : World → Prop) (o : Oper) (v : Value) (a : Act) : Prop :=
  (Region.wanted o (yielded ops a.tmps) = true ∧ HeldR P S o v a) ∨ (Region.wanted o (yielded ops a.tmps) = false ∧ v = undef)

theorem HeldR.wp {o : Oper} {v : Value} {a : Act} {w : World} (h : HeldR P S o v a) (hS : S w) {K : Act → World → Prop} (hK : ∀ w', S w' → K (a.put o.dst v) w') : o.wp P a w K Q := by
  have h1 := h w hS
  unfold Oper.wp
  generalize (execOp a.eval o).run P w = r at h1
  cases r with
  | ok n w' =>
    cases n <;> simp only [Oper.upon] at h1 ⊢
    case value u => obtain ⟨rfl, hs⟩ := h1; exact hK _ hs
    case skip => obtain ⟨rfl, hs⟩ := h1; exact hK _ hs
    case enter f args => exact h1.mono fun e w'' ⟨he, hs⟩ => by subst he; exact hK _ hs
  | halt x w' => cases x <;> exact h1.elim

theorem Held.of_same {o : Oper} {v : Value} {a a' : Act} (h : Held P ops S o v a) (he : execOp a'.eval o = execOp a.eval o)
    (hw : Region.wanted o (yielded ops a'.tmps) = Region.wanted o (yielded ops a.tmps)) : Held P ops S o v a' := by
  unfold Held HeldR at *
  rw [he, hw]
  exact h

theorem Held.wpOp {i : Nat} {o : Oper} {v : Value} {a : Act} {w : World} (ho : ops[i]? = some o) (h : Held P ops S o v a) (hS : S w) {K : Act → World → Prop} (hK : ∀ w', S w' → K (a.put o.dst v) w') : wpOp P ops Q i K a w := by
  unfold Go.wpOp
  simp only [ho]
  rcases h with ⟨hw, h⟩ | ⟨hw, rfl⟩
  · rw [if_pos hw]; exact .inl (h.wp hS hK)
  · rw [if_neg (by rw [hw]; exact Bool.false_ne_true)]; exact hK w hS

def wpMix (P : Program) (ops : Array Oper) (S : World → Prop) (T : Act → Prop) : List Nat → Act → Prop
  | [], a => T a
  | i :: l, a => ∃ o v, ops[i]? = some o ∧ Held P ops S o v a ∧ wpMix P ops S T l (a.put o.dst v)

theorem wpMix_front {T : Act → Prop} {i : Nat} {post : List Nat} (hsel : Region.noSelect ops = true) :
    ∀ (pre : List Nat) (a : Act), (∀ p ∈ pre, ∀ op oi, ops[p]? = some op → ops[i]? = some oi → oi.apart ops op = true) → wpMix P ops S T (pre ++ i :: post) a →
      ∃ oi v, ops[i]? = some oi ∧ Held P ops S oi v a ∧ wpMix P ops S T (pre ++ post) (a.put oi.dst v)
  | [], a, _, h => h
  | p :: pre, a, hap, h => by
    obtain ⟨op, vp, hop, hheld, hrest⟩ := h
    obtain ⟨oi, v, hoi, hi, hr⟩ := wpMix_front hsel pre (a.put op.dst vp) (fun q hq => hap q (List.mem_cons_of_mem _ hq)) hrest
    obtain ⟨h1, h2, h3⟩ := Oper.apart_spec (hap p List.mem_cons_self op oi hop hoi)
    have si := Region.noSelect_spec hsel i oi
    have sp := Region.noSelect_spec hsel p op
    refine ⟨oi, v, hoi, hi.of_same (execOp_put oi (fun cs b => si cs b hoi) a op.dst vp h3).symm (wanted_put oi a op.dst vp h3).symm, op, vp, hop, hheld.of_same (execOp_put op (fun cs b => sp cs b hop) a oi.dst v h1) (wanted_put op a oi.dst v h1), ?_⟩
    rw [Act.put_comm a v vp h2]
    exact hr

/-! the static look -/
def edgesIn (md : Region.Mode) (ops : Array Oper) (listed : Array Bool) (i : Nat) : Bool := ((ops[i]?).map (·.after.all fun e => !Region.binds md e || listed.getD e.on false)).getD false
def lexOk (md : Region.Mode) (ops : Array Oper) : List Nat → Array Bool → Bool
  | [], _ => true
  | i :: l, listed => edgesIn md ops listed i && lexOk md ops l (listed.setIfInBounds i true)
def sinks (md : Region.Mode) (ops : Array Oper) (t : Nat) : List Nat → Bool
  | [] => true
  | h :: l => (Region.waitsFor md ops t h || l.any fun h' => Region.waitsFor md ops h' h) && sinks md ops t l
def chained (md : Region.Mode) (ops : Array Oper) : List Nat → Bool
  | [] => true
  | s :: l => (match l with | [] => true | t :: _ => Region.waitsFor md ops t s) && chained md ops l
def apartB (md : Region.Mode) (ops : Array Oper) (i j : Nat) : Bool :=
  Region.waitsFor md ops i j || Region.waitsFor md ops j i || (match ops[i]?, ops[j]? with | some oi, some oj => oi.apart ops oj | _, _ => true)
def mixB (md : Region.Mode) (ops : Array Oper) (listed : Array Bool) (hs ts : List Nat) : Bool :=
  Region.noSelect ops && decide (listed.size = ops.size) &&
  ((List.range ops.size).all fun j => listed.getD j true || hs.contains j || ts.contains j) &&
  ((hs ++ ts).all fun j => decide (j < ops.size) && !listed.getD j true) &&
  decide (hs ++ ts).Nodup && lexOk md ops (hs ++ ts) listed &&
  (match ts with | [] => true | t :: _ => sinks md ops t hs) && chained md ops ts &&
  hs.all fun i => hs.all fun j => i == j || apartB md ops i j

structure MixOk (md : Region.Mode) (ops : Array Oper) (listed : Array Bool) (hs ts : List Nat) : Prop where
  size : listed.size = ops.size
  cover : ∀ j, j < ops.size → listed.getD j true = false → j ∈ hs ∨ j ∈ ts
  un : ∀ j ∈ hs ++ ts, j < ops.size ∧ listed.getD j true = false
  nd : (hs ++ ts).Nodup
  lex : lexOk md ops (hs ++ ts) listed = true
  sink : ∀ t l, ts = t :: l → sinks md ops t hs = true
  chain : chained md ops ts = true
  apart : ∀ i ∈ hs, ∀ j ∈ hs, i ≠ j → apartB md ops i j = true

theorem mixB_ok {listed : Array Bool} {hs ts : List Nat} (h : mixB md ops listed hs ts = true) : Region.noSelect ops = true ∧ MixOk md ops listed hs ts := by
  simp only [mixB, Bool.and_eq_true, decide_eq_true_eq] at h
  obtain ⟨⟨⟨⟨⟨⟨⟨⟨h1, h2⟩, h3⟩, h4⟩, h5⟩, h6⟩, h7⟩, h8⟩, h9⟩ := h
  refine ⟨h1, h2, fun j hj hl => ?_, fun j hj => ?_, h5, h6, fun t l e => ?_, h8, fun i hi j hj hne => ?_⟩
  · have := List.all_eq_true.1 h3 j (List.mem_range.2 hj)
    rw [hl] at this
    simpa using this
  · have := List.all_eq_true.1 h4 j hj
    simp only [Bool.and_eq_true, decide_eq_true_eq, Bool.not_eq_true'] at this
    exact this
  · subst e; exact h7
  · have := List.all_eq_true.1 (List.all_eq_true.1 h9 i hi) j hj
    simp only [Bool.or_eq_true, beq_iff_eq] at this
    exact this.resolve_left hne

theorem mem_ready' {j : Nat} {listed : Array Bool} : j ∈ Region.ready md ops listed ↔ j < ops.size ∧ listed.getD j true = false ∧ edgesIn md ops listed j = true := by
  unfold Region.ready edgesIn
  simp [List.mem_filter, List.mem_range]

theorem edgesIn_waits {i j : Nat} {listed : Array Bool} (h : edgesIn md ops listed i = true) (hw : Region.waitsFor md ops i j = true) : listed.getD j false = true := by
  obtain ⟨oi, hoi, e, he, hb, rfl⟩ := Region.waitsFor_spec hw
  unfold edgesIn at h
  rw [hoi] at h
  simp only [Option.map_some, Option.getD_some] at h
  have h2 := Array.all_eq_true_iff_forall_mem.1 h e he
  simpa [hb] using h2

theorem edgesIn_set {i j : Nat} {listed : Array Bool} (h : edgesIn md ops listed i = true) : edgesIn md ops (listed.setIfInBounds j true) i = true := by
  unfold edgesIn at *
  cases hoi : ops[i]? with
  | none => rw [hoi] at h; exact h
  | some oi =>
    rw [hoi] at h
    simp only [Option.map_some, Option.getD_some] at h ⊢
    rw [Array.all_eq_true_iff_forall_mem] at h ⊢
    intro e he
    have := h e he
    simp only [Bool.or_eq_true] at this ⊢
    exact this.imp id getD_set_true

theorem lexOk_set {j : Nat} : ∀ (l : List Nat) (listed : Array Bool), lexOk md ops l listed = true → lexOk md ops l (listed.setIfInBounds j true) = true
  | [], _, _ => rfl
  | i :: l, listed, h => by
    simp only [lexOk, Bool.and_eq_true] at h ⊢
    refine ⟨edgesIn_set h.1, ?_⟩
    by_cases hij : i = j
    · subst hij
      exact lexOk_set l _ h.2
    · rw [Array.setIfInBounds_comm _ _ (Ne.symm hij)]
      exact lexOk_set l _ h.2

/-- One that is ready is struck out of the list. -/
theorem lexOk_strike {i : Nat} {post : List Nat} : ∀ (pre : List Nat) (listed : Array Bool), i ∉ pre → lexOk md ops (pre ++ i :: post) listed = true → lexOk md ops (pre ++ post) (listed.setIfInBounds i true) = true
  | [], listed, _, h => by simp only [List.nil_append, lexOk, Bool.and_eq_true] at h; exact h.2
  | p :: pre, listed, hni, h => by
    simp only [List.cons_append, lexOk, Bool.and_eq_true] at h ⊢
    refine ⟨edgesIn_set h.1, ?_⟩
    rw [Array.setIfInBounds_comm _ _ (fun e => hni (by rw [e]; exact List.mem_cons_self))]
    exact lexOk_strike pre _ (fun hm => hni (List.mem_cons_of_mem _ hm)) h.2

theorem lexOk_waits {i : Nat} {post : List Nat} : ∀ (pre : List Nat) (listed : Array Bool) (p : Nat), p ∈ pre → i ∉ pre → listed.getD i false = false → lexOk md ops (pre ++ i :: post) listed = true → Region.waitsFor md ops p i = false
  | q :: pre, listed, p, hp, hni, hl, h => by
    simp only [List.cons_append, lexOk, Bool.and_eq_true] at h
    rcases List.mem_cons.1 hp with rfl | hp
    · cases hw : Region.waitsFor md ops p i with
      | false => rfl
      | true => have := edgesIn_waits h.1 hw; rw [hl] at this; cases this
    · refine lexOk_waits pre _ p hp (fun hm => hni (List.mem_cons_of_mem _ hm)) ?_ h.2
      rw [getD_set_ne false (fun e => hni (by rw [e]; exact List.mem_cons_self))]
      exact hl

theorem sinks_strike {i t : Nat} {listed : Array Bool} (hi : edgesIn md ops listed i = true) {post : List Nat} : ∀ (pre : List Nat), (∀ p ∈ pre, listed.getD p false = false) → sinks md ops t (pre ++ i :: post) = true → sinks md ops t (pre ++ post) = true
  | [], _, h => by simp only [List.nil_append, sinks, Bool.and_eq_true] at h; exact h.2
  | p :: pre, hun, h => by
    simp only [List.cons_append, sinks, Bool.and_eq_true] at h ⊢
    refine ⟨?_, sinks_strike hi pre (fun q hq => hun q (List.mem_cons_of_mem _ hq)) h.2⟩
    have h1 := h.1
    simp only [Bool.or_eq_true, List.any_eq_true, List.mem_append, List.mem_cons] at h1 ⊢
    refine h1.imp id fun ⟨x, hx, hw⟩ => ⟨x, ?_, hw⟩
    rcases hx with hx | rfl | hx
    · exact .inl hx
    · have := edgesIn_waits hi hw
      rw [hun p List.mem_cons_self] at this
      cases this
    · exact .inr hx

theorem sinks_last {t : Nat} : ∀ (l : List Nat), l ≠ [] → sinks md ops t l = true → ∃ h ∈ l, Region.waitsFor md ops t h = true
  | [], hne, _ => absurd rfl hne
  | [h], _, hs => by
    simp only [sinks, List.any_nil, Bool.or_false, Bool.and_true] at hs
    exact ⟨h, List.mem_cons_self, hs⟩
  | h :: h' :: l, _, hs => by
    simp only [sinks, Bool.and_eq_true] at hs
    obtain ⟨x, hx, hw⟩ := sinks_last (h' :: l) (by simp) (by simp only [sinks, Bool.and_eq_true]; exact hs.2)
    exact ⟨x, List.mem_cons_of_mem _ hx, hw⟩

theorem chained_prev : ∀ (l : List Nat) (t : Nat), chained md ops l = true → t ∈ l → (∃ l', l = t :: l') ∨ ∃ s ∈ l, Region.waitsFor md ops t s = true
  | [], _, _, h => by cases h
  | s :: l, t, hc, h => by
    rcases List.mem_cons.1 h with rfl | h
    · exact .inl ⟨l, rfl⟩
    · simp only [chained, Bool.and_eq_true] at hc
      right
      rcases chained_prev l t hc.2 h with ⟨l', rfl⟩ | ⟨x, hx, hw⟩
      · exact ⟨s, List.mem_cons_self, hc.1⟩
      · exact ⟨x, List.mem_cons_of_mem _ hx, hw⟩

/-- While one of the first lot has not come, none of the tail can. -/
theorem MixOk.not_tail {listed : Array Bool} {hs ts : List Nat} (ok : MixOk md ops listed hs ts) (hne : hs ≠ []) {i : Nat} (hi : i ∈ Region.ready md ops listed) : i ∈ hs := by
  obtain ⟨hlt, hun, hed⟩ := mem_ready'.1 hi
  rcases ok.cover i hlt hun with h | h
  · exact h
  · exfalso
    have bad : ∀ s, s ∈ hs ++ ts → Region.waitsFor md ops i s = true → False := fun s hs' hw => by
      have h1 := edgesIn_waits hed hw
      rw [getD_both (ok.un s hs').2] at h1
      cases h1
    rcases chained_prev ts i ok.chain h with ⟨l', e⟩ | ⟨s, hs', hw⟩
    · obtain ⟨s, hs', hw⟩ := sinks_last hs hne (ok.sink i l' e)
      exact bad s (List.mem_append_left _ hs') hw
    · exact bad s (List.mem_append_right _ hs') hw

theorem MixOk.strike {listed : Array Bool} {pre post ts : List Nat} {i : Nat} (ok : MixOk md ops listed (pre ++ i :: post) ts) (hi : i ∈ Region.ready md ops listed) : MixOk md ops (listed.setIfInBounds i true) (pre ++ post) ts := by
  obtain ⟨hlt, hun, hed⟩ := mem_ready'.1 hi
  have nd := ok.nd
  have hni : i ∉ pre ∧ i ∉ post ∧ i ∉ ts := by
    rw [List.append_assoc, List.cons_append] at nd
    have := (List.nodup_cons.1 ((List.perm_middle.nodup_iff).1 nd)).1
    simp only [List.mem_append, not_or] at this
    exact this
  refine ⟨by simp [ok.size], fun j hj hl => ?_, fun j hj => ?_, ?_, ?_, fun t l e => ?_, ok.chain, fun a ha b hb hne => ok.apart a ?_ b ?_ hne⟩
  · by_cases hij : i = j
    · subst hij
      rw [show (listed.setIfInBounds i true).getD i true = true by simp [ok.size, hlt]] at hl
      cases hl
    · rw [getD_set_ne true hij] at hl
      have := ok.cover j hj hl
      simp only [List.mem_append, List.mem_cons] at this ⊢
      rcases this with (h | rfl | h) | h
      · exact .inl (.inl h)
      · exact absurd rfl hij
      · exact .inl (.inr h)
      · exact .inr h
  · have hj' : j ∈ (pre ++ i :: post) ++ ts := by
      simp only [List.mem_append, List.mem_cons] at hj ⊢
      rcases hj with (h | h) | h
      · exact .inl (.inl h)
      · exact .inl (.inr (.inr h))
      · exact .inr h
    have hne : i ≠ j := by
      rintro rfl
      simp only [List.mem_append] at hj
      rcases hj with (h | h) | h
      · exact hni.1 h
      · exact hni.2.1 h
      · exact hni.2.2 h
    exact ⟨(ok.un j hj').1, by rw [getD_set_ne true hne]; exact (ok.un j hj').2⟩
  · rw [List.append_assoc, List.cons_append] at nd
    rw [List.append_assoc]
    exact (List.nodup_cons.1 ((List.perm_middle.nodup_iff).1 nd)).2
  · have := ok.lex
    rw [List.append_assoc, List.cons_append] at this
    rw [List.append_assoc]
    exact lexOk_strike pre listed hni.1 this
  · exact sinks_strike hed pre (fun p hp => getD_both (ok.un p (by simp [hp])).2) (ok.sink t l e)
  · simp only [List.mem_append, List.mem_cons] at ha ⊢
    exact ha.imp id .inr
  · simp only [List.mem_append, List.mem_cons] at hb ⊢
    exact hb.imp id .inr

theorem wpAny_tail : ∀ (ts : List Nat) (listed : Array Bool) (a : Act) (w : World), MixOk md ops listed [] ts → wpOps P ops Q ts a w → wpAny P md ops Q ts.length listed a w
  | [], listed, a, w, ok, h => by
    refine ⟨?_, h⟩
    cases hr : Region.ready md ops listed with
    | nil => rfl
    | cons x l =>
      obtain ⟨hlt, hun, _⟩ := mem_ready'.1 (show x ∈ Region.ready md ops listed by rw [hr]; exact List.mem_cons_self)
      have := ok.cover x hlt hun
      simp at this
  | t :: ts, listed, a, w, ok, h => by
    have hlex : edgesIn md ops listed t = true ∧ lexOk md ops ts (listed.setIfInBounds t true) = true := by
      have := ok.lex
      simpa only [List.nil_append, lexOk, Bool.and_eq_true] using this
    have hun := ok.un t (by simp)
    have hr : t ∈ Region.ready md ops listed := mem_ready'.2 ⟨hun.1, hun.2, hlex.1⟩
    rw [wpOps_cons] at h
    refine ⟨fun h0 => (by rw [h0] at hr; cases hr), fun i hi => ?_⟩
    obtain ⟨hlt, hui, hed⟩ := mem_ready'.1 hi
    have hit : i = t := by
      have hm := (ok.cover i hlt hui).resolve_left (by simp)
      rcases chained_prev (t :: ts) i ok.chain hm with ⟨l', e⟩ | ⟨s, hs', hw⟩
      · injection e with e _; exact e.symm
      · have h1 := edgesIn_waits hed hw
        rw [getD_both (ok.un s (by simpa using hs')).2] at h1
        cases h1
    subst hit
    have nd := ok.nd
    rw [List.nil_append] at nd
    have hnd := List.nodup_cons.1 nd
    refine wpOp_mono (fun a' w' h' => wpAny_tail ts _ a' w' ⟨by simp [ok.size], fun j hj hl => ?_, fun j hj => ?_, by simpa using hnd.2, by simpa using hlex.2, fun _ _ _ => rfl, ?_, fun a ha => by cases ha⟩ h') h
    · by_cases hij : i = j
      · subst hij
        rw [show (listed.setIfInBounds i true).getD i true = true by simp [ok.size, hlt]] at hl
        cases hl
      · rw [getD_set_ne true hij] at hl
        have := ok.cover j hj hl
        simp only [List.mem_cons, List.not_mem_nil, false_or] at this
        exact .inr (this.resolve_left (Ne.symm hij))
    · have hj' : j ∈ ts := by simpa using hj
      have hne : i ≠ j := fun e => hnd.1 (e ▸ hj')
      have := ok.un j (by simp [hj'])
      exact ⟨this.1, by rw [getD_set_ne true hne]; exact this.2⟩
    · have := ok.chain
      simp only [chained, Bool.and_eq_true] at this
      exact this.2

theorem wpAny_mix' (hsel : Region.noSelect ops = true) {ts : List Nat} : ∀ (n : Nat) (hs : List Nat) (listed : Array Bool) (a : Act) (w : World), hs.length = n → MixOk md ops listed hs ts → S w →
    wpMix P ops S (fun a' => ∀ w', S w' → wpOps P ops Q ts a' w') hs a → wpAny P md ops Q (hs.length + ts.length) listed a w
  | 0, hs, listed, a, w, hn, ok, hS, h => by
    obtain rfl : hs = [] := List.eq_nil_of_length_eq_zero hn
    rw [List.length_nil, Nat.zero_add]
    exact wpAny_tail ts listed a w ok (h w hS)
  | n + 1, hs, listed, a, w, hn, ok, hS, h => by
    obtain ⟨x, l, rfl⟩ : ∃ x l, hs = x :: l := by cases hs with | nil => simp at hn | cons x l => exact ⟨x, l, rfl⟩
    rw [show (x :: l).length + ts.length = (l.length + ts.length) + 1 by simp; omega]
    have hr : x ∈ Region.ready md ops listed := by
      have hlex := ok.lex
      simp only [List.cons_append, lexOk, Bool.and_eq_true] at hlex
      have hun := ok.un x (by simp)
      exact mem_ready'.2 ⟨hun.1, hun.2, hlex.1⟩
    refine ⟨fun h0 => (by rw [h0] at hr; cases hr), fun i hi => ?_⟩
    have him := ok.not_tail (by simp) hi
    obtain ⟨hlt, hui, hed⟩ := mem_ready'.1 hi
    obtain ⟨pre, post, e⟩ := List.append_of_mem him
    rw [e] at ok h
    have nd := ok.nd
    have hni : i ∉ pre := by
      rw [List.append_assoc, List.cons_append] at nd
      have := (List.nodup_cons.1 ((List.perm_middle.nodup_iff).1 nd)).1
      simp only [List.mem_append, not_or] at this
      exact this.1
    obtain ⟨oi, v, hoi, hheld, hrest⟩ := wpMix_front (P := P) (S := S) hsel pre a (fun p hp op oi hop hoi => by
      have hne : i ≠ p := fun e => hni (e ▸ hp)
      have h1 := ok.apart i (by simp) p (by simp [hp]) hne
      have hunp := ok.un p (by simp [hp])
      have h2 : Region.waitsFor md ops i p = false := by
        cases hw : Region.waitsFor md ops i p with
        | false => rfl
        | true => have := edgesIn_waits hed hw; rw [getD_both hunp.2] at this; cases this
      have h3 : Region.waitsFor md ops p i = false := by
        have hlex := ok.lex
        rw [List.append_assoc, List.cons_append] at hlex
        exact lexOk_waits pre listed p hp hni (getD_both hui) hlex
      simpa [apartB, h2, h3, hop, hoi] using h1) h
    have hlen : l.length = (pre ++ post).length := by
      have := congrArg List.length e
      simp at this ⊢
      omega
    refine hheld.wpOp hoi hS fun w' hS' => ?_
    rw [hlen]
    exact wpAny_mix' hsel n (pre ++ post) _ _ w' (by rw [← hlen]; simpa using hn) (ok.strike hi) hS' hrest

theorem wpOps_list (l : List Nat) : ∀ (a : Act) (w : World), (∀ i ∈ l, i < ops.size) → wpList P ops Q (l.filterMap fun i => ops[i]?) a w → wpOps P ops Q l a w := by
  induction l with
  | nil => exact fun _ _ _ h => h
  | cons i l ih =>
    intro a w hl h
    have hi : i < ops.size := hl i List.mem_cons_self
    have ho : ops[i]? = some ops[i] := Array.getElem?_eq_getElem hi
    simp only [List.filterMap_cons, ho] at h
    have hl' : ∀ j ∈ l, j < ops.size := fun j hj => hl j (List.mem_cons_of_mem _ hj)
    unfold wpList at h
    unfold wpOps
    simp only [ho]
    split
    · rename_i hw
      rw [if_pos hw] at h
      exact h.imp (Oper.wp_mono fun a w h' => ih a w hl' h') id
    · rename_i hw
      rw [if_neg hw] at h
      exact ih _ _ hl' h

/-- The same over the operations themselves. -/
def wpHeld (P : Program) (ops : Array Oper) (S : World → Prop) (T : Act → Prop) : List Oper → Act → Prop
  | [], a => T a
  | o :: l, a => ∃ v, Held P ops S o v a ∧ wpHeld P ops S T l (a.put o.dst v)

theorem wpMix_of_held {T T' : Act → Prop} (hT : ∀ a, T a → T' a) : ∀ (l : List Nat) (a : Act), (∀ i ∈ l, i < ops.size) → wpHeld P ops S T (l.filterMap fun i => ops[i]?) a → wpMix P ops S T' l a
  | [], a, _, h => hT a h
  | i :: l, a, hl, h => by
    obtain ⟨o, ho⟩ : ∃ o, ops[i]? = some o := ⟨_, Array.getElem?_eq_getElem (hl i List.mem_cons_self)⟩
    simp only [List.filterMap_cons, ho] at h
    obtain ⟨v, hh, hr⟩ := h
    exact ⟨_, v, ho, hh, wpMix_of_held hT l _ (fun j hj => hl j (List.mem_cons_of_mem _ hj)) hr⟩

/-- THE RULE: the numbers hs in whatever order, then ts in theirs. -/
theorem wpAny_mix {fuel : Nat} {listed : Array Bool} {a : Act} {w : World} (S : World → Prop) (hs ts : List Nat) (hB : mixB md ops listed hs ts = true) (hf : fuel = hs.length + ts.length) (hS : S w)
    (h : wpHeld P ops S (fun a' => ∀ w', S w' → wpList P ops Q (ts.filterMap fun i => ops[i]?) a' w') (hs.filterMap fun i => ops[i]?) a) : wpAny P md ops Q fuel listed a w := by
  obtain ⟨hsel, ok⟩ := mixB_ok hB
  subst hf
  have hts : ∀ i ∈ ts, i < ops.size := fun i hi => (ok.un i (by simp [hi])).1
  have hhs : ∀ i ∈ hs, i < ops.size := fun i hi => (ok.un i (by simp [hi])).1
  exact wpAny_mix' hsel _ hs listed a w rfl ok hS (wpMix_of_held (fun a' h w' hw' => wpOps_list ts a' w' hts (h w' hw')) hs a hhs h)

theorem wp_region_mix {id : Nat} {a : Act} {w : World} (S : World → Prop) (hs ts : List Nat) (hm : P.follows .mixedOrders = true) (hB : mixB .any ops (Array.replicate ops.size false) hs ts = true) (hf : ops.size = hs.length + ts.length)
    (hS : S w.drew) (h : wpHeld P ops S (fun a' => ∀ w', S w' → wpList P ops Q (ts.filterMap fun i => ops[i]?) a' w') (hs.filterMap fun i => ops[i]?) a) : (Code.region id ops true).wp P Q a w :=
  wp_region_any hm (wpAny_mix S hs ts hB hf hS h)

/-! what yields its value in whatever world comes first -/
def wpFree (P : Program) (ops : Array Oper) (T : Act → Prop) : List Oper → Act → Prop
  | [], a => T a
  | o :: l, a => ∃ v, Yields P ops o v a ∧ wpFree P ops T l (a.put o.dst v)
def freeB (md : Region.Mode) (ops : Array Oper) : List Nat → Array Bool → Bool
  | [], _ => true
  | i :: l, listed => decide (i < ops.size) && Region.free md ops listed i && (Region.ready md ops listed).contains i && freeB md ops l (listed.setIfInBounds i true)
def markAll : List Nat → Array Bool → Array Bool
  | [], listed => listed
  | i :: l, listed => markAll l (listed.setIfInBounds i true)
theorem wpAny_free (hQ : ∀ c a d v w, Q (.panic c) (a.put (some d) v) w → Q (.panic c) a w) (hsel : Region.noSelect ops = true) {fuel : Nat} {w : World} {T : Act → Prop} :
    ∀ (us : List Nat) (listed : Array Bool) (a : Act), freeB md ops us listed = true → (∀ a', T a' → wpAny P md ops Q fuel (markAll us listed) a' w) →
      wpFree P ops T (us.filterMap fun i => ops[i]?) a → wpAny P md ops Q (us.length + fuel) listed a w
  | [], listed, a, _, hT, h => by rw [List.length_nil, Nat.zero_add]; exact hT a h
  | i :: us, listed, a, hB, hT, h => by
    simp only [freeB, Bool.and_eq_true, decide_eq_true_eq] at hB
    obtain ⟨⟨⟨hi, hf⟩, hr⟩, hB'⟩ := hB
    obtain ⟨o, ho⟩ : ∃ o, ops[i]? = some o := ⟨_, Array.getElem?_eq_getElem hi⟩
    simp only [List.filterMap_cons, ho] at h
    obtain ⟨v, hy, h⟩ := h
    rw [show (i :: us).length + fuel = (us.length + fuel) + 1 by simp; omega]
    refine wpAny_take ho hsel hf hr (fun c a w hq => ?_) hy (wpAny_free hQ hsel us _ _ hB' hT h)
    cases hd : o.dst with
    | none => rw [hd] at hq; exact hq
    | some d => rw [hd] at hq; exact hQ c a d v w hq

/-- THE RULE, WITH us FIRST: what yields its value in whatever world, at whatever time. -/
theorem wp_region_umix {id : Nat} {a : Act} {w : World} (S : World → Prop) (us hs ts : List Nat) (hm : P.follows .mixedOrders = true)
    (hB : (freeB .any ops us (Array.replicate ops.size false) && mixB .any ops (markAll us (Array.replicate ops.size false)) hs ts) = true) (hf : ops.size = us.length + (hs.length + ts.length))
    (hQ : ∀ c a d v w, Q (.panic c) (a.put (some d) v) w → Q (.panic c) a w) (hS : S w.drew)
    (h : wpFree P ops (fun a1 => wpHeld P ops S (fun a' => ∀ w', S w' → wpList P ops Q (ts.filterMap fun i => ops[i]?) a' w') (hs.filterMap fun i => ops[i]?) a1) (us.filterMap fun i => ops[i]?) a) :
    (Code.region id ops true).wp P Q a w := by
  rw [Bool.and_eq_true] at hB
  refine wp_region_any hm ?_
  rw [hf]
  rw [hf] at hB
  exact wpAny_free hQ (mixB_ok hB.2).1 us _ a hB.1 (fun a' h' => wpAny_mix S hs ts hB.2 rfl hS h') h

/-! the widest rule: reads that come before the tail's own writes, but may come behind a making of memory -/
def wpL (P : Program) (md : Region.Mode) (ops : Array Oper) (Q : Exit → Act → World → Prop) (S : World → Prop) (T : Act → World → Prop) : Nat → Array Bool → Act → World → Prop
  | 0, _, a, w => T a w
  | f + 1, listed, a, w => Region.ready md ops listed ≠ [] ∧ ∀ i ∈ Region.ready md ops listed, wpOp P ops Q i (fun a' w' => S w' ∧ wpL P md ops Q S T f (listed.setIfInBounds i true) a' w') a w

theorem MixOk.strike' {listed : Array Bool} {L ts : List Nat} {i : Nat} (ok : MixOk md ops listed L ts) (hne : L ≠ []) (hi : i ∈ Region.ready md ops listed) : ∃ L', MixOk md ops (listed.setIfInBounds i true) L' ts ∧ L'.length + 1 = L.length ∧ (∀ j ∈ L, j ≠ i → j ∈ L') := by
  obtain ⟨pre, post, e⟩ := List.append_of_mem (ok.not_tail hne hi)
  rw [e] at ok
  refine ⟨pre ++ post, ok.strike hi, by rw [e]; simp; omega, fun j hj hne => ?_⟩
  rw [e] at hj
  simp only [List.mem_append, List.mem_cons] at hj ⊢
  rcases hj with h | h | h
  · exact .inl h
  · exact absurd h hne
  · exact .inr h

theorem wpL_any {T : Act → World → Prop} {ts : List Nat} (hT : ∀ a w, T a w → wpOps P ops Q ts a w) : ∀ (n : Nat) (L : List Nat) (listed : Array Bool) (a : Act) (w : World), L.length = n → MixOk md ops listed L ts → wpL P md ops Q S T n listed a w →
    wpAny P md ops Q (n + ts.length) listed a w
  | 0, L, listed, a, w, hn, ok, h => by
    obtain rfl : L = [] := List.eq_nil_of_length_eq_zero hn
    rw [Nat.zero_add]
    exact wpAny_tail ts listed a w ok (hT a w h)
  | n + 1, L, listed, a, w, hn, ok, h => by
    rw [show n + 1 + ts.length = (n + ts.length) + 1 by omega]
    have hne : L ≠ [] := fun e => by subst e; simp at hn
    refine ⟨fun h0 => absurd h0 h.1, fun i hi => ?_⟩
    obtain ⟨L', ok', hl, _⟩ := ok.strike' hne hi
    exact wpOp_mono (fun a' w' h' => wpL_any hT n L' _ a' w' (by omega) ok' h'.2) (h.2 i hi)

theorem wpL_late {T : Act → World → Prop} {ts : List Nat} {i : Nat} {oi : Oper} {v : Value} (hoi : ops[i]? = some oi) (hsel : Region.noSelect ops = true) (hQ : ∀ c a w, Q (.panic c) (a.put oi.dst v) w → Q (.panic c) a w) :
    ∀ (n : Nat) (L : List Nat) (listed : Array Bool) (a : Act) (w : World), L.length = n + 1 → MixOk md ops listed L ts → i ∈ Region.ready md ops listed → i ∈ L → YieldsIf P ops S oi v a → S w →
      wpL P md ops Q S T n (listed.setIfInBounds i true) (a.put oi.dst v) w → wpL P md ops Q S T (n + 1) listed a w
  | 0, L, listed, a, w, hn, ok, hr, hiL, hy, hS, H => by
    refine ⟨fun h => (by rw [h] at hr; cases hr), fun j hj => ?_⟩
    have hne : L ≠ [] := fun e => by subst e; simp at hn
    obtain ⟨x, rfl⟩ := List.length_eq_one_iff.1 hn
    have h1 := ok.not_tail hne hj
    have h2 := ok.not_tail hne hr
    simp only [List.mem_singleton] at h1 h2
    obtain rfl : j = i := h1.trans h2.symm
    exact hy.wpOp hoi hS ⟨hS, H⟩
  | n + 1, L, listed, a, w, hn, ok, hr, hiL, hy, hS, H => by
    have hne : L ≠ [] := fun e => by subst e; simp at hn
    refine ⟨fun h => (by rw [h] at hr; cases hr), fun j hj => ?_⟩
    by_cases hji : j = i
    · subst hji; exact hy.wpOp hoi hS ⟨hS, H⟩
    · have h1 := H.2 j (ready_mono hj hji)
      obtain ⟨hjlt, hjun, hjed⟩ := mem_ready'.1 hj
      obtain ⟨hilt, hiun, hied⟩ := mem_ready'.1 hr
      obtain ⟨oj, hoj⟩ : ∃ o, ops[j]? = some o := ⟨_, Array.getElem?_eq_getElem hjlt⟩
      have hjL := ok.not_tail hne hj
      have hap : oi.apart ops oj = true := by
        have h := ok.apart i hiL j hjL (Ne.symm hji)
        have h2 : Region.waitsFor md ops i j = false := by
          cases hw : Region.waitsFor md ops i j with
          | false => rfl
          | true => have := edgesIn_waits hied hw; rw [getD_both hjun] at this; cases this
        have h3 : Region.waitsFor md ops j i = false := by
          cases hw : Region.waitsFor md ops j i with
          | false => rfl
          | true => have := edgesIn_waits hjed hw; rw [getD_both hiun] at this; cases this
        simpa [apartB, h2, h3, hoi, hoj] using h
      have h2 := wpOp_putIf hoj hap (fun cs b => Region.noSelect_spec hsel i oi cs b hoi) (fun cs b => Region.noSelect_spec hsel j oj cs b hoj) hQ hy h1
      obtain ⟨L', ok', hl, hmem⟩ := ok.strike' hne hj
      refine wpOp_mono (fun a' w' h3 => ⟨h3.2.1, wpL_late hoi hsel hQ n L' _ a' w' (by omega) ok' (ready_mono hr (Ne.symm hji)) (hmem i hiL (Ne.symm hji)) h3.1 h3.2.1 ?_⟩) h2
      rw [Array.setIfInBounds_comm _ _ hji]
      exact h3.2.2

def wpLate (P : Program) (ops : Array Oper) (S : World → Prop) (T : Act → Prop) : List Oper → Act → Prop
  | [], a => T a
  | o :: l, a => ∃ v, YieldsIf P ops S o v a ∧ wpLate P ops S T l (a.put o.dst v)

theorem wpL_lates {T : Act → World → Prop} {ts : List Nat} {w : World} {T1 : Act → Prop} (hsel : Region.noSelect ops = true) (hQ : ∀ c a d v w, Q (.panic c) (a.put (some d) v) w → Q (.panic c) a w) (hS : S w) :
    ∀ (ls rest : List Nat) (listed : Array Bool) (a : Act), MixOk md ops listed (ls ++ rest) ts → (∀ a', T1 a' → MixOk md ops (markAll ls listed) rest ts → wpL P md ops Q S T rest.length (markAll ls listed) a' w) →
      wpLate P ops S T1 (ls.filterMap fun i => ops[i]?) a → wpL P md ops Q S T (ls.length + rest.length) listed a w
  | [], rest, listed, a, ok, hT, h => by rw [List.length_nil, Nat.zero_add]; exact hT a h ok
  | i :: ls, rest, listed, a, ok, hT, h => by
    have hun := ok.un i (by simp)
    obtain ⟨o, ho⟩ : ∃ o, ops[i]? = some o := ⟨_, Array.getElem?_eq_getElem hun.1⟩
    simp only [List.filterMap_cons, ho] at h
    obtain ⟨v, hy, h⟩ := h
    have hr : i ∈ Region.ready md ops listed := by
      have hlex := ok.lex
      simp only [List.cons_append, lexOk, Bool.and_eq_true] at hlex
      exact mem_ready'.2 ⟨hun.1, hun.2, hlex.1⟩
    rw [show (i :: ls).length + rest.length = (ls.length + rest.length) + 1 by simp; omega]
    refine wpL_late ho hsel (fun c a w hq => ?_) _ _ listed a w (by simp) ok hr (by simp) hy hS (wpL_lates hsel hQ hS ls rest _ _ (MixOk.strike (pre := []) ok hr) hT h)
    cases hd : o.dst with
    | none => rw [hd] at hq; exact hq
    | some d => rw [hd] at hq; exact hQ c a d v w hq

/-- The first of the tail keep S, too. -/
def wpKeep (P : Program) (ops : Array Oper) (Q : Exit → Act → World → Prop) (S : World → Prop) (T : Act → World → Prop) : List Nat → Act → World → Prop
  | [], a, w => T a w
  | i :: l, a, w => wpOp P ops Q i (fun a' w' => S w' ∧ wpKeep P ops Q S T l a' w') a w

theorem wpL_keep {T : Act → World → Prop} {ts : List Nat} : ∀ (l : List Nat) (listed : Array Bool) (a : Act) (w : World), MixOk md ops listed [] (l ++ ts) → wpKeep P ops Q S T l a w → wpL P md ops Q S T l.length listed a w
  | [], _, _, _, _, h => h
  | t :: l, listed, a, w, ok, h => by
    have hlex : edgesIn md ops listed t = true ∧ lexOk md ops (l ++ ts) (listed.setIfInBounds t true) = true := by
      have := ok.lex
      simpa only [List.nil_append, List.cons_append, lexOk, Bool.and_eq_true] using this
    have hun := ok.un t (by simp)
    have hr : t ∈ Region.ready md ops listed := mem_ready'.2 ⟨hun.1, hun.2, hlex.1⟩
    refine ⟨fun h0 => (by rw [h0] at hr; cases hr), fun i hi => ?_⟩
    obtain ⟨hlt, hui, hed⟩ := mem_ready'.1 hi
    have hit : i = t := by
      have hm := (ok.cover i hlt hui).resolve_left (by simp)
      rcases chained_prev (t :: (l ++ ts)) i ok.chain hm with ⟨l', e⟩ | ⟨s, hs', hw⟩
      · injection e with e _; exact e.symm
      · have h1 := edgesIn_waits hed hw
        rw [getD_both (ok.un s (by simpa using hs')).2] at h1
        cases h1
    subst hit
    have nd := ok.nd
    rw [List.nil_append, List.cons_append] at nd
    have hnd := List.nodup_cons.1 nd
    refine wpOp_mono (fun a' w' h' => ⟨h'.1, wpL_keep l _ a' w' ⟨by simp [ok.size], fun j hj hl => ?_, fun j hj => ?_, by simpa using hnd.2, by simpa using hlex.2, fun _ _ _ => rfl, ?_, fun a ha => by cases ha⟩ h'.2⟩) h
    · by_cases hij : i = j
      · subst hij
        rw [show (listed.setIfInBounds i true).getD i true = true by simp [ok.size, hlt]] at hl
        cases hl
      · rw [getD_set_ne true hij] at hl
        have := ok.cover j hj hl
        simp only [List.cons_append, List.mem_cons, List.not_mem_nil, false_or] at this
        exact .inr (this.resolve_left (Ne.symm hij))
    · have hj' : j ∈ l ++ ts := by simpa using hj
      have hne : i ≠ j := fun e => hnd.1 (e ▸ hj')
      have := ok.un j (by simp only [List.nil_append, List.cons_append, List.mem_cons]; exact .inr hj')
      exact ⟨this.1, by rw [getD_set_ne true hne]; exact this.2⟩
    · have := ok.chain
      simp only [List.cons_append, chained, Bool.and_eq_true] at this
      exact this.2

theorem wpL_held (hsel : Region.noSelect ops = true) {T : Act → World → Prop} {ts0 ts : List Nat} : ∀ (n : Nat) (hs : List Nat) (listed : Array Bool) (a : Act) (w : World), hs.length = n → MixOk md ops listed hs (ts0 ++ ts) → S w →
    wpMix P ops S (fun a' => ∀ w', S w' → wpKeep P ops Q S T ts0 a' w') hs a → wpL P md ops Q S T (hs.length + ts0.length) listed a w
  | 0, hs, listed, a, w, hn, ok, hS, h => by
    obtain rfl : hs = [] := List.eq_nil_of_length_eq_zero hn
    rw [List.length_nil, Nat.zero_add]
    exact wpL_keep ts0 listed a w ok (h w hS)
  | n + 1, hs, listed, a, w, hn, ok, hS, h => by
    obtain ⟨x, l, rfl⟩ : ∃ x l, hs = x :: l := by cases hs with | nil => simp at hn | cons x l => exact ⟨x, l, rfl⟩
    rw [show (x :: l).length + ts0.length = (l.length + ts0.length) + 1 by simp; omega]
    have hr : x ∈ Region.ready md ops listed := by
      have hlex := ok.lex
      simp only [List.cons_append, lexOk, Bool.and_eq_true] at hlex
      have hun := ok.un x (by simp)
      exact mem_ready'.2 ⟨hun.1, hun.2, hlex.1⟩
    refine ⟨fun h0 => (by rw [h0] at hr; cases hr), fun i hi => ?_⟩
    have him := ok.not_tail (by simp) hi
    obtain ⟨hlt, hui, hed⟩ := mem_ready'.1 hi
    obtain ⟨pre, post, e⟩ := List.append_of_mem him
    rw [e] at ok h
    have nd := ok.nd
    have hni : i ∉ pre := by
      rw [List.append_assoc, List.cons_append] at nd
      have := (List.nodup_cons.1 ((List.perm_middle.nodup_iff).1 nd)).1
      simp only [List.mem_append, not_or] at this
      exact this.1
    obtain ⟨oi, v, hoi, hheld, hrest⟩ := wpMix_front (P := P) (S := S) hsel pre a (fun p hp op oi hop hoi => by
      have hne : i ≠ p := fun e => hni (e ▸ hp)
      have h1 := ok.apart i (by simp) p (by simp [hp]) hne
      have hunp := ok.un p (by simp [hp])
      have h2 : Region.waitsFor md ops i p = false := by
        cases hw : Region.waitsFor md ops i p with
        | false => rfl
        | true => have := edgesIn_waits hed hw; rw [getD_both hunp.2] at this; cases this
      have h3 : Region.waitsFor md ops p i = false := by
        have hlex := ok.lex
        rw [List.append_assoc, List.cons_append] at hlex
        exact lexOk_waits pre listed p hp hni (getD_both hui) hlex
      simpa [apartB, h2, h3, hop, hoi] using h1) h
    have hlen : l.length = (pre ++ post).length := by
      have := congrArg List.length e
      simp at this ⊢
      omega
    refine hheld.wpOp hoi hS fun w' hS' => ⟨hS', ?_⟩
    rw [hlen]
    exact wpL_held hsel n (pre ++ post) _ _ w' (by rw [← hlen]; simpa using hn) (ok.strike hi) hS' hrest

/-- As wpKeep, over the operations themselves. -/
def wpKept (P : Program) (ops : Array Oper) (Q : Exit → Act → World → Prop) (S : World → Prop) (T : Act → World → Prop) : List Oper → Act → World → Prop
  | [], a, w => T a w
  | o :: l, a, w => if Region.wanted o (yielded ops a.tmps) then o.wp P a w (fun a' w' => S w' ∧ wpKept P ops Q S T l a' w') Q else S w ∧ wpKept P ops Q S T l (a.put o.dst undef) w

theorem wpKeep_of_kept {T T' : Act → World → Prop} (hT : ∀ a w, T a w → T' a w) : ∀ (l : List Nat) (a : Act) (w : World), (∀ i ∈ l, i < ops.size) → wpKept P ops Q S T (l.filterMap fun i => ops[i]?) a w → wpKeep P ops Q S T' l a w
  | [], a, w, _, h => hT a w h
  | i :: l, a, w, hl, h => by
    obtain ⟨o, ho⟩ : ∃ o, ops[i]? = some o := ⟨_, Array.getElem?_eq_getElem (hl i List.mem_cons_self)⟩
    have hl' : ∀ j ∈ l, j < ops.size := fun j hj => hl j (List.mem_cons_of_mem _ hj)
    simp only [List.filterMap_cons, ho] at h
    unfold wpKept at h
    unfold wpKeep wpOp
    simp only [ho]
    split
    · rename_i hw
      rw [if_pos hw] at h
      exact .inl (Oper.wp_mono (fun a w h' => ⟨h'.1, wpKeep_of_kept hT l a w hl' h'.2⟩) h)
    · rename_i hw
      rw [if_neg hw] at h
      exact ⟨h.1, wpKeep_of_kept hT l _ _ hl' h.2⟩

def lmixB (md : Region.Mode) (ops : Array Oper) (listed : Array Bool) (ls hs ts0 ts : List Nat) : Bool :=
  mixB md ops listed (ls ++ (hs ++ ts0)) ts && mixB md ops (markAll ls listed) hs (ts0 ++ ts)

/-- THE WIDEST RULE. us: free, at whatever time · ls: reads that S decides, ahead of ts · hs: calls that keep S, ahead of ts0 · ts0: make memory, keep S · ts: the rest, in their order. -/
theorem wp_region_lmix {id : Nat} {a : Act} {w : World} (S : World → Prop) (us ls hs ts0 ts : List Nat) (hm : P.follows .mixedOrders = true)
    (hB : (freeB .any ops us (Array.replicate ops.size false) && lmixB .any ops (markAll us (Array.replicate ops.size false)) ls hs ts0 ts) = true) (hf : ops.size = us.length + ((ls.length + (hs.length + ts0.length)) + ts.length))
    (hQ : ∀ c a d v w, Q (.panic c) (a.put (some d) v) w → Q (.panic c) a w) (hS : S w.drew)
    (h : wpFree P ops (fun a1 => wpLate P ops S (fun a2 => wpHeld P ops S (fun a3 => ∀ w', S w' → wpKept P ops Q S (fun a4 w4 => wpList P ops Q (ts.filterMap fun i => ops[i]?) a4 w4) (ts0.filterMap fun i => ops[i]?) a3 w')
      (hs.filterMap fun i => ops[i]?) a2) (ls.filterMap fun i => ops[i]?) a1) (us.filterMap fun i => ops[i]?) a) :
    (Code.region id ops true).wp P Q a w := by
  simp only [lmixB, Bool.and_eq_true] at hB
  obtain ⟨hB1, hB2, hB3⟩ := hB
  obtain ⟨hsel, ok1⟩ := mixB_ok hB2
  obtain ⟨_, ok2⟩ := mixB_ok hB3
  have hts : ∀ i ∈ ts, i < ops.size := fun i hi => (ok1.un i (by simp [hi])).1
  have hts0 : ∀ i ∈ ts0, i < ops.size := fun i hi => (ok1.un i (by simp [hi])).1
  have hhs : ∀ i ∈ hs, i < ops.size := fun i hi => (ok1.un i (by simp [hi])).1
  refine wp_region_any hm ?_
  generalize ops.size = n at hf hB1 ok1 ok2 ⊢
  subst hf
  refine wpAny_free hQ hsel us _ a hB1 (fun a1 h1 => ?_) h
  refine wpL_any (S := S) (T := fun a4 w4 => wpOps P ops Q ts a4 w4) (fun _ _ h => h) _ (ls ++ (hs ++ ts0)) _ a1 _ (by simp) ok1 ?_
  have := wpL_lates (P := P) (S := S) (T := fun a4 w4 => wpOps P ops Q ts a4 w4) (w := w.drew) hsel hQ hS ls (hs ++ ts0) _ a1 ok1 (fun a2 h2 _ => ?_) h1
  · simpa using this
  · rw [List.length_append]
    exact wpL_held hsel _ hs _ a2 _ rfl ok2 hS (wpMix_of_held (fun a3 h3 w' hw' => wpKeep_of_kept (fun a4 w4 h4 => wpOps_list ts a4 w4 hts h4) ts0 a3 w' hts0 (h3 w' hw')) hs a2 hhs h2)

theorem late_nil {T : Act → Prop} {a : Act} (h : T a) : wpLate P ops S T [] a := h
theorem late_val {T : Act → Prop} {l : List Oper} {a : Act} {o : Oper} (v : Value) (hw : Region.wanted o (yielded ops a.tmps) = true) (hv : ∀ w, S w → (execOp a.eval o).run P w = .ok (.value v) w)
    (h : wpLate P ops S T l (a.put o.dst v)) : wpLate P ops S T (o :: l) a := ⟨v, .inl ⟨hw, hv⟩, h⟩
theorem late_off {T : Act → Prop} {l : List Oper} {a : Act} {o : Oper} (hw : Region.wanted o (yielded ops a.tmps) = false)
    (h : wpLate P ops S T l (a.put o.dst undef)) : wpLate P ops S T (o :: l) a := ⟨undef, .inr ⟨hw, rfl⟩, h⟩
theorem kept_nil {T : Act → World → Prop} {a : Act} {w : World} (h : T a w) : wpKept P ops Q S T [] a w := h
theorem kept_val {T : Act → World → Prop} {l : List Oper} {a : Act} {w w1 : World} {o : Oper} (v : Value) (hw : Region.wanted o (yielded ops a.tmps) = true) (hv : (execOp a.eval o).run P w = .ok (.value v) w1) (hS : S w1)
    (h : wpKept P ops Q S T l (a.put o.dst v) w1) : wpKept P ops Q S T (o :: l) a w := by
  unfold wpKept
  rw [if_pos hw]
  unfold Oper.wp
  rw [hv]
  exact ⟨hS, h⟩
theorem free_nil {T : Act → Prop} {a : Act} (h : T a) : wpFree P ops T [] a := h
theorem free_val {T : Act → Prop} {l : List Oper} {a : Act} {o : Oper} (v : Value) (hw : Region.wanted o (yielded ops a.tmps) = true) (hv : ∀ w, (execOp a.eval o).run P w = .ok (.value v) w)
    (h : wpFree P ops T l (a.put o.dst v)) : wpFree P ops T (o :: l) a := ⟨v, .inl ⟨hw, hv⟩, h⟩

/-! the steps -/
theorem held_nil {T : Act → Prop} {a : Act} (h : T a) : wpHeld P ops S T [] a := h
theorem held_val {T : Act → Prop} {l : List Oper} {a : Act} {o : Oper} (v : Value) (hw : Region.wanted o (yielded ops a.tmps) = true) (hv : ∀ w, S w → (execOp a.eval o).run P w = .ok (.value v) w)
    (h : wpHeld P ops S T l (a.put o.dst v)) : wpHeld P ops S T (o :: l) a :=
  ⟨v, .inl ⟨hw, fun w hS => by rw [hv w hS]; exact ⟨rfl, hS⟩⟩, h⟩
theorem held_off {T : Act → Prop} {l : List Oper} {a : Act} {o : Oper} (hw : Region.wanted o (yielded ops a.tmps) = false)
    (h : wpHeld P ops S T l (a.put o.dst undef)) : wpHeld P ops S T (o :: l) a :=
  ⟨undef, .inr ⟨hw, rfl⟩, h⟩
theorem held_call {T : Act → Prop} {l : List Oper} {a : Act} {o : Oper} (f : FuncId) (args : Array Value) (v : Value) (hw : Region.wanted o (yielded ops a.tmps) = true)
    (hr : ∀ w, S w → (execOp a.eval o).run P w = .ok (.enter f args) w) (hv : ∀ w, S w → Calls P f args w fun e w' => e = .returned v ∧ S w')
    (h : wpHeld P ops S T l (a.put o.dst v)) : wpHeld P ops S T (o :: l) a :=
  ⟨v, .inl ⟨hw, fun w hS => by rw [hr w hS]; exact hv w hS⟩, h⟩
end
end Go.Proofs.YtfppancidgamjaaDoor
