/- Texts of one proof, merged: XTwl XOe XG8 XH9 XGa XRg XGb. -/
import Derived.Test.YtmppagiaonbggaaDoorUi
import Derived.Laws.OwnMore
import Derived.Shelf.Abstract
import Derived.Shelf.RegionOpen
/- The rule of two threads once more: with reads that what both leave alone decides, in whatever order; and steps that append. -/
namespace Go.Proofs.YtmppagiaonbggaaDoor
set_option linter.unusedVariables false
set_option linter.unusedSimpArgs false
set_option maxRecDepth 100000
open Go.RowKit

section
variable {P : Program} {ops : Array Oper} {md : Region.Mode} {Q : Exit → Act → World → Prop} {B : Nat}

theorem wpL_two (hsel : Region.noSelect ops = true) {ts : List Nat} {R : HP} [Loc B R] {T : Act → World → Prop} : ∀ (n : Nat) (l1 l2 : List Nat) (listed : Array Bool) (a : Act) (w : World) (Φ1 Φ2 : List Value → HP → Prop) (A1 A2 : HP), l1.length + l2.length = n → Loc B A1 → Loc B A2 →
    TwoOk md ops listed l1 l2 ts → TW P ops B (opsOf ops l1) Φ1 a A1 → TW P ops B (opsOf ops l2) Φ2 a A2 → B ≤ w.heap.size → Own B (A1 * (A2 * R)) w →
    (∀ vs1 A1' vs2 A2' w', Φ1 vs1 A1' → Φ2 vs2 A2' → Own B (A1' * (A2' * R)) w' → Below B w w' → T (putAll (opsOf ops l2) vs2 (putAll (opsOf ops l1) vs1 a)) w') →
    wpL P md ops Q (fun w => Own B R w) T n listed a w
  | 0, l1, l2, listed, a, w, Φ1, Φ2, A1, A2, hn, _, _, ok, h1, h2, hB, hO, hK => by
    obtain rfl : l1 = [] := List.eq_nil_of_length_eq_zero (by omega)
    obtain rfl : l2 = [] := List.eq_nil_of_length_eq_zero (by omega)
    exact hK [] A1 [] A2 w h1 h2 hO (Below.refl B w)
  | n + 1, l1, l2, listed, a, w, Φ1, Φ2, A1, A2, hn, k1, k2, ok, h1, h2, hB, hO, hK => by
    have hne : l1 ≠ [] ∨ l2 ≠ [] := by
      cases l1 with
      | nil => right; intro e; subst e; simp at hn
      | cons x l => left; simp
    have hrdy : Region.ready md ops listed ≠ [] := by
      intro h0
      rcases hne with hne | hne
      · obtain ⟨x, l, rfl⟩ : ∃ x l, l1 = x :: l := by cases l1 with | nil => exact absurd rfl hne | cons x l => exact ⟨x, l, rfl⟩
        have hlex := ok.lex1
        simp only [lexOk, Bool.and_eq_true] at hlex
        have hun := ok.un x (by simp)
        have : x ∈ Region.ready md ops listed := mem_ready'.2 ⟨hun.1, hun.2, hlex.1⟩
        rw [h0] at this; cases this
      · obtain ⟨x, l, rfl⟩ : ∃ x l, l2 = x :: l := by cases l2 with | nil => exact absurd rfl hne | cons x l => exact ⟨x, l, rfl⟩
        have hlex := ok.lex2
        simp only [lexOk, Bool.and_eq_true] at hlex
        have hun := ok.un x (by simp)
        have : x ∈ Region.ready md ops listed := mem_ready'.2 ⟨hun.1, hun.2, hlex.1⟩
        rw [h0] at this; cases this
    have hd : ∀ {A1' A2' : HP} {w' : World}, Loc B A1' → Loc B A2' → Own B (A1' * (A2' * R)) w' → Own B R w' := fun _ _ h => h.right.right
    refine ⟨hrdy, fun i hi => ?_⟩
    have hlt := (mem_ready'.1 hi).1
    obtain ⟨o, ho⟩ : ∃ o, ops[i]? = some o := ⟨_, Array.getElem?_eq_getElem hlt⟩
    unfold wpOp
    simp only [ho]
    rcases ok.only hne hi with ⟨l, rfl⟩ | ⟨l, rfl⟩
    · rw [opsOf_cons ho] at h1
      have hap : ∀ o' ∈ opsOf ops l2, (∃ j : Nat, ops[j]? = some o') ∧ o'.apart ops o = true := fun o' h' => by
        obtain ⟨j, hj, hoj⟩ := mem_opsOf h'
        exact ⟨⟨j, hoj⟩, (ok.apart i List.mem_cons_self j hj o o' ho hoj).2⟩
      have hlen : l.length + l2.length = n := by simp at hn; omega
      obtain ⟨_, h1 | h1⟩ := h1
      · rw [if_pos h1.1]
        left
        refine h1.2.wp hB hO fun v A' w' ⟨kl, ht⟩ hO' hb => ⟨hd kl k2 hO', ?_⟩
        refine wpL_two hsel n l l2 _ _ w' (fun vs => Φ1 (v :: vs)) Φ2 A' A2 hlen kl k2 ok.strike ht (h2.put hsel _ _ _ _ hap) (Nat.le_trans hB hb.size) hO' fun vs1 A1' vs2 A2' w'' p1 p2 hO'' hb' => ?_
        have := hK (v :: vs1) A1' vs2 A2' w'' p1 p2 hO'' (hb.trans hb')
        rw [opsOf_cons ho] at this
        exact this
      · rw [if_neg (by rw [h1.1]; exact Bool.false_ne_true)]
        refine ⟨hd k1 k2 hO, wpL_two hsel n l l2 _ _ w (fun vs => Φ1 (undef :: vs)) Φ2 A1 A2 hlen k1 k2 ok.strike h1.2 (h2.put hsel _ _ _ _ hap) hB hO fun vs1 A1' vs2 A2' w'' p1 p2 hO'' hb' => ?_⟩
        have := hK (undef :: vs1) A1' vs2 A2' w'' p1 p2 hO'' hb'
        rw [opsOf_cons ho] at this
        exact this
    · rw [opsOf_cons ho] at h2
      have hap : ∀ o' ∈ opsOf ops l1, (∃ j : Nat, ops[j]? = some o') ∧ o'.apart ops o = true := fun o' h' => by
        obtain ⟨j, hj, hoj⟩ := mem_opsOf h'
        exact ⟨⟨j, hoj⟩, (ok.apart j hj i List.mem_cons_self o' o hoj ho).1⟩
      have hlen : l1.length + l.length = n := by simp at hn; omega
      obtain ⟨_, h2 | h2⟩ := h2
      · rw [if_pos h2.1]
        left
        refine h2.2.wp hB (hO.cast (sep_left_comm _ _ _)) fun v A' w' ⟨kl, ht⟩ hO' hb => ⟨hd kl k1 hO', ?_⟩
        refine wpL_two hsel n l1 l _ _ w' Φ1 (fun vs => Φ2 (v :: vs)) A1 A' hlen k1 kl ok.swap.strike.swap (h1.put hsel _ _ _ _ hap) ht (Nat.le_trans hB hb.size) (hO'.cast (sep_left_comm _ _ _)) fun vs1 A1' vs2 A2' w'' p1 p2 hO'' hb' => ?_
        have := hK vs1 A1' (v :: vs2) A2' w'' p1 p2 hO'' (hb.trans hb')
        rw [opsOf_cons ho] at this
        rw [putAll_put _ _ _ _ _ (fun o' h' => (hap o' h').2)]
        exact this
      · rw [if_neg (by rw [h2.1]; exact Bool.false_ne_true)]
        refine ⟨hd k1 k2 hO, wpL_two hsel n l1 l _ _ w Φ1 (fun vs => Φ2 (undef :: vs)) A1 A2 hlen k1 k2 ok.swap.strike.swap (h1.put hsel _ _ _ _ hap) h2.2 hB hO fun vs1 A1' vs2 A2' w'' p1 p2 hO'' hb' => ?_⟩
        have := hK vs1 A1' (undef :: vs2) A2' w'' p1 p2 hO'' hb'
        rw [opsOf_cons ho] at this
        rw [putAll_put _ _ _ _ _ (fun o' h' => (hap o' h').2)]
        exact this

/-- THE RULE: us free · ls: reads that R decides, ahead of ts · l1 and l2 two threads · ts the rest, in their order. -/
theorem wp_region_ltwo {id : Nat} {a : Act} {w : World} (us ls l1 l2 ts : List Nat) (A1 A2 R : HP) [k1 : Loc B A1] [k2 : Loc B A2] [Loc B R] (hm : P.follows .mixedOrders = true)
    (hB : (freeB .any ops us (Array.replicate ops.size false) && mixB .any ops (markAll us (Array.replicate ops.size false)) (ls ++ (l1 ++ l2)) ts && twoB .any ops (markAll ls (markAll us (Array.replicate ops.size false))) l1 l2 ts) = true)
    (hf : ops.size = us.length + ((ls.length + (l1.length + l2.length)) + ts.length))
    (hQ : ∀ c a d v w, Q (.panic c) (a.put (some d) v) w → Q (.panic c) a w) (hsz : B ≤ w.heap.size) (hO : Own B (A1 * (A2 * R)) w.drew)
    (h : wpFree P ops (fun a1 => wpLate P ops (fun w => Own B R w) (fun a2 => ∃ Φ1 Φ2 : List Value → HP → Prop, TW P ops B (opsOf ops l1) Φ1 a2 A1 ∧ TW P ops B (opsOf ops l2) Φ2 a2 A2 ∧
      ∀ vs1 A1' vs2 A2' w', Φ1 vs1 A1' → Φ2 vs2 A2' → Own B (A1' * (A2' * R)) w' → Below B w w' → wpList P ops Q (ts.filterMap fun i => ops[i]?) (putAll (opsOf ops l2) vs2 (putAll (opsOf ops l1) vs1 a2)) w')
      (ls.filterMap fun i => ops[i]?) a1) (us.filterMap fun i => ops[i]?) a) : (Code.region id ops true).wp P Q a w := by
  simp only [Bool.and_eq_true] at hB
  obtain ⟨⟨hB1, hB2⟩, hB3⟩ := hB
  obtain ⟨hsel, ok1⟩ := mixB_ok hB2
  obtain ⟨_, ok2⟩ := twoB_ok hB3
  have hts : ∀ i ∈ ts, i < ops.size := fun i hi => (ok1.un i (by simp [hi])).1
  refine wp_region_any hm ?_
  have hR : Own B R w.drew := hO.right.right
  have hgo : wpAny P .any ops Q (us.length + ((ls.length + (l1.length + l2.length)) + ts.length)) (Array.replicate ops.size false) a w.drew := by
    refine wpAny_free hQ hsel us _ a hB1 (fun a1 h1 => ?_) h
    refine wpL_any (S := fun w => Own B R w) (T := fun a4 w4 => wpOps P ops Q ts a4 w4) (fun _ _ h => h) _ (ls ++ (l1 ++ l2)) _ a1 _ (by simp) ok1 ?_
    have := wpL_lates (P := P) (S := fun w => Own B R w) (T := fun a4 w4 => wpOps P ops Q ts a4 w4) (w := w.drew) hsel hQ hR ls (l1 ++ l2) _ a1 ok1 (fun a2 ⟨Φ1, Φ2, t1, t2, hK⟩ _ => ?_) h1
    · rw [List.length_append]
      exact wpL_two hsel (l1.length + l2.length) l1 l2 _ a2 _ Φ1 Φ2 A1 A2 rfl k1 k2 ok2 t1 t2 hsz hO fun vs1 A1' vs2 A2' w' p1 p2 ho hb => wpOps_list ts _ w' hts (hK vs1 A1' vs2 A2' w' p1 p2 ho ((Below.refl B w).drew.trans hb))
    · rw [List.length_append] at this
      exact this
  rw [← hf] at hgo
  exact hgo

/-- A step that makes memory, or turns what the thread owns. -/
theorem tw_run {o : Oper} {l : List Oper} {Φ : List Value → HP → Prop} {a : Act} {A : HP} [k : Loc B A] (Ψ : Value → HP → Prop) (hw : Region.wanted o (yielded ops a.tmps) = true)
    (hr : ∀ (R : HP) [Loc B R] (w : World), B ≤ w.heap.size → Own B (A * R) w → ∃ v A' w', (execOp a.eval o).run P w = .ok (.value v) w' ∧ (Loc B A' ∧ Ψ v A') ∧ Own B (A' * R) w' ∧ Below B w w')
    (h : ∀ v A', Loc B A' → Ψ v A' → TW P ops B l (fun vs => Φ (v :: vs)) (a.put o.dst v) A') : TW P ops B (o :: l) Φ a A :=
  ⟨k, .inl ⟨hw, fun R _ w hB hO => by
    obtain ⟨v, A', w', he, ⟨kl, hp⟩, ho, hb⟩ := hr R w hB hO
    rw [he]
    exact ⟨A', ⟨kl, h v A' kl hp⟩, ho, hb⟩⟩⟩

theorem exec_append {o : Oper} {a : Act} {w w' : World} (s x : Operand) (t : TypeId) {v u v' : Value} (ho : o.op = .call { callee := .builtin .append, args := #[s, x], argTypes := #[t, t] }) (hs : a.eval s = v) (hx : a.eval x = u)
    (hr : (Builtin.append_ #[t, t] o.type #[v, u]).run P w = .ok v' w') : (execOp a.eval o).run P w = .ok (.value v') w' := by
  unfold execOp
  simp only [ho, resolve, invoke, builtin, Sem.run_bind, Sem.run_pure, Result.andThen_ok, List.map_toArray, List.map_cons, List.map_nil, hs, hx, hr]
end
end Go.Proofs.YtmppagiaonbggaaDoor

/- The walk over Encode of package entry. -/
namespace Go.Proofs.YtmppagiaonbggaaDoor
set_option linter.unusedVariables false
set_option linter.unusedSimpArgs false
set_option maxRecDepth 100000
open Go.RowKit

/-- Bytes that are read alone, of a block that is owned. -/
def Rdo (v : Value) (l : List UInt8) : HP := fun w F => Rd w v (bytesU l) ∧ ∀ a n c, v = .slice (some a) n c → F a.block
instance Loc.rdo {B : Nat} {v : Value} {l : List UInt8} : Loc B (Rdo v l) where
  keep := fun w w' F h _ ⟨⟨A, c, e, hc⟩, hF⟩ => ⟨⟨A, c, e, fun hne => by
    obtain ⟨ad, rfl, hcc⟩ := hc hne
    exact ⟨ad, rfl, fun j u hu => (World.cell?_of_block (by rw [add_block]; exact h _ (hF _ _ _ e))).trans (hcc j u hu)⟩⟩, hF⟩
  up := fun w F F' h ⟨hr, hF⟩ => ⟨hr, fun a n c e => h _ (hF a n c e)⟩
theorem Own.rdo {B : Nat} {v : Value} {l : List UInt8} {R : HP} {w : World} (h : Own B (Rdo v l * R) w) : Rd w v (bytesU l) := by
  obtain ⟨F, hf, F1, F2, hd, h1, h2, ha, hr⟩ := h
  exact ha.1
set_option maxRecDepth 100000 in
theorem conv_own {B : Nat} {R : HP} [Loc B R] {w : World} (hB : B ≤ w.heap.size) (h : Own B R w) (l : List UInt8) : ∃ A c w', (convert 9 32 (.string (str l))).run Tryd.prog w = .ok (.slice A l.length c) w' ∧ Own B (Rdo (.slice A l.length c) l * R) w' ∧ Below B w w' := by
  obtain ⟨A, c, w', hr, hrd, hb⟩ := conv_bytes w l
  have h2 := run_bytes_of_string w 9 32 5 (str l) Tryd.underlying9 Tryd.underlying32 Tryd.underlying5
  rw [hr] at h2
  injection h2 with e1 e2
  injection e1 with e3 e4 e5
  refine ⟨A, c, w', hr, Own.turn hB h.emp hb.size fun F _ _ => ⟨fun k => k = w.heap.size, fun k hk => .inr ⟨by omega, ?_⟩, ⟨hrd, fun a n c' e => ?_⟩, fun k hk _ => hb.block k hk⟩, hb.mono hB⟩
  · subst hk; rw [e2]; simp
  · injection e with e _ _
    rw [e3] at e
    injection e with e
    rw [← e]

theorem obytes_len (x : List UInt8) : (obytes x).length ≤ 6 + x.length := by unfold obytes; rw [List.length_append]; have := onumI_len (x.length : Int); omega
theorem obytes_ret (v u : Value) (l x : List UInt8) (hl : l.length ≤ 140737488000000) (hx : x.length ≤ 200000) (w : World) (hr : Rd w v (bytesU l)) (hu : Rd w u (bytesU x)) :
    Calls Tryd.prog 36 #[v, u] w (RetB w (l ++ obytes x)) := by
  have := obytes_any v u l x hl hx w hr hu
  rw [List.append_assoc] at this
  exact this

theorem index5 (W : World) (a b c d e : Int) (t : Nat) (ht : t = 0 ∨ t = 1 ∨ t = 2 ∨ t = 3 ∨ t = 4) :
    (Instr.index 72 (.agg #[.int .i64 a, .int .i64 b, .int .i64 c, .int .i64 d, .int .i64 e]) (.int .i64 (t : Int))).run Tryd.prog W = .ok (.int .i64 ([a, b, c, d, e].getD t 0)) W := by
  have h1 : (Tryd.prog.info? 3).map (fun i => i.size) = some 1 := by kernel_rfl
  obtain ⟨i0, hi, hs⟩ := Option.map_eq_some_iff.1 h1
  have h2 := Tryd.underlying3
  rcases ht with rfl | rfl | rfl | rfl | rfl <;> simp [Instr.index, asIntOf, run_underlying Tryd.underlying72, part, sizeOf, typeInfo, hi, hs, run_underlying h2, go_sem]
theorem exec_conv {P : Program} {o : Oper} {a : Act} {w w' : World} (x : Operand) (s t : TypeId) {v u : Value} (ho : o.op = .convert s t x) (hx : a.eval x = v) (hr : (convert s t v).run P w = .ok u w') : (execOp a.eval o).run P w = .ok (.value u) w' := by
  unfold execOp
  simp only [ho, Sem.run_bind, Sem.run_pure, hx, hr, Result.andThen_ok]
/-- A row that a call made takes the place of another one. -/
theorem own_new {B : Nat} {R : HP} [Loc B R] {w w1 : World} {v0 v1 : Value} {old L : List UInt8} (hB : B ≤ w.heap.size) (o : Own B (Rw 5 1 v0 old.length (bytesU old) * R) w)
    (ho1 : w1.ownsRow w.heap.size 5 1 v1 L.length (bytesU L)) (b1 : Below w.heap.size w w1) :
    ∃ (L' : List UInt8) (A1 : Option Addr) (c1 : Nat), Hid (L' = L) ∧ v1 = .slice A1 L'.length c1 ∧ Own B (Rw 5 1 (.slice A1 L'.length c1) L'.length (bytesU L') * R) w1 ∧ Below B w w1 := by
  have o1 := Own.fresh hB o ho1 b1
  obtain ⟨A1, c1, rfl⟩ := o1.row_n
  exact ⟨L, A1, c1, Lib.hid rfl, rfl, (o1.cast (sep_left_comm _ _ _)).right, b1.mono hB⟩
def EncP (w : World) (l : List En) (e : Ending) (w' : World) : Prop :=
  if fineB l then ∃ v, e = .returned (.tuple #[v, .int .i64 0]) ∧ w'.ownsRow w.heap.size 5 1 v (encL l).length (bytesU (encL l)) ∧ Below w.heap.size w w'
  else e = .returned (.tuple #[.slice none 0 0, .int .i64 1]) ∧ Below w.heap.size w w'

set_option maxRecDepth 100000 in
set_option maxHeartbeats 6400000 in
theorem encode_any (A : Option Addr) (c : Nat) (l : List En) (hl : l.length ≤ 4294967296) (ok : ∀ e ∈ l, e.ok) (hx : ∀ e ∈ l, e.path.length ≤ 4294967280) (w : World) (h : Sh w) (hr : RdA 7 enL w A l) :
    Calls Tryd.prog 18 #[.slice A l.length c] w (EncP w l) := by
  have Fi := fine_any A c l hl ok hx w h hr
  cases hff : fineB l with
  | false =>
    have e0 : Hid (∀ e w', (e = .returned (.tuple #[.slice none 0 0, .int .i64 1]) ∧ Below w.heap.size w w') → EncP w l e w') := Lib.hid (fun e w' h => by unfold EncP; rw [hff]; exact h)
    rw [hff] at Fi
    clear hr h hff
    go_enter Tryd.func18, Tryd.ntmps18
    go_wp2_with fail
    refine Fi.mono ?_
    rintro e w1 ⟨rfl, b1⟩
    go_wp2
    go_ret2
    exact e0.out _ _ ⟨rfl, b1⟩
  | true =>
    have e0 : Hid (∀ e w', (∃ v, e = .returned (.tuple #[v, .int .i64 0]) ∧ w'.ownsRow w.heap.size 5 1 v (encL l).length (bytesU (encL l)) ∧ Below w.heap.size w w') → EncP w l e w') := Lib.hid (fun e w' h => by unfold EncP; rw [hff]; exact h)
    have Hr := Lib.hid (fun w1 (b : Below w.heap.size w w1) => hr.below b)
    have Hx := Lib.hid (fine_num hff)
    have hl1024 : l.length ≤ 1024 := (whyE_zero (fineB_true hff).1).2.1
    have n1 : (l.length : Int) ≤ 1024 := by omega
    have N0 := fun w1 => number_any (.slice none 0 0) [] (by simp) (l.length : Int) w1 (Rd.nil w1)
    have He : Hid (encL l = onumI (l.length : Int) ++ l.flatMap encE) := Lib.hid rfl
    have h6 := onumI_len (l.length : Int)
    rw [hff] at Fi
    simp only [List.nil_append] at N0
    clear hr hx h hff ok hl
    go_enter Tryd.func18, Tryd.ntmps18
    go_wp2_with fail
    refine Fi.mono ?_
    rintro e w0 ⟨rfl, b0⟩
    go_wp2_with fail
    refine (N0 w0).mono ?_
    rintro e w1 ⟨v1, rfl, ho1, b1⟩
    have o1 : Own w.heap.size (Rw 5 1 v1 (onumI (l.length : Int)).length (bytesU (onumI (l.length : Int))) * Emp) w1 := Own.fresh b0.size (Own.start _ _) ho1 b1
    have hb1 := b0.trans (b1.mono b0.size)
    generalize hL0 : onumI (l.length : Int) = L0 at *
    obtain ⟨A1, c1, rfl⟩ := o1.row_n
    clear hL0 ho1 N0 b0 b1 Fi
    go_wp2
    go_loopg [4, 17] l.length (fun k v u wr => ∃ (i : Nat) (out : List UInt8) (A' : Option Addr) (c' : Nat), k + i = l.length ∧ u = .int .i64 (i : Int) ∧ v = .slice A' out.length c' ∧ Own w.heap.size (Rw 5 1 (.slice A' out.length c') out.length (bytesU out) * Emp) wr ∧ Below w.heap.size w wr ∧ out.length ≤ 6 + 554 * i ∧ Hid (out = L0 ++ (l.take i).flatMap encE))
    case atStart => exact ⟨0, L0, A1, c1, by omega, rfl, rfl, o1, hb1, by omega, Lib.hid (by simp)⟩
    case round =>
      clear o1 hb1
      obtain ⟨i, out, A', c', hk, rfl, rfl, ho, hb, hol, he⟩ := hrel
      have i0' : (0 : Int) ≤ (i : Int) := by omega
      by_cases hlt : (i : Int) < (l.length : Int)
      · obtain ⟨j, rfl⟩ : ∃ j, gk = j + 1 := ⟨gk - 1, by omega⟩
        have hil : i < l.length := by omega
        obtain ⟨b, off, rfl, q, d⟩ := Hr.out _ hb i hil
        have hxi := Hx.out _ (List.getElem_mem hil)
        have Hsn : Hid ((l.take (i + 1)).flatMap encE = (l.take i).flatMap encE ++ encE l[i]) := Lib.hid (by rw [List.take_succ_eq_append_getElem hil, List.flatMap_append]; simp)
        have Hk := Lib.hid hk
        clear hk
        generalize l[i] = x at *
        have Hlen := Lib.hid (encE_len hxi)
        have Henc : Hid (encE x = (numsE x).flatMap onumI ++ (obytes x.path ++ obytes x.tgt)) := Lib.hid (by simp [encE, numsE])
        have Hnum := Lib.hid hxi
        obtain ⟨path, kind, mode, time, tgt, beg, size⟩ := x
        obtain ⟨d0, d1, d2, d3, d4, d5, d6⟩ := RdA.cells7 d
        simp only at d0 d1 d2 d3 d4 d5 d6 Hsn Henc
        clear d hxi
        have o3 := (ho.new hb.size 71 #[.string (str path), .int .i64 kind, .int .i64 mode, .int .i64 time, .string (str tgt), .int .i64 beg, .int .i64 size]).foc (Rw 5 1 (.slice A' out.length c') out.length (bytesU out))
        have hb2 := hb.alloc hb.size (.cells #[.string (str path), .int .i64 kind, .int .i64 mode, .int .i64 time, .string (str tgt), .int .i64 beg, .int .i64 size] 71)
        clear ho hb
        generalize hX0 : wr.heap.size = X0 at *
        go_wp2
        go_loopg [4, 32] 5 (fun k v u wr2 => ∃ (t : Nat) (out2 : List UInt8) (A2 : Option Addr) (c2 : Nat), k + t = 5 ∧ u = .int .i64 (t : Int) ∧ v = .slice A2 out2.length c2 ∧ Own w.heap.size (Rw 5 1 (.slice A2 out2.length c2) out2.length (bytesU out2) * (Bk X0 71 #[.string (str path), .int .i64 kind, .int .i64 mode, .int .i64 time, .string (str tgt), .int .i64 beg, .int .i64 size] * Emp)) wr2 ∧ Below w.heap.size w wr2 ∧ out2.length ≤ out.length + 6 * t ∧ Hid (out2 = out ++ ((numsE ⟨path, kind, mode, time, tgt, beg, size⟩).take t).flatMap onumI))
        case atStart => exact ⟨0, out, A', c', rfl, rfl, rfl, o3, hb2, by omega, Lib.hid (by simp)⟩
        case round =>
          clear o3 hb2
          obtain ⟨t, out2, A2, c2, hkt, rfl, rfl, ho, hb, hol2, he2⟩ := hrel
          have t0' : (0 : Int) ≤ (t : Int) := by omega
          by_cases hlt2 : (t : Int) < 5
          · obtain ⟨jt, rfl⟩ : ∃ j, gk = j + 1 := ⟨gk - 1, by omega⟩
            have ht5 : t = 0 ∨ t = 1 ∨ t = 2 ∨ t = 3 ∨ t = 4 := by omega
            have kx := fun W => index5 W kind mode time beg size t ht5
            have Htk : Hid ((numsE ⟨path, kind, mode, time, tgt, beg, size⟩).take (t + 1) = (numsE ⟨path, kind, mode, time, tgt, beg, size⟩).take t ++ [[kind, mode, time, beg, size].getD t 0]) := Lib.hid (by rcases ht5 with rfl | rfl | rfl | rfl | rfl <;> rfl)
            generalize [kind, mode, time, beg, size].getD t 0 = z at *
            have N := number_any (.slice A2 out2.length c2) out2 (by omega) z wr ho.rd
            have hz6 := onumI_len z
            have Hkt := Lib.hid hkt
            clear hkt ht5
            go_wp2_with fail
            refine N.mono ?_
            rintro e w3 ⟨v1, rfl, ho1, b1⟩
            obtain ⟨out3, A3, c3, he3, rfl, o4, b4⟩ := own_new hb.size ho ho1 b1
            have hb4 := hb.trans b4
            clear ho hb ho1 b1 b4 N
            go_wp2
            go_roundg jt
            case measure => omega
            case rel => exact ⟨t + 1, out3, A3, c3, by have := Hkt.out; omega, rfl, rfl, o4, hb4, by rw [he3.out, List.length_append]; omega, Lib.hid (by rw [he3.out, he2.out, Htk.out]; simp)⟩
          · obtain rfl : t = 5 := by omega
            have hp256 := Hnum.out.path
            have ht256 := Hnum.out.tgt
            simp only at hp256 ht256
            have hop := obytes_len path
            have hot := obytes_len tgt
            go_wp2
            refine wp_region_ltwo (B := w.heap.size) [0, 1, 5] [2, 6] [3, 4] [7] [8, 9] (Rw 5 1 (.slice A2 out2.length c2) out2.length (bytesU out2)) Emp (Bk X0 71 #[.string (str path), .int .i64 kind, .int .i64 mode, .int .i64 time, .string (str tgt), .int .i64 beg, .int .i64 size] * Emp) mixed (by kernel_rfl) rfl (fun _ _ _ _ _ h => h) hb.size ((ho.emp.cast (by ac_rfl)).drew hb.size) ?_
            simp only [List.filterMap_cons, List.filterMap_nil, List.getElem?_toArray, List.getElem?_cons_succ, List.getElem?_cons_zero]
            repeat (
              refine free_val ?_ rfl (fun w1 => ?_) ?_
              rotate_left
              · (go_simp
                 try go_bits
                 rfl)
              simp only [Act.put, List.setIfInBounds_toArray, List.set_cons_zero, List.set_cons_succ])
            refine free_nil ?_
            repeat (first
              | (refine late_val ?_ rfl (fun w1 hS => ?_) ?_
                 rotate_left
                 · (have c0 : w1.cell? ⟨X0, 0, none⟩ = some (.string (str path)) := hS.cell 0; have c4 : w1.cell? ⟨X0, 4, none⟩ = some (.string (str tgt)) := hS.cell 4
                    go_simp
                    try go_bits
                    rfl)
                 simp only [Act.put, List.setIfInBounds_toArray, List.set_cons_zero, List.set_cons_succ])
              | (refine late_off rfl ?_
                 simp only [Act.put, List.setIfInBounds_toArray, List.set_cons_zero, List.set_cons_succ]))
            refine late_nil ?_
            refine ⟨fun vs F => ∃ v3 out3 A3 c3, vs = [v3, .slice A3 out3.length c3] ∧ Hid (out3 = out2 ++ obytes path) ∧ F = Rw 5 1 (.slice A3 out3.length c3) out3.length (bytesU out3), fun vs F => ∃ A7 c7, vs = [.slice A7 tgt.length c7] ∧ F = Rdo (.slice A7 tgt.length c7) tgt, ?_, ?_, ?_⟩
            · simp only [opsOf, List.filterMap_cons, List.filterMap_nil, List.getElem?_toArray, List.getElem?_cons_succ, List.getElem?_cons_zero]
              refine tw_run (fun v F => ∃ A3 c3, v = .slice A3 path.length c3 ∧ F = (Rdo (.slice A3 path.length c3) path * Rw 5 1 (.slice A2 out2.length c2) out2.length (bytesU out2))) rfl (fun R1 _ w1 hB1 hS => ?_) ?_
              · obtain ⟨A3, c3, w3, hrun, o3, b3⟩ := conv_own hB1 hS path
                exact ⟨_, _, w3, exec_conv (.tmp 41) 9 32 rfl rfl hrun, ⟨inferInstance, A3, c3, rfl, rfl⟩, o3.assoc', b3⟩
              · rintro v3 F3 _ ⟨A3, c3, rfl, rfl⟩
                simp only [Act.put, List.setIfInBounds_toArray, List.set_cons_zero, List.set_cons_succ]
                refine tw_call 36 #[.slice A2 out2.length c2, .slice A3 path.length c3] (fun v F => ∃ (out3 : List UInt8) (A4 : Option Addr) (c4 : Nat), v = .slice A4 out3.length c4 ∧ Hid (out3 = out2 ++ obytes path) ∧ F = Rw 5 1 (.slice A4 out3.length c4) out3.length (bytesU out3)) rfl (fun R1 _ w1 hS => by go_simp) (fun R1 _ w1 hB1 hS => (obytes_ret (.slice A2 out2.length c2) (.slice A3 path.length c3) out2 path (by omega) (by omega) w1 (hS.assoc.right.rd) (hS.assoc.rdo)).mono ?_) ?_
                · rintro e w2 ⟨v1, rfl, ho1, b1⟩
                  obtain ⟨out3, A4, c4, he3, rfl, o4, b4⟩ := own_new hB1 (hS.assoc.right) ho1 b1
                  exact ⟨_, _, rfl, ⟨inferInstance, out3, A4, c4, rfl, he3, rfl⟩, o4, b4⟩
                · rintro v4 F4 _ ⟨out3, A4, c4, rfl, he3, rfl⟩
                  exact tw_nil ⟨_, out3, A4, c4, rfl, he3, rfl⟩
            · simp only [opsOf, List.filterMap_cons, List.filterMap_nil, List.getElem?_toArray, List.getElem?_cons_succ, List.getElem?_cons_zero]
              refine tw_run (fun v F => ∃ A3 c3, v = .slice A3 tgt.length c3 ∧ F = Rdo (.slice A3 tgt.length c3) tgt) rfl (fun R1 _ w1 hB1 hS => ?_) ?_
              · obtain ⟨A3, c3, w3, hrun, o3, b3⟩ := conv_own hB1 hS.right tgt
                exact ⟨_, _, w3, exec_conv (.tmp 45) 9 32 rfl rfl hrun, ⟨inferInstance, A3, c3, rfl, rfl⟩, o3, b3⟩
              · rintro v3 F3 _ ⟨A3, c3, rfl, rfl⟩
                exact tw_nil ⟨A3, c3, rfl, rfl⟩
            · rintro vs1 F1 vs2 F2 w4 ⟨v3, out3, A3, c3, rfl, he3, rfl⟩ ⟨A7, c7, rfl, rfl⟩ o4 b4
              simp only [opsOf, putAll, Act.put, List.filterMap_cons, List.filterMap_nil, List.getElem?_toArray, List.getElem?_cons_succ, List.getElem?_cons_zero, List.setIfInBounds_toArray, List.set_cons_zero, List.set_cons_succ]
              have hb4 := hb.trans b4
              have ho3 : out3.length = out2.length + (obytes path).length := by rw [he3.out, List.length_append]
              have N := obytes_ret (.slice A3 out3.length c3) (.slice A7 tgt.length c7) out3 tgt (by omega) (by omega) w4 o4.rd (o4.cast (sep_left_comm _ _ _)).rdo
              have o5 := (o4.cast (show _ = Rw 5 1 (.slice A3 out3.length c3) out3.length (bytesU out3) * (Rdo _ _ * (Bk X0 _ _ * Emp)) by ac_rfl))
              clear ho hb o4 b4 ho3
              go_wp2_with fail
              refine N.mono ?_
              rintro e w5 ⟨v1, rfl, ho1, b1⟩
              obtain ⟨out5, A5, c5, he5, rfl, o6, b6⟩ := own_new hb4.size o5 ho1 b1
              have hb6 := hb4.trans b6
              have o7 := (o6.cast (show _ = Rdo _ _ * (Bk X0 _ _ * (Rw _ _ _ _ _ * Emp)) by ac_rfl)).right.right
              clear N o5 hb4 o6 b6 ho1 b1
              go_wp2
              go_roundg j
              case measure => omega
              case rel =>
                have hfin : out5 = L0 ++ (l.take (i + 1)).flatMap encE := by
                  rw [he5.out, he3.out, he2.out, Hsn.out, Henc.out, he.out]
                  have : (numsE ⟨path, kind, mode, time, tgt, beg, size⟩).take 5 = numsE ⟨path, kind, mode, time, tgt, beg, size⟩ := rfl
                  rw [this]
                  simp only [List.append_assoc]
                exact ⟨i + 1, out5, A5, c5, by have := Hk.out; omega, rfl, rfl, o7, hb6, by
                  have h1 := congrArg List.length hfin
                  have h2 := congrArg List.length he.out
                  have h3 := Hlen.out
                  rw [Hsn.out] at h1
                  simp only [List.length_append] at h1 h2
                  omega, Lib.hid hfin⟩
      · obtain rfl : i = l.length := by omega
        rw [List.take_length] at he
        go_wp2
        go_ret2
        exact e0.out _ _ ⟨_, rfl, by rw [He.out, ← he.out]; exact ho.row, hb⟩
end Go.Proofs.YtmppagiaonbggaaDoor

/- What Plan of package source says; a plan's making; whole stores. -/
namespace Go.Proofs.YtmppagiaonbggaaDoor
set_option linter.unusedVariables false
set_option linter.unusedSimpArgs false
set_option maxRecDepth 100000
open Go.RowKit

theorem Own.setRow {B : Nat} {R : HP} [Loc B R] {w : World} {g : Nat} {t : TypeId} {cs : Array Value} (hB : B ≤ w.heap.size) (h : Own B (Bk g t cs * R) w) (ds : Array Value) :
    B ≤ (w.setRow g ds).heap.size ∧ Own B (Bk g t ds * R) (w.setRow g ds) ∧ Below B w (w.setRow g ds) := by
  have hsz : (w.setRow g ds).heap.size = w.heap.size := by simp [World.setRow]
  have hg := h.bk
  refine ⟨by rw [hsz]; exact hB, ?_, below_setRow (Below.refl B w) hg.2.1 ds⟩
  refine Own.turn hB h (by rw [hsz]; exact Nat.le_refl _) fun F _ ⟨hF, hh⟩ => ⟨fun k => k = g, fun k hk => .inl (hk ▸ hF), ⟨rfl, setRow_heap w g cs ds t (0, 0) hh⟩, fun k hk hn => ?_⟩
  exact setRow_other w g k ds (fun e => hn (e ▸ hF))

theorem dataLen_ents : ∀ (l : List Fi) (a : Int), sumS (entsFrom a l) = (dataLen l : Int)
  | [], _ => rfl
  | f :: l, a => by
    have := dataLen_ents l (a + f.data.length)
    simp only [entsFrom, sumS, List.map_cons, List.sum_cons, dataLen] at this ⊢
    rw [this]
    omega
theorem sumS_M : ∀ (l : List En), (∀ e ∈ l, plainP e) → sumM l = sumS l
  | [], _ => rfl
  | e :: l, h => by
    have := sumS_M l (fun x hx => h x (List.mem_cons_of_mem _ hx))
    have h1 := (h e List.mem_cons_self).2.2.2.2.1
    simp only [sumM, sumS, List.map_cons, List.sum_cons] at this ⊢
    rw [this]
    omega
theorem total_ents {l : List Fi} (h : whyE (ents l) = 0) : totalE (ents l) = (dataLen l : Int) ∧ dataLen l ≤ 4194304 := by
  have hf := fineB_ents h
  have hz := whyE_zero h
  have h1 : sumS (ents l) = (dataLen l : Int) := dataLen_ents l 0
  refine ⟨by unfold totalE; rw [if_pos hf]; exact h1, ?_⟩
  have h2 := hz.2.2.1
  rw [sumC_min, sumS_M _ hz.2.2.2, h1] at h2
  omega
theorem encL_le {l : List En} (h : fineB l = true) : (encL l).length ≤ 1000000 := by
  have hz := whyE_zero (fineB_true h).1
  have hn := fine_num h
  unfold encL
  rw [List.length_append, List.length_flatMap]
  have h1 := onumI_len (l.length : Int)
  have h2 : (l.map fun e => (encE e).length).sum ≤ 554 * l.length := by
    clear h hz h1
    induction l with
    | nil => simp
    | cons e l ih =>
      have h3 := encE_len (hn e List.mem_cons_self)
      have h4 := ih (fun x hx => hn x (List.mem_cons_of_mem _ hx))
      simp only [List.map_cons, List.sum_cons, List.length_cons]
      omega
  have h3 := hz.2.1
  have h4 : (l.map fun e => (encE e).length).sum = (l.map (fun a => (encE a).length)).sum := rfl
  omega

/-- The operation that builds a struct, met by its run. -/
theorem wpList_build_at {P : Program} {ops : Array Oper} {Q : Exit → Act → World → Prop} {rest : List Oper} {o : Oper} {a : Act} {w : World} (hgd : o.guard = none) (t : TypeId) (parts : Array (Nat × Operand)) (ps : Array (Nat × Value)) {v : Value}
    (ho : o.op = .build t parts) (hps : (parts.map fun x => (x.1, a.eval x.2)) = ps) (hr : (Instr.build t ps).run P w = .ok v w)
    (h : wpList P ops Q rest (a.put o.dst v) w) : wpList P ops Q (o :: rest) a w := by
  refine wpList_plain hgd fun K hK => ?_
  unfold Oper.wp execOp
  simp only [ho, hps, hr, Sem.run_bind, Sem.run_pure, Result.andThen_ok]
  exact hK _ _ h
def zeroPn : Pn := ⟨0, 0, 0, List.replicate 32 0⟩
theorem build_plan (ch wi tot : Int) (D : List UInt8) (hD : D.length = 32) (w : World) : (Instr.build 27 #[(0, .int .i64 ch), (1, .int .i64 wi), (2, .int .i64 tot), (3, .agg (bytesU D).toArray)]).run Tryd.prog w = .ok (.agg (pnL ⟨ch, wi, tot, D⟩).toArray) w := by
  match D, hD with
  | [d0, d1, d2, d3, d4, d5, d6, d7, d8, d9, d10, d11, d12, d13, d14, d15, d16, d17, d18, d19, d20, d21, d22, d23, d24, d25, d26, d27, d28, d29, d30, d31], _ =>
    exact run_build w _ _ _ (by kernel_rfl)
theorem build_plan0 (w : World) : (Instr.build 27 #[]).run Tryd.prog w = .ok (.agg (pnL zeroPn).toArray) w := run_build w _ _ _ (by kernel_rfl)
theorem pnL_one (p : Pn) : (pnL p).toArray.all (·.oneCell') = true := by simp [pnL, bytesU, Value.oneCell']
theorem zeroPn_dg : zeroPn.dg.length = 32 := rfl

/-- What Plan answers. -/
def okCW (ch wi : Int) : Prop := 1 ≤ ch ∧ ch ≤ 65536 ∧ 1 ≤ wi ∧ wi ≤ 32768
instance (ch wi : Int) : Decidable (okCW ch wi) := by unfold okCW; infer_instance
def planP (l : List Fi) (ch wi : Int) (p : Pn) (z : Int) : Prop :=
  p.dg.length = 32 ∧ (whyE (ents l) ≠ 0 → p = zeroPn ∧ z = whyE (ents l)) ∧ (whyE (ents l) = 0 → ¬ okCW ch wi → p = zeroPn ∧ z = 1) ∧ (whyE (ents l) = 0 → okCW ch wi → p.ch = ch ∧ p.wi = wi ∧ p.tot = (dataLen l : Int) ∧ z = 0)
theorem may_plan {l : List Fi} (h : whyE (ents l) = 0) (ch wi : Int) (D : List UInt8) : (Pn.mayB ⟨ch, wi, totalE (ents l), D⟩ = true ↔ okCW ch wi) := by
  have ht := total_ents h
  unfold Pn.mayB okCW
  rw [ht.1]
  simp only [Bool.and_eq_true, decide_eq_true_eq]
  omega
theorem dataL_le {l : List Fi} (h : whyE (ents l) = 0) : (dataL l).length ≤ 4194304 := by rw [dataL_length]; exact (total_ents h).2
end Go.Proofs.YtmppagiaonbggaaDoor

/- The walk over Plan of package source, with its digest. -/
namespace Go.Proofs.YtmppagiaonbggaaDoor
set_option linter.unusedVariables false
set_option linter.unusedSimpArgs false
set_option maxRecDepth 100000
open Go.RowKit

/-- The plan, and what its digest is. -/
def planX (T : List Int) (l : List Fi) (ch wi : Int) (p : Pn) (z : Int) : Prop := planP l ch wi p z ∧ (whyE (ents l) = 0 → okCW ch wi → p.dg = shaF T (encL (ents l) ++ dataL l))
def z35 : Array Value :=
  #[.int .i64 0, .int .i64 0, .int .i64 0, .int .u8 0, .int .u8 0, .int .u8 0, .int .u8 0, .int .u8 0, .int .u8 0, .int .u8 0, .int .u8 0, .int .u8 0, .int .u8 0, .int .u8 0, .int .u8 0, .int .u8 0, .int .u8 0, .int .u8 0, .int .u8 0, .int .u8 0, .int .u8 0, .int .u8 0, .int .u8 0, .int .u8 0, .int .u8 0, .int .u8 0, .int .u8 0, .int .u8 0, .int .u8 0, .int .u8 0, .int .u8 0, .int .u8 0, .int .u8 0, .int .u8 0, .int .u8 0]
theorem z35_eq : z35 = (pnL zeroPn).toArray := rfl
set_option maxHeartbeats 3200000 in
theorem plan_ex (A : Option Addr) (c : Nat) (l : List (Fi × Value)) (hl : l.length ≤ 1000000) (hs : dataLen (l.map (·.1)) ≤ 1000000000) (ok : ∀ x ∈ l, x.1.ok) (ch wi : Int) (hch : okI ch) (hwi : okI wi) (T : List Int) (hTl : T.length = 64) (w : World) (hT : w.heap[0]? = some (.cells (u32A T) 96)) (h : Sh w) (hr : RdF w A l) :
    Calls Tryd.prog 11 #[.slice A l.length c, .int .i64 ch, .int .i64 wi] w fun e w' => ∃ p z, planX T (l.map (·.1)) ch wi p z ∧ e = .returned (.tuple #[.agg (pnL p).toArray, .int .i64 z]) ∧ Below w.heap.size w w' := by
  have hpos : 0 < w.heap.size := (Array.getElem?_eq_some_iff.1 hT).1
  have HT := Lib.hid (fun W (h : Below w.heap.size w W) => (h.block 0 hpos).trans hT)
  have HTl := Lib.hid hTl
  clear hT hTl hpos
  have hel : (ofE (l.map (·.1))).length ≤ 1000000 := by
    unfold ofE; split
    · unfold ents; rw [entsFrom_length, List.length_map]; exact hl
    · simp
  have Of := Lib.hid (fun w h hr => ofE_any A c l (by omega) (by omega) ok w h hr)
  have o0 := (Own.start w.heap.size w).new (Nat.le_refl _) 27 z35
  have b0 := (Below.refl w.heap.size w).alloc (Nat.le_refl _) (.cells z35 27)
  have hinf : (Tryd.prog.info? 27).map (·.size) = some z35.size := infoPlan
  by_cases hz : whyE (ents (l.map (·.1))) = 0
  · have he : ofE (l.map (·.1)) = ents (l.map (·.1)) := if_pos hz
    have hff := fineB_ents hz
    have ht := total_ents hz
    have hst : streamP (l.map (·.1)) = dataL (l.map (·.1)) := if_pos hz
    have hD := dataL_le hz
    have hE := encL_le hff
    have hk := ents_ok (l := l.map (·.1)) (by intro f hf; obtain ⟨x, hx, rfl⟩ := List.mem_map.1 hf; exact ok x hx) (by omega)
    have hmay := fun D => may_plan hz ch wi D
    have hP : Hid (∀ D : List UInt8, D.length = 32 → D = shaF T (encL (ents (l.map (·.1))) ++ dataL (l.map (·.1))) → (okCW ch wi → planX T (l.map (·.1)) ch wi ⟨ch, wi, totalE (ents (l.map (·.1))), D⟩ 0) ∧ (¬ okCW ch wi → planX T (l.map (·.1)) ch wi zeroPn 1)) := Lib.hid (fun D hD hDe =>
      ⟨fun h => ⟨⟨hD, fun h2 => absurd hz h2, fun _ h2 => absurd h h2, fun _ _ => ⟨rfl, rfl, ht.1, rfl⟩⟩, fun _ _ => hDe⟩, fun h => ⟨⟨rfl, fun h2 => absurd hz h2, fun _ _ => ⟨rfl, rfl⟩, fun _ h2 => absurd h2 h⟩, fun _ h2 => absurd h2 h⟩⟩)
    have hmay := Lib.hid hmay
    have hto : okI (totalE (ents (l.map (·.1)))) := by rw [ht.1]; unfold okI; omega
    rw [he] at hel
    rw [he, hz] at Of
    have EC := Lib.hid (fun A c w h hr => encode_any A c (ents (l.map (·.1))) (by omega) (fun e he => (hk e he).1) (fun e he => (hk e he).2) w h hr)
    have TC := Lib.hid (fun A c w h hr => total_any A c (ents (l.map (·.1))) (by omega) (fun e he => (hk e he).1) (fun e he => (hk e he).2) w h hr)
    have SC := Lib.hid (fun w h hr => stream_any A c l hl hs ok w h hr)
    have BD := Lib.hid (fun (D : List UInt8) (hD : D.length = 32) w => body_any ⟨ch, wi, totalE (ents (l.map (·.1))), D⟩ ⟨hch, hwi, hto, hD⟩ w)
    have BP := Lib.hid (fun (D : List UInt8) (hD : D.length = 32) => build_plan ch wi (totalE (ents (l.map (·.1)))) D hD)
    have PS := Lib.hid (fun (D : List UInt8) (hD : D.length = 32) => pnL_size (p := ⟨ch, wi, totalE (ents (l.map (·.1))), D⟩) hD)
    have PO := Lib.hid (fun (D : List UInt8) => pnL_one ⟨ch, wi, totalE (ents (l.map (·.1))), D⟩)
    rw [hst] at SC
    have Hff := Lib.hid hff
    have Hh := Lib.hid (fun w1 (b : Below w.heap.size w w1) => sh_below h b)
    have Hr := Lib.hid (fun w1 (b : Below w.heap.size w w1) => hr.below b)
    have Hn := Lib.hid (And.intro hD hE)
    clear he ht hst hk hto hz hff hs ok h hr hD hE hl
    generalize totalE (ents (l.map (·.1))) = tot at *
    generalize ents (l.map (·.1)) = el at *
    generalize dataL (l.map (·.1)) = st at *
    go_enter Tryd.func11, Tryd.ntmps11
    go_wp2_with fail
    refine (Of.out _ (Hh.out _ b0) (Hr.out _ b0)).mono ?_
    rintro e w1 ⟨A1, c1, rfl, k1, r1, b1⟩
    have hB1 : w.heap.size ≤ (w.alloc (.cells z35 27)).heap.size := by simp
    have o1 := o0.grown hB1 b1
    have hb1 := b0.trans (b1.mono hB1)
    have R1 := Lib.hid (fun w2 (b : Below w1.heap.size w1 w2) => r1.below b)
    clear o0 b0 b1 r1 hB1 Of
    go_wp2_with fail
    refine (EC.out _ _ _ (Hh.out _ hb1) (R1.out _ (Below.refl _ _))).mono ?_
    rintro e w2 hE
    unfold EncP at hE
    rw [if_pos Hff.out] at hE
    obtain ⟨v2, rfl, h2, b2⟩ := hE
    generalize encL el = en at *
    have o2 := Own.fresh hb1.size o1 h2 b2
    obtain ⟨A2, c2, rfl⟩ := o2.row_n
    have hb2 := hb1.trans (b2.mono hb1.size)
    have R2 := Lib.hid (R1.out _ b2)
    clear h2 b2 o1 hb1 R1 EC
    go_wp2_with fail
    refine (TC.out _ _ _ (Hh.out _ hb2) R2.out).mono ?_
    rintro e w3 ⟨rfl, b3⟩
    have o3 := o2.grown hb2.size b3
    have hb3 := hb2.trans (b3.mono hb2.size)
    clear b3 o2 hb2 R2 TC
    go_wp2_with fail
    refine (SC.out _ (Hh.out _ hb3) (Hr.out _ hb3)).mono ?_
    rintro e w4 ⟨v4, rfl, h4, b4⟩
    have o4 := Own.fresh hb3.size o3 h4 b4
    obtain ⟨A4, c4, rfl⟩ := o4.row_n
    have hb4 := hb3.trans (b4.mono hb3.size)
    have o5 := o4.new hb4.size 32 #[.slice A2 en.length c2, .slice A4 st.length c4]
    have hb5 := hb4.alloc hb4.size (.cells #[.slice A2 en.length c2, .slice A4 st.length c4] 32)
    have hrp : RdP (w4.alloc (.cells #[.slice A2 en.length c2, .slice A4 st.length c4] 32)) (some ⟨w4.heap.size, 0, none⟩) [(.slice A2 en.length c2, en), (.slice A4 st.length c4, st)] := by
      refine ⟨fun j hj => ?_, fun x hx => ?_⟩
      · match j, hj with
        | 0, _ => exact ⟨_, _, rfl, by simp⟩
        | 1, _ => exact ⟨_, _, rfl, by simp⟩
      · simp only [List.mem_cons, List.not_mem_nil, or_false] at hx
        rcases hx with rfl | rfl
        · exact (o5.foc (Rw 5 1 (.slice A2 en.length c2) en.length (bytesU en))).rd
        · exact (o5.foc (Rw 5 1 (.slice A4 st.length c4) st.length (bytesU st))).rd
    have DC := Lib.hid (digest_ex (some ⟨w4.heap.size, 0, none⟩) 2 [(.slice A2 en.length c2, en), (.slice A4 st.length c4, st)] (by simp) (by have := Hn.out; simp [joinP]; omega) T HTl.out _ (HT.out _ hb5) hrp)
    rw [show joinP [(.slice A2 en.length c2, en), (.slice A4 st.length c4, st)] = en ++ st by simp [joinP]] at DC
    have o5 := o5.foc (Bk w.heap.size 27 z35)
    clear h4 b4 o3 hb3 o4 hb4 hrp SC
    go_wp2_with fail
    refine DC.out.mono ?_
    rintro e w6 ⟨rfl, b6⟩
    have hD : (shaF T (en ++ st)).length = 32 := shaF_length T _
    have HDe := Lib.hid (show shaF T (en ++ st) = shaF T (en ++ st) from rfl)
    obtain ⟨D, hDD⟩ : ∃ D, D = shaF T (en ++ st) := ⟨_, rfl⟩
    rw [← hDD] at hD ⊢
    have HDD := Lib.hid hDD
    clear hDD HDe
    have o6 := o5.grown hb5.size b6
    have hb6 := hb5.trans (b6.mono hb5.size)
    have o7 := o6.new hb6.size 27 z35
    have hb7 := hb6.alloc hb6.size (.cells z35 27)
    have hbp := BP.out D hD
    have hps := PS.out D hD
    have hpo := PO.out D
    have hinf2 : (Tryd.prog.info? 27).map (·.size) = some (pnL ⟨ch, wi, tot, D⟩).toArray.size := by rw [hps]; exact infoPlan
    have hz35 : z35.size = (pnL ⟨ch, wi, tot, D⟩).toArray.size := by rw [hps]; rfl
    have hbd := BD.out D hD
    have HP := Lib.hid (hP.out D hD HDD.out)
    have HM := Lib.hid (hmay.out D)
    obtain ⟨PA, hPA⟩ : ∃ X, X = (pnL ⟨ch, wi, tot, D⟩).toArray := ⟨_, rfl⟩
    have HPA := Lib.hid hPA
    rw [← hPA] at hbp hps hpo hinf2 hz35 hbd
    obtain ⟨B8, o8, b8⟩ := o7.setRow hb7.size PA
    have hb8 := hb7.trans b8
    have Hh7 := Lib.hid o7.bk.1
    have Hh8 := Lib.hid o8.bk.1
    have Hz := Lib.hid hz35
    have Hbd := Lib.hid hbd
    have Hpo := Lib.hid hpo
    have Hps := Lib.hid hps
    clear o5 hb5 b6 o6 hb6 o7 hb7 b8 DC hPA hD hz35 hpo hps hbd BD BP PS PO hmay hP
    generalize (bytesU D).toArray = DA at *
    have Hbp := Lib.hid hbp
    clear hbp
    go_wp2_with first
      | (refine wpList_build_at rfl 27 _ _ rfl (by simp only [List.map_toArray, List.map_cons, List.map_nil, Act.eval]; rfl) (Hbp.out _) ?_)
      | (refine wpList_plain rfl fun _ hK => wp_store_row 27 (.tmp 12) (.tmp 36) rfl w6.heap.size PA rfl rfl 27 _ Hh7.out hinf2 Hz.out Hpo.out (hK _ _ ?_))
      | (refine wpList_load_row rfl 27 (.tmp 12) rfl w6.heap.size rfl 27 PA (0, 0) _ Hh8.out Tryd.underlying27 rfl hinf2 ?_)
    by_cases hcw : okCW ch wi
    · have hbr : bodyR ⟨ch, wi, tot, D⟩ = (bodyP ⟨ch, wi, tot, D⟩, 0) := by unfold bodyR; rw [HM.out.2 hcw]; rfl
      have hfin := HP.out.1 hcw
      rw [hbr] at Hbd
      have Hpl := Lib.hid hfin
      clear hbr hfin HM HP hcw
      generalize bodyP ⟨ch, wi, tot, D⟩ = bp at *
      refine (Hbd.out _).mono ?_
      rintro e w9 ⟨A9, c9, rfl, _, _, b9⟩
      have o9 := o8.grown B8 b9
      have hb9 := hb8.trans (b9.mono B8)
      have o9' := o9.foc (Bk w.heap.size 27 z35)
      obtain ⟨B10, o10, b10⟩ := o9'.setRow hb9.size PA
      have Hh9 := Lib.hid o9.bk.1
      have Hh0 := Lib.hid o9'.bk.1
      have Hh10 := Lib.hid o10.bk.1
      have hb10 := hb9.trans b10
      clear o9 o9' o10 b10 o8 B8 b9 hb8 hb9 Hh7 Hh8 Hbd B10
      generalize bp.length = bpl at *
      go_wp2_with first
        | (refine wpList_load_row rfl 27 (.tmp 12) rfl w6.heap.size rfl 27 PA (0, 0) _ Hh9.out Tryd.underlying27 rfl hinf2 ?_)
        | (refine wpList_plain rfl fun _ hK => wp_store_row 27 (.tmp 6) (.tmp 46) rfl w.heap.size PA rfl rfl 27 _ Hh0.out hinf2 Hz.out Hpo.out (hK _ _ ?_))
      refine bodyPost_ret (results_cell_tmp rfl _ _ w.heap.size 27 PA (0, 0) _ rfl Hh10.out Tryd.underlying27 rfl hinf2) rfl ?_
      exact ⟨_, _, Hpl.out, by rw [← HPA.out]; rfl, hb10⟩
    · have hm : Pn.mayB ⟨ch, wi, tot, D⟩ = false := by
        cases h : Pn.mayB ⟨ch, wi, tot, D⟩ with
        | false => rfl
        | true => exact absurd (HM.out.1 h) hcw
      have hbr : bodyR ⟨ch, wi, tot, D⟩ = ([], 1) := by unfold bodyR; rw [hm]; rfl
      have hfin := HP.out.2 hcw
      rw [hbr] at Hbd
      have Hpl := Lib.hid hfin
      have h1c : z35.all (·.oneCell') = true := pnL_one zeroPn
      clear hbr hfin HM HP hcw hm
      refine (Hbd.out _).mono ?_
      rintro e w9 ⟨A9, c9, rfl, _, _, b9⟩
      have o9 := o8.grown B8 b9
      have hb9 := hb8.trans (b9.mono B8)
      have o9' := o9.foc (Bk w.heap.size 27 z35)
      obtain ⟨B10, o10, b10⟩ := o9'.setRow hb9.size z35
      have Hh0 := Lib.hid o9'.bk.1
      have Hh10 := Lib.hid o10.bk.1
      have hb10 := hb9.trans b10
      clear o9 o9' o10 b10 o8 B8 b9 hb8 hb9 Hh7 Hh8 Hbd B10
      go_wp2_with first
        | (refine wpList_plain rfl fun _ hK => wp_store_row 27 (.tmp 6) (.tmp 44) rfl w.heap.size z35 rfl rfl 27 _ Hh0.out hinf rfl h1c (hK _ _ ?_))
      refine bodyPost_ret (results_cell_tmp rfl _ _ w.heap.size 27 z35 (0, 0) _ rfl Hh10.out Tryd.underlying27 rfl hinf) rfl ?_
      exact ⟨zeroPn, _, Hpl.out, rfl, hb10⟩
  · have Hfin : Hid (planX T (l.map (·.1)) ch wi zeroPn (whyE (ents (l.map (·.1))))) := Lib.hid ⟨⟨rfl, fun _ => ⟨rfl, rfl⟩, fun h => absurd h hz, fun h => absurd h hz⟩, fun h => absurd h hz⟩
    have hz' : (whyE (ents (l.map (·.1))) == 0) = false := by simpa using hz
    have h1c : z35.all (·.oneCell') = true := pnL_one zeroPn
    clear hs
    generalize whyE (ents (l.map (·.1))) = z at *
    generalize ofE (l.map (·.1)) = el at *
    clear hz
    go_enter Tryd.func11, Tryd.ntmps11
    go_wp2_with fail
    refine (Of.out _ (sh_below h b0) (hr.below b0)).mono ?_
    rintro e w1 ⟨A1, c1, rfl, k1, r1, b1⟩
    have hB1 : w.heap.size ≤ (w.alloc (.cells z35 27)).heap.size := by simp
    have o1 := o0.grown hB1 b1
    have hb1 := b0.trans (b1.mono hB1)
    obtain ⟨B2, o2, b2⟩ := o1.setRow hb1.size z35
    have hb2 := hb1.trans b2
    have Hh1 := Lib.hid o1.bk.1
    have Hh2 := Lib.hid o2.bk.1
    clear o1 o0 b1 b0 r1 k1 o2 b2 hb1 hB1 Of h hr
    go_wp2_with first
      | (refine wpList_plain rfl fun _ hK => wp_store_row 27 (.tmp 6) (.tmp 20) rfl w.heap.size z35 rfl rfl 27 _ Hh1.out hinf rfl h1c (hK _ _ ?_))
    refine bodyPost_ret (results_cell_tmp rfl _ _ w.heap.size 27 z35 (0, 0) _ rfl Hh2.out Tryd.underlying27 rfl hinf) rfl ?_
    exact ⟨zeroPn, _, Hfin.out, rfl, hb2⟩
theorem plan_any (A : Option Addr) (c : Nat) (l : List (Fi × Value)) (hl : l.length ≤ 1000000) (hs : dataLen (l.map (·.1)) ≤ 1000000000) (ok : ∀ x ∈ l, x.1.ok) (ch wi : Int) (hch : okI ch) (hwi : okI wi) (w : World) (h : Sh w) (hr : RdF w A l) :
    Calls Tryd.prog 11 #[.slice A l.length c, .int .i64 ch, .int .i64 wi] w fun e w' => ∃ p z, planP (l.map (·.1)) ch wi p z ∧ e = .returned (.tuple #[.agg (pnL p).toArray, .int .i64 z]) ∧ Below w.heap.size w w' := by
  obtain ⟨T, hTl, hT⟩ := table_any h
  refine (plan_ex A c l hl hs ok ch wi hch hwi T hTl w hT h hr).mono ?_
  rintro e w' ⟨p, z, hp, he, hb⟩
  exact ⟨p, z, hp.1, he, hb⟩
end Go.Proofs.YtmppagiaonbggaaDoor

/- The walk over Chunk of package source. -/
namespace Go.Proofs.YtmppagiaonbggaaDoor
set_option linter.unusedVariables false
set_option linter.unusedSimpArgs false
set_option maxRecDepth 100000
open Go.RowKit

theorem wpList_load_row_g {P : Program} {ops : Array Oper} {rest : List Oper} {o : Oper} {a : Act} {w : World} {Q : Exit → Act → World → Prop} (hw : Region.wanted o (yielded ops a.tmps) = true) (ty : TypeId) (x : Operand) (ho : o.op = .load ty x)
    (g : Nat) (hx : a.eval x = .pointer (some ⟨g, 0, none⟩)) (t : TypeId) (cs : Array Value) (fr : Nat × Nat) (d : TypeDesc) (hg : w.heap[g]? = some (.cells cs t fr))
    (hu : P.underlying ty = some d) (hd : (match d with | .struct _ | .array _ _ => true | _ => false) = true) (hi : (P.info? ty).map (·.size) = some cs.size)
    (h : wpList P ops Q rest (a.put o.dst (.agg cs)) w) : wpList P ops Q (o :: rest) a w :=
  wpList_step fun K hK => by rw [if_pos hw]; exact wp_load_row ty x ho g hx t cs fr d hg hu hd hi (hK _ _ h)
/-- A segment of a stream. -/
def cutP (b : List UInt8) (i j : Nat) : List UInt8 := (b.drop i).take (j - i)
def chunkP (b : List UInt8) (p : Pn) (k : Int) : List UInt8 :=
  if k < 0 ∨ segsP p ≤ k ∨ p.tot ≠ (b.length : Int) then [] else cutP b (k * p.ch).toNat (min ((k + 1) * p.ch) b.length).toNat
theorem segs_bounds {p : Pn} {k : Int} (h0 : 0 ≤ k) (h1 : k < segsP p) : p.mayB = true ∧ 0 ≤ k * p.ch ∧ k * p.ch < p.tot ∧ (k + 1) * p.ch ≤ 4259840 ∧ (k + 1) * p.ch = k * p.ch + p.ch ∧ k < 4194304 := by
  unfold segsP at h1
  cases hm : p.mayB with
  | false => rw [hm] at h1; simp at h1; omega
  | true =>
    obtain ⟨m0, m1, _, _, m4, m5⟩ := p.may_true hm
    rw [hm, if_pos rfl] at h1
    have h2 : (k + 1) * p.ch ≤ p.tot + p.ch - 1 := by
      have h3 : k + 1 ≤ (p.tot + p.ch - 1) / p.ch := by omega
      exact (Int.le_ediv_iff_mul_le (by omega)).1 h3
    have h4 : (k + 1) * p.ch = k * p.ch + p.ch := by rw [Int.add_mul, Int.one_mul]
    have h5 : 0 ≤ k * p.ch := Int.mul_nonneg h0 (by omega)
    have h6 : k * 1 ≤ k * p.ch := Int.mul_le_mul_of_nonneg_left m0 h0
    exact ⟨rfl, h5, by omega, by omega, h4, by omega⟩
theorem bytesU_cut (b : List UInt8) (i j : Nat) (hj : j ≤ b.length) (hij : i ≤ j) : bytesU (cutP b i j) = ((bytesU b).drop i).take (j - i) ∧ (cutP b i j).length = j - i := by
  unfold cutP
  refine ⟨by unfold bytesU; rw [List.map_take, List.map_drop], ?_⟩
  rw [List.length_take, List.length_drop]
  omega

set_option maxHeartbeats 1600000 in
theorem chunk_any (A : Option Addr) (c : Nat) (l : List (Fi × Value)) (hl : l.length ≤ 1000000) (hs : dataLen (l.map (·.1)) ≤ 1000000000) (ok : ∀ x ∈ l, x.1.ok) (p : Pn) (pok : p.ok) (k : Int) (hk : okI k) (w : World) (h : Sh w) (hr : RdF w A l) :
    Calls Tryd.prog 21 #[.slice A l.length c, .agg (pnL p).toArray, .int .i64 k] w (RetB w (chunkP (streamP (l.map (·.1))) p k)) := by
  have hsz := pnL_size pok.dg
  have hb := (Below.refl w.heap.size w).alloc (Nat.le_refl _) (.cells (pnL p).toArray 27)
  have hh := heap_alloc_new w (.cells (pnL p).toArray 27)
  have hinf : (Tryd.prog.info? 27).map (·.size) = some (pnL p).toArray.size := by rw [hsz]; exact infoPlan
  have SC := Lib.hid (fun w h hr => stream_any A c l hl hs ok w h hr)
  have HS := Lib.hid (fun w => segments_any p pok w)
  have K0 := Lib.hid (fun W (h : Below (w.heap.size + 1) (w.alloc (.cells (pnL p).toArray 27)) W) => ((h.cell (p := ⟨w.heap.size, 0, none⟩) (by simp)).trans (cell_of_row _ _ 0 _ _ _ hh)).trans (show _ = some (.int .i64 p.ch) from rfl))
  have K2 := Lib.hid (fun W (h : Below (w.heap.size + 1) (w.alloc (.cells (pnL p).toArray 27)) W) => ((h.cell (p := ⟨w.heap.size, 2, none⟩) (by simp)).trans (cell_of_row _ _ 2 _ _ _ hh)).trans (show _ = some (.int .i64 p.tot) from rfl))
  have KH : Hid (∀ W (h : Below (w.heap.size + 1) (w.alloc (.cells (pnL p).toArray 27)) W), W.heap[w.heap.size]? = some (.cells (pnL p).toArray 27 (0, 0))) := Lib.hid (fun W h => (h.block w.heap.size (by simp)).trans hh)
  have Hinf := Lib.hid hinf
  have S0 := sh_below h hb
  have r0 := hr.below hb
  have hbl : (streamP (l.map (·.1))).length ≤ 1000000000 := by unfold streamP; split; (rw [dataL_length]; exact hs); simp
  have hcp : Hid (chunkP (streamP (l.map (·.1))) p k = if k < 0 ∨ segsP p ≤ k ∨ p.tot ≠ ((streamP (l.map (·.1))).length : Int) then [] else cutP (streamP (l.map (·.1))) (k * p.ch).toNat (min ((k + 1) * p.ch) (streamP (l.map (·.1))).length).toNat) := Lib.hid rfl
  have Hsb := Lib.hid (fun h0 h1 => segs_bounds (p := p) (k := k) h0 h1)
  clear hh hinf hsz h hr hl hs ok pok
  generalize chunkP (streamP (l.map (·.1))) p k = res at *
  generalize streamP (l.map (·.1)) = b at *
  obtain ⟨k0, k1⟩ := hk
  by_cases hk0 : k < 0
  · obtain rfl : res = [] := by rw [hcp.out, if_pos (.inl hk0)]
    clear hcp Hsb HS K0 K2 KH
    generalize (pnL p).toArray = X at *
    go_enter Tryd.func21, Tryd.ntmps21
    go_wp2_with fail
    refine (SC.out _ S0 r0).mono ?_
    rintro e w1 ⟨v1, rfl, h1, b1⟩
    have hb1 := hb.trans (b1.mono (by simp))
    go_wp2
    go_ret
    exact ⟨_, rfl, World.ownsRow_nil _ _ _ _, hb1⟩
  · have hk0' : 0 ≤ k := by omega
    have hkd : decide (k < 0) = false := by simpa using hk0'
    by_cases hks : segsP p ≤ k
    · obtain rfl : res = [] := by rw [hcp.out, if_pos (.inr (.inl hks))]
      clear hcp Hsb K0 K2 hk0
      generalize (pnL p).toArray = X at *
      generalize segsP p = sg at *
      go_enter Tryd.func21, Tryd.ntmps21
      go_wp2_with fail
      refine (SC.out _ S0 r0).mono ?_
      rintro e w1 ⟨v1, rfl, h1, b1⟩
      have hb1 := hb.trans (b1.mono (by simp))
      have Hh := Lib.hid (KH.out w1 (b1.mono (by simp)))
      clear SC
      go_wp2_with first
        | (refine wpList_load_row_g rfl 27 (.tmp 4) rfl w.heap.size rfl 27 X (0, 0) _ Hh.out Tryd.underlying27 rfl Hinf.out ?_)
      refine (HS.out _).mono ?_
      rintro e w2 ⟨rfl, b2⟩
      have hb2 := hb1.trans (b2.mono hb1.size)
      go_wp2
      go_ret
      exact ⟨_, rfl, World.ownsRow_nil _ _ _ _, hb2⟩
    · have hks' : k < segsP p := by omega
      obtain ⟨q0, q1, q2, q3, q4, q5⟩ := Hsb.out hk0' hks'
      by_cases ht : p.tot = (b.length : Int)
      · rw [if_neg (by omega)] at hcp
        have ht' : (p.tot == (b.length : Int)) = true := by simpa using ht
        have ht2 : (p.tot != (b.length : Int)) = false := by simpa using ht
        have hksd : decide (segsP p ≤ k) = false := by simpa using hks'
        obtain ⟨m0, m1, _, _, _, m5⟩ := p.may_true q0
        obtain ⟨i, hi⟩ : ∃ i : Nat, k * p.ch = (i : Int) := ⟨(k * p.ch).toNat, by omega⟩
        obtain ⟨m, hm⟩ : ∃ m : Nat, (k + 1) * p.ch = (m : Int) := ⟨((k + 1) * p.ch).toNat, (Int.toNat_of_nonneg (by rw [q4]; omega)).symm⟩
        obtain ⟨j, hj⟩ : ∃ j : Nat, j = min m b.length := ⟨_, rfl⟩
        have hjc : res = cutP b i j := by
          rw [hcp.out, hi, hm]
          have e1 : (i : Int).toNat = i := Int.toNat_natCast i
          have e2 : (min (m : Int) (b.length : Int)).toNat = j := by omega
          rw [e1, e2]
        subst hjc
        have hij : i < j := by omega
        have hjb : j ≤ b.length := by omega
        obtain ⟨hcu, hcl⟩ := bytesU_cut b i j hjb (by omega)
        have Hcu := Lib.hid (And.intro hcu hcl)
        have CL := Lib.hid (fun v w h => clone_any v (cutP b i j) w h (by omega))
        have Hbb := Lib.hid (show i < b.length ∧ b.length ≤ 1000000000 by omega)
        have k2' : k < 4194304 := by omega
        have hjm : (if (m : Int) < (b.length : Int) then (m : Int) else (b.length : Int)) = (j : Int) := by split <;> omega
        have hjm2 : min (m : Int) (b.length : Int) = (j : Int) := by omega
        have x1 : (i : Int) < (j : Int) := by omega
        have x2 : (j : Int) ≤ (b.length : Int) := by omega
        have x3 : (m : Int) ≤ 4259840 := by omega
        have x4 : (0 : Int) ≤ (i : Int) := by omega
        have x5 : (b.length : Int) ≤ 4194304 := by omega
        clear hcp Hsb hk0 hks q0 q1 q2 q3 q4 q5 ht hcu hcl hij hjb hj hbl
        obtain ⟨pch, pwi, pt, pd⟩ := p
        simp only at K2 K0 ht' ht2 hi hm m0 m1 m5
        generalize (pnL ⟨pch, pwi, pt, pd⟩).toArray = X at *
        generalize segsP ⟨pch, pwi, pt, pd⟩ = sg at *
        generalize cutP b i j = ct at *
        go_enter Tryd.func21, Tryd.ntmps21
        go_wp2_with fail
        refine (SC.out _ S0 r0).mono ?_
        rintro e w1 ⟨v1, rfl, h1, b1⟩
        have hb1 := hb.trans (b1.mono (by simp))
        have Hh := Lib.hid (KH.out w1 (b1.mono (by simp)))
        have o1 := Own.fresh (B := w.heap.size) hb.size (Own.start _ _) h1 b1
        obtain ⟨A1, c1, rfl⟩ := o1.row_n
        have hcap := o1.cap
        have n2 : (b.length : Int) ≤ (c1 : Int) := by omega
        have n3 : (c1 : Int) ≤ 9223372036854775807 := by omega
        have hrd := o1.rd
        obtain ⟨b0, o0, rfl, hx0⟩ := hrd.at' 0 (by have := Hbb.out; omega)
        clear hx0
        have Hpt := Lib.hid (fun c' => hrd.part i (j - i) c' (bytesU ct) Hcu.out.1 (by rw [bytesU_length]; exact Hcu.out.2))
        have HCl := Lib.hid Hcu.out.2
        clear SC o1 h1 hcap Hcu hrd Hbb
        generalize b.length = bn at *
        go_wp2_with first
          | (refine wpList_load_row_g rfl 27 (.tmp 4) rfl w.heap.size rfl 27 X (0, 0) _ Hh.out Tryd.underlying27 rfl Hinf.out ?_)
        refine (HS.out _).mono ?_
        rintro e w2 ⟨rfl, b2⟩
        have hb2 := hb1.trans (b2.mono hb1.size)
        have k2 := K2.out w2 ((b1.mono (by simp)).trans (b2.mono (by have := b1.size; simpa using this)))
        have k0 := K0.out w2 ((b1.mono (by simp)).trans (b2.mono (by have := b1.size; simpa using this)))
        clear HS K0 K2 KH
        go_wp2_with fail
        have hpt := Hpt.out (c1 - i)
        simp only [Option.map_some, Addr.add_lit] at hpt
        refine (CL.out _ w2 (hpt.below b2)).mono ?_
        rintro e w3 ⟨v3, rfl, h3, b3⟩
        have o3 := Own.fresh (B := w.heap.size) hb2.size (Own.start _ _) h3 b3
        have hb3 := hb2.trans (b3.mono hb2.size)
        go_wp2
        go_ret
        exact RetB.mk rfl rfl rfl rfl o3 hb3
      · obtain rfl : res = [] := by rw [hcp.out, if_pos (.inr (.inr ht))]
        have ht' : (p.tot == (b.length : Int)) = false := by simpa using ht
        have ht2 : (p.tot != (b.length : Int)) = true := by simpa using ht
        have hksd : decide (segsP p ≤ k) = false := by simpa using hks'
        clear hcp Hsb K0 hk0 hks q0 q1 q2 q3 q4 q5
        obtain ⟨pch, pwi, pt, pd⟩ := p
        simp only at K2 ht' ht ht2
        generalize (pnL ⟨pch, pwi, pt, pd⟩).toArray = X at *
        generalize segsP ⟨pch, pwi, pt, pd⟩ = sg at *
        go_enter Tryd.func21, Tryd.ntmps21
        go_wp2_with fail
        refine (SC.out _ S0 r0).mono ?_
        rintro e w1 ⟨v1, rfl, h1, b1⟩
        have hb1 := hb.trans (b1.mono (by simp))
        have Hh := Lib.hid (KH.out w1 (b1.mono (by simp)))
        have o1 := Own.fresh (B := w.heap.size) hb.size (Own.start _ _) h1 b1
        obtain ⟨A1, c1, rfl⟩ := o1.row_n
        have n1 : (b.length : Int) ≤ 1000000000 := by omega
        clear SC o1 h1
        generalize b.length = bn at *
        go_wp2_with first
          | (refine wpList_load_row_g rfl 27 (.tmp 4) rfl w.heap.size rfl 27 X (0, 0) _ Hh.out Tryd.underlying27 rfl Hinf.out ?_)
        refine (HS.out _).mono ?_
        rintro e w2 ⟨rfl, b2⟩
        have hb2 := hb1.trans (b2.mono hb1.size)
        have k2 := K2.out w2 ((b1.mono (by simp)).trans (b2.mono (by have := b1.size; simpa using this)))
        go_wp2
        go_ret
        exact ⟨_, rfl, World.ownsRow_nil _ _ _ _, hb2⟩
end Go.Proofs.YtmppagiaonbggaaDoor

/- A range over a function that hands memory over: what the iterator gives at a round, the round owns; what the iterator keeps for itself stands in the frame. -/
namespace Go.Proofs.YtmppagiaonbggaaDoor
set_option linter.unusedVariables false
set_option linter.unusedSimpArgs false
set_option maxRecDepth 100000
open Go.RowKit

/-- One object, whatever it is. -/
def Ob (k : Nat) (o : Obj) : HP := fun w F => F k ∧ w.heap[k]? = some o
instance Loc.ob {B k : Nat} {o : Obj} : Loc B (Ob k o) where
  keep := fun _ _ _ h _ ⟨hf, hg⟩ => ⟨hf, (h k hf).trans hg⟩
  up := fun _ _ _ h ⟨hf, hg⟩ => ⟨h k hf, hg⟩
theorem Own.ob {B k : Nat} {o : Obj} {R : HP} {w : World} (h : Own B (Ob k o * R) w) : w.heap[k]? = some o ∧ B ≤ k := by
  obtain ⟨F, hf, F1, F2, _, h1, _, hc, _⟩ := h
  exact ⟨hc.2, (hf k (h1 k hc.1)).1⟩
theorem Own.newO {B : Nat} {R : HP} [Loc B R] {w : World} (hB : B ≤ w.heap.size) (h : Own B R w) (o : Obj) : Own B (Ob w.heap.size o * R) (w.alloc o) :=
  Own.turn hB h.emp (by simp) fun F _ _ => ⟨fun k => k = w.heap.size, fun k hk => .inr (by simp; omega), ⟨rfl, heap_alloc_new w _⟩, fun k hk _ => Below.heap_alloc w _ k hk⟩
theorem Own.putO {B k : Nat} {o : Obj} {R : HP} [Loc B R] {w : World} (hB : B ≤ w.heap.size) (h : Own B (Ob k o * R) w) (o' : Obj) : Own B (Ob k o' * R) (w.putObj k o') ∧ Below B w (w.putObj k o') := by
  have hk := h.ob
  have hg := grownBy_putObj' w k o'
  refine ⟨Own.turn hB h hg.size fun F _ ⟨hF, hh⟩ => ⟨fun j => j = k, fun j hj => .inl (hj ▸ hF), ⟨rfl, World.putObj_heap_same (Array.getElem?_eq_some_iff.1 hh).1⟩, fun j hj hn => ?_⟩, (Below.refl B w).grown hg hB (fun r e => by cases e; exact hk.2)⟩
  exact World.putObj_heap_other (fun e => hn (e ▸ hF))

/-- What an iterator promises: at each round it hands Giv x over; in the end its own C is as it was. -/
def SeqHP {α : Type} (P : Program) (g : Nat) (lb : Array Value) (encs : α → Array Value) (Giv : α → HP) (S Sp : List α → Prop) (Nx : List α → α → Prop) (B : Nat) (C : HP) (w : World) : Prop :=
  ∀ (l : Nat) (A Ax : List α → HP) (_ : ∀ xs, Loc B (A xs)) (_ : ∀ xs, Loc B (Ax xs)) (W : World), B ≤ W.heap.size → Below B w W →
    (∀ (pre : List α) (x : α) (R : HP) (_ : Loc B R) (W1 : World), B ≤ W1.heap.size → Below B W W1 → Nx pre x → Own B (A pre * (Giv x * R)) W1 → YieldAt Fence.wide 3 P l (encs x) W1 fun e W' =>
      (e = .returned (.bool true) ∧ Own B (A (pre ++ [x]) * R) W' ∧ Below B W1 W') ∨ (e = .returned (.bool false) ∧ Own B (Ax (pre ++ [x]) * R) W' ∧ Below B W1 W')) →
    Own B (A [] * C) W →
    CallsIn Fence.wide 4 P g (#[.func (.yield l) #[] #[]] ++ lb) W fun e W' => (∃ v, e = .returned v) ∧ Below B W W' ∧ ((∃ xs, S xs ∧ Own B (A xs * C) W') ∨ (∃ pre, Sp pre ∧ Own B (Ax pre * C) W'))

/-- How a round may be left. -/
def sepPost {α : Type} (B : Nat) (A : List α → HP) (Ax : Code → List α → HP) (R : HP) (W : World) (xs : List α) : Exit → Act → World → Prop
  | .normal, _, W' => Own B (A xs * R) W' ∧ Below B W W'
  | .ret, _, W' => Own B (Ax .ret xs * R) W' ∧ Below B W W'
  | .exit id, _, W' => Own B (Ax (.exit id) xs * R) W' ∧ Below B W W'
  | .goto t, _, W' => Own B (Ax (.goto t) xs * R) W' ∧ Below B W W'
  | .panic _, _, _ => False
  | .outgrown, _, _ => False

set_option maxHeartbeats 1600000 in
theorem wp_rangeFunc_sep {α : Type} {P : Program} {g : Operand} {ps : Array Tmp} {assign body : Code} {Q : Exit → Act → World → Prop} {a : Act} {w : World}
    {gf : Nat} {lb : Array Value} (hg : a.eval g = .func (.func gf) #[] lb) (eg : ∀ args w, (callFunc gf args).run P w = .ok (.enter gf args) w)
    {encs : α → Array Value} {Giv : α → HP} {S Sp : List α → Prop} {Nx : List α → α → Prop} {B : Nat} (C R : HP) [kC : Loc B C] [kR : Loc B R] (kG : ∀ x, Loc B (Giv x)) (hps : ∀ x, (encs x).size = ps.size) (hseq : ∀ (R' : HP), Loc B R' → SeqHP P gf lb encs Giv S Sp Nx B (C * R') w)
    (A : List α → HP) (Ax : Code → List α → HP) [kA : ∀ xs, Loc B (A xs)] [kX : ∀ c xs, Loc B (Ax c xs)] (hB : B ≤ w.heap.size) (h0 : Own B (A [] * (C * R)) w) (fin : α → Array Value → Array Value) (a₁ : α → Act) (ha₁ : ∀ x, a₁ x = { tmps := fin x ((ps.zip (encs x)).foldl (fun t (p, v) => t.setIfInBounds p v) a.tmps), defers := [] })
    (hassign : ∀ (l : Nat) (x : α) (W : World) (K : Act → World → Prop), K (a₁ x) W →
      assign.wpIn (Fence.wide.inRound l) 3 P (Exit.then K (fun _ _ _ => False)) { tmps := (ps.zip (encs x)).foldl (fun t (p, v) => t.setIfInBounds p v) a.tmps, defers := [] } W)
    (hbody : ∀ (l : Nat) (pre : List α) (x : α) (W : World) (R : HP) [Loc B R], B ≤ W.heap.size → Below B w W → Own B (A pre * (Giv x * R)) W → Nx pre x → body.wpIn (Fence.wide.inRound l) 3 P (sepPost B A Ax R W (pre ++ [x])) (a₁ x) W)
    (hdone : ∀ (D : Nat) (xs : List α) (W : World), S xs → B ≤ W.heap.size → Below B w W → Own B (A xs * (C * (R * Dk D))) W → Q .normal { a with defers := { target := .collected D, args := #[] } :: a.defers } W)
    (hstop : ∀ (D : Nat) (c : Code) (pre : List α) (W : World), Sp pre → B ≤ W.heap.size → Below B w W → Own B (Ax c pre * (C * (R * Dk D))) W → c.wp P Q { a with defers := { target := .collected D, args := #[] } :: a.defers } W) :
    (Code.rangeFunc g ps assign body).wp P Q a w := by
  refine (wpIn_wide (n := 5)).1 (wpIn_rangeFunc fun fn hfn => ?_)
  obtain ⟨lp, hlp⟩ : ∃ lp : LoopState → Option Code → Loop, lp = fun st pe => { state := st, pending := pe, fn, tmps := a.tmps, params := ps, assign, body, defers := w.heap.size } := ⟨_, rfl⟩
  have d0 := h0.newO hB (.deferred (some []))
  have s0 : (w.alloc (.deferred (some []))).heap.size = w.heap.size + 1 := by simp
  have d1 := d0.newO (show B ≤ (w.alloc (.deferred (some []))).heap.size by omega) (.loop (lp .ready none))
  rw [s0] at d1
  have b1 : Below B w ((w.alloc (.deferred (some []))).alloc (.loop (lp .ready none))) := ((Below.refl B w).alloc hB _).alloc (by omega) _
  have B1 := Nat.le_trans hB b1.size
  have hen : (Instr.enterLoop fn a.tmps ps assign body none).run P w = .ok (w.heap.size + 1, [{ target := .collected w.heap.size, args := #[] }]) ((w.alloc (.deferred (some []))).alloc (.loop (lp .ready none))) := by
    rw [hlp]; exact run_enterLoop_outer fn a.tmps ps assign body
  generalize (w.alloc (.deferred (some []))).alloc (.loop (lp .ready none)) = W1 at *
  refine ⟨w.heap.size + 1, [{ target := .collected w.heap.size, args := #[] }], W1, { target := .fn (.func gf) lb, args := #[.func (.yield (w.heap.size + 1)) #[] #[]] }, W1, gf,
    #[.func (.yield (w.heap.size + 1)) #[] #[]] ++ lb, W1, hen, ?_, fun _ _ => trivial, ?_, fun _ => by omega, ?_⟩
  · simp only [resolve, hg]
    simp [go_sem]
  · simp [invoke, go_sem, eg]
  have kD : Loc B (Ob w.heap.size (.deferred (some []))) := Loc.ob
  refine (hseq (R * Ob w.heap.size (.deferred (some []))) inferInstance (w.heap.size + 1) (fun xs => A xs * Ob (w.heap.size + 1) (.loop (lp .ready none))) (fun xs => Hex fun c => Ax c xs * Ob (w.heap.size + 1) (.loop (lp .done (some c)))) (fun _ => inferInstance) (fun _ => inferInstance) W1 B1 b1 ?_ (d1.cast (by ac_rfl))).mono ?_
  · intro pre x R1 kR1 W B2 b2 hlen hO
    have o1 : Own B (Ob (w.heap.size + 1) (.loop (lp .ready none)) * (A pre * (Giv x * R1))) W := hO.cast (by ac_rfl)
    have kg := kG x
    have hl := o1.ob.1
    have hy := run_yield (P := P) (args := encs x) hl (by rw [hlp]; exact hps x)
    rw [hlp] at hy
    refine ⟨fn, _, assign, body, hy, roundIn_of_wpIn hfn (hassign _ x W _ ⟨_, run_beginRound hl (by rw [hlp]), ?_⟩)⟩
    obtain ⟨o2, b3⟩ := o1.putO B2 (.loop { lp .ready none with state := .busy })
    have B3 := Nat.le_trans B2 b3.size
    generalize W.putObj (w.heap.size + 1) (.loop { lp .ready none with state := .busy }) = W2 at *
    refine wpIn_mono (hbody _ pre x W2 (Ob (w.heap.size + 1) (.loop { lp .ready none with state := .busy }) * R1) B3 (b1.trans (b2.trans b3)) (o2.cast (by ac_rfl)) hlen) ?_
    have last : ∀ (jump : Option Code) (X : HP) (_ : Loc B X) (W3 : World), Below B W2 W3 → Own B (X * (Ob (w.heap.size + 1) (.loop { lp .ready none with state := .busy }) * R1)) W3 →
        ∃ W4, (Instr.endRound (w.heap.size + 1) jump).run P W3 = .ok (.bool jump.isNone) W4 ∧ Own B (X * (Ob (w.heap.size + 1) (.loop (lp (if jump.isNone then .ready else .done) jump)) * R1)) W4 ∧ Below B W W4 := fun jump X kX W3 b4 h3 => by
      have o3 : Own B (Ob (w.heap.size + 1) (.loop { lp .ready none with state := .busy }) * (X * R1)) W3 := h3.cast (by ac_rfl)
      have hr := run_endRound (P := P) jump o3.ob.1
      obtain ⟨o4, b5⟩ := o3.putO (Nat.le_trans B3 b4.size) (.loop { { lp .ready none with state := .busy } with state := if jump.isNone then .ready else .done, pending := jump })
      refine ⟨_, hr, ?_, (b3.trans b4).trans b5⟩
      have e : ({ { lp .ready none with state := .busy } with state := if jump.isNone then .ready else .done, pending := jump } : Loop) = lp (if jump.isNone then .ready else .done) jump := by rw [hlp]
      rw [← e]
      exact o4.cast (by ac_rfl)
    rintro e a3 W3 hp
    cases e with
    | normal =>
      obtain ⟨h3, b4⟩ := hp
      obtain ⟨W4, hr, o4, b5⟩ := last none _ inferInstance W3 b4 h3
      exact ⟨_, _, hr, .inl ⟨rfl, o4.assoc', b5⟩⟩
    | ret =>
      obtain ⟨h3, b4⟩ := hp
      obtain ⟨W4, hr, o4, b5⟩ := last (some .ret) _ inferInstance W3 b4 h3
      exact ⟨_, _, hr, .inr ⟨rfl, o4.assoc'.to_hex (A := fun c => Ax c (pre ++ [x]) * Ob (w.heap.size + 1) (.loop (lp .done (some c)))) .ret, b5⟩⟩
    | exit id =>
      obtain ⟨h3, b4⟩ := hp
      obtain ⟨W4, hr, o4, b5⟩ := last (some (.exit id)) _ inferInstance W3 b4 h3
      exact ⟨_, _, hr, .inr ⟨rfl, o4.assoc'.to_hex (A := fun c => Ax c (pre ++ [x]) * Ob (w.heap.size + 1) (.loop (lp .done (some c)))) (.exit id), b5⟩⟩
    | goto t =>
      obtain ⟨h3, b4⟩ := hp
      obtain ⟨W4, hr, o4, b5⟩ := last (some (.goto t)) _ inferInstance W3 b4 h3
      exact ⟨_, _, hr, .inr ⟨rfl, o4.assoc'.to_hex (A := fun c => Ax c (pre ++ [x]) * Ob (w.heap.size + 1) (.loop (lp .done (some c)))) (.goto t), b5⟩⟩
    | panic ch => exact hp.elim
    | outgrown => exact hp.elim
  · rintro e W2 ⟨⟨v, rfl⟩, b2, (⟨xs, hS, hO⟩ | ⟨pre, hSp, hO⟩)⟩
    · have o1 : Own B (Ob (w.heap.size + 1) (.loop (lp .ready none)) * (A xs * (C * (R * Ob w.heap.size (.deferred (some [])))))) W2 := hO.cast (by ac_rfl)
      have hr := run_endLoop (P := P) o1.ob.1 (by rw [hlp]; simp)
      obtain ⟨o2, b3⟩ := o1.putO (Nat.le_trans B1 b2.size) (.loop { lp .ready none with state := .exhausted })
      refine ⟨none, _, by rw [hr]; rw [hlp], hdone _ xs _ hS (Nat.le_trans B1 (b2.trans b3).size) (b1.trans (b2.trans b3)) o2.right⟩
    · obtain ⟨c, hO⟩ := hO.hex
      have o1 : Own B (Ob (w.heap.size + 1) (.loop (lp .done (some c))) * (Ax c pre * (C * (R * Ob w.heap.size (.deferred (some [])))))) W2 := hO.cast (by ac_rfl)
      have hr := run_endLoop (P := P) o1.ob.1 (by rw [hlp]; simp)
      obtain ⟨o2, b3⟩ := o1.putO (Nat.le_trans B1 b2.size) (.loop { lp .done (some c) with state := .exhausted })
      refine ⟨some c, _, by rw [hr]; rw [hlp], wpIn_wide.2 (hstop _ c pre _ hSp (Nat.le_trans B1 (b2.trans b3).size) (b1.trans (b2.trans b3)) o2.right)⟩
end Go.Proofs.YtmppagiaonbggaaDoor

/- The walk over Chunks of package source, and over its iterator. -/
namespace Go.Proofs.YtmppagiaonbggaaDoor
set_option linter.unusedVariables false
set_option linter.unusedSimpArgs false
set_option maxRecDepth 100000
open Go.RowKit Go.Shelf

attribute [local go_sem] Oper.semAt_some

theorem wpListIn_load_row {F : Fence} {n : Nat} {P : Program} {ops : Array Oper} {rest : List Oper} {o : Oper} {a : Act} {w : World} {Q : Exit → Act → World → Prop} (hgd : o.guard = none) (ty : TypeId) (x : Operand) (ho : o.op = .load ty x)
    (g : Nat) (hx : a.eval x = .pointer (some ⟨g, 0, none⟩)) (t : TypeId) (cs : Array Value) (fr : Nat × Nat) (d : TypeDesc) (hg : w.heap[g]? = some (.cells cs t fr))
    (hu : P.underlying ty = some d) (hd : (match d with | .struct _ | .array _ _ => true | _ => false) = true) (hi : (P.info? ty).map (·.size) = some cs.size)
    (h : wpListIn F n P ops Q rest (a.put o.dst (.agg cs)) w) : wpListIn F n P ops Q (o :: rest) a w := by
  refine wpListIn_plain hgd fun K hK => ?_
  unfold Oper.wpIn
  refine ⟨by simp [Oper.about, ho], ?_⟩
  rw [Oper.semAt_plain F _ _ (by rw [ho]; intro c hc'; cases hc')]
  unfold execOp
  simp only [ho, hx, Instr.loadAt, Instr.sureAddr, Sem.run_bind, Sem.run_pure, Result.andThen_ok, run_loadVar_row w g t ty cs fr d hg hu hd hi]
  exact hK _ _ h

theorem chunks_any (A : Option Addr) (n c : Nat) (p : Pn) (w : World) : Calls Tryd.prog 22 #[.slice A n c, .agg (pnL p).toArray] w fun e w' => e = .returned (.func (.func 38) #[] #[.pointer (some ⟨w.heap.size, 0, none⟩), .pointer (some ⟨w.heap.size + 1, 0, none⟩)]) ∧ w' = (w.alloc (.cells #[.slice A n c] 22)).alloc (.cells (pnL p).toArray 27) := by
  generalize (pnL p).toArray = X
  go_enter Tryd.func22, Tryd.ntmps22
  go_wp2
  go_ret
  exact ⟨rfl, rfl⟩

/-- A segment that is handed over: its number, and where its bytes lie. -/
structure Sg where
  k : Nat
  A : Option Addr
  c : Nat
def sgEnc (f : Nat → List UInt8) (x : Sg) : Array Value := #[.int .i64 (x.k : Int), .slice x.A (f x.k).length x.c]
def sgGiv (f : Nat → List UInt8) (x : Sg) : HP := Rw 5 1 (.slice x.A (f x.k).length x.c) (f x.k).length (bytesU (f x.k))
instance (f : Nat → List UInt8) (x : Sg) (B : Nat) : Loc B (sgGiv f x) := by unfold sgGiv; infer_instance
def nsegP (b : List UInt8) (p : Pn) : Nat := if p.tot = (b.length : Int) then (segsP p).toNat else 0
def sgAll (N : Nat) (xs : List Sg) : Prop := xs.map (·.k) = List.range N
def sgSome (N : Nat) (xs : List Sg) : Prop := ∃ m, 1 ≤ m ∧ m ≤ N ∧ xs.map (·.k) = List.range m

def sgNext (N : Nat) (pre : List Sg) (x : Sg) : Prop := pre.map (·.k) = List.range pre.length ∧ x.k = pre.length ∧ pre.length < N
theorem segsP_nonneg (p : Pn) : 0 ≤ segsP p := by
  unfold segsP
  cases hm : p.mayB with
  | false => simp
  | true =>
    obtain ⟨m0, m1, _, _, m4, m5⟩ := p.may_true hm
    rw [if_pos rfl]
    exact Int.ediv_nonneg (by omega) (by omega)
theorem seg_facts {b : List UInt8} {p : Pn} (ht : p.tot = (b.length : Int)) (k : Nat) (hk : k < nsegP b p) : ∃ i m j : Nat, (k : Int) * p.ch = (i : Int) ∧ ((k : Int) + 1) * p.ch = (m : Int) ∧ j = min m b.length ∧ i < j ∧ j ≤ b.length ∧ chunkP b p k = cutP b i j ∧
    (m : Int) ≤ 4259840 ∧ (k : Int) < 4194304 ∧ (b.length : Int) ≤ 4194304 ∧ (m : Int) = (i : Int) + p.ch ∧ 1 ≤ p.ch ∧ p.ch ≤ 65536 := by
  have hk2 : (k : Int) < segsP p := by unfold nsegP at hk; rw [if_pos ht] at hk; omega
  obtain ⟨q0, q1, q2, q3, q4, q5⟩ := segs_bounds (by omega : (0 : Int) ≤ (k : Int)) hk2
  obtain ⟨m0, m1, _, _, _, m5⟩ := p.may_true q0
  obtain ⟨i, hi⟩ : ∃ i : Nat, (k : Int) * p.ch = (i : Int) := ⟨((k : Int) * p.ch).toNat, by omega⟩
  obtain ⟨m, hm⟩ : ∃ m : Nat, ((k : Int) + 1) * p.ch = (m : Int) := ⟨(((k : Int) + 1) * p.ch).toNat, (Int.toNat_of_nonneg (by rw [q4]; omega)).symm⟩
  refine ⟨i, m, min m b.length, hi, hm, rfl, by omega, by omega, ?_, by omega, q5, by omega, by omega, m0, m1⟩
  unfold chunkP
  rw [if_neg (by omega), hi, hm]
  have e1 : (i : Int).toNat = i := Int.toNat_natCast i
  have e2 : (min (m : Int) (b.length : Int)).toNat = min m b.length := by omega
  rw [e1, e2]

set_option maxRecDepth 100000 in
set_option maxHeartbeats 3200000 in
theorem chunks_it (A : Option Addr) (c : Nat) (l : List (Fi × Value)) (hl : l.length ≤ 1000000) (hs : dataLen (l.map (·.1)) ≤ 1000000000) (ok : ∀ x ∈ l, x.1.ok) (p : Pn) (pok : p.ok) (b0 b1 B : Nat) (R' : HP) (kR' : Loc B R') (w : World) (hF : ∀ W, Below B w W → Sh W ∧ RdF W A l) :
    SeqHP Tryd.prog 38 #[.pointer (some ⟨b0, 0, none⟩), .pointer (some ⟨b1, 0, none⟩)] (sgEnc fun k => chunkP (streamP (l.map (·.1))) p k) (sgGiv fun k => chunkP (streamP (l.map (·.1))) p k)
      (sgAll (nsegP (streamP (l.map (·.1))) p)) (sgSome (nsegP (streamP (l.map (·.1))) p)) (sgNext (nsegP (streamP (l.map (·.1))) p)) B ((Bk b0 22 #[.slice A l.length c] * Bk b1 27 (pnL p).toArray) * R') w := by
  intro lp J Jx kJ kJx W hBW hbW hY h0
  obtain ⟨hsh, hrf⟩ := hF W hbW
  have SC := Lib.hid (stream_any A c l hl hs ok W hsh hrf)
  have HS := Lib.hid (fun w => segments_any p pok w)
  have hsz := pnL_size pok.dg
  have hinf : (Tryd.prog.info? 27).map (·.size) = some (pnL p).toArray.size := by rw [hsz]; exact infoPlan
  have Hinf := Lib.hid hinf
  have hbl : (streamP (l.map (·.1))).length ≤ 1000000000 := by unfold streamP; split; (rw [dataL_length]; exact hs); simp
  have h0 : Own B (Bk b0 22 #[.slice A l.length c] * (Bk b1 27 (pnL p).toArray * (R' * J []))) W := h0.cast (by ac_rfl)
  have k0 : W.cell? ⟨b0, 0, none⟩ = some (.slice A l.length c) := h0.cell 0
  clear hinf hsz hF hs hl ok hsh hrf hbW
  generalize streamP (l.map (·.1)) = b at *
  obtain ⟨f, hf⟩ : ∃ f : Nat → List UInt8, f = fun k : Nat => chunkP b p k := ⟨_, rfl⟩
  have SF2 := Lib.hid (fun k => congrFun hf k)
  obtain ⟨N, hN0⟩ : ∃ N, N = nsegP b p := ⟨_, rfl⟩
  rw [← hf, ← hN0] at hY
  rw [← hN0]
  refine callsIn_of_wp Tryd.func38 rfl trivial ?_ rfl
  simp only [Tryd.ntmps38, List.size_toArray, List.length_cons, List.length_nil, Nat.reduceAdd, Nat.reduceSub, Array.replicate_succ, Array.replicate_zero, List.push_toArray, List.append_toArray, List.nil_append, List.cons_append]
  gi_wp2_with fail
  refine ⟨trivial, (callsIn_wide.2 SC.out).mono ?_⟩
  rintro e w1 ⟨v1, rfl, h1, b1'⟩
  have o1 := Own.fresh hBW h0 h1 b1'
  have hb1 : Below B W w1 := b1'.mono hBW
  have B1 := Nat.le_trans hBW b1'.size
  obtain ⟨A1, c1, rfl⟩ := o1.row_n
  have o2 := o1.foc (Bk b1 27 (pnL p).toArray)
  have k2 : w1.cell? ⟨b1, 2, none⟩ = some (.int .i64 p.tot) := (o2.cell 2).trans rfl
  have Hh := Lib.hid o2.bk.1
  have n1 : (b.length : Int) ≤ 1000000000 := by omega
  by_cases ht : p.tot = (b.length : Int)
  · have ht' : (p.tot == (b.length : Int)) = true := by simpa using ht
    have ht2 : (p.tot != (b.length : Int)) = false := by simpa using ht
    have SF := seg_facts (p := p) ht
    rw [← hN0] at SF
    have SF := Lib.hid SF
    have hsg : segsP p = (N : Int) := by rw [hN0]; unfold nsegP; rw [if_pos ht]; exact (Int.toNat_of_nonneg (segsP_nonneg p)).symm
    rw [hsg] at HS
    have CL := Lib.hid (fun v l w h hl => clone_any v l w h hl)
    have oS : Own B (Bk b1 27 (pnL p).toArray * (J [] * (Rw 5 1 (.slice A1 b.length c1) b.length (bytesU b) * (Bk b0 22 #[.slice A l.length c] * R')))) w1 := o2.cast (by ac_rfl)
    have hsN : (N : Int) ≤ 4259840 := by
      rw [← hsg]
      unfold segsP
      split
      · rename_i hm
        obtain ⟨m0, m1, _, _, m4, m5⟩ := p.may_true hm
        exact Int.le_trans (Int.ediv_le_self _ (by omega)) (by omega)
      · omega
    clear hN0 hsg hf o1 o2 h0 h1 ht
    obtain ⟨pch, pwi, pt, pd⟩ := p
    simp only at k2 ht' ht2 SF
    have K0 : Hid (∀ (W' : World) (R'' : HP), Own B (Bk b1 27 (pnL ⟨pch, pwi, pt, pd⟩).toArray * R'') W' → W'.cell? ⟨b1, 0, none⟩ = some (.int .i64 pch)) := Lib.hid (fun W' R'' h => (h.cell 0).trans rfl)
    generalize hXX : (pnL ⟨pch, pwi, pt, pd⟩).toArray = X at *
    have HX := Lib.hid hXX
    clear hXX
    gi_wp2_with first
      | (refine wpListIn_load_row rfl 27 (.tmp 2) rfl b1 rfl 27 X (0, 0) _ Hh.out Tryd.underlying27 rfl Hinf.out ?_)
    refine ⟨trivial, (callsIn_wide.2 (HS.out _)).mono ?_⟩
    rintro e w2 ⟨rfl, b2⟩
    have o3 := oS.grown B1 b2
    have hb2 := hb1.trans (b2.mono B1)
    clear oS Hh k2 k0 hb1 B1 b2 HS b1' SC
    gi_wp2
    gi_loopw [15] (fun v wr => ∃ (k : Nat) (pre : List Sg), k ≤ N ∧ v = .int .i64 (k : Int) ∧ Hid (pre.map (·.k) = List.range k) ∧ Own B (Bk b1 27 X * (J pre * (Rw 5 1 (.slice A1 b.length c1) b.length (bytesU b) * (Bk b0 22 #[.slice A l.length c] * R')))) wr ∧ Below B W wr)
      (fun v _ => N - (intOf v).toNat)
    case atStart => exact ⟨0, [], Nat.zero_le _, rfl, Lib.hid rfl, o3, hb2⟩
    case round =>
      clear o3 hb2
      obtain ⟨k, pre, hkN, rfl, hpre, ho, hb⟩ := hrel
      have Bw : B ≤ wr.heap.size := Nat.le_trans hBW hb.size
      have k0' : (0 : Int) ≤ (k : Int) := by omega
      by_cases hlt : (k : Int) < (N : Int)
      · obtain ⟨i, m, j, hi, hm, hj, hij, hjb, hct, x3, x5, x6, x7, m0, m1⟩ := SF.out k (by omega)
        have hfk : f k = cutP b i j := (SF2.out k).trans hct
        obtain ⟨hcu, hcl⟩ := bytesU_cut b i j hjb (by omega)
        rw [← hfk] at hcu hcl
        have hrd := (ho.foc (Rw 5 1 (.slice A1 b.length c1) b.length (bytesU b))).rd
        have hcap := (ho.foc (Rw 5 1 (.slice A1 b.length c1) b.length (bytesU b))).cap
        obtain ⟨a0, o0, rfl, hx0⟩ := hrd.at' 0 (by omega)
        clear hx0
        have hpt := hrd.part i (j - i) (c1 - i) (bytesU (f k)) hcu (by rw [bytesU_length]; exact hcl)
        simp only [Option.map_some, Addr.add_lit] at hpt
        have C2 := Lib.hid (CL.out _ (f k) wr hpt (by omega))
        have k0 := K0.out wr _ ho
        have hjm2 : min (m : Int) (b.length : Int) = (j : Int) := by omega
        have hjm : (if (m : Int) < (b.length : Int) then (m : Int) else (b.length : Int)) = (j : Int) := by split <;> omega
        have x1 : (i : Int) < (j : Int) := by omega
        have x2 : (j : Int) ≤ (b.length : Int) := by omega
        have x4 : (0 : Int) ≤ (i : Int) := by omega
        have n2 : (b.length : Int) ≤ (c1 : Int) := by omega
        have n3 : (c1 : Int) ≤ 9223372036854775807 := by omega
        have Hpl : Hid (pre.length = k) := Lib.hid (by have := congrArg List.length hpre.out; simpa using this)
        have HkN := Lib.hid hlt
        have Hfl := Lib.hid hcl
        clear SF SF2 hct hcu hcl hrd hcap hpt hfk hj hij hjb x7 hkN
        generalize hbn : b.length = bn at *
        gi_wp2_with fail
        refine ⟨trivial, (callsIn_wide.2 C2.out).mono ?_⟩
        rintro e w3 ⟨v3, rfl, h3, b3⟩
        have o4 := Own.fresh Bw ho h3 b3
        have hb3 := hb.trans (b3.mono Bw)
        have B3 := Nat.le_trans Bw b3.size
        obtain ⟨A3, c3, rfl⟩ := o4.row_n
        obtain ⟨fn, tmps, assign, body, hy, hR⟩ := hY pre ⟨k, A3, c3⟩ (Bk b1 27 X * (Rw 5 1 (.slice (some ⟨a0, o0, none⟩) bn c1) bn (bytesU b) * (Bk b0 22 #[.slice A l.length c] * R'))) inferInstance w3 B3 hb3 ⟨by rw [Hpl.out]; exact hpre.out, Hpl.out.symm, by have := Hpl.out; have := HkN.out; omega⟩
          ((o4.cast (show _ = J pre * (Rw 5 1 (.slice A3 (f k).length c3) (f k).length (bytesU (f k)) * (Bk b1 27 X * (Rw 5 1 (.slice (some ⟨a0, o0, none⟩) bn c1) bn (bytesU b) * (Bk b0 22 #[.slice A l.length c] * R')))) by ac_rfl)))
        unfold sgEnc at hy
        dsimp only at hy
        have Hpx := Lib.hid (show (pre ++ [(⟨k, A3, c3⟩ : Sg)]).map (·.k) = List.range (k + 1) by rw [List.map_append, hpre.out, List.range_succ]; rfl)

        clear hbn
        clear hY o4 ho h3 b3 hb k0 hpre
        gi_wp2
        refine hR.mono ?_
        rintro e W3 (⟨rfl, hJ3, b4⟩ | ⟨rfl, hJx3, b4⟩)
        · gi_wp2
          go_roundw
          case rel => exact ⟨k + 1, pre ++ [⟨k, A3, c3⟩], by have := HkN.out; omega, rfl, Hpx, hJ3.cast (by ac_rfl), hb3.trans b4⟩
          case measure => have := HkN.out; simp [intOf]; omega
        · have oF : Own B (Jx (pre ++ [⟨k, A3, c3⟩]) * ((Bk b0 22 #[.slice A l.length c] * Bk b1 27 X) * R')) W3 := (Own.right (A := Rw 5 1 (.slice (some ⟨a0, o0, none⟩) bn c1) bn (bytesU b)) (hJx3.cast (by ac_rfl)))
          gi_wp2
          refine bodyPost_ret (results_none rfl _ _ _) rfl ?_
          exact ⟨⟨_, rfl⟩, hb3.trans b4, .inr ⟨_, ⟨k + 1, by omega, by have := HkN.out; omega, Hpx.out⟩, by rw [HX.out]; exact oF⟩⟩
      · obtain rfl : k = N := by omega
        have oF : Own B (J pre * ((Bk b0 22 #[.slice A l.length c] * Bk b1 27 X) * R')) wr := (Own.right (A := Rw 5 1 (.slice A1 b.length c1) b.length (bytesU b)) (ho.cast (by ac_rfl)))
        gi_wp2
        go_end0
        exact ⟨⟨_, rfl⟩, hb, .inl ⟨pre, hpre.out, by rw [HX.out]; exact oF⟩⟩
  · have ht' : (p.tot == (b.length : Int)) = false := by simpa using ht
    have ht2 : (p.tot != (b.length : Int)) = true := by simpa using ht
    have HN : Hid (N = 0) := Lib.hid (by rw [hN0]; unfold nsegP; rw [if_neg ht])
    have oF : Own B (J [] * ((Bk b0 22 #[.slice A l.length c] * Bk b1 27 (pnL p).toArray) * R')) w1 := (o1.drop).cast (by ac_rfl)
    clear hN0 hf SF2 HS Hh hY o1 o2 h0 h1 b1'
    obtain ⟨pch, pwi, pt, pd⟩ := p
    simp only at k2 ht' ht ht2
    generalize hXX : (pnL ⟨pch, pwi, pt, pd⟩).toArray = X at *
    have HX := Lib.hid hXX
    clear hXX
    generalize b.length = bn at *
    gi_wp2
    refine bodyPost_ret (results_none rfl _ _ _) rfl ?_
    exact ⟨⟨_, rfl⟩, hb1, .inl ⟨[], by rw [HN.out]; rfl, by rw [HX.out]; exact oF⟩⟩
end Go.Proofs.YtmppagiaonbggaaDoor
