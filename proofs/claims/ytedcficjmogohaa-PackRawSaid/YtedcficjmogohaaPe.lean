/- Texts of one proof, merged: XM1 XM2 XTwl XPre XM3 XM4 XCa XCz XLe XLp XTwd. -/
import Derived.Test.YtedcficjmogohaaPd
import Derived.Laws.OwnMore
import Derived.Laws.BytesArg
/- Package pack's model as owned; the walk over begin. -/
namespace Go.Proofs.Ytedcficjmogohaa
set_option linter.unusedVariables false
set_option linter.unusedSimpArgs false
set_option maxRecDepth 100000
open Go.RowKit

/-- So many parts, each apart from the others. -/
def Big (A : Nat → HP) : Nat → HP
  | 0 => Emp
  | n + 1 => A n * Big A n
def BigX (A : Nat → HP) (q : Nat) : Nat → HP
  | 0 => Emp
  | n + 1 => if n = q then Big A n else A n * BigX A q n
theorem big_split (A : Nat → HP) (q : Nat) : ∀ n, q < n → Big A n = A q * BigX A q n
  | 0, h => by omega
  | n + 1, h => by
    rw [Big, BigX]
    split
    · rename_i e; subst e; rfl
    · rw [big_split A q n (by omega), sep_left_comm]
theorem big_congr (A A' : Nat → HP) : ∀ n, (∀ i, i < n → A i = A' i) → Big A n = Big A' n
  | 0, _ => rfl
  | n + 1, h => by rw [Big, Big, h n (by omega), big_congr A A' n (fun i hi => h i (by omega))]
theorem bigX_congr (A A' : Nat → HP) (q : Nat) : ∀ n, (∀ i, i < n → i ≠ q → A i = A' i) → BigX A q n = BigX A' q n
  | 0, _ => rfl
  | n + 1, h => by
    rw [BigX, BigX]
    split
    · rename_i e; subst e; exact big_congr A A' n (fun i hi => h i (by omega) (by omega))
    · rename_i e; rw [h n (by omega) e, bigX_congr A A' q n (fun i hi hq => h i (by omega) hq)]
instance Loc.big {B : Nat} {A : Nat → HP} [k : ∀ i, Loc B (A i)] : ∀ {n : Nat}, Loc B (Big A n)
  | 0 => inferInstanceAs (Loc B Emp)
  | n + 1 => @Loc.sep B (A n) (Big A n) (k n) (Loc.big (n := n))
instance Loc.bigX {B q : Nat} {A : Nat → HP} [k : ∀ i, Loc B (A i)] : ∀ {n : Nat}, Loc B (BigX A q n)
  | 0 => inferInstanceAs (Loc B Emp)
  | n + 1 => by
    rw [BigX]
    split
    · exact Loc.big
    · exact @Loc.sep B (A n) (BigX A q n) (k n) (Loc.bigX (n := n))

def upd {α : Type} (f : Nat → α) (q : Nat) (x : α) : Nat → α := fun i => if i = q then x else f i
theorem upd_same {α : Type} (f : Nat → α) (q : Nat) (x : α) : upd f q x q = x := by simp [upd]
theorem upd_other {α : Type} (f : Nat → α) {q i : Nat} (x : α) (h : i ≠ q) : upd f q x i = f i := by simp [upd, h]
def chSl (g n : Nat) : Value := .slice (some ⟨g, 0, none⟩) n n
def mdC (a : Value) (lv : Nat → Value) (n b : Value) (kind : Int) (v : Value) : Array Value := #[a, lv 0, lv 1, lv 2, lv 3, lv 4, lv 5, lv 6, lv 7, n, b, .int .i64 kind, v]
theorem mdC_lit (a : Value) (lv : Nat → Value) (n b : Value) (kind : Int) (v : Value) (i : Nat) (h : i < 8) : (mdC a lv n b kind v)[1 + i]? = some (lv i) := by
  match i, h with
  | 0, _ | 1, _ | 2, _ | 3, _ | 4, _ | 5, _ | 6, _ | 7, _ => rfl
theorem mdC_set (a : Value) (lv : Nat → Value) (n b : Value) (kind : Int) (v : Value) (i : Nat) (h : i < 8) (x : Value) : (mdC a lv n b kind v).setIfInBounds (1 + i) x = mdC a (upd lv i x) n b kind v := by
  match i, h with
  | 0, _ | 1, _ | 2, _ | 3, _ | 4, _ | 5, _ | 6, _ | 7, _ => rfl
/-- A model: all chances, and what was ahead. -/
structure MS where
  kinds : List Int
  lits : Nat → List Int
  lens : List Int
  backs : List Int
  kind : Nat
  out : List UInt8
structure MS.ok (m : MS) : Prop where
  kinds : m.kinds.length = 2
  lits : ∀ i, (m.lits i).length = 256
  lens : m.lens.length = 256
  backs : m.backs.length = 16
  kind : m.kind < 2
  ckinds : chOk m.kinds
  clits : ∀ i, chOk (m.lits i)
  clens : chOk m.lens
  cbacks : chOk m.backs
/-- Where a model's parts lie. -/
structure MA where
  gk : Nat
  gl : Nat → Nat
  gn : Nat
  gb : Nat
abbrev Cb (g : Nat) (l : List Int) : HP := Bk g 106 (chV l)
def Lt (a : MA) (f : Nat → List Int) : HP := Big (fun i => Cb (a.gl i) (f i)) 8
instance Loc.lt {B : Nat} {a : MA} {f : Nat → List Int} : Loc B (Lt a f) := inferInstanceAs (Loc B (Big _ 8))
def mdA (a : MA) (kind : Int) (v : Value) : Array Value := mdC (chSl a.gk 2) (fun i => chSl (a.gl i) 256) (chSl a.gn 256) (chSl a.gb 16) kind v
def MdV (p : Nat) (a : MA) (v : Value) (m : MS) : HP := Bk p 97 (mdA a m.kind v) * (Cb a.gk m.kinds * (Lt a m.lits * (Cb a.gn m.lens * (Cb a.gb m.backs * Rw 5 1 v m.out.length (bytesU m.out)))))
instance Loc.mdv {B p : Nat} {a : MA} {v : Value} {m : MS} : Loc B (MdV p a v m) := inferInstanceAs (Loc B (Bk _ _ _ * (Cb _ _ * (Lt _ _ * (Cb _ _ * (Cb _ _ * Rw _ _ _ _ _))))))
def Md (p : Nat) (a : MA) (m : MS) : HP := Hex fun v => MdV p a v m
instance Loc.md {B p : Nat} {a : MA} {m : MS} : Loc B (Md p a m) := inferInstanceAs (Loc B (Hex _))
def ms0 : MS := ⟨List.replicate 2 0, fun _ => List.replicate 256 0, List.replicate 256 0, List.replicate 16 0, 0, []⟩
theorem chOk_zero (n : Nat) : chOk (List.replicate n 0) := fun x hx => by rw [(List.mem_replicate.1 hx).2]; omega
theorem ms0_ok : ms0.ok := ⟨by simp [ms0], fun i => by simp [ms0], by simp [ms0], by simp [ms0], by simp [ms0], chOk_zero _, fun _ => chOk_zero _, chOk_zero _, chOk_zero _⟩
theorem mdv_eq {p : Nat} {a : MA} {v : Value} {m : MS} {R : HP} : MdV p a v m * R = Bk p 97 (mdA a m.kind v) * (Cb a.gk m.kinds * (Lt a m.lits * (Cb a.gn m.lens * (Cb a.gb m.backs * (Rw 5 1 v m.out.length (bytesU m.out) * R))))) := by
  show (_ * (_ * (_ * (_ * (_ * _))))) * R = _
  simp only [sep_assoc]

set_option maxHeartbeats 6400000 in
theorem mbegin_any (B : Nat) (R : HP) [Loc B R] (w : World) (hB : B ≤ w.heap.size) (hO : Own B R w) :
    Calls Try.prog 31 #[] w fun e w' => ∃ p a, Ret B w (.pointer (some ⟨p, 0, none⟩)) (Md p a ms0 * R) e w' := by
  have C := Lib.hid (fun (k : Nat) (hk : k ≤ 131072) (R : HP) (_ : Loc B R) w1 hB1 (h : Own B R w1) => chances_any k (k : Int) rfl hk B R w1 hB1 h)
  have b0 := Below.refl B w
  go_enter Try.func31, Try.ntmps31
  go_wp2_with fail
  refine (C.out 2 (by omega) R inferInstance _ hB hO).mono ?_
  rintro e w1 ⟨ak, rfl, o1, b1⟩
  have B1 := Nat.le_trans hB b1.size
  go_wp2_with fail
  refine (C.out 256 (by omega) _ inferInstance _ B1 o1).mono ?_
  rintro e w2 ⟨an, rfl, o2, b2⟩
  have B2 := Nat.le_trans B1 b2.size
  go_wp2_with fail
  refine (C.out 16 (by omega) _ inferInstance _ B2 o2).mono ?_
  rintro e w3 ⟨ab, rfl, o3, b3⟩
  have B3 := Nat.le_trans B2 b3.size
  have o4 := o3.new B3 97 (mdC (chSl ak 2) (fun _ => .slice none 0 0) (chSl an 256) (chSl ab 16) 0 (.slice none 0 0))
  have b4 := ((b0.trans b1).trans (b2.trans b3)).alloc B3 (.cells (mdC (chSl ak 2) (fun _ => .slice none 0 0) (chSl an 256) (chSl ab 16) 0 (.slice none 0 0)) 97)
  clear o1 o2 o3 hO b0 b1 b2 b3 B1 B2
  go_wp2
  generalize hX0 : w3.heap.size = X0 at *
  have B4 : B ≤ (w3.alloc (.cells (mdC (chSl ak 2) (fun _ => .slice none 0 0) (chSl an 256) (chSl ab 16) 0 (.slice none 0 0)) 97)).heap.size := by simp; omega
  go_loopg [8] 8 (fun k u wr => ∃ (i : Nat) (gl : Nat → Nat), k + i = 8 ∧ u = .int .i64 (i : Int) ∧ Below B w wr ∧ B ≤ wr.heap.size ∧ Own B (Bk X0 97 (mdC (chSl ak 2) (fun j => if j < i then chSl (gl j) 256 else .slice none 0 0) (chSl an 256) (chSl ab 16) 0 (.slice none 0 0)) * (Big (fun j => Cb (gl j) (List.replicate 256 0)) i * (Cb ab (List.replicate 16 0) * (Cb an (List.replicate 256 0) * (Cb ak (List.replicate 2 0) * R))))) wr)
  case atStart =>
    refine ⟨0, fun _ => 0, rfl, rfl, b4, B4, ?_⟩
    simp only [Nat.not_lt_zero, if_false]
    exact (o4.emp).cast (by rw [sep_left_comm]; rfl)
  case round =>
    clear o4 b4 B4
    obtain ⟨i, gl, hk, rfl, hb, Bw, ho⟩ := hrel
    have i0 : (0 : Int) ≤ (i : Int) := by omega
    by_cases hi : (i : Int) < 8
    · obtain ⟨j, rfl⟩ : ∃ j, gk = j + 1 := ⟨gk - 1, by omega⟩
      go_wp2
      refine wp_region_umix (St B _ wr) [0, 1, 3, 4] [] [2, 5, 6] mixed (by kernel_rfl) rfl (fun _ _ _ _ _ h => h) (St.drew Bw ho) ?_
      simp only [List.filterMap_cons, List.filterMap_nil, List.getElem?_toArray, List.getElem?_cons_succ, List.getElem?_cons_zero]
      repeat (
        refine free_val ?_ rfl (fun w1 => ?_) ?_
        rotate_left
        · (go_simp
           try go_bits
           rfl)
        simp only [Act.put, List.setIfInBounds_toArray, List.set_cons_zero, List.set_cons_succ])
      refine free_nil ?_
      refine held_nil (fun w5 hS => ?_)
      obtain ⟨B5, o5, b5⟩ := hS
      have hb5 := hb.trans b5
      clear ho hb b5 Bw
      go_wp2_with fail
      refine (C.out 256 (by omega) _ inferInstance _ B5 o5).mono ?_
      rintro e w6 ⟨g, rfl, o6, b6⟩
      have hb6 := hb5.trans b6
      have B6 := Nat.le_trans B5 b6.size
      have c6 : w6.cell? ⟨X0, 1 + i, none⟩ = some (.slice none 0 0) := (o6.cellOf X0 (1 + i)).trans ((mdC_lit _ _ _ _ _ _ i (by omega)).trans (by simp))
      have z6 := o6.freeOf X0 (1 + i)
      obtain ⟨o7, b7⟩ := o6.setOf B6 X0 (1 + i) (chSl g 256)
      rw [mdC_set _ _ _ _ _ _ i (by omega)] at o7
      have e1 : upd (fun j => if j < i then chSl (gl j) 256 else .slice none 0 0) i (chSl g 256) = fun j => if j < i + 1 then chSl (upd gl i g j) 256 else .slice none 0 0 := by
        funext j
        by_cases h1 : j = i
        · subst h1; rw [upd_same, if_pos (by omega), upd_same]
        · rw [upd_other _ _ h1, upd_other _ _ h1]
          by_cases h2 : j < i
          · rw [if_pos h2, if_pos (by omega)]
          · rw [if_neg h2, if_neg (by omega)]
      have e2 : Big (fun j => Cb (upd gl i g j) (List.replicate 256 0)) (i + 1) = Cb g (List.replicate 256 0) * Big (fun j => Cb (gl j) (List.replicate 256 0)) i := by
        rw [Big, upd_same]
        rw [big_congr (fun j => Cb (upd gl i g j) (List.replicate 256 0)) (fun j => Cb (gl j) (List.replicate 256 0)) i (fun j hj => by simp only [upd_other gl g (show j ≠ i by omega)])]
      rw [e1] at o7
      have O8 := Lib.hid (o7.cast (show _ = Bk X0 97 (mdC (chSl ak 2) (fun j => if j < i + 1 then chSl (upd gl i g j) 256 else .slice none 0 0) (chSl an 256) (chSl ab 16) 0 (.slice none 0 0)) * (Big (fun j => Cb (upd gl i g j) (List.replicate 256 0)) (i + 1) * (Cb ab (List.replicate 16 0) * (Cb an (List.replicate 256 0) * (Cb ak (List.replicate 2 0) * R)))) by
        rw [e2]
        generalize Big (fun j => Cb (gl j) (List.replicate 256 0)) i = BB
        simp only [Cb]
        ac_rfl))
      have hb7 := hb6.trans b7
      have B7 := Nat.le_trans B6 b7.size
      clear o7 e1 e2 o6 b6 b7 hb6 hb5 o5
      have Hk := Lib.hid hk
      clear hk
      go_wp2
      go_roundg j
      case measure => omega
      case rel => exact ⟨i + 1, upd gl i g, by have := Hk.out; omega, rfl, hb7, B7, O8.out⟩
    · obtain rfl : i = 8 := by omega
      have h1 := (ho.cast (show _ = Bk X0 97 (mdA ⟨ak, gl, an, ab⟩ 0 (.slice none 0 0)) * (Cb ak (List.replicate 2 0) * (Lt ⟨ak, gl, an, ab⟩ ms0.lits * (Cb an (List.replicate 256 0) * (Cb ab (List.replicate 16 0) * R)))) by
        unfold mdA Lt
        rw [show (mdC (chSl ak 2) (fun j => if j < 8 then chSl (gl j) 256 else .slice none 0 0) (chSl an 256) (chSl ab 16) 0 (.slice none 0 0)) = mdC (chSl ak 2) (fun i => chSl (gl i) 256) (chSl an 256) (chSl ab 16) 0 (.slice none 0 0) from rfl]
        show Bk _ _ _ * (Big (fun j => Cb (gl j) (List.replicate 256 0)) 8 * _) = Bk _ _ _ * (_ * (Big (fun j => Cb (gl j) (List.replicate 256 0)) 8 * _))
        generalize Big (fun j => Cb (gl j) (List.replicate 256 0)) 8 = BB
        ac_rfl)).rw_nil 5 1
      go_wp2
      go_ret
      refine ⟨X0, ⟨ak, gl, an, ab⟩, rfl, ?_, hb⟩
      refine Own.to_hex (A := fun v => MdV X0 ⟨ak, gl, an, ab⟩ v ms0) (.slice none 0 0) ?_
      rw [mdv_eq]
      exact h1.cast (by
        show _ = Bk X0 97 (mdA ⟨ak, gl, an, ab⟩ 0 (.slice none 0 0)) * (Cb ak (List.replicate 2 0) * (Lt ⟨ak, gl, an, ab⟩ ms0.lits * (Cb an (List.replicate 256 0) * (Cb ab (List.replicate 16 0) * (Rw 5 1 (.slice none 0 0) 0 [] * R)))))
        ac_rfl)
end Go.Proofs.Ytedcficjmogohaa

/- The walks over tree and fits of pack's model. -/
namespace Go.Proofs.Ytedcficjmogohaa
set_option linter.unusedVariables false
set_option linter.unusedSimpArgs false
set_option maxRecDepth 100000
open Go.RowKit

def treeIx (out : List UInt8) : Nat := if out.length = 0 then 0 else ((out[out.length - 1]?).getD 0).toNat / 32
theorem treeIx_lt (out : List UInt8) : treeIx out < 8 := by
  unfold treeIx
  split
  · omega
  · have := ((out[out.length - 1]?).getD 0).toNat_lt; omega
theorem Own.byteAt {B g n cap : Nat} {l : List UInt8} {R : HP} {w : World} (h : Own B (Rw 5 1 (.slice (some ⟨g, 0, none⟩) n cap) n (bytesU l) * R) w) (i : Nat) (x : UInt8) (hx : l[i]? = some x) : w.cell? ⟨g, i, none⟩ = some (.int .u8 (x.toNat : Int)) := by
  have hr := h.row
  have := hr.cells (g := g) rfl i (.int .u8 (x.toNat : Int)) (by simp [bytesU, hx])
  rw [Addr.add_lit, Nat.zero_add] at this
  exact this
theorem mdA_lit (a : MA) (kind : Int) (v : Value) (i : Nat) (h : i < 8) : (mdA a kind v)[1 + i]? = some (chSl (a.gl i) 256) := mdC_lit _ _ _ _ _ _ i h

set_option maxHeartbeats 6400000 in
theorem tree_any (p : Nat) (a : MA) (v : Value) (m : MS) (hl : m.out.length ≤ 70000) (B : Nat) (R : HP) [Loc B R] (w : World) (hB : B ≤ w.heap.size) (hO : Own B (MdV p a v m * R) w) :
    Calls Try.prog 57 #[.pointer (some ⟨p, 0, none⟩)] w (Ret B w (chSl (a.gl (treeIx m.out)) 256) (MdV p a v m * R)) := by
  have hO1 := hO.cast mdv_eq
  have c12 : w.cell? ⟨p, 12, none⟩ = some v := hO1.cellOf p 12
  have hlit := fun (w1 : World) (h : Own B (MdV p a v m * R) w1) (i : Nat) (hi : i < 8) => ((h.cast mdv_eq).cellOf p (1 + i)).trans (mdA_lit a m.kind v i hi)
  have hx := treeIx_lt m.out
  have hR := hO1.foc (Rw 5 1 v m.out.length (bytesU m.out))
  by_cases h0 : m.out.length = 0
  · have e0 : treeIx m.out = 0 := by unfold treeIx; rw [if_pos h0]
    rw [e0]
    have l0 : w.cell? ⟨p, 1, none⟩ = some (chSl (a.gl 0) 256) := hlit w hO 0 (by omega)
    obtain ⟨A, c, hv⟩ := hR.row_n
    rw [h0] at hv
    have O2 := Lib.hid hO
    clear hlit hR hO hO1
    subst hv
    generalize a.gl 0 = g0 at *
    go_enter Try.func57, Try.ntmps57
    go_wp2
    go_ret
    exact ⟨rfl, O2.out, Below.refl _ _⟩
  · obtain ⟨g, cap, rfl, _⟩ := hR.row.form (by omega)
    obtain ⟨n1, hn1⟩ : ∃ n1, m.out.length = n1 + 1 := ⟨m.out.length - 1, by omega⟩
    obtain ⟨x, hx0⟩ : ∃ x, m.out[n1]? = some x := ⟨_, List.getElem?_eq_getElem (by omega)⟩
    have e0 : treeIx m.out = x.toNat / 32 := by unfold treeIx; rw [if_neg h0, hn1, show n1 + 1 - 1 = n1 by omega, hx0]; rfl
    rw [e0] at hx ⊢
    have Hby := Lib.hid (fun w1 (h : St B (MdV p a (.slice (some ⟨g, 0, none⟩) m.out.length cap) m * R) w w1) => ((h.2.1.cast mdv_eq).foc (Rw 5 1 (.slice (some ⟨g, 0, none⟩) m.out.length cap) m.out.length (bytesU m.out))).byteAt n1 x hx0)
    have Hli := Lib.hid (fun w1 (h : St B (MdV p a (.slice (some ⟨g, 0, none⟩) m.out.length cap) m * R) w w1) => hlit w1 h.2.1 (x.toNat / 32) hx)
    have Hv := Lib.hid (fun w1 (h : St B (MdV p a (.slice (some ⟨g, 0, none⟩) m.out.length cap) m * R) w w1) => (show w1.cell? ⟨p, 12, none⟩ = some (.slice (some ⟨g, 0, none⟩) m.out.length cap) from (h.2.1.cast mdv_eq).cellOf p 12))
    have xlt := x.toNat_lt
    have s0 := St.drew hB hO
    clear hlit hR hO1 hO e0 hx0
    rw [hn1] at c12 Hby Hli Hv s0 hl ⊢
    clear hn1 h0
    have n2 : (n1 : Int) ≤ 70000 := by omega
    have n3 : (n1 : Int) < (n1 : Int) + 1 := by omega
    have n4 : ((n1 : Int) + 1 == 0) = false := by rw [beq_eq_false_iff_ne]; omega
    generalize x.toNat = X at *
    have hY : (X : Int) / 32 = ((X / 32 : Nat) : Int) := by omega
    generalize X / 32 = Y at *
    have Y0 : (0 : Int) ≤ (Y : Int) := by omega
    have Y8 : (Y : Int) < 8 := by omega
    generalize a.gl Y = gx at *
    have n0 : (0 : Int) ≤ (n1 : Int) := by omega
    have X0 : (0 : Int) ≤ (X : Int) := by omega
    have X1 : (X : Int) < 256 := by omega
    go_enter Try.func57, Try.ntmps57
    go_wp2
    refine wp_region_mix (St B _ w) [0, 1, 2, 3, 4, 5, 6, 7, 8, 9, 10, 11, 12, 13, 14, 15, 16, 17] [18] mixed (by kernel_rfl) rfl s0 ?_
    simp only [List.filterMap_cons, List.filterMap_nil, List.getElem?_toArray, List.getElem?_cons_succ, List.getElem?_cons_zero]
    repeat (first
      | (refine held_val ?_ rfl (fun w1 hS => ?_) ?_
         rotate_left
         · (have c12 := Hv.out w1 hS; have cx := Hby.out w1 hS; have cl := Hli.out w1 hS
            go_simp
            try go_bits
            rfl)
         simp only [Act.put, List.setIfInBounds_toArray, List.set_cons_zero, List.set_cons_succ])
      | (refine held_off rfl ?_
         simp only [Act.put, List.setIfInBounds_toArray, List.set_cons_zero, List.set_cons_succ]))
    refine held_nil (fun w3 hS => ?_)
    obtain ⟨B3, o3, b3⟩ := hS
    go_wp2
    go_ret
    exact ⟨rfl, o3, b3⟩
end Go.Proofs.Ytedcficjmogohaa

/- The rule of two threads once more: with reads that what both leave alone decides, in whatever order; and steps that append. -/
namespace Go.Proofs.Ytedcficjmogohaa
set_option linter.unusedVariables false
set_option linter.unusedSimpArgs false
set_option maxRecDepth 100000
open Go.RowKit

section
variable {P : Program} {ops : Array Oper} {md : Region.Mode} {Q : Exit → Act → World → Prop} {B : Nat}

theorem wpL_two (hsel : Region.noSelect ops = true) {ts : List Nat} {R : HP} [Loc B R] {T : Act → World → Prop} : ∀ (n : Nat) (l1 l2 : List Nat) (listed : Array Bool) (a : Act) (w : World) (Φ1 Φ2 : List Value → HP → Prop) (A1 A2 : HP), l1.length + l2.length = n → Loc B A1 → Loc B A2 →
    TwoOk md ops listed l1 l2 ts → TW P ops B (opsOf ops l1) Φ1 a A1 → TW P ops B (opsOf ops l2) Φ2 a A2 → B ≤ w.heap.size → Own B (A1 * (A2 * R)) w →
    (∀ vs1 A1' vs2 A2' w', Φ1 vs1 A1' → Φ2 vs2 A2' → Own B (A1' * (A2' * R)) w' → Below B w w' → T (putAll (opsOf ops l2) vs2 (putAll (opsOf ops l1) vs1 a)) w') →
    wpL P md ops Q (fun w => Own B R w) T n listed a w
  | 0, l1, l2, listed, a, w, Φ1, Φ2, A1, A2, hn, _, _, ok, h1, h2, hB, hO, hK => by
    obtain rfl : l1 = [] := List.eq_nil_of_length_eq_zero (by omega)
    obtain rfl : l2 = [] := List.eq_nil_of_length_eq_zero (by omega)
    exact hK [] A1 [] A2 w h1 h2 hO (Below.refl B w)
  | n + 1, l1, l2, listed, a, w, Φ1, Φ2, A1, A2, hn, k1, k2, ok, h1, h2, hB, hO, hK => by
    have hne : l1 ≠ [] ∨ l2 ≠ [] := by
      cases l1 with
      | nil => right; intro e; subst e; simp at hn
      | cons x l => left; simp
    have hrdy : Region.ready md ops listed ≠ [] := by
      intro h0
      rcases hne with hne | hne
      · obtain ⟨x, l, rfl⟩ : ∃ x l, l1 = x :: l := by cases l1 with | nil => exact absurd rfl hne | cons x l => exact ⟨x, l, rfl⟩
        have hlex := ok.lex1
        simp only [lexOk, Bool.and_eq_true] at hlex
        have hun := ok.un x (by simp)
        have : x ∈ Region.ready md ops listed := mem_ready'.2 ⟨hun.1, hun.2, hlex.1⟩
        rw [h0] at this; cases this
      · obtain ⟨x, l, rfl⟩ : ∃ x l, l2 = x :: l := by cases l2 with | nil => exact absurd rfl hne | cons x l => exact ⟨x, l, rfl⟩
        have hlex := ok.lex2
        simp only [lexOk, Bool.and_eq_true] at hlex
        have hun := ok.un x (by simp)
        have : x ∈ Region.ready md ops listed := mem_ready'.2 ⟨hun.1, hun.2, hlex.1⟩
        rw [h0] at this; cases this
    have hd : ∀ {A1' A2' : HP} {w' : World}, Loc B A1' → Loc B A2' → Own B (A1' * (A2' * R)) w' → Own B R w' := fun _ _ h => h.right.right
    refine ⟨hrdy, fun i hi => ?_⟩
    have hlt := (mem_ready'.1 hi).1
    obtain ⟨o, ho⟩ : ∃ o, ops[i]? = some o := ⟨_, Array.getElem?_eq_getElem hlt⟩
    unfold wpOp
    simp only [ho]
    rcases ok.only hne hi with ⟨l, rfl⟩ | ⟨l, rfl⟩
    · rw [opsOf_cons ho] at h1
      have hap : ∀ o' ∈ opsOf ops l2, (∃ j : Nat, ops[j]? = some o') ∧ o'.apart ops o = true := fun o' h' => by
        obtain ⟨j, hj, hoj⟩ := mem_opsOf h'
        exact ⟨⟨j, hoj⟩, (ok.apart i List.mem_cons_self j hj o o' ho hoj).2⟩
      have hlen : l.length + l2.length = n := by simp at hn; omega
      obtain ⟨_, h1 | h1⟩ := h1
      · rw [if_pos h1.1]
        left
        refine h1.2.wp hB hO fun v A' w' ⟨kl, ht⟩ hO' hb => ⟨hd kl k2 hO', ?_⟩
        refine wpL_two hsel n l l2 _ _ w' (fun vs => Φ1 (v :: vs)) Φ2 A' A2 hlen kl k2 ok.strike ht (h2.put hsel _ _ _ _ hap) (Nat.le_trans hB hb.size) hO' fun vs1 A1' vs2 A2' w'' p1 p2 hO'' hb' => ?_
        have := hK (v :: vs1) A1' vs2 A2' w'' p1 p2 hO'' (hb.trans hb')
        rw [opsOf_cons ho] at this
        exact this
      · rw [if_neg (by rw [h1.1]; exact Bool.false_ne_true)]
        refine ⟨hd k1 k2 hO, wpL_two hsel n l l2 _ _ w (fun vs => Φ1 (undef :: vs)) Φ2 A1 A2 hlen k1 k2 ok.strike h1.2 (h2.put hsel _ _ _ _ hap) hB hO fun vs1 A1' vs2 A2' w'' p1 p2 hO'' hb' => ?_⟩
        have := hK (undef :: vs1) A1' vs2 A2' w'' p1 p2 hO'' hb'
        rw [opsOf_cons ho] at this
        exact this
    · rw [opsOf_cons ho] at h2
      have hap : ∀ o' ∈ opsOf ops l1, (∃ j : Nat, ops[j]? = some o') ∧ o'.apart ops o = true := fun o' h' => by
        obtain ⟨j, hj, hoj⟩ := mem_opsOf h'
        exact ⟨⟨j, hoj⟩, (ok.apart j hj i List.mem_cons_self o' o hoj ho).1⟩
      have hlen : l1.length + l.length = n := by simp at hn; omega
      obtain ⟨_, h2 | h2⟩ := h2
      · rw [if_pos h2.1]
        left
        refine h2.2.wp hB (hO.cast (sep_left_comm _ _ _)) fun v A' w' ⟨kl, ht⟩ hO' hb => ⟨hd kl k1 hO', ?_⟩
        refine wpL_two hsel n l1 l _ _ w' Φ1 (fun vs => Φ2 (v :: vs)) A1 A' hlen k1 kl ok.swap.strike.swap (h1.put hsel _ _ _ _ hap) ht (Nat.le_trans hB hb.size) (hO'.cast (sep_left_comm _ _ _)) fun vs1 A1' vs2 A2' w'' p1 p2 hO'' hb' => ?_
        have := hK vs1 A1' (v :: vs2) A2' w'' p1 p2 hO'' (hb.trans hb')
        rw [opsOf_cons ho] at this
        rw [putAll_put _ _ _ _ _ (fun o' h' => (hap o' h').2)]
        exact this
      · rw [if_neg (by rw [h2.1]; exact Bool.false_ne_true)]
        refine ⟨hd k1 k2 hO, wpL_two hsel n l1 l _ _ w Φ1 (fun vs => Φ2 (undef :: vs)) A1 A2 hlen k1 k2 ok.swap.strike.swap (h1.put hsel _ _ _ _ hap) h2.2 hB hO fun vs1 A1' vs2 A2' w'' p1 p2 hO'' hb' => ?_⟩
        have := hK vs1 A1' (undef :: vs2) A2' w'' p1 p2 hO'' hb'
        rw [opsOf_cons ho] at this
        rw [putAll_put _ _ _ _ _ (fun o' h' => (hap o' h').2)]
        exact this

/-- THE RULE: us free · ls: reads that R decides, ahead of ts · l1 and l2 two threads · ts the rest, in their order. -/
theorem wp_region_ltwo {id : Nat} {a : Act} {w : World} (us ls l1 l2 ts : List Nat) (A1 A2 R : HP) [k1 : Loc B A1] [k2 : Loc B A2] [Loc B R] (hm : P.follows .mixedOrders = true)
    (hB : (freeB .any ops us (Array.replicate ops.size false) && mixB .any ops (markAll us (Array.replicate ops.size false)) (ls ++ (l1 ++ l2)) ts && twoB .any ops (markAll ls (markAll us (Array.replicate ops.size false))) l1 l2 ts) = true)
    (hf : ops.size = us.length + ((ls.length + (l1.length + l2.length)) + ts.length))
    (hQ : ∀ c a d v w, Q (.panic c) (a.put (some d) v) w → Q (.panic c) a w) (hsz : B ≤ w.heap.size) (hO : Own B (A1 * (A2 * R)) w.drew)
    (h : wpFree P ops (fun a1 => wpLate P ops (fun w => Own B R w) (fun a2 => ∃ Φ1 Φ2 : List Value → HP → Prop, TW P ops B (opsOf ops l1) Φ1 a2 A1 ∧ TW P ops B (opsOf ops l2) Φ2 a2 A2 ∧
      ∀ vs1 A1' vs2 A2' w', Φ1 vs1 A1' → Φ2 vs2 A2' → Own B (A1' * (A2' * R)) w' → Below B w w' → wpList P ops Q (ts.filterMap fun i => ops[i]?) (putAll (opsOf ops l2) vs2 (putAll (opsOf ops l1) vs1 a2)) w')
      (ls.filterMap fun i => ops[i]?) a1) (us.filterMap fun i => ops[i]?) a) : (Code.region id ops true).wp P Q a w := by
  simp only [Bool.and_eq_true] at hB
  obtain ⟨⟨hB1, hB2⟩, hB3⟩ := hB
  obtain ⟨hsel, ok1⟩ := mixB_ok hB2
  obtain ⟨_, ok2⟩ := twoB_ok hB3
  have hts : ∀ i ∈ ts, i < ops.size := fun i hi => (ok1.un i (by simp [hi])).1
  refine wp_region_any hm ?_
  have hR : Own B R w.drew := hO.right.right
  have hgo : wpAny P .any ops Q (us.length + ((ls.length + (l1.length + l2.length)) + ts.length)) (Array.replicate ops.size false) a w.drew := by
    refine wpAny_free hQ hsel us _ a hB1 (fun a1 h1 => ?_) h
    refine wpL_any (S := fun w => Own B R w) (T := fun a4 w4 => wpOps P ops Q ts a4 w4) (fun _ _ h => h) _ (ls ++ (l1 ++ l2)) _ a1 _ (by simp) ok1 ?_
    have := wpL_lates (P := P) (S := fun w => Own B R w) (T := fun a4 w4 => wpOps P ops Q ts a4 w4) (w := w.drew) hsel hQ hR ls (l1 ++ l2) _ a1 ok1 (fun a2 ⟨Φ1, Φ2, t1, t2, hK⟩ _ => ?_) h1
    · rw [List.length_append]
      exact wpL_two hsel (l1.length + l2.length) l1 l2 _ a2 _ Φ1 Φ2 A1 A2 rfl k1 k2 ok2 t1 t2 hsz hO fun vs1 A1' vs2 A2' w' p1 p2 ho hb => wpOps_list ts _ w' hts (hK vs1 A1' vs2 A2' w' p1 p2 ho ((Below.refl B w).drew.trans hb))
    · rw [List.length_append] at this
      exact this
  rw [← hf] at hgo
  exact hgo

/-- A step that makes memory, or turns what the thread owns. -/
theorem tw_run {o : Oper} {l : List Oper} {Φ : List Value → HP → Prop} {a : Act} {A : HP} [k : Loc B A] (Ψ : Value → HP → Prop) (hw : Region.wanted o (yielded ops a.tmps) = true)
    (hr : ∀ (R : HP) [Loc B R] (w : World), B ≤ w.heap.size → Own B (A * R) w → ∃ v A' w', (execOp a.eval o).run P w = .ok (.value v) w' ∧ (Loc B A' ∧ Ψ v A') ∧ Own B (A' * R) w' ∧ Below B w w')
    (h : ∀ v A', Loc B A' → Ψ v A' → TW P ops B l (fun vs => Φ (v :: vs)) (a.put o.dst v) A') : TW P ops B (o :: l) Φ a A :=
  ⟨k, .inl ⟨hw, fun R _ w hB hO => by
    obtain ⟨v, A', w', he, ⟨kl, hp⟩, ho, hb⟩ := hr R w hB hO
    rw [he]
    exact ⟨A', ⟨kl, h v A' kl hp⟩, ho, hb⟩⟩⟩

theorem exec_append {o : Oper} {a : Act} {w w' : World} (s x : Operand) (t : TypeId) {v u v' : Value} (ho : o.op = .call { callee := .builtin .append, args := #[s, x], argTypes := #[t, t] }) (hs : a.eval s = v) (hx : a.eval x = u)
    (hr : (Builtin.append_ #[t, t] o.type #[v, u]).run P w = .ok v' w') : (execOp a.eval o).run P w = .ok (.value v') w' := by
  unfold execOp
  simp only [ho, resolve, invoke, builtin, Sem.run_bind, Sem.run_pure, Result.andThen_ok, List.map_toArray, List.map_cons, List.map_nil, hs, hx, hr]
end
end Go.Proofs.Ytedcficjmogohaa

/- An open-order region, step by step: a stretch in which one step alone may come; and the rule of two threads from any place on. -/
namespace Go.Proofs.Ytedcficjmogohaa
set_option linter.unusedVariables false
set_option linter.unusedSimpArgs false
set_option maxRecDepth 100000
open Go.RowKit

section
variable {P : Program} {ops : Array Oper} {md : Region.Mode} {Q : Exit → Act → World → Prop} {B : Nat}

def preB (md : Region.Mode) (ops : Array Oper) : List Nat → Array Bool → Bool
  | [], _ => true
  | i :: l, listed => decide (i < ops.size) && decide (Region.ready md ops listed = [i]) && preB md ops l (listed.setIfInBounds i true)

theorem letsOut_then {K : Act → World → Prop} (h : LetsOut (Exit.then K Q)) : LetsOut Q := h
theorem upon_then {o : Oper} {a : Act} {N : Act → World → Prop} {K : Act → World → Prop} : ∀ r : Result Next, o.upon P a N (Exit.then K Q) r → o.upon P a N Q r := by
  intro r h
  cases r with
  | ok n w => cases n <;> exact h
  | halt x w => cases x <;> exact h
theorem wpOp_then {i : Nat} {N : Act → World → Prop} {K : Act → World → Prop} {a : Act} {w : World} (h : wpOp P ops (Exit.then K Q) i N a w) : wpOp P ops Q i N a w := by
  unfold wpOp at *
  split at h
  · exact h
  · split at h
    · rename_i hw
      rw [if_pos hw]
      rcases h with h | ⟨h1, h2⟩
      · exact .inl (upon_then _ h)
      · exact .inr ⟨h1, letsOut_then h2⟩
    · rename_i hw
      rw [if_neg hw]
      exact h
theorem wpAny_pre' {n : Nat} : ∀ (pre : List Nat) (listed : Array Bool) (a : Act) (w : World), preB md ops pre listed = true →
    wpOps P ops (Exit.then (fun a w => wpAny P md ops Q n (markAll pre listed) a w) Q) pre a w → wpAny P md ops Q (pre.length + n) listed a w
  | [], listed, a, w, _, h => by rw [List.length_nil, Nat.zero_add]; exact h
  | i :: pre, listed, a, w, hB, h => by
    simp only [preB, Bool.and_eq_true, decide_eq_true_eq] at hB
    obtain ⟨⟨_, hr⟩, hB'⟩ := hB
    rw [wpOps_cons] at h
    rw [show (i :: pre).length + n = (pre.length + n) + 1 by simp; omega]
    refine ⟨fun h0 => (by rw [h0] at hr; cases hr), fun j hj => ?_⟩
    rw [hr] at hj
    obtain rfl := List.mem_singleton.1 hj
    exact wpOp_mono (fun a' w' h' => wpAny_pre' pre _ a' w' hB' h') (wpOp_then h)
theorem preB_lt : ∀ (pre : List Nat) (listed : Array Bool), preB md ops pre listed = true → ∀ i ∈ pre, i < ops.size
  | [], _, _, i, hi => absurd hi (by simp)
  | j :: pre, listed, hB, i, hi => by
    simp only [preB, Bool.and_eq_true, decide_eq_true_eq] at hB
    rcases List.mem_cons.1 hi with rfl | hi
    · exact hB.1.1
    · exact preB_lt pre _ hB.2 i hi
/-- The first steps come one by one. -/
theorem wpAny_pre {fuel n : Nat} {listed : Array Bool} {a : Act} {w : World} (pre : List Nat) (hB : preB md ops pre listed = true) (hf : fuel = pre.length + n)
    (h : wpList P ops (Exit.then (fun a w => wpAny P md ops Q n (markAll pre listed) a w) Q) (pre.filterMap fun i => ops[i]?) a w) : wpAny P md ops Q fuel listed a w := by
  subst hf
  exact wpAny_pre' pre listed a w hB (wpOps_list pre a w (preB_lt pre listed hB) h)
theorem wp_region_pre {id : Nat} {a : Act} {w : World} (pre : List Nat) (n : Nat) (hm : P.follows .mixedOrders = true) (hB : preB .any ops pre (Array.replicate ops.size false) = true) (hf : ops.size = pre.length + n)
    (h : wpList P ops (Exit.then (fun a w => wpAny P .any ops Q n (markAll pre (Array.replicate ops.size false)) a w) Q) (pre.filterMap fun i => ops[i]?) a w.drew) : (Code.region id ops true).wp P Q a w := by
  refine wp_region_any hm ?_
  have := wpAny_pre (md := .any) pre hB hf h
  exact this
/-- Two threads, with late reads, from any place on. -/
theorem wpAny_ltwo {fuel : Nat} {listed : Array Bool} {a : Act} {w : World} (us ls l1 l2 ts : List Nat) (A1 A2 R : HP) [k1 : Loc B A1] [k2 : Loc B A2] [Loc B R]
    (hB : (freeB .any ops us listed && mixB .any ops (markAll us listed) (ls ++ (l1 ++ l2)) ts && twoB .any ops (markAll ls (markAll us listed)) l1 l2 ts) = true)
    (hf : fuel = us.length + ((ls.length + (l1.length + l2.length)) + ts.length))
    (hQ : ∀ c a d v w, Q (.panic c) (a.put (some d) v) w → Q (.panic c) a w) (hsz : B ≤ w.heap.size) (hO : Own B (A1 * (A2 * R)) w)
    (h : wpFree P ops (fun a1 => wpLate P ops (fun w => Own B R w) (fun a2 => ∃ Φ1 Φ2 : List Value → HP → Prop, TW P ops B (opsOf ops l1) Φ1 a2 A1 ∧ TW P ops B (opsOf ops l2) Φ2 a2 A2 ∧
      ∀ vs1 A1' vs2 A2' w', Φ1 vs1 A1' → Φ2 vs2 A2' → Own B (A1' * (A2' * R)) w' → Below B w w' → wpList P ops Q (ts.filterMap fun i => ops[i]?) (putAll (opsOf ops l2) vs2 (putAll (opsOf ops l1) vs1 a2)) w')
      (ls.filterMap fun i => ops[i]?) a1) (us.filterMap fun i => ops[i]?) a) : wpAny P .any ops Q fuel listed a w := by
  simp only [Bool.and_eq_true] at hB
  obtain ⟨⟨hB1, hB2⟩, hB3⟩ := hB
  obtain ⟨hsel, ok1⟩ := mixB_ok hB2
  obtain ⟨_, ok2⟩ := twoB_ok hB3
  have hts : ∀ i ∈ ts, i < ops.size := fun i hi => (ok1.un i (by simp [hi])).1
  have hR : Own B R w := hO.right.right
  have hgo : wpAny P .any ops Q (us.length + ((ls.length + (l1.length + l2.length)) + ts.length)) listed a w := by
    refine wpAny_free hQ hsel us _ a hB1 (fun a1 h1 => ?_) h
    refine wpL_any (S := fun w => Own B R w) (T := fun a4 w4 => wpOps P ops Q ts a4 w4) (fun _ _ h => h) _ (ls ++ (l1 ++ l2)) _ a1 _ (by simp) ok1 ?_
    have := wpL_lates (P := P) (S := fun w => Own B R w) (T := fun a4 w4 => wpOps P ops Q ts a4 w4) (w := w) hsel hQ hR ls (l1 ++ l2) _ a1 ok1 (fun a2 ⟨Φ1, Φ2, t1, t2, hK⟩ _ => ?_) h1
    · rw [List.length_append]
      exact wpL_two hsel (l1.length + l2.length) l1 l2 _ a2 _ Φ1 Φ2 A1 A2 rfl k1 k2 ok2 t1 t2 hsz hO fun vs1 A1' vs2 A2' w' p1 p2 ho hb => wpOps_list ts _ w' hts (hK vs1 A1' vs2 A2' w' p1 p2 ho hb)
    · rw [List.length_append] at this
      exact this
  rw [← hf] at hgo
  exact hgo
end
end Go.Proofs.Ytedcficjmogohaa

/- The walk over fits of pack's model. -/
namespace Go.Proofs.Ytedcficjmogohaa
set_option linter.unusedVariables false
set_option linter.unusedSimpArgs false
set_option maxRecDepth 100000
open Go.RowKit

set_option maxHeartbeats 6400000 in
theorem fits_any (p : Nat) (a : MA) (v : Value) (m : MS) (hl : m.out.length ≤ 70000) (t : Tk) (N : Int) (N0 : 0 ≤ N) (N1 : N ≤ 65536) (B : Nat) (R : HP) [Loc B R] (w : World) (hB : B ≤ w.heap.size) (hO : Own B (MdV p a v m * R) w) :
    Calls Try.prog 32 #[.pointer (some ⟨p, 0, none⟩), .agg (tkL t).toArray, .int .i64 N] w (Ret B w (.bool (fitsT m.out t N)) (MdV p a v m * R)) := by
  have Hright := Lib.hid (fun w1 => right_tk t w1)
  have Hfit : Hid (fitsT m.out t N = decide (rightP t ∧ t.back ≤ (m.out.length : Int) ∧ (m.out.length : Int) + maxT t ≤ N)) := Lib.hid rfl
  have hrt : rightT t = decide (rightP t) := rfl
  obtain ⟨lit, len, back⟩ := t
  generalize fitsT m.out ⟨lit, len, back⟩ N = res at *
  simp only [tkL] at Hright ⊢
  have oN := hO.new hB 39 #[.int .u8 (lit.toNat : Int), .int .i64 len, .int .i64 back]
  have b1 := (Below.refl B w).alloc hB (.cells #[.int .u8 (lit.toNat : Int), .int .i64 len, .int .i64 back] 39)
  have B1 : B ≤ (w.alloc (.cells #[.int .u8 (lit.toNat : Int), .int .i64 len, .int .i64 back] 39)).heap.size := by simp; omega
  obtain ⟨A, c, rfl⟩ := (hO.cast mdv_eq |>.foc (Rw 5 1 v m.out.length (bytesU m.out))).row_n
  have Hc := Lib.hid (fun (w1 : World) X (h : Own B (Bk X 39 #[.int .u8 (lit.toNat : Int), .int .i64 len, .int .i64 back] * (MdV p a (.slice A m.out.length c) m * R)) w1) => (show w1.cell? ⟨p, 12, none⟩ = some (.slice A m.out.length c) from (h.drop.cast mdv_eq).cellOf p 12))
  have l0 : (0 : Int) ≤ (m.out.length : Int) := by omega
  have l1 : (m.out.length : Int) ≤ 70000 := by omega
  generalize hL : m.out.length = L at *
  go_enter Try.func32, Try.ntmps32
  go_wp2
  refine wp_region_pre [0, 1, 2] 23 mixed (by kernel_rfl) rfl ?_
  simp only [List.filterMap_cons, List.filterMap_nil, List.getElem?_toArray, List.getElem?_cons_succ, List.getElem?_cons_zero]
  have oN2 := oN.drew B1
  have b2 := b1.drew
  have B2 : B ≤ (w.alloc (.cells #[.int .u8 (lit.toNat : Int), .int .i64 len, .int .i64 back] 39)).drew.heap.size := B1
  clear oN b1 B1
  generalize (lit.toNat : Int) = lz at *
  generalize hX0 : w.heap.size = X0 at *
  go_wp2_with fail
  refine (Hright.out _).mono ?_
  rintro e w3 ⟨rfl, b3⟩
  have o3 := oN2.grown B2 b3
  have hb3 := b2.trans (b3.mono B2)
  have B3 := Nat.le_trans B2 b3.size
  clear Hright oN2 b2 B2 b3 hO
  by_cases hrp : rightP ⟨lit, len, back⟩
  · rw [hrt, decide_eq_true hrp]
    have hmx := maxT_in (t := ⟨lit, len, back⟩) (decide_eq_true hrp)
    have Hrp := Lib.hid hrp
    have hbk : 0 ≤ back ∧ back ≤ 32768 := by rcases hrp with ⟨_, h⟩ | ⟨_, _, h, h2, _⟩ <;> simp only at * <;> omega
    obtain ⟨k0, k1⟩ := hbk
    by_cases hb : back ≤ (L : Int)
    · have hbd : decide (back ≤ (L : Int)) = true := decide_eq_true hb
      by_cases h0 : len = 0
      · subst h0
        by_cases hn : (L : Int) + 1 ≤ N
        · have Hf : Hid (res = true) := Lib.hid (by rw [Hfit.out]; exact decide_eq_true ⟨Hrp.out, hb, hn⟩)
          clear hrp Hfit hrt hmx
          go_wp2
          refine wpAny_mix (St B (Bk X0 39 #[.int .u8 lz, .int .i64 0, .int .i64 back] * (MdV p a (.slice A L c) m * R)) w3) [3, 4, 5, 6, 7, 8, 9, 10, 11, 12, 13, 14, 15, 16, 17, 18, 19, 20, 21, 22, 23, 24] [25] (by kernel_rfl) rfl ⟨B3, o3, Below.refl _ _⟩ ?_
          simp only [List.filterMap_cons, List.filterMap_nil, List.getElem?_toArray, List.getElem?_cons_succ, List.getElem?_cons_zero]
          repeat (first
            | (refine held_val ?_ rfl (fun w1 hS => ?_) ?_
               rotate_left
               · (have c12 := Hc.out w1 X0 hS.2.1; have q1 : w1.cell? ⟨X0, 1, none⟩ = some (.int .i64 0) := hS.2.1.cell 1; have q2 : w1.cell? ⟨X0, 2, none⟩ = some (.int .i64 back) := hS.2.1.cell 2
                  go_simp
                  try go_bits
                  rfl)
               simp only [Act.put, List.setIfInBounds_toArray, List.set_cons_zero, List.set_cons_succ])
            | (refine held_off rfl ?_
               simp only [Act.put, List.setIfInBounds_toArray, List.set_cons_zero, List.set_cons_succ]))
          refine held_nil (fun w5 hS => ?_)
          obtain ⟨B5, o5, b5⟩ := hS
          go_wp2
          go_ret
          exact ⟨by rw [Hf.out]; rfl, o5.right, hb3.trans b5⟩
        · have Hf : Hid (res = false) := Lib.hid (by rw [Hfit.out]; exact decide_eq_false (fun h => hn h.2.2))
          have hnd : decide ((L : Int) + 1 ≤ N) = false := decide_eq_false hn
          clear hrp Hfit hrt hmx
          go_wp2
          refine wpAny_mix (St B (Bk X0 39 #[.int .u8 lz, .int .i64 0, .int .i64 back] * (MdV p a (.slice A L c) m * R)) w3) [3, 4, 5, 6, 7, 8, 9, 10, 11, 12, 13, 14, 15, 16, 17, 18, 19, 20, 21, 22, 23, 24] [25] (by kernel_rfl) rfl ⟨B3, o3, Below.refl _ _⟩ ?_
          simp only [List.filterMap_cons, List.filterMap_nil, List.getElem?_toArray, List.getElem?_cons_succ, List.getElem?_cons_zero]
          repeat (first
            | (refine held_val ?_ rfl (fun w1 hS => ?_) ?_
               rotate_left
               · (have c12 := Hc.out w1 X0 hS.2.1; have q1 : w1.cell? ⟨X0, 1, none⟩ = some (.int .i64 0) := hS.2.1.cell 1; have q2 : w1.cell? ⟨X0, 2, none⟩ = some (.int .i64 back) := hS.2.1.cell 2
                  go_simp
                  try go_bits
                  rfl)
               simp only [Act.put, List.setIfInBounds_toArray, List.set_cons_zero, List.set_cons_succ])
            | (refine held_off rfl ?_
               simp only [Act.put, List.setIfInBounds_toArray, List.set_cons_zero, List.set_cons_succ]))
          refine held_nil (fun w5 hS => ?_)
          obtain ⟨B5, o5, b5⟩ := hS
          go_wp2
          go_ret
          exact ⟨by rw [Hf.out]; rfl, o5.right, hb3.trans b5⟩
      · have hl3 : 3 ≤ len ∧ len ≤ 258 := by rcases hrp with ⟨h, _⟩ | ⟨h, h2, _⟩ <;> simp only at * <;> omega
        obtain ⟨l3, l258⟩ := hl3
        have h1 : ¬ len < 1 := by omega
        have hm : maxT ⟨lit, len, back⟩ = len := by unfold maxT; rw [if_neg h1]
        rw [hm] at Hfit
        by_cases hn : (L : Int) + len ≤ N
        · have Hf : Hid (res = true) := Lib.hid (by rw [Hfit.out]; exact decide_eq_true ⟨Hrp.out, hb, hn⟩)
          clear hrp Hfit hrt hmx hm
          go_wp2
          refine wpAny_mix (St B (Bk X0 39 #[.int .u8 lz, .int .i64 len, .int .i64 back] * (MdV p a (.slice A L c) m * R)) w3) [3, 4, 5, 6, 7, 8, 9, 10, 11, 12, 13, 14, 15, 16, 17, 18, 19, 20, 21, 22, 23, 24] [25] (by kernel_rfl) rfl ⟨B3, o3, Below.refl _ _⟩ ?_
          simp only [List.filterMap_cons, List.filterMap_nil, List.getElem?_toArray, List.getElem?_cons_succ, List.getElem?_cons_zero]
          repeat (first
            | (refine held_val ?_ rfl (fun w1 hS => ?_) ?_
               rotate_left
               · (have c12 := Hc.out w1 X0 hS.2.1; have q1 : w1.cell? ⟨X0, 1, none⟩ = some (.int .i64 len) := hS.2.1.cell 1; have q2 : w1.cell? ⟨X0, 2, none⟩ = some (.int .i64 back) := hS.2.1.cell 2
                  go_simp
                  try go_bits
                  rfl)
               simp only [Act.put, List.setIfInBounds_toArray, List.set_cons_zero, List.set_cons_succ])
            | (refine held_off rfl ?_
               simp only [Act.put, List.setIfInBounds_toArray, List.set_cons_zero, List.set_cons_succ]))
          refine held_nil (fun w5 hS => ?_)
          obtain ⟨B5, o5, b5⟩ := hS
          go_wp2
          go_ret
          exact ⟨by rw [Hf.out]; rfl, o5.right, hb3.trans b5⟩
        · have Hf : Hid (res = false) := Lib.hid (by rw [Hfit.out]; exact decide_eq_false (fun h => hn h.2.2))
          have hnd : decide ((L : Int) + len ≤ N) = false := decide_eq_false hn
          clear hrp Hfit hrt hmx hm
          go_wp2
          refine wpAny_mix (St B (Bk X0 39 #[.int .u8 lz, .int .i64 len, .int .i64 back] * (MdV p a (.slice A L c) m * R)) w3) [3, 4, 5, 6, 7, 8, 9, 10, 11, 12, 13, 14, 15, 16, 17, 18, 19, 20, 21, 22, 23, 24] [25] (by kernel_rfl) rfl ⟨B3, o3, Below.refl _ _⟩ ?_
          simp only [List.filterMap_cons, List.filterMap_nil, List.getElem?_toArray, List.getElem?_cons_succ, List.getElem?_cons_zero]
          repeat (first
            | (refine held_val ?_ rfl (fun w1 hS => ?_) ?_
               rotate_left
               · (have c12 := Hc.out w1 X0 hS.2.1; have q1 : w1.cell? ⟨X0, 1, none⟩ = some (.int .i64 len) := hS.2.1.cell 1; have q2 : w1.cell? ⟨X0, 2, none⟩ = some (.int .i64 back) := hS.2.1.cell 2
                  go_simp
                  try go_bits
                  rfl)
               simp only [Act.put, List.setIfInBounds_toArray, List.set_cons_zero, List.set_cons_succ])
            | (refine held_off rfl ?_
               simp only [Act.put, List.setIfInBounds_toArray, List.set_cons_zero, List.set_cons_succ]))
          refine held_nil (fun w5 hS => ?_)
          obtain ⟨B5, o5, b5⟩ := hS
          go_wp2
          go_ret
          exact ⟨by rw [Hf.out]; rfl, o5.right, hb3.trans b5⟩
    · have Hf : Hid (res = false) := Lib.hid (by rw [Hfit.out]; exact decide_eq_false (fun h => hb h.2.1))
      have hbd : decide (back ≤ (L : Int)) = false := decide_eq_false hb
      clear hrp Hfit hrt hmx
      go_wp2
      refine wpAny_mix (St B (Bk X0 39 #[.int .u8 lz, .int .i64 len, .int .i64 back] * (MdV p a (.slice A L c) m * R)) w3) [3, 4, 5, 6, 7, 8, 9, 10, 11, 12, 13, 14, 15, 16, 17, 18, 19, 20, 21, 22, 23, 24] [25] (by kernel_rfl) rfl ⟨B3, o3, Below.refl _ _⟩ ?_
      simp only [List.filterMap_cons, List.filterMap_nil, List.getElem?_toArray, List.getElem?_cons_succ, List.getElem?_cons_zero]
      repeat (first
        | (refine held_val ?_ rfl (fun w1 hS => ?_) ?_
           rotate_left
           · (have c12 := Hc.out w1 X0 hS.2.1; have q1 : w1.cell? ⟨X0, 1, none⟩ = some (.int .i64 len) := hS.2.1.cell 1; have q2 : w1.cell? ⟨X0, 2, none⟩ = some (.int .i64 back) := hS.2.1.cell 2
              go_simp
              try go_bits
              rfl)
           simp only [Act.put, List.setIfInBounds_toArray, List.set_cons_zero, List.set_cons_succ])
        | (refine held_off rfl ?_
           simp only [Act.put, List.setIfInBounds_toArray, List.set_cons_zero, List.set_cons_succ]))
      refine held_nil (fun w5 hS => ?_)
      obtain ⟨B5, o5, b5⟩ := hS
      go_wp2
      go_ret
      exact ⟨by rw [Hf.out]; rfl, o5.right, hb3.trans b5⟩
  · rw [hrt, decide_eq_false hrp]
    have Hf : Hid (res = false) := Lib.hid (by rw [Hfit.out]; exact decide_eq_false (fun h => hrp h.1))
    clear hrp Hfit hrt
    go_wp2
    refine wpAny_mix (St B (Bk X0 39 #[.int .u8 lz, .int .i64 len, .int .i64 back] * (MdV p a (.slice A L c) m * R)) w3) [3, 4, 5, 6, 7, 8, 9, 10, 11, 12, 13, 14, 15, 16, 17, 18, 19, 20, 21, 22, 23, 24] [25] (by kernel_rfl) rfl ⟨B3, o3, Below.refl _ _⟩ ?_
    simp only [List.filterMap_cons, List.filterMap_nil, List.getElem?_toArray, List.getElem?_cons_succ, List.getElem?_cons_zero]
    repeat (first
      | (refine held_val ?_ rfl (fun w1 hS => ?_) ?_
         rotate_left
         · (have c12 := Hc.out w1 X0 hS.2.1; have q1 : w1.cell? ⟨X0, 1, none⟩ = some (.int .i64 len) := hS.2.1.cell 1; have q2 : w1.cell? ⟨X0, 2, none⟩ = some (.int .i64 back) := hS.2.1.cell 2
            go_simp
            try go_bits
            rfl)
         simp only [Act.put, List.setIfInBounds_toArray, List.set_cons_zero, List.set_cons_succ])
      | (refine held_off rfl ?_
         simp only [Act.put, List.setIfInBounds_toArray, List.set_cons_zero, List.set_cons_succ]))
    refine held_nil (fun w5 hS => ?_)
    obtain ⟨B5, o5, b5⟩ := hS
    go_wp2
    go_ret
    exact ⟨by rw [Hf.out]; rfl, o5.right, hb3.trans b5⟩
end Go.Proofs.Ytedcficjmogohaa

/- The walk over saw of pack's model. -/
namespace Go.Proofs.Ytedcficjmogohaa
set_option linter.unusedVariables false
set_option linter.unusedSimpArgs false
set_option maxRecDepth 100000
open Go.RowKit

def sawM (m : MS) (t : Tk) : MS := { m with kind := if t.len = 0 then 0 else 1, out := sawT m.out t }
theorem mdv_out {p : Nat} {a : MA} {v' : Value} {m : MS} {R : HP} {o : List UInt8} :
    Rw 5 1 v' o.length (bytesU o) * (Bk p 97 (mdA a m.kind v') * (Cb a.gk m.kinds * (Lt a m.lits * (Cb a.gn m.lens * (Cb a.gb m.backs * R))))) = MdV p a v' { m with out := o } * R := by
  rw [mdv_eq]
  show _ = Bk p 97 (mdA a m.kind v') * (Cb a.gk m.kinds * (Lt a m.lits * (Cb a.gn m.lens * (Cb a.gb m.backs * (Rw 5 1 v' o.length (bytesU o) * R)))))
  simp only [Cb]
  ac_rfl
/-- A byte more, behind what was ahead. -/
theorem snocM {B p g cap : Nat} {a : MA} {v : Value} {m : MS} {R : HP} [Loc B R] {w : World} {o : List UInt8} (hB : B ≤ w.heap.size)
    (h : Own B (Rw 5 1 (.slice (some ⟨g, 0, none⟩) o.length cap) o.length (bytesU o) * (Bk p 97 (mdA a m.kind v) * (Cb a.gk m.kinds * (Lt a m.lits * (Cb a.gn m.lens * (Cb a.gb m.backs * R)))))) w) :
    Own B (MdV p a (.slice (some ⟨g, 0, none⟩) o.length cap) { m with out := o } * R) (w.setCell ⟨p, 12, none⟩ (.slice (some ⟨g, 0, none⟩) o.length cap)) ∧ Below B w (w.setCell ⟨p, 12, none⟩ (.slice (some ⟨g, 0, none⟩) o.length cap)) := by
  obtain ⟨h1, h2⟩ := h.setOf hB p 12 (.slice (some ⟨g, 0, none⟩) o.length cap)
  exact ⟨h1.cast mdv_out, h2⟩

set_option maxHeartbeats 6400000 in
theorem saw_lit (p : Nat) (a : MA) (v : Value) (m : MS) (hl : m.out.length ≤ 70000) (lit : UInt8) (B : Nat) (R : HP) [Loc B R] (w : World) (hB : B ≤ w.heap.size) (hO : Own B (MdV p a v m * R) w) :
    Calls Try.prog 34 #[.pointer (some ⟨p, 0, none⟩), .agg #[.int .u8 (lit.toNat : Int), .int .i64 0, .int .i64 0]] w (Ret B w (.tuple #[]) (Md p a (sawM m ⟨lit, 0, 0⟩) * R)) := by
  have hs : sawM m ⟨lit, 0, 0⟩ = { m with kind := 0, out := m.out ++ [lit] } := rfl
  rw [hs]
  clear hs
  have o1 := hO.new hB 39 #[.int .u8 (lit.toNat : Int), .int .i64 0, .int .i64 0]
  have b1 := (Below.refl B w).alloc hB (.cells #[.int .u8 (lit.toNat : Int), .int .i64 0, .int .i64 0] 39)
  have B1 : B ≤ (w.alloc (.cells #[.int .u8 (lit.toNat : Int), .int .i64 0, .int .i64 0] 39)).heap.size := by simp; omega
  rw [mdv_eq] at o1
  have c11 : (w.alloc (.cells #[.int .u8 (lit.toNat : Int), .int .i64 0, .int .i64 0] 39)).cell? ⟨p, 11, none⟩ = some (.int .i64 (m.kind : Int)) := o1.cellOf p 11
  have z11 := o1.freeOf p 11
  obtain ⟨o2, b2⟩ := o1.setOf B1 p 11 (.int .i64 0)
  have B2 := Nat.le_trans B1 b2.size
  have hb2 := b1.trans b2
  rw [show (mdA a m.kind v).setIfInBounds 11 (.int .i64 0) = mdA a (({ m with kind := 0 } : MS).kind : Int) v from rfl] at o2
  have o3 := o2.cast (show _ = Bk w.heap.size 39 #[.int .u8 (lit.toNat : Int), .int .i64 0, .int .i64 0] * (Rw 5 1 v m.out.length (bytesU m.out) * (Bk p 97 (mdA a (({ m with kind := 0 } : MS).kind : Int) v) * (Cb a.gk m.kinds * (Lt a m.lits * (Cb a.gn m.lens * (Cb a.gb m.backs * R)))))) by simp only [Cb]; ac_rfl)
  have d1 := o3.cellOf w.heap.size 1
  clear o1 o2 b1 b2
  have Hc := Lib.hid (fun (w1 : World) X (h : Own B (Bk X 39 #[.int .u8 (lit.toNat : Int), .int .i64 0, .int .i64 0] * (Rw 5 1 v m.out.length (bytesU m.out) * (Bk p 97 (mdA a (({ m with kind := 0 } : MS).kind : Int) v) * (Cb a.gk m.kinds * (Lt a m.lits * (Cb a.gn m.lens * (Cb a.gb m.backs * R))))))) w1) => (show w1.cell? ⟨p, 12, none⟩ = some v from h.cellOf p 12))
  go_enter Try.func34, Try.ntmps34
  go_wp2
  generalize (w.alloc (.cells #[.int .u8 (lit.toNat : Int), .int .i64 0, .int .i64 0] 39)).setCell ⟨p, 11, none⟩ (.int .i64 0) = W2 at *
  generalize w.heap.size = X0 at *
  clear c11 z11 d1 B1
  refine wp_region_lmix (St B _ W2) [0] [1, 2, 3, 4] [5, 6] [7] [8, 9, 10, 11] mixed (by kernel_rfl) rfl (fun _ _ _ _ _ h => h) (St.drew B2 o3) ?_
  simp only [List.filterMap_cons, List.filterMap_nil, List.getElem?_toArray, List.getElem?_cons_succ, List.getElem?_cons_zero]
  repeat (
    refine free_val ?_ rfl (fun w1 => ?_) ?_
    rotate_left
    · (go_simp
       try go_bits
       rfl)
    simp only [Act.put, List.setIfInBounds_toArray, List.set_cons_zero, List.set_cons_succ])
  refine free_nil ?_
  repeat (first
    | (refine late_val ?_ rfl (fun w1 hS => ?_) ?_
       rotate_left
       · (have c0 := Hc.out w1 X0 hS.2.1
          go_simp
          try go_bits
          rfl)
       simp only [Act.put, List.setIfInBounds_toArray, List.set_cons_zero, List.set_cons_succ])
    | (refine late_off rfl ?_
       simp only [Act.put, List.setIfInBounds_toArray, List.set_cons_zero, List.set_cons_succ]))
  refine late_nil ?_
  repeat (first
    | (refine held_val ?_ rfl (fun w1 hS => ?_) ?_
       rotate_left
       · (have c1 : w1.cell? ⟨X0, 0, none⟩ = some (.int .u8 (lit.toNat : Int)) := hS.2.1.cell 0
          go_simp
          try go_bits
          rfl)
       simp only [Act.put, List.setIfInBounds_toArray, List.set_cons_zero, List.set_cons_succ])
    | (refine held_off rfl ?_
       simp only [Act.put, List.setIfInBounds_toArray, List.set_cons_zero, List.set_cons_succ]))
  refine held_nil (fun w1 hS => ?_)
  refine kept_val ?_ rfl (w1 := ?_) ?_ ?_ ?_
  rotate_left 2
  · (go_simp
     try go_bits
     first | (constructor <;> rfl) | rfl)
  · exact hS.alloc _
  simp only [Act.put, List.setIfInBounds_toArray, List.set_cons_zero, List.set_cons_succ]
  refine kept_nil ?_
  obtain ⟨k2, k3, k4⟩ := hS
  obtain ⟨g, cap, w5, hrun, o5, b5⟩ := byte_snoc k2 (k3.foc (Rw 5 1 v m.out.length (bytesU m.out))) lit (lit.toNat : Int) rfl (by omega)
  have Hrun := Lib.hid hrun
  have B5 := Nat.le_trans k2 b5.size
  have c5 := (o5.cellOf p 12)
  rw [show (mdA a (({ m with kind := 0 } : MS).kind : Int) v)[12]? = some v from rfl] at c5
  have z5 := o5.freeOf p 12
  obtain ⟨o6, b6⟩ := snocM (m := { m with kind := 0 }) B5 (o5.cast (show _ = Rw 5 1 (.slice (some ⟨g, 0, none⟩) (m.out ++ [lit]).length cap) (m.out ++ [lit]).length (bytesU (m.out ++ [lit])) * (Bk p 97 (mdA a (({ m with kind := 0 } : MS).kind : Int) v) * (Cb a.gk m.kinds * (Lt a m.lits * (Cb a.gn m.lens * (Cb a.gb m.backs * (Bk X0 39 #[.int .u8 (lit.toNat : Int), .int .i64 0, .int .i64 0] * R)))))) by simp only [Cb]; ac_rfl))
  have hb6 := hb2.trans (k4.trans (b5.trans b6))
  have o7 := o6.cast (sep_left_comm _ _ _)
  have q1 := o7.cell 1
  clear hrun o5 b5 b6 k3 k4 hb2 o3 Hc hO
  have O8 := Lib.hid (Own.to_hex (A := fun v => MdV p a v { m with kind := 0, out := m.out ++ [lit] }) _ o7.drop)
  generalize m.out ++ [lit] = out2 at *
  clear o6 o7
  refine wpList_append_run rfl (.tmp 17) (.tmp 20) 22 rfl rfl rfl Hrun.out ?_
  simp only [Act.put, List.setIfInBounds_toArray, List.set_cons_zero, List.set_cons_succ]
  go_wp2
  go_loopg [26] 0 (fun k u wr => u = .int .i64 0 ∧ wr = w5.setCell ⟨p, 12, none⟩ (.slice (some ⟨g, 0, none⟩) out2.length cap))
  case atStart => exact ⟨rfl, rfl⟩
  case round =>
    obtain ⟨rfl, rfl⟩ := hrel
    go_wp2
    go_end0
    exact ⟨rfl, O8.out, hb6⟩

set_option maxHeartbeats 6400000 in
theorem saw_match (p : Nat) (a : MA) (v : Value) (m : MS) (n bk : Nat) (hn : 3 ≤ n ∧ n ≤ 258) (hb1 : 1 ≤ bk) (hb2 : bk ≤ m.out.length) (hl : m.out.length + n ≤ 70000) (B : Nat) (R : HP) [Loc B R] (w : World) (hB : B ≤ w.heap.size) (hO : Own B (MdV p a v m * R) w) :
    Calls Try.prog 34 #[.pointer (some ⟨p, 0, none⟩), .agg #[.int .u8 0, .int .i64 (n : Int), .int .i64 (bk : Int)]] w (Ret B w (.tuple #[]) (Md p a (sawM m ⟨0, n, bk⟩) * R)) := by
  have hs : sawM m ⟨0, n, bk⟩ = { m with kind := 1, out := copyN bk n m.out } := by
    unfold sawM sawT
    simp only [show ¬ (n : Int) = 0 by omega, if_false]
    rfl
  rw [hs]
  clear hs
  have o1 := hO.new hB 39 #[.int .u8 0, .int .i64 (n : Int), .int .i64 (bk : Int)]
  have b1 := (Below.refl B w).alloc hB (.cells #[.int .u8 0, .int .i64 (n : Int), .int .i64 (bk : Int)] 39)
  have B1 : B ≤ (w.alloc (.cells #[.int .u8 0, .int .i64 (n : Int), .int .i64 (bk : Int)] 39)).heap.size := by simp; omega
  rw [mdv_eq] at o1
  have c11 : (w.alloc (.cells #[.int .u8 0, .int .i64 (n : Int), .int .i64 (bk : Int)] 39)).cell? ⟨p, 11, none⟩ = some (.int .i64 (m.kind : Int)) := o1.cellOf p 11
  have z11 := o1.freeOf p 11
  obtain ⟨o2, b2⟩ := o1.setOf B1 p 11 (.int .i64 1)
  have B2 := Nat.le_trans B1 b2.size
  have hb2' := b1.trans b2
  rw [show (mdA a m.kind v).setIfInBounds 11 (.int .i64 1) = mdA a (({ m with kind := 1 } : MS).kind : Int) v from rfl] at o2
  have o3 := o2.cast (show _ = Rw 5 1 v m.out.length (bytesU m.out) * (Bk p 97 (mdA a (({ m with kind := 1 } : MS).kind : Int) v) * (Cb a.gk m.kinds * (Lt a m.lits * (Cb a.gn m.lens * (Cb a.gb m.backs * (Bk w.heap.size 39 #[.int .u8 0, .int .i64 (n : Int), .int .i64 (bk : Int)] * R)))))) by simp only [Cb]; ac_rfl)
  have d1 := o3.cellOf w.heap.size 1
  have Hc := Lib.hid (fun (w1 : World) X v2 (o : List UInt8) (h : Own B (Rw 5 1 v2 o.length (bytesU o) * (Bk p 97 (mdA a (({ m with kind := 1 } : MS).kind : Int) v2) * (Cb a.gk m.kinds * (Lt a m.lits * (Cb a.gn m.lens * (Cb a.gb m.backs * (Bk X 39 #[.int .u8 0, .int .i64 (n : Int), .int .i64 (bk : Int)] * R))))))) w1) =>
    (show w1.cell? ⟨p, 12, none⟩ = some v2 ∧ w1.cell? ⟨X, 2, none⟩ = some (.int .i64 (bk : Int)) from ⟨h.cellOf p 12, h.cellOf X 2⟩))
  have hn1 : ¬ (n : Int) < 1 := by omega
  have hn2 : ¬ (n : Int) = 0 := by omega
  have hn3 : ((n : Int) == 0) = false := by rw [beq_eq_false_iff_ne]; exact hn2
  have hn4 : ¬ (n : Int) ≤ 0 := by omega
  have hn5 : 1 ≤ (n : Int) := by omega
  have hn6 : (n : Int) ≤ 258 := by omega
  have hbi : (1 : Int) ≤ (bk : Int) := by omega
  have hbj : (bk : Int) ≤ 70000 := by omega
  clear o1 o2 b1 b2
  go_enter Try.func34, Try.ntmps34
  go_wp2
  generalize (w.alloc (.cells #[.int .u8 0, .int .i64 (n : Int), .int .i64 (bk : Int)] 39)).setCell ⟨p, 11, none⟩ (.int .i64 1) = W2 at *
  generalize w.heap.size = X0 at *
  clear c11 z11 d1 B1 hO
  go_loopg [26] n (fun k u wr => ∃ (t : Nat) (out2 : List UInt8) (v2 : Value), k + t = n ∧ u = .int .i64 (t : Int) ∧ out2.length = m.out.length + t ∧ Hid (out2 = copyN bk t m.out) ∧ Below B w wr ∧ B ≤ wr.heap.size ∧ Own B (Rw 5 1 v2 out2.length (bytesU out2) * (Bk p 97 (mdA a (({ m with kind := 1 } : MS).kind : Int) v2) * (Cb a.gk m.kinds * (Lt a m.lits * (Cb a.gn m.lens * (Cb a.gb m.backs * (Bk X0 39 #[.int .u8 0, .int .i64 (n : Int), .int .i64 (bk : Int)] * R))))))) wr)
  case atStart => exact ⟨0, m.out, v, by omega, rfl, rfl, Lib.hid rfl, hb2', B2, o3⟩
  case round =>
    clear o3 hb2' B2
    obtain ⟨t, out2, v2, hk, rfl, hlen, he, hb, Bw, ho⟩ := hrel
    have t0 : (0 : Int) ≤ (t : Int) := by omega
    by_cases ht : (t : Int) < (n : Int)
    · obtain ⟨j, rfl⟩ : ∃ j, gk = j + 1 := ⟨gk - 1, by omega⟩
      obtain ⟨g, cap, rfl, _⟩ := ho.row.form (by omega)
      obtain ⟨ix, hix⟩ : ∃ ix, ix + bk = out2.length := ⟨out2.length - bk, by omega⟩
      obtain ⟨x, hx⟩ : ∃ x, out2[ix]? = some x := ⟨_, List.getElem?_eq_getElem (by omega)⟩
      have Hby := Lib.hid (fun w1 (h : St B (Rw 5 1 (.slice (some ⟨g, 0, none⟩) out2.length cap) out2.length (bytesU out2) * (Bk p 97 (mdA a (({ m with kind := 1 } : MS).kind : Int) (.slice (some ⟨g, 0, none⟩) out2.length cap)) * (Cb a.gk m.kinds * (Lt a m.lits * (Cb a.gn m.lens * (Cb a.gb m.backs * (Bk X0 39 #[.int .u8 0, .int .i64 (n : Int), .int .i64 (bk : Int)] * R))))))) wr w1) => h.2.1.byteAt ix x hx)
      have i1 : (out2.length : Int) - (bk : Int) = (ix : Int) := by omega
      have i2 : (ix : Int) < (out2.length : Int) := by omega
      have i3 : (0 : Int) ≤ (ix : Int) := by omega
      have i4 : (out2.length : Int) ≤ 70000 := by omega
      have He2 : Hid (out2 ++ [x] = copyN bk (t + 1) m.out) := Lib.hid (by rw [copyN_succ, ← he.out, show out2.length - bk = ix by omega, hx]; rfl)
      have Hlen : Hid ((out2 ++ [x]).length = m.out.length + (t + 1)) := Lib.hid (by rw [List.length_append, hlen]; rfl)
      have Hk := Lib.hid hk
      have hl2 : out2.length ≤ 70000 := by omega
      clear hx hlen he hk hix
      go_wp2
      refine wp_region_lmix (St B _ wr) [0] [1, 2, 3, 4] [5, 6, 7, 8, 9, 10, 11, 12, 13, 14, 15, 16, 17, 18] [19] [20, 21, 22, 23] mixed (by kernel_rfl) rfl (fun _ _ _ _ _ h => h) (St.drew Bw ho) ?_
      simp only [List.filterMap_cons, List.filterMap_nil, List.getElem?_toArray, List.getElem?_cons_succ, List.getElem?_cons_zero]
      repeat (
        refine free_val ?_ rfl (fun w1 => ?_) ?_
        rotate_left
        · (go_simp
           try go_bits
           rfl)
        simp only [Act.put, List.setIfInBounds_toArray, List.set_cons_zero, List.set_cons_succ])
      refine free_nil ?_
      repeat (first
        | (refine late_val ?_ rfl (fun w1 hS => ?_) ?_
           rotate_left
           · (have c0 := (Hc.out w1 X0 _ out2 hS.2.1).1
              go_simp
              try go_bits
              rfl)
           simp only [Act.put, List.setIfInBounds_toArray, List.set_cons_zero, List.set_cons_succ])
        | (refine late_off rfl ?_
           simp only [Act.put, List.setIfInBounds_toArray, List.set_cons_zero, List.set_cons_succ]))
      refine late_nil ?_
      repeat (first
        | (refine held_val ?_ rfl (fun w1 hS => ?_) ?_
           rotate_left
           · (have c0 := (Hc.out w1 X0 _ out2 hS.2.1).1; have c2 := (Hc.out w1 X0 _ out2 hS.2.1).2; have cx := Hby.out w1 hS
              go_simp
              try go_bits
              rfl)
           simp only [Act.put, List.setIfInBounds_toArray, List.set_cons_zero, List.set_cons_succ])
        | (refine held_off rfl ?_
           simp only [Act.put, List.setIfInBounds_toArray, List.set_cons_zero, List.set_cons_succ]))
      refine held_nil (fun w1 hS => ?_)
      refine kept_val ?_ rfl (w1 := ?_) ?_ ?_ ?_
      rotate_left 2
      · (go_simp
         try go_bits
         first | (constructor <;> rfl) | rfl)
      · exact hS.alloc _
      simp only [Act.put, List.setIfInBounds_toArray, List.set_cons_zero, List.set_cons_succ]
      refine kept_nil ?_
      obtain ⟨k2, k3, k4⟩ := hS
      obtain ⟨g2, cap2, w5, hrun, o5, b5⟩ := byte_snoc k2 k3 x (x.toNat : Int) rfl (by omega)
      have Hrun := Lib.hid hrun
      have B5 := Nat.le_trans k2 b5.size
      have c5 := (o5.cellOf p 12)
      rw [show (mdA a (({ m with kind := 1 } : MS).kind : Int) (.slice (some ⟨g, 0, none⟩) out2.length cap))[12]? = some (.slice (some ⟨g, 0, none⟩) out2.length cap) from rfl] at c5
      have z5 := o5.freeOf p 12
      obtain ⟨o6, b6⟩ := snocM (m := { m with kind := 1 }) B5 o5
      have hb6 := hb.trans (k4.trans (b5.trans b6))
      have B6 := Nat.le_trans B5 b6.size
      have O7 := Lib.hid (o6.cast (show _ = Rw 5 1 (.slice (some ⟨g2, 0, none⟩) (out2 ++ [x]).length cap2) (out2 ++ [x]).length (bytesU (out2 ++ [x])) * (Bk p 97 (mdA a (({ m with kind := 1 } : MS).kind : Int) (.slice (some ⟨g2, 0, none⟩) (out2 ++ [x]).length cap2)) * (Cb a.gk m.kinds * (Lt a m.lits * (Cb a.gn m.lens * (Cb a.gb m.backs * (Bk X0 39 #[.int .u8 0, .int .i64 (n : Int), .int .i64 (bk : Int)] * R)))))) from (mdv_out (m := { m with kind := 1 })).symm))
      clear hrun o5 b5 b6 k3 k4 hb ho o6 Hby
      generalize out2 ++ [x] = out3 at *
      refine wpList_append_run rfl (.tmp 32) (.tmp 47) 22 rfl rfl rfl Hrun.out ?_
      simp only [Act.put, List.setIfInBounds_toArray, List.set_cons_zero, List.set_cons_succ]
      go_wp2
      go_roundg j
      case measure => omega
      case rel => exact ⟨t + 1, out3, _, by have := Hk.out; omega, rfl, Hlen.out, He2, hb6, B6, O7.out⟩
    · obtain rfl : t = n := by omega
      go_wp2
      go_end0
      rw [← he.out]
      exact ⟨rfl, Own.to_hex (A := fun v => MdV p a v { m with kind := 1, out := out2 }) v2 ((ho.cast (show _ = Bk X0 39 _ * (Rw 5 1 v2 out2.length (bytesU out2) * (Bk p 97 (mdA a (({ m with kind := 1 } : MS).kind : Int) v2) * (Cb a.gk m.kinds * (Lt a m.lits * (Cb a.gn m.lens * (Cb a.gb m.backs * R)))))) by simp only [Cb]; ac_rfl)).drop.cast (mdv_out (m := { m with kind := 1 }))), hb⟩
end Go.Proofs.Ytedcficjmogohaa

/- The walks over the ends of a writer that is done, or is not there; and over awake: what the document fixes of no bits, and of one. -/
namespace Go.Proofs.Ytedcficjmogohaa
set_option linter.unusedVariables false
set_option linter.unusedSimpArgs false
set_option maxRecDepth 100000
open Go.RowKit

/-- End, told again. -/
theorem end_done (p : Nat) (s : WS) (B : Nat) (R : HP) [Loc B R] (w : World) (hB : B ≤ w.heap.size) (hdn : s.dn = true) (hl : s.out.length ≤ 1099511627776) (hO : Own B (Wr p s * R) w) :
    Calls Try.prog 35 #[.pointer (some ⟨p, 0, none⟩)] w fun e w' => ∃ v, Ret B w v (Rw 5 1 v s.out.length (bytesV s.out) * (Wr p s * R)) e w' := by
  obtain ⟨v, hV⟩ := hO.hex
  have hV := hV.assoc
  have c6 : w.cell? ⟨p, 6, none⟩ = some (.bool true) := by rw [hV.cell 6, ← hdn]; rfl
  have c0 : w.cell? ⟨p, 0, none⟩ = some v := hV.cell 0
  have hrd := (hV.cast (sep_left_comm _ _ _)).rd
  go_enter Try.func35, Try.ntmps35
  go_wp2_with (go_at_call 42; refine (clone_bytes v s.out w hrd (by omega)).mono ?_; rintro e w4 ⟨v4, rfl, o4, b4⟩)
  go_ret
  exact ⟨v4, rfl, Own.fresh hB hO o4 b4, b4.mono hB⟩
theorem end_nil (w : World) : Calls Try.prog 35 #[.pointer none] w fun e w' => e = .returned (.slice none 0 0) ∧ w = w' := by
  go_enter Try.func35, Try.ntmps35
  go_wp2
  go_ret
  exact ⟨rfl, rfl⟩

/-- string(b) of an owned row of bytes. -/
theorem str_of_row {B : Nat} {R : HP} {w : World} {v : Value} {l : List Int} (h : Own B (Rw 5 1 v l.length (bytesV l) * R) w) : (convert 22 9 v).run Try.prog w = .ok (.string (strOfNums l)) w := by
  have hr := h.row
  rcases hr.2 with ⟨rfl, hn⟩ | ⟨g, cap, cur, rfl, _⟩
  · obtain rfl : l = [] := List.eq_nil_of_length_eq_zero hn
    exact run_convert_bytes_nil w 22 5 Try.underlying22 Try.underlying5 0 0 9 Try.underlying9
  · refine run_convert_bytes_arg w 22 5 Try.underlying22 Try.underlying5 g 0 l.length cap l rfl (fun i hi => ?_) 9 Try.underlying9
    have := hr.cells (g := g) rfl i (.int .u8 (l.getD i 0)) (by simp [bytesV, hi])
    rwa [Addr.add_lit] at this

def aw1 : WS := putS begin0 (bitBound begin0 0) 1
def aw2 : RS := openS (endS aw1).out
theorem aw_a : (endS begin0).out = [0, 0, 0, 0] := by decide
theorem aw_b : (endS aw1).out.length = 4 ∧ bytesOk (endS aw1).out := by
  have h : (endS aw1).out = [127, 255, 252, 0] := by decide
  rw [h]; exact ⟨rfl, by intro c hc; simp at hc; omega⟩
theorem aw_c : aw2.live := ⟨⟨by decide, by decide, by decide, by decide, by decide⟩, by decide⟩
theorem aw_d : takeBit aw2 (rBound aw2 0) = 1 := by decide
theorem aw_e : (takeS aw2 (rBound aw2 0)).e = 0 ∧ (takeS aw2 (rBound aw2 0)).rem = [] := by decide
theorem aw_f : strOfNums [0, 0, 0, 0] = ⟨#[0, 0, 0, 0]⟩ := rfl
theorem aw_g : aw1.okr 6 ∧ aw1.dn = false := by
  have h := putS_live (s := begin0) (bound := bitBound begin0 0) 1 (r := 6) (by omega) (begin0_live 7 (by omega) (by omega)) (by decide) (by decide)
  exact ⟨⟨h.ok, h.room⟩, h.dn⟩
end Go.Proofs.Ytedcficjmogohaa

/- The walk over awake: what the document fixes of no bits, and of one. -/
namespace Go.Proofs.Ytedcficjmogohaa
set_option linter.unusedVariables false
set_option linter.unusedSimpArgs false
set_option maxRecDepth 100000
open Go.RowKit

end Go.Proofs.Ytedcficjmogohaa

/- How many bytes a writer's steps make: plain laws of its states. -/
namespace Go.Proofs.Ytedcficjmogohaa
set_option linter.unusedVariables false
set_option linter.unusedSimpArgs false
set_option maxRecDepth 100000
open Go.RowKit

/-- The bytes that there will be, but for the last four. -/
def WS.tot (s : WS) : Int := (s.out.length : Int) + s.full + (if s.sm then 1 else 0)

theorem shiftS_tot (s : WS) (h : 0 ≤ s.full) : (shiftS s).tot = s.tot + 1 ∧ 0 ≤ (shiftS s).full := by
  obtain ⟨out, low, width, wait, full, sm, dn⟩ := s
  simp only at h
  unfold shiftS
  split
  · constructor
    · simp only [WS.tot, List.length_append, List.length_replicate]
      cases sm <;> simp <;> omega
    · exact Int.le_refl 0
  · constructor
    · simp only [WS.tot]; omega
    · show 0 ≤ full + 1; omega
theorem shiftN_tot : ∀ (k : Nat) (s : WS), 0 ≤ s.full → (shiftN k s).tot = s.tot + k ∧ 0 ≤ (shiftN k s).full
  | 0, s, h => by simp [shiftN]; exact h
  | k + 1, s, h => by
    obtain ⟨h1, h2⟩ := shiftS_tot s h
    obtain ⟨h3, h4⟩ := shiftN_tot k _ h2
    exact ⟨by rw [shiftN, h3, h1]; omega, h4⟩

/-- At the end there are four bytes more. -/
theorem endS_len (s : WS) (h : 0 ≤ s.full) : ((endS s).out.length : Int) = s.tot + 4 := by
  obtain ⟨h1, h2⟩ := shiftN_tot 4 { s with dn := true } h
  have h3 : (shiftN 4 { s with dn := true }).tot = s.tot + 4 := h1
  rw [← h3]
  unfold endS
  generalize shiftN 4 { s with dn := true } = u at h2
  obtain ⟨out, low, width, wait, full, sm, dn⟩ := u
  simp only at h2
  unfold shiftS
  rw [if_pos (Or.inl (show (0 : Int) < 4278190080 by omega))]
  simp only [WS.tot, List.length_append, List.length_replicate]
  cases sm <;> simp <;> omega
theorem endS_dn (s : WS) : (endS s).dn = true := by
  unfold endS
  rw [shiftS_dn]
  have h : ∀ (k : Nat) (u : WS), (shiftN k u).dn = u.dn := by
    intro k
    induction k with
    | zero => intro u; rfl
    | succ k ih => intro u; rw [shiftN, ih, shiftS_dn]
  exact h 4 _
theorem WS.tot_nonneg {s : WS} (h : 0 ≤ s.full) : 0 ≤ s.tot := by unfold WS.tot; split <;> omega

theorem put1_parts (s : WS) (bound bit : Int) : (put1 s bound bit).tot = s.tot ∧ (put1 s bound bit).full = s.full := by unfold put1; split <;> exact ⟨rfl, rfl⟩
theorem renorm_tot (s : WS) (h : 0 ≤ s.full) : (renorm s).tot ≤ s.tot + 1 ∧ 0 ≤ (renorm s).full := by
  unfold renorm
  split
  · obtain ⟨h1, h2⟩ := shiftS_tot { s with width := s.width * 256 } h
    exact ⟨by rw [h1]; show s.tot + 1 ≤ _; omega, h2⟩
  · exact ⟨by omega, h⟩
theorem putS_tot (s : WS) (bound bit : Int) (h : 0 ≤ s.full) : (putS s bound bit).tot ≤ s.tot + 1 ∧ 0 ≤ (putS s bound bit).full := by
  obtain ⟨h1, h2⟩ := put1_parts s bound bit
  have := renorm_tot (put1 s bound bit) (by rw [h2]; exact h)
  rw [h1] at this
  exact this

/-- After c bits of no chance: a byte for eight of them. -/
def WS.eights (s : WS) (c : Nat) : Prop := 0 ≤ s.full ∧ ∃ j : Nat, j ≤ 7 ∧ 8 * s.tot + j ≤ c ∧ 2147483648 ≤ s.width * 2 ^ j
theorem even1_eights {s : WS} {c : Nat} {r : Int} (bit : Int) (hl : s.live r) (h : s.eights c) : (putS s (s.width / 2) bit).eights (c + 1) := by
  obtain ⟨hf, j, hj, hc, hw⟩ := h
  obtain ⟨h1, h2⟩ := put1_parts s (s.width / 2) bit
  have h3 : s.width / 2 ≤ (put1 s (s.width / 2) bit).width := by
    unfold put1; split
    · exact Int.le_refl _
    · show _ ≤ s.width - s.width / 2; omega
  have hwd := hl.wide
  unfold putS renorm
  split
  · rename_i hlt
    obtain ⟨h5, h6⟩ := shiftS_tot { put1 s (s.width / 2) bit with width := (put1 s (s.width / 2) bit).width * 256 } (by show 0 ≤ (put1 s (s.width / 2) bit).full; rw [h2]; exact hf)
    have h7 : (shiftS { put1 s (s.width / 2) bit with width := (put1 s (s.width / 2) bit).width * 256 }).tot = s.tot + 1 := by rw [h5]; show (put1 s (s.width / 2) bit).tot + 1 = _; rw [h1]
    refine ⟨h6, 0, by omega, ?_, ?_⟩
    · rw [h7]
      have : j = 7 := by
        match j, hj with
        | 0, _ => simp at hw; omega
        | 1, _ => simp at hw; omega
        | 2, _ => simp at hw; omega
        | 3, _ => simp at hw; omega
        | 4, _ => simp at hw; omega
        | 5, _ => simp at hw; omega
        | 6, _ => simp at hw; omega
        | 7, _ => rfl
      omega
    · rw [shiftS_width]; show _ ≤ (put1 s (s.width / 2) bit).width * 256 * 2 ^ 0; omega
  · rename_i hge
    refine ⟨by rw [h2]; exact hf, ?_⟩
    match j, hj with
    | 0, _ => exact ⟨1, by omega, by rw [h1]; omega, by simp at hw ⊢; omega⟩
    | 1, _ => exact ⟨2, by omega, by rw [h1]; omega, by simp at hw ⊢; omega⟩
    | 2, _ => exact ⟨3, by omega, by rw [h1]; omega, by simp at hw ⊢; omega⟩
    | 3, _ => exact ⟨4, by omega, by rw [h1]; omega, by simp at hw ⊢; omega⟩
    | 4, _ => exact ⟨5, by omega, by rw [h1]; omega, by simp at hw ⊢; omega⟩
    | 5, _ => exact ⟨6, by omega, by rw [h1]; omega, by simp at hw ⊢; omega⟩
    | 6, _ => exact ⟨7, by omega, by rw [h1]; omega, by simp at hw ⊢; omega⟩
    | 7, _ => exact ⟨7, by omega, by rw [h1]; omega, by simp at hw ⊢; omega⟩
theorem evenS_live : ∀ (l : List Int) (s : WS) (r : Int), 0 ≤ r → s.live (r + l.length) → (evenS s l).live r
  | [], s, r, _, h => by simpa [evenS] using h
  | b :: l, s, r, hr, h => by
    have hw := h.wide
    have e : r + ((b :: l).length : Int) = (r + l.length) + 1 := by simp; omega
    rw [e] at h
    exact evenS_live l _ r hr (putS_live b (by omega) h (by omega) (by omega))
theorem evenS_eights : ∀ (l : List Int) (s : WS) (c : Nat) (r : Int), 0 ≤ r → s.live (r + l.length) → s.eights c → (evenS s l).eights (c + l.length)
  | [], s, c, r, _, _, h => h
  | b :: l, s, c, r, hr, h, h8 => by
    have hw := h.wide
    have e : r + ((b :: l).length : Int) = (r + l.length) + 1 := by simp; omega
    rw [e] at h
    have h1 := even1_eights b h h8
    have h2 := putS_live (bound := s.width / 2) b (by omega) h (by omega) (by omega)
    have := evenS_eights l _ (c + 1) r hr h2 h1
    rw [show c + (b :: l).length = c + 1 + l.length by simp; omega]
    exact this
theorem bitsOf_len (n : Int) (m : Nat) : (bitsOf n m).length = m := by simp [bitsOf]
theorem bitsOf_one (n : Int) (k : Nat) : bitsOf (n / 2 ^ k) 1 = [bitOf n k] := by
  simp [bitsOf, bitOf, List.range_succ]
theorem begin0_eights : begin0.eights 0 := ⟨by decide, 0, by omega, by decide, by decide⟩
theorem eights_len {s : WS} {c : Nat} (h : s.eights c) : 4 ≤ (endS s).out.length ∧ 8 * (endS s).out.length ≤ c + 32 := by
  obtain ⟨hf, j, hj, hc, _⟩ := h
  have h1 := endS_len s hf
  have h2 := WS.tot_nonneg hf
  omega
end Go.Proofs.Ytedcficjmogohaa

/- The writer that lets a carry wait, and the writer that carries at once, tell the same bytes: plain laws of their states. -/
namespace Go.Proofs.Ytedcficjmogohaa
set_option linter.unusedVariables false
set_option linter.unusedSimpArgs false
set_option maxRecDepth 100000
open Go.RowKit

/-- The state of the writer that carries at once. -/
structure RW where
  out : List Int
  low : Int
  width : Int

def carryR : List Int → List Int
  | [] => []
  | c :: l => if c = 255 then 0 :: carryR l else (c + 1) :: l
def carryL (l : List Int) : List Int := (carryR l.reverse).reverse
theorem carryR_full (c : Int) (l : List Int) (hc : c ≠ 255) : ∀ m : Nat, carryR (List.replicate m 255 ++ c :: l) = List.replicate m 0 ++ (c + 1) :: l
  | 0 => by simp [carryR, hc]
  | m + 1 => by
    show (if (255 : Int) = 255 then 0 :: carryR (List.replicate m 255 ++ c :: l) else _) = _
    rw [if_pos rfl, carryR_full c l hc m]
    rfl
theorem carryR_all : ∀ m : Nat, carryR (List.replicate m 255) = List.replicate m 0
  | 0 => rfl
  | m + 1 => by
    show (if (255 : Int) = 255 then 0 :: carryR (List.replicate m 255) else _) = _
    rw [if_pos rfl, carryR_all m]
    rfl
theorem carryL_end (l : List Int) (c : Int) (hc : c ≠ 255) (m : Nat) : carryL (l ++ [c] ++ List.replicate m 255) = l ++ [c + 1] ++ List.replicate m 0 := by
  unfold carryL
  rw [List.reverse_append, List.reverse_append, List.reverse_replicate]
  show (carryR (List.replicate m 255 ++ c :: l.reverse)).reverse = _
  rw [carryR_full c _ hc m, List.reverse_append, List.reverse_replicate]
  simp
theorem carryL_all (m : Nat) : carryL (List.replicate m 255) = List.replicate m 0 := by
  unfold carryL
  rw [List.reverse_replicate, carryR_all, List.reverse_replicate]

def rput1 (s : RW) (bound bit : Int) : RW := if bit = 0 then { s with width := bound } else { s with low := s.low + bound, width := s.width - bound }
def rcarry (s : RW) : RW := if 4294967296 ≤ s.low then { s with low := s.low - 4294967296, out := carryL s.out } else s
def rnorm (s : RW) : RW := if s.width < 16777216 then { out := s.out ++ [s.low / 16777216], low := s.low % 16777216 * 256, width := s.width * 256 } else s
def rput (s : RW) (bound bit : Int) : RW := rnorm (rcarry (rput1 s bound bit))
def rend (s : RW) : List Int := s.out ++ [s.low / 16777216, s.low / 65536 % 256, s.low / 256 % 256, s.low % 256]

/-- The bytes that a writer has, those that wait among them. -/
def WS.base (s : WS) : List Int := (if s.sm then s.out ++ [s.wait] else s.out) ++ List.replicate s.full.toNat 255
def WS.told (s : WS) : List Int := if 4294967296 ≤ s.low then carryL s.base else s.base
/-- No carry comes to a byte that cannot bear it. -/
def WS.calm (s : WS) : Prop := (s.sm = false ∨ s.wait = 255) → s.low + s.width ≤ 4294967296
structure Rel (s : WS) (r : RW) : Prop where
  out : r.out = s.told
  low : r.low = s.low % 4294967296
  width : r.width = s.width

theorem shift_told (s : WS) (width : Int) (dn : Bool) (ok : s.ok) (hc : 4294967296 ≤ s.low → s.sm = true ∧ s.wait ≠ 255) :
    (shiftS { s with width := width, dn := dn }).told = s.told ++ [s.low % 4294967296 / 16777216] ∧ (shiftS { s with width := width, dn := dn }).low = s.low % 4294967296 % 16777216 * 256 ∧ (shiftS { s with width := width, dn := dn }).low < 4294967296 ∧ 0 ≤ (shiftS { s with width := width, dn := dn }).low := by
  obtain ⟨out, low, wid0, wait, full, sm, dn0⟩ := s
  obtain ⟨l0, l1, w0, w1, t0, t1, f0, sz⟩ := ok
  simp only at l0 l1 t0 t1 f0 hc
  have hlow : (shiftS ⟨out, low, width, wait, full, sm, dn⟩).low = low * 256 % 4294967296 := shiftS_low _
  refine ⟨?_, by rw [hlow]; show low * 256 % 4294967296 = low % 4294967296 % 16777216 * 256; omega, by rw [hlow]; omega, by rw [hlow]; omega⟩
  have hnc : ¬ 4294967296 ≤ (shiftS ⟨out, low, width, wait, full, sm, dn⟩).low := by rw [hlow]; omega
  unfold WS.told
  rw [if_neg hnc]
  by_cases hbig : 4294967296 ≤ low
  · obtain ⟨rfl, hw⟩ := hc hbig
    have hcar : low / 4294967296 = 1 := by omega
    unfold shiftS
    rw [if_pos (Or.inr (show 4294967295 < low by omega)), if_pos hbig]
    unfold WS.base
    simp only [if_true, carryOf, hcar]
    rw [carryL_end _ _ hw]
    rw [show (wait + 1) % 256 = wait + 1 by omega, show ((255 : Int) + 1) % 256 = 0 by decide, show low / 16777216 % 256 = low % 4294967296 / 16777216 by omega]
    simp
  · rw [if_neg hbig]
    by_cases hlo : low < 4278190080
    · have hcar : low / 4294967296 = 0 := by omega
      unfold shiftS
      rw [if_pos (Or.inl hlo)]
      unfold WS.base
      simp only [if_true, carryOf, hcar]
      rw [show (wait + 0) % 256 = wait by omega, show ((255 : Int) + 0) % 256 = 255 by decide, show low / 16777216 % 256 = low % 4294967296 / 16777216 by omega]
      simp
    · unfold shiftS
      rw [if_neg (show ¬ (low < 4278190080 ∨ 4294967295 < low) by omega)]
      unfold WS.base
      simp only
      rw [show low % 4294967296 / 16777216 = 255 by omega, show (full + 1).toNat = full.toNat + 1 by omega, List.replicate_succ', ← List.append_assoc]

theorem shift_calm (s : WS) (ok : s.ok) (hs : s.low + s.width * 1 ≤ 8589934592) (hcalm : s.calm) (hw : 0 < s.width) : ∀ W : Int, W = s.width * 256 → ((shiftS s).sm = false ∨ (shiftS s).wait = 255) → (shiftS s).low + W ≤ 4294967296 := by
  obtain ⟨out, low, width, wait, full, sm, dn⟩ := s
  obtain ⟨l0, l1, w0, w1, t0, t1, f0, sz⟩ := ok
  simp only at l0 l1 t0 t1 f0 hs hw
  unfold WS.calm at hcalm
  simp only at hcalm
  rintro W rfl
  unfold shiftS
  split
  · rename_i h
    simp only at h ⊢
    intro hh
    rcases hh with hh | hh
    · cases hh
    · omega
  · rename_i h
    simp only at h ⊢
    intro hh
    have := hcalm hh
    omega

theorem put_rel {s : WS} {r : RW} {bound : Int} (bit : Int) {rm : Int} (hl : s.live (rm + 1)) (hcalm : s.calm) (hr : Rel s r) (b0 : 65536 ≤ bound) (b1 : bound + 65536 ≤ s.width) :
    Rel (putS s bound bit) (rput r bound bit) ∧ (putS s bound bit).calm := by
  obtain ⟨k0, k1, k2, k3, k4, k5, k6⟩ := put1_ok bit hl b0 b1
  have hsum := hl.sum
  have hl0 := hl.ok.low0
  have hww : (put1 s bound bit).low + (put1 s bound bit).width ≤ s.low + s.width := by unfold put1; split <;> simp <;> omega
  have hll : s.low ≤ (put1 s bound bit).low := by unfold put1; split <;> simp <;> omega
  have hsame : (put1 s bound bit).sm = s.sm ∧ (put1 s bound bit).wait = s.wait ∧ (put1 s bound bit).base = s.base := by unfold put1; split <;> exact ⟨rfl, rfl, rfl⟩
  have hcalm1 : (put1 s bound bit).calm := by
    unfold WS.calm
    rw [hsame.1, hsame.2.1]
    intro h
    have := hcalm h
    omega
  have hcar1 : 4294967296 ≤ (put1 s bound bit).low → (put1 s bound bit).sm = true ∧ (put1 s bound bit).wait ≠ 255 := by
    intro h
    constructor
    · cases hsm : (put1 s bound bit).sm with
      | true => rfl
      | false => have := hcalm1 (.inl hsm); omega
    · intro hw
      have := hcalm1 (.inr hw)
      omega
  have hrel1 : Rel (put1 s bound bit) (rcarry (rput1 r bound bit)) := by
    obtain ⟨h1, h2, h3⟩ := hr
    have e1 : (rput1 r bound bit).out = r.out ∧ (rput1 r bound bit).low = r.low + ((put1 s bound bit).low - s.low) ∧ (rput1 r bound bit).width = (put1 s bound bit).width := by
      unfold rput1 put1
      split
      · exact ⟨rfl, by simp, rfl⟩
      · exact ⟨rfl, by simp; omega, by simp [h3]⟩
    have hlow1 := k0.low1
    unfold rcarry
    by_cases hb : 4294967296 ≤ s.low
    · rw [if_neg (by rw [e1.2.1]; omega)]
      refine ⟨?_, by rw [e1.2.1]; omega, e1.2.2⟩
      rw [e1.1, h1, WS.told, WS.told, if_pos hb, if_pos (by omega), hsame.2.2]
    · by_cases hb1 : 4294967296 ≤ (put1 s bound bit).low
      · rw [if_pos (by rw [e1.2.1]; omega)]
        refine ⟨?_, by show (rput1 r bound bit).low - 4294967296 = _; rw [e1.2.1]; omega, e1.2.2⟩
        show carryL (rput1 r bound bit).out = _
        rw [e1.1, h1, WS.told, WS.told, if_neg hb, if_pos hb1, hsame.2.2]
      · rw [if_neg (by rw [e1.2.1]; omega)]
        refine ⟨?_, by rw [e1.2.1]; omega, e1.2.2⟩
        rw [e1.1, h1, WS.told, WS.told, if_neg hb, if_neg hb1, hsame.2.2]
  unfold rput putS renorm rnorm
  rw [hrel1.width]
  split
  · rename_i hlt
    have ok2 : WS.ok { put1 s bound bit with width := (put1 s bound bit).width * 256 } := ⟨k0.low0, k0.low1, by show 0 ≤ _ * 256; omega, by show _ * 256 < _; omega, k0.wait0, k0.wait1, k0.full0, k0.size⟩
    obtain ⟨t1, t2, t3, t4⟩ := shift_told (put1 s bound bit) ((put1 s bound bit).width * 256) (put1 s bound bit).dn k0 hcar1
    constructor
    · refine ⟨?_, ?_, ?_⟩
      · rw [t1]
        show (rcarry (rput1 r bound bit)).out ++ [(rcarry (rput1 r bound bit)).low / 16777216] = (put1 s bound bit).told ++ [(put1 s bound bit).low % 4294967296 / 16777216]
        rw [hrel1.out, hrel1.low]
      · show (rcarry (rput1 r bound bit)).low % 16777216 * 256 = _
        rw [hrel1.low]
        rw [Int.emod_eq_of_lt t4 t3]
        exact t2.symm
      · rw [shiftS_width]
    · intro h
      rw [shiftS_width]
      have hsh := shift_calm (put1 s bound bit) k0 (by omega) hcalm1 (by omega) _ rfl
      have e : ∀ W : Int, (shiftS { put1 s bound bit with width := W }).sm = (shiftS (put1 s bound bit)).sm ∧ (shiftS { put1 s bound bit with width := W }).wait = (shiftS (put1 s bound bit)).wait ∧ (shiftS { put1 s bound bit with width := W }).low = (shiftS (put1 s bound bit)).low := by
        intro W
        unfold shiftS
        simp only
        split <;> exact ⟨rfl, rfl, rfl⟩
      obtain ⟨e1, e2, e3⟩ := e ((put1 s bound bit).width * 256)
      rw [e1, e2] at h
      rw [e3]
      exact hsh h
  · exact ⟨hrel1, hcalm1⟩

theorem begin_rel : Rel begin0 ⟨[], 0, 4294967295⟩ ∧ begin0.calm := ⟨⟨rfl, rfl, rfl⟩, fun _ => by decide⟩

theorem shift_end (s : WS) (hw0 : 0 ≤ s.wait) (hw1 : s.wait ≤ 255) (hf : 0 ≤ s.full) (hn : s.low < 4294967296) : (shiftS { s with low := 0 }).out = s.told := by
  obtain ⟨out, low, width, wait, full, sm, dn⟩ := s
  simp only at hf hn hw0 hw1
  unfold WS.told
  rw [if_neg (by show ¬ 4294967296 ≤ low; omega)]
  unfold shiftS
  rw [if_pos (Or.inl (show (0 : Int) < 4278190080 by omega))]
  unfold WS.base
  cases sm
  · simp [carryOf]
  · simp [carryOf]
    omega

/-- The ends are the same. -/
theorem end_rel {s : WS} {r : RW} {rm : Int} (hl : s.live rm) (h6 : 6 ≤ rm) (hcalm : s.calm) (hr : Rel s r) : (endS s).out = rend r := by
  have hw := hl.wide
  have hcar : 4294967296 ≤ s.low → s.sm = true ∧ s.wait ≠ 255 := fun h => by
    constructor
    · cases hsm : s.sm with
      | true => rfl
      | false => have := hcalm (.inl hsm); omega
    · intro hw'; have := hcalm (.inr hw'); omega
  have o0 : WS.okr s 6 := ⟨hl.ok, by have := hl.room; omega⟩
  have hr0 : 0 ≤ r.low := by rw [hr.low]; omega
  have hr1 : r.low < 4294967296 := by rw [hr.low]; omega
  obtain ⟨a1, a2, a3, a4⟩ := shift_told s s.width true o0.ok hcar
  have o1 : (shiftS { s with width := s.width, dn := true }).okr 5 := shiftS_okr (r := 5) (by omega) ⟨⟨hl.ok.low0, hl.ok.low1, hl.ok.width0, hl.ok.width1, hl.ok.wait0, hl.ok.wait1, hl.ok.full0, hl.ok.size⟩, o0.room⟩
  rw [← hr.out, ← hr.low] at a1
  rw [← hr.low] at a2
  have he : endS s = shiftS { shiftS (shiftS (shiftS (shiftS { s with width := s.width, dn := true }))) with low := 0 } := rfl
  rw [he]
  clear he
  generalize shiftS { s with width := s.width, dn := true } = s1 at a1 a2 a3 a4 o1 ⊢
  obtain ⟨b1, b2, b3, b4⟩ := shift_told s1 s1.width s1.dn o1.ok (fun h => by omega)
  have o2 := shiftS_okr (r := 4) (by omega) o1
  change (shiftS s1).told = _ at b1
  change (shiftS s1).low = _ at b2
  change (shiftS s1).low < _ at b3
  change 0 ≤ (shiftS s1).low at b4
  generalize shiftS s1 = s2 at b1 b2 b3 b4 o2 ⊢
  obtain ⟨c1, c2, c3, c4⟩ := shift_told s2 s2.width s2.dn o2.ok (fun h => by omega)
  have o3 := shiftS_okr (r := 3) (by omega) o2
  change (shiftS s2).told = _ at c1
  change (shiftS s2).low = _ at c2
  change (shiftS s2).low < _ at c3
  change 0 ≤ (shiftS s2).low at c4
  generalize shiftS s2 = s3 at c1 c2 c3 c4 o3 ⊢
  obtain ⟨d1, d2, d3, d4⟩ := shift_told s3 s3.width s3.dn o3.ok (fun h => by omega)
  have o4 := shiftS_okr (r := 2) (by omega) o3
  change (shiftS s3).told = _ at d1
  change (shiftS s3).low = _ at d2
  change (shiftS s3).low < _ at d3
  change 0 ≤ (shiftS s3).low at d4
  generalize shiftS s3 = s4 at d1 d2 d3 d4 o4 ⊢
  rw [shift_end s4 o4.ok.wait0 o4.ok.wait1 o4.ok.full0 d3, d1, c1, b1, a1]
  have e1 : s1.low % 4294967296 / 16777216 = r.low / 65536 % 256 := by omega
  have e2 : s2.low % 4294967296 / 16777216 = r.low / 256 % 256 := by omega
  have e3 : s3.low % 4294967296 / 16777216 = r.low % 256 := by omega
  rw [e1, e2, e3]
  simp [rend]
end Go.Proofs.Ytedcficjmogohaa

/- Appending one owned row of bytes to another one. -/
namespace Go.Proofs.Ytedcficjmogohaa
set_option linter.unusedVariables false
set_option linter.unusedSimpArgs false
set_option maxRecDepth 100000
open Go.RowKit
/-- A cell of an owned row is written. -/
theorem append_two {B : Nat} {R : HP} [Loc B R] {w : World} (hB : B ≤ w.heap.size) {v u : Value} {l l2 : List Int} (h : Own B (Rw 5 1 v l.length (bytesV l) * (Rw 5 1 u l2.length (bytesV l2) * R)) w) (hl : l.length + l2.length ≤ 140737488355328) :
    ∃ v' w', (Builtin.append_ #[22, 22] 22 #[v, u]).run Try.prog w = .ok v' w' ∧ Own B (Rw 5 1 v' (l ++ l2).length (bytesV (l ++ l2)) * (Rw 5 1 u l2.length (bytesV l2) * R)) w' ∧ Below B w w' := by
  obtain ⟨i0, hi, hz0, hz1, hz2⟩ := info_parts info5
  have hsrc := (h.cast (sep_left_comm _ _ _)).row
  rcases hsrc.2 with ⟨rfl, hn⟩ | ⟨g, cap, cur, rfl, _⟩
  · obtain rfl : l2 = [] := List.eq_nil_of_length_eq_zero hn
    refine ⟨v, w, run_append_owned_none (P := Try.prog) w B 22 22 5 i0 1 Try.underlying22 hi v l.length (bytesV l) h.row, by simpa using h, Below.refl B w⟩
  · have hlen : (bytesV l2).length = l2.length := by simp [bytesV]
    obtain ⟨v', w', hr, h2, h3, _, h5⟩ := run_append_own_at (P := Try.prog) w B 22 22 5 i0 _ 1 1 Try.underlying22 hi hz0 hz1 hz2 rfl (by omega) v l.length (bytesV l) h.row
      ⟨g, 0, none⟩ l2.length cap (bytesV l2) (by rw [hlen]; omega) (by
        intro j x hj
        have := hsrc.cells (g := g) rfl j x hj
        simpa [Addr.add] using this) (by intro x hx; obtain ⟨y, _, rfl⟩ := List.mem_map.1 hx; rfl) (by unfold maxLen; omega) (by omega) hB
    have h6 := Own.appended hB h h2 h3 h5
    refine ⟨v', w', hr, ?_, h6.2⟩
    have := h6.1
    simpa [bytesV] using this
end Go.Proofs.Ytedcficjmogohaa
