/- Texts of one proof, merged: XK8 XM0 XM1 XM2 XPre XM3 XM4 XM5 XM6. -/
import Derived.Test.YtedcficjmogohaaYf
import Derived.WalkSmall
import Derived.Lib.ItoaWalk
/- The tokens that Parse finds stand for the bytes: plain laws. -/
namespace Go.Proofs.Ytedcficjmogohaa
set_option linter.unusedVariables false
set_option linter.unusedSimpArgs false
set_option maxRecDepth 100000

def same3 (b : List UInt8) (q m : Nat) : Prop := b[q]? = b[m]? ∧ b[q + 1]? = b[m + 1]? ∧ b[q + 2]? = b[m + 2]? ∧ m + 2 < b.length
theorem lastP_at (b : List UInt8) : ∀ (m : Nat) (x y z : UInt8) (p : Int), lastP b m x y z = some p → at3 b p.toNat x y z
  | 0, x, y, z, p, h => by cases h
  | m + 1, x, y, z, p, h => by
    unfold lastP at h
    split at h
    · rename_i ha
      injection h with h
      subst h
      simpa using ha
    · exact lastP_at b m x y z p h
theorem prevP_same (b : List UInt8) (q : Nat) (h : 0 ≤ prevP b q) : same3 b (prevP b q).toNat q := by
  unfold prevP at h ⊢
  split at h
  · rename_i x y z h0 h1 h2
    cases hl : lastP b q x y z with
    | none => rw [hl] at h; exact absurd h (by decide)
    | some p =>
      obtain ⟨a0, a1, a2⟩ := lastP_at b q x y z p hl
      simp only [Option.getD_some]
      exact ⟨a0.trans h0.symm, a1.trans h1.symm, a2.trans h2.symm, (List.getElem?_eq_some_iff.1 h2).1⟩
  · exact absurd h (by decide)
theorem same3_trans {b : List UInt8} {p q m : Nat} (h1 : same3 b p q) (h2 : same3 b q m) : same3 b p m := ⟨h1.1.trans h2.1, h1.2.1.trans h2.2.1, h1.2.2.1.trans h2.2.2.1, h2.2.2.2⟩
theorem alike_ge3 {b : List UInt8} {q m : Nat} (h : same3 b q m) : 3 ≤ alikeN b q m := by
  obtain ⟨h0, h1, h2, h3⟩ := h
  unfold alikeN
  rw [alk, if_pos ⟨by omega, h0⟩, alk, if_pos ⟨by omega, h1⟩, alk, if_pos ⟨by omega, h2⟩]
  exact (alk_in b q m 255 3).1
/-- What a token found at m is. -/
def goodT (b : List UInt8) (win : Int) (m : Nat) (r : Nat × Nat) : Prop :=
  (r.1 = 0 ∧ r.2 = 0) ∨ (3 ≤ r.1 ∧ r.1 ≤ 258 ∧ 1 ≤ r.2 ∧ (r.2 : Int) ≤ win ∧ r.2 ≤ m ∧ m + r.1 ≤ b.length ∧ ∀ i, i < r.1 → b[m - r.2 + i]? = b[m + i]?)
theorem bst_good (b : List UInt8) (win : Int) (m : Nat) (hm : m ≤ b.length) : ∀ (k : Nat) (c : Int) (n d : Nat), c < m → (0 ≤ c → same3 b c.toNat m) → goodT b win m (n, d) → goodT b win m (bst b win m k c n d)
  | 0, c, n, d, _, _, h => h
  | k + 1, c, n, d, hc, hs, h => by
    rw [bst]
    split
    · rename_i h1
      have hpin := prevP_in b c.toNat
      have hps : 0 ≤ prevP b c.toNat → same3 b (prevP b c.toNat).toNat m := fun h2 => same3_trans (prevP_same b c.toNat h2) (hs h1.1)
      have ha := alk_in b c.toNat m 258 0
      have hg : goodT b win m (alikeN b c.toNat m, m - c.toNat) := by
        have h3 := alike_ge3 (hs h1.1)
        refine .inr ⟨h3, by unfold alikeN; simp only; omega, by simp only; omega, by simp only; omega, by simp only; omega, ha.2.2 hm, fun i hi => ?_⟩
        have := alk_eq b c.toNat m 258 0 i (by omega) hi
        simp only
        rw [show m - (m - c.toNat) + i = c.toNat + i by omega]
        exact this
      split
      · split
        · rename_i h5
          rw [h5] at hg
          exact hg
        · exact bst_good b win m hm k _ _ _ (by omega) hps hg
      · exact bst_good b win m hm k _ _ _ (by omega) hps h
    · exact h
theorem bestN_good (b : List UInt8) (win : Int) (m : Nat) (hm : m ≤ b.length) : goodT b win m (bestN b win m) :=
  bst_good b win m hm _ _ _ _ (prevP_in b m).2 (prevP_same b m) (.inl ⟨rfl, rfl⟩)
theorem copy_take (b : List UInt8) (m d : Nat) (hd1 : 1 ≤ d) (hdm : d ≤ m) : ∀ n, m + n ≤ b.length → (∀ i, i < n → b[m - d + i]? = b[m + i]?) → copyN d n (b.take m) = b.take (m + n)
  | 0, _, _ => rfl
  | n + 1, hn, h => by
    rw [copyN_succ, copy_take b m d hd1 hdm n (by omega) (fun i hi => h i (by omega)), List.length_take, Nat.min_eq_left (by omega)]
    have h1 := h n (by omega)
    rw [List.getElem?_take_of_lt (by omega), show m + n - d = m - d + n by omega, h1, List.getElem?_eq_getElem (by omega)]
    rw [show m + (n + 1) = m + n + 1 by omega, List.take_succ_eq_append_getElem (by omega)]
    rfl
theorem tokAt_saw (b : List UInt8) (win : Int) (hw : win ≤ 32768) (m : Nat) (hm : m < b.length) (n : Int) (hn : (b.length : Int) ≤ n) :
    fitsP (b.take m) (tokAt b win m) n ∧ sawT (b.take m) (tokAt b win m) = b.take (m + (if (bestN b win m).1 = 0 then 1 else (bestN b win m).1)) := by
  have hg := bestN_good b win m (by omega)
  unfold tokAt
  generalize bestN b win m = r at *
  obtain ⟨rn, rd⟩ := r
  rcases hg with ⟨h1, h2⟩ | ⟨h1, h2, h3, h4, h5, h6, h7⟩
  · simp only at h1 h2
    subst h1; subst h2
    refine ⟨⟨.inl ⟨rfl, rfl⟩, by simp, by unfold maxT; simp; omega⟩, ?_⟩
    unfold sawT
    rw [if_pos (by simp), if_pos (by simp), List.getElem?_eq_getElem hm]
    show _ = b.take (m + 1)
    rw [List.take_succ_eq_append_getElem hm]
    rfl
  · simp only at h1 h2 h3 h4 h5 h6 h7
    have h0 : ¬ rn = 0 := by omega
    simp only [if_neg h0]
    refine ⟨⟨.inr ⟨by simp only; omega, by simp only; omega, by simp only; omega, by simp only; omega, rfl⟩, by simp only [List.length_take]; omega, by unfold maxT; simp only [List.length_take]; rw [if_neg (by omega)]; omega⟩, ?_⟩
    unfold sawT
    rw [if_neg (by simp only; omega)]
    exact copy_take b m rd h3 h5 rn h6 h7
theorem prs_exp (b : List UInt8) (win : Int) (hw : win ≤ 32768) (N : Int) (hN : (b.length : Int) ≤ N) : ∀ (k m : Nat), m ≤ b.length → b.length ≤ k + m → expT N (prs b win k m) (b.take m) = some b
  | 0, m, h1, h2 => by
    obtain rfl : m = b.length := by omega
    rw [prs, expT, List.take_length]
  | k + 1, m, h1, h2 => by
    rw [prs]
    split
    · rename_i hm
      have hs := tokAt_saw b win hw m hm N hN
      have hin := bestN_in b win m (by omega)
      rw [expT, if_pos hs.1, hs.2]
      refine prs_exp b win hw N hN k _ ?_ ?_
      · split <;> omega
      · split <;> omega
    · obtain rfl : m = b.length := by omega
      rw [expT, List.take_length]
theorem parse_exp (b : List UInt8) (win : Int) (h1 : 1 ≤ win) (h2 : win ≤ 32768) (N : Int) (hN : (b.length : Int) ≤ N) : expT N (parseN b win) [] = some b := by
  unfold parseN
  rw [if_pos ⟨h1, h2⟩]
  exact prs_exp b win h2 N hN b.length 0 (by omega) (by omega)
end Go.Proofs.Ytedcficjmogohaa

/- The walk over math/bits.Len, of small numbers. -/
namespace Go.Proofs.Ytedcficjmogohaa
set_option linter.unusedVariables false
set_option linter.unusedSimpArgs false
set_option maxRecDepth 100000
open Go.RowKit

def lenN (n : Nat) : Nat := if n = 0 then 0 else Nat.log2 n + 1

theorem lenN_small (n : Nat) (h : n < 256) : lenN n ≤ 8 := by
  have : (List.range 256).all (fun i => decide (lenN i ≤ 8)) = true := by kernel_rfl
  exact of_decide_eq_true (List.all_eq_true.1 this n (List.mem_range.2 h))
theorem lenN_up (n : Nat) (h : 256 ≤ n) : lenN n = 8 + lenN (n / 256) := by
  have h0 : ¬ n = 0 := by omega
  have h1 : ¬ n / 256 = 0 := by omega
  unfold lenN
  rw [if_neg h0, if_neg h1]
  have h2 : Nat.log2 n = Nat.log2 (n / 256) + 8 := by
    have hl : 2 ^ Nat.log2 (n / 256) ≤ n / 256 := Nat.log2_self_le (by omega)
    have hu : n / 256 < 2 ^ (Nat.log2 (n / 256) + 1) := Nat.lt_log2_self
    refine (Nat.log2_eq_iff (by omega)).2 ⟨?_, ?_⟩
    · rw [Nat.pow_add]; omega
    · rw [show Nat.log2 (n / 256) + 8 + 1 = (Nat.log2 (n / 256) + 1) + 8 by omega, Nat.pow_add]; omega
  omega
theorem idx_tab {S : ByteArray} (hsz : S.size = 256) (hall : (List.range 256).all (fun i => S.data.toList.getD i 0 == UInt8.ofNat (lenN i)) = true) (n : Nat) (hn : n < 256) (X : Int) (hX : X = (n : Int)) (W : World) :
    (Instr.index 9 (.string S) (.int .u8 X)).run Try.prog W = .ok (.int .u8 (lenN n : Int)) W := by
  subst hX
  rw [run_index_string W 9 S .u8 _ Try.underlying9, dif_pos ⟨by omega, by omega⟩]
  have e : ((n : Int)).toNat = n := by omega
  simp only [e]
  rw [Lib.getD_at S n (by omega)]
  have := List.all_eq_true.1 hall n (List.mem_range.2 hn)
  rw [eq_of_beq this]
  have h8 := lenN_small n hn
  have : (UInt8.ofNat (lenN n)).toNat = lenN n := by simp; omega
  rw [this]

set_option maxHeartbeats 6400000 in
theorem len64_any (x : Nat) (hx : x < 65536) (w : World) : Calls Try.prog 74 #[.int .u64 (x : Int)] w fun e w' => e = .returned (.int .i64 (lenN x : Int)) ∧ w = w' := by
  obtain ⟨X, hX⟩ : ∃ X : Int, X = (x : Int) := ⟨_, rfl⟩
  rw [← hX]
  have x0 : 0 ≤ X := by omega
  have x1 : X < 65536 := by omega
  have HX := Lib.hid hX
  have Hx := Lib.hid hx
  clear hX hx
  by_cases h : X < 256
  · go_enter Try.func74, Try.ntmps74
    go_name_bytes S hS
    have hsz : S.size = 256 := by rw [← hS]; kernel_rfl
    have hall : (List.range 256).all (fun i => S.data.toList.getD i 0 == UInt8.ofNat (lenN i)) = true := by rw [← hS]; kernel_rfl
    clear hS
    have h8 := lenN_small x (by have := HX.out; omega)
    have hidx := idx_tab hsz hall x (by have := HX.out; omega) X HX.out
    clear hsz hall
    generalize lenN x = L at *
    obtain ⟨Z, hZ⟩ : ∃ Z : Int, Z = (L : Int) := ⟨_, rfl⟩
    rw [← hZ] at hidx ⊢
    have z0 : 0 ≤ Z := by omega
    have z1 : Z ≤ 8 := by omega
    clear hZ
    go_wp2
    go_ret
    exact ⟨rfl, rfl⟩
  · have Hup := Lib.hid (lenN_up x (by have := HX.out; omega))
    go_enter Try.func74, Try.ntmps74
    go_name_bytes S hS
    have hsz : S.size = 256 := by rw [← hS]; kernel_rfl
    have hall : (List.range 256).all (fun i => S.data.toList.getD i 0 == UInt8.ofNat (lenN i)) = true := by rw [← hS]; kernel_rfl
    clear hS
    have h8 := lenN_small (x / 256) (by have := Hx.out; omega)
    have hidx := idx_tab hsz hall (x / 256) (by have := Hx.out; omega) (X / 256) (by have := HX.out; omega)
    rw [Hup.out]
    clear hsz hall Hup
    generalize lenN (x / 256) = L at *
    obtain ⟨Z, hZ⟩ : ∃ Z : Int, Z = (L : Int) := ⟨_, rfl⟩
    rw [show ((8 + L : Nat) : Int) = 8 + Z by omega]
    rw [← hZ] at hidx
    have z0 : 0 ≤ Z := by omega
    have z1 : Z ≤ 8 := by omega
    clear hZ
    go_wp2
    go_ret
    exact ⟨rfl, rfl⟩

set_option maxHeartbeats 1600000 in
theorem len_any (x : Nat) (hx : x < 65536) (w : World) : Calls Try.prog 58 #[.int .u64 (x : Int)] w fun e w' => e = .returned (.int .i64 (lenN x : Int)) ∧ w = w' := by
  have H := Lib.hid (fun w1 => len64_any x hx w1)
  generalize lenN x = L at *
  have x0 : (0 : Int) ≤ (x : Int) := by omega
  have x1 : (x : Int) < 65536 := by omega
  generalize (x : Int) = X at *
  generalize (L : Int) = Z at *
  clear hx
  go_enter Try.func58, Try.ntmps58
  go_wp2_with fail
  refine (H.out _).mono ?_
  rintro e wz ⟨rfl, rfl⟩
  go_wp2
  go_ret
  exact ⟨rfl, rfl⟩
end Go.Proofs.Ytedcficjmogohaa

/- Package pack's model as owned; the walk over begin. -/
namespace Go.Proofs.Ytedcficjmogohaa
set_option linter.unusedVariables false
set_option linter.unusedSimpArgs false
set_option maxRecDepth 100000
open Go.RowKit

/-- So many parts, each apart from the others. -/
def Big (A : Nat → HP) : Nat → HP
  | 0 => Emp
  | n + 1 => A n * Big A n
def BigX (A : Nat → HP) (q : Nat) : Nat → HP
  | 0 => Emp
  | n + 1 => if n = q then Big A n else A n * BigX A q n
theorem big_split (A : Nat → HP) (q : Nat) : ∀ n, q < n → Big A n = A q * BigX A q n
  | 0, h => by omega
  | n + 1, h => by
    rw [Big, BigX]
    split
    · rename_i e; subst e; rfl
    · rw [big_split A q n (by omega), sep_left_comm]
theorem big_congr (A A' : Nat → HP) : ∀ n, (∀ i, i < n → A i = A' i) → Big A n = Big A' n
  | 0, _ => rfl
  | n + 1, h => by rw [Big, Big, h n (by omega), big_congr A A' n (fun i hi => h i (by omega))]
theorem bigX_congr (A A' : Nat → HP) (q : Nat) : ∀ n, (∀ i, i < n → i ≠ q → A i = A' i) → BigX A q n = BigX A' q n
  | 0, _ => rfl
  | n + 1, h => by
    rw [BigX, BigX]
    split
    · rename_i e; subst e; exact big_congr A A' n (fun i hi => h i (by omega) (by omega))
    · rename_i e; rw [h n (by omega) e, bigX_congr A A' q n (fun i hi hq => h i (by omega) hq)]
instance Loc.big {B : Nat} {A : Nat → HP} [k : ∀ i, Loc B (A i)] : ∀ {n : Nat}, Loc B (Big A n)
  | 0 => inferInstanceAs (Loc B Emp)
  | n + 1 => @Loc.sep B (A n) (Big A n) (k n) (Loc.big (n := n))
instance Loc.bigX {B q : Nat} {A : Nat → HP} [k : ∀ i, Loc B (A i)] : ∀ {n : Nat}, Loc B (BigX A q n)
  | 0 => inferInstanceAs (Loc B Emp)
  | n + 1 => by
    rw [BigX]
    split
    · exact Loc.big
    · exact @Loc.sep B (A n) (BigX A q n) (k n) (Loc.bigX (n := n))

def upd {α : Type} (f : Nat → α) (q : Nat) (x : α) : Nat → α := fun i => if i = q then x else f i
theorem upd_same {α : Type} (f : Nat → α) (q : Nat) (x : α) : upd f q x q = x := by simp [upd]
theorem upd_other {α : Type} (f : Nat → α) {q i : Nat} (x : α) (h : i ≠ q) : upd f q x i = f i := by simp [upd, h]
def chSl (g n : Nat) : Value := .slice (some ⟨g, 0, none⟩) n n
def mdC (a : Value) (lv : Nat → Value) (n b : Value) (kind : Int) (v : Value) : Array Value := #[a, lv 0, lv 1, lv 2, lv 3, lv 4, lv 5, lv 6, lv 7, n, b, .int .i64 kind, v]
theorem mdC_lit (a : Value) (lv : Nat → Value) (n b : Value) (kind : Int) (v : Value) (i : Nat) (h : i < 8) : (mdC a lv n b kind v)[1 + i]? = some (lv i) := by
  match i, h with
  | 0, _ | 1, _ | 2, _ | 3, _ | 4, _ | 5, _ | 6, _ | 7, _ => rfl
theorem mdC_set (a : Value) (lv : Nat → Value) (n b : Value) (kind : Int) (v : Value) (i : Nat) (h : i < 8) (x : Value) : (mdC a lv n b kind v).setIfInBounds (1 + i) x = mdC a (upd lv i x) n b kind v := by
  match i, h with
  | 0, _ | 1, _ | 2, _ | 3, _ | 4, _ | 5, _ | 6, _ | 7, _ => rfl
/-- A model: all chances, and what was ahead. -/
structure MS where
  kinds : List Int
  lits : Nat → List Int
  lens : List Int
  backs : List Int
  kind : Nat
  out : List UInt8
structure MS.ok (m : MS) : Prop where
  kinds : m.kinds.length = 2
  lits : ∀ i, (m.lits i).length = 256
  lens : m.lens.length = 256
  backs : m.backs.length = 16
  kind : m.kind < 2
  ckinds : chOk m.kinds
  clits : ∀ i, chOk (m.lits i)
  clens : chOk m.lens
  cbacks : chOk m.backs
/-- Where a model's parts lie. -/
structure MA where
  gk : Nat
  gl : Nat → Nat
  gn : Nat
  gb : Nat
abbrev Cb (g : Nat) (l : List Int) : HP := Bk g 106 (chV l)
def Lt (a : MA) (f : Nat → List Int) : HP := Big (fun i => Cb (a.gl i) (f i)) 8
instance Loc.lt {B : Nat} {a : MA} {f : Nat → List Int} : Loc B (Lt a f) := inferInstanceAs (Loc B (Big _ 8))
def mdA (a : MA) (kind : Int) (v : Value) : Array Value := mdC (chSl a.gk 2) (fun i => chSl (a.gl i) 256) (chSl a.gn 256) (chSl a.gb 16) kind v
def MdV (p : Nat) (a : MA) (v : Value) (m : MS) : HP := Bk p 97 (mdA a m.kind v) * (Cb a.gk m.kinds * (Lt a m.lits * (Cb a.gn m.lens * (Cb a.gb m.backs * Rw 5 1 v m.out.length (bytesU m.out)))))
instance Loc.mdv {B p : Nat} {a : MA} {v : Value} {m : MS} : Loc B (MdV p a v m) := inferInstanceAs (Loc B (Bk _ _ _ * (Cb _ _ * (Lt _ _ * (Cb _ _ * (Cb _ _ * Rw _ _ _ _ _))))))
def Md (p : Nat) (a : MA) (m : MS) : HP := Hex fun v => MdV p a v m
instance Loc.md {B p : Nat} {a : MA} {m : MS} : Loc B (Md p a m) := inferInstanceAs (Loc B (Hex _))
def ms0 : MS := ⟨List.replicate 2 0, fun _ => List.replicate 256 0, List.replicate 256 0, List.replicate 16 0, 0, []⟩
theorem chOk_zero (n : Nat) : chOk (List.replicate n 0) := fun x hx => by rw [(List.mem_replicate.1 hx).2]; omega
theorem ms0_ok : ms0.ok := ⟨by simp [ms0], fun i => by simp [ms0], by simp [ms0], by simp [ms0], by simp [ms0], chOk_zero _, fun _ => chOk_zero _, chOk_zero _, chOk_zero _⟩
theorem mdv_eq {p : Nat} {a : MA} {v : Value} {m : MS} {R : HP} : MdV p a v m * R = Bk p 97 (mdA a m.kind v) * (Cb a.gk m.kinds * (Lt a m.lits * (Cb a.gn m.lens * (Cb a.gb m.backs * (Rw 5 1 v m.out.length (bytesU m.out) * R))))) := by
  show (_ * (_ * (_ * (_ * (_ * _))))) * R = _
  simp only [sep_assoc]

set_option maxHeartbeats 6400000 in
theorem mbegin_any (B : Nat) (R : HP) [Loc B R] (w : World) (hB : B ≤ w.heap.size) (hO : Own B R w) :
    Calls Try.prog 31 #[] w fun e w' => ∃ p a, Ret B w (.pointer (some ⟨p, 0, none⟩)) (Md p a ms0 * R) e w' := by
  have C := Lib.hid (fun (k : Nat) (hk : k ≤ 131072) (R : HP) (_ : Loc B R) w1 hB1 (h : Own B R w1) => chances_any k (k : Int) rfl hk B R w1 hB1 h)
  have b0 := Below.refl B w
  go_enter Try.func31, Try.ntmps31
  go_wp2_with fail
  refine (C.out 2 (by omega) R inferInstance _ hB hO).mono ?_
  rintro e w1 ⟨ak, rfl, o1, b1⟩
  have B1 := Nat.le_trans hB b1.size
  go_wp2_with fail
  refine (C.out 256 (by omega) _ inferInstance _ B1 o1).mono ?_
  rintro e w2 ⟨an, rfl, o2, b2⟩
  have B2 := Nat.le_trans B1 b2.size
  go_wp2_with fail
  refine (C.out 16 (by omega) _ inferInstance _ B2 o2).mono ?_
  rintro e w3 ⟨ab, rfl, o3, b3⟩
  have B3 := Nat.le_trans B2 b3.size
  have o4 := o3.new B3 97 (mdC (chSl ak 2) (fun _ => .slice none 0 0) (chSl an 256) (chSl ab 16) 0 (.slice none 0 0))
  have b4 := ((b0.trans b1).trans (b2.trans b3)).alloc B3 (.cells (mdC (chSl ak 2) (fun _ => .slice none 0 0) (chSl an 256) (chSl ab 16) 0 (.slice none 0 0)) 97)
  clear o1 o2 o3 hO b0 b1 b2 b3 B1 B2
  go_wp2
  generalize hX0 : w3.heap.size = X0 at *
  have B4 : B ≤ (w3.alloc (.cells (mdC (chSl ak 2) (fun _ => .slice none 0 0) (chSl an 256) (chSl ab 16) 0 (.slice none 0 0)) 97)).heap.size := by simp; omega
  go_loopg [8] 8 (fun k u wr => ∃ (i : Nat) (gl : Nat → Nat), k + i = 8 ∧ u = .int .i64 (i : Int) ∧ Below B w wr ∧ B ≤ wr.heap.size ∧ Own B (Bk X0 97 (mdC (chSl ak 2) (fun j => if j < i then chSl (gl j) 256 else .slice none 0 0) (chSl an 256) (chSl ab 16) 0 (.slice none 0 0)) * (Big (fun j => Cb (gl j) (List.replicate 256 0)) i * (Cb ab (List.replicate 16 0) * (Cb an (List.replicate 256 0) * (Cb ak (List.replicate 2 0) * R))))) wr)
  case atStart =>
    refine ⟨0, fun _ => 0, rfl, rfl, b4, B4, ?_⟩
    simp only [Nat.not_lt_zero, if_false]
    exact (o4.emp).cast (by rw [sep_left_comm]; rfl)
  case round =>
    clear o4 b4 B4
    obtain ⟨i, gl, hk, rfl, hb, Bw, ho⟩ := hrel
    have i0 : (0 : Int) ≤ (i : Int) := by omega
    by_cases hi : (i : Int) < 8
    · obtain ⟨j, rfl⟩ : ∃ j, gk = j + 1 := ⟨gk - 1, by omega⟩
      go_wp2
      refine wp_region_umix (St B _ wr) [0, 1, 3, 4] [] [2, 5, 6] mixed (by kernel_rfl) rfl (fun _ _ _ _ _ h => h) (St.drew Bw ho) ?_
      simp only [List.filterMap_cons, List.filterMap_nil, List.getElem?_toArray, List.getElem?_cons_succ, List.getElem?_cons_zero]
      repeat (
        refine free_val ?_ rfl (fun w1 => ?_) ?_
        rotate_left
        · (go_simp
           try go_bits
           rfl)
        simp only [Act.put, List.setIfInBounds_toArray, List.set_cons_zero, List.set_cons_succ])
      refine free_nil ?_
      refine held_nil (fun w5 hS => ?_)
      obtain ⟨B5, o5, b5⟩ := hS
      have hb5 := hb.trans b5
      clear ho hb b5 Bw
      go_wp2_with fail
      refine (C.out 256 (by omega) _ inferInstance _ B5 o5).mono ?_
      rintro e w6 ⟨g, rfl, o6, b6⟩
      have hb6 := hb5.trans b6
      have B6 := Nat.le_trans B5 b6.size
      have c6 : w6.cell? ⟨X0, 1 + i, none⟩ = some (.slice none 0 0) := (o6.cellOf X0 (1 + i)).trans ((mdC_lit _ _ _ _ _ _ i (by omega)).trans (by simp))
      have z6 := o6.freeOf X0 (1 + i)
      obtain ⟨o7, b7⟩ := o6.setOf B6 X0 (1 + i) (chSl g 256)
      rw [mdC_set _ _ _ _ _ _ i (by omega)] at o7
      have e1 : upd (fun j => if j < i then chSl (gl j) 256 else .slice none 0 0) i (chSl g 256) = fun j => if j < i + 1 then chSl (upd gl i g j) 256 else .slice none 0 0 := by
        funext j
        by_cases h1 : j = i
        · subst h1; rw [upd_same, if_pos (by omega), upd_same]
        · rw [upd_other _ _ h1, upd_other _ _ h1]
          by_cases h2 : j < i
          · rw [if_pos h2, if_pos (by omega)]
          · rw [if_neg h2, if_neg (by omega)]
      have e2 : Big (fun j => Cb (upd gl i g j) (List.replicate 256 0)) (i + 1) = Cb g (List.replicate 256 0) * Big (fun j => Cb (gl j) (List.replicate 256 0)) i := by
        rw [Big, upd_same]
        rw [big_congr (fun j => Cb (upd gl i g j) (List.replicate 256 0)) (fun j => Cb (gl j) (List.replicate 256 0)) i (fun j hj => by simp only [upd_other gl g (show j ≠ i by omega)])]
      rw [e1] at o7
      have O8 := Lib.hid (o7.cast (show _ = Bk X0 97 (mdC (chSl ak 2) (fun j => if j < i + 1 then chSl (upd gl i g j) 256 else .slice none 0 0) (chSl an 256) (chSl ab 16) 0 (.slice none 0 0)) * (Big (fun j => Cb (upd gl i g j) (List.replicate 256 0)) (i + 1) * (Cb ab (List.replicate 16 0) * (Cb an (List.replicate 256 0) * (Cb ak (List.replicate 2 0) * R)))) by
        rw [e2]
        generalize Big (fun j => Cb (gl j) (List.replicate 256 0)) i = BB
        simp only [Cb]
        ac_rfl))
      have hb7 := hb6.trans b7
      have B7 := Nat.le_trans B6 b7.size
      clear o7 e1 e2 o6 b6 b7 hb6 hb5 o5
      have Hk := Lib.hid hk
      clear hk
      go_wp2
      go_roundg j
      case measure => omega
      case rel => exact ⟨i + 1, upd gl i g, by have := Hk.out; omega, rfl, hb7, B7, O8.out⟩
    · obtain rfl : i = 8 := by omega
      have h1 := (ho.cast (show _ = Bk X0 97 (mdA ⟨ak, gl, an, ab⟩ 0 (.slice none 0 0)) * (Cb ak (List.replicate 2 0) * (Lt ⟨ak, gl, an, ab⟩ ms0.lits * (Cb an (List.replicate 256 0) * (Cb ab (List.replicate 16 0) * R)))) by
        unfold mdA Lt
        rw [show (mdC (chSl ak 2) (fun j => if j < 8 then chSl (gl j) 256 else .slice none 0 0) (chSl an 256) (chSl ab 16) 0 (.slice none 0 0)) = mdC (chSl ak 2) (fun i => chSl (gl i) 256) (chSl an 256) (chSl ab 16) 0 (.slice none 0 0) from rfl]
        show Bk _ _ _ * (Big (fun j => Cb (gl j) (List.replicate 256 0)) 8 * _) = Bk _ _ _ * (_ * (Big (fun j => Cb (gl j) (List.replicate 256 0)) 8 * _))
        generalize Big (fun j => Cb (gl j) (List.replicate 256 0)) 8 = BB
        ac_rfl)).rw_nil 5 1
      go_wp2
      go_ret
      refine ⟨X0, ⟨ak, gl, an, ab⟩, rfl, ?_, hb⟩
      refine Own.to_hex (A := fun v => MdV X0 ⟨ak, gl, an, ab⟩ v ms0) (.slice none 0 0) ?_
      rw [mdv_eq]
      exact h1.cast (by
        show _ = Bk X0 97 (mdA ⟨ak, gl, an, ab⟩ 0 (.slice none 0 0)) * (Cb ak (List.replicate 2 0) * (Lt ⟨ak, gl, an, ab⟩ ms0.lits * (Cb an (List.replicate 256 0) * (Cb ab (List.replicate 16 0) * (Rw 5 1 (.slice none 0 0) 0 [] * R)))))
        ac_rfl)
end Go.Proofs.Ytedcficjmogohaa

/- The walks over tree and fits of pack's model. -/
namespace Go.Proofs.Ytedcficjmogohaa
set_option linter.unusedVariables false
set_option linter.unusedSimpArgs false
set_option maxRecDepth 100000
open Go.RowKit

def treeIx (out : List UInt8) : Nat := if out.length = 0 then 0 else ((out[out.length - 1]?).getD 0).toNat / 32
theorem treeIx_lt (out : List UInt8) : treeIx out < 8 := by
  unfold treeIx
  split
  · omega
  · have := ((out[out.length - 1]?).getD 0).toNat_lt; omega
theorem Own.byteAt {B g n cap : Nat} {l : List UInt8} {R : HP} {w : World} (h : Own B (Rw 5 1 (.slice (some ⟨g, 0, none⟩) n cap) n (bytesU l) * R) w) (i : Nat) (x : UInt8) (hx : l[i]? = some x) : w.cell? ⟨g, i, none⟩ = some (.int .u8 (x.toNat : Int)) := by
  have hr := h.row
  have := hr.cells (g := g) rfl i (.int .u8 (x.toNat : Int)) (by simp [bytesU, hx])
  rw [Addr.add_lit, Nat.zero_add] at this
  exact this
theorem mdA_lit (a : MA) (kind : Int) (v : Value) (i : Nat) (h : i < 8) : (mdA a kind v)[1 + i]? = some (chSl (a.gl i) 256) := mdC_lit _ _ _ _ _ _ i h

set_option maxHeartbeats 6400000 in
theorem tree_any (p : Nat) (a : MA) (v : Value) (m : MS) (hl : m.out.length ≤ 70000) (B : Nat) (R : HP) [Loc B R] (w : World) (hB : B ≤ w.heap.size) (hO : Own B (MdV p a v m * R) w) :
    Calls Try.prog 57 #[.pointer (some ⟨p, 0, none⟩)] w (Ret B w (chSl (a.gl (treeIx m.out)) 256) (MdV p a v m * R)) := by
  have hO1 := hO.cast mdv_eq
  have c12 : w.cell? ⟨p, 12, none⟩ = some v := hO1.cellOf p 12
  have hlit := fun (w1 : World) (h : Own B (MdV p a v m * R) w1) (i : Nat) (hi : i < 8) => ((h.cast mdv_eq).cellOf p (1 + i)).trans (mdA_lit a m.kind v i hi)
  have hx := treeIx_lt m.out
  have hR := hO1.foc (Rw 5 1 v m.out.length (bytesU m.out))
  by_cases h0 : m.out.length = 0
  · have e0 : treeIx m.out = 0 := by unfold treeIx; rw [if_pos h0]
    rw [e0]
    have l0 : w.cell? ⟨p, 1, none⟩ = some (chSl (a.gl 0) 256) := hlit w hO 0 (by omega)
    obtain ⟨A, c, hv⟩ := hR.row_n
    rw [h0] at hv
    have O2 := Lib.hid hO
    clear hlit hR hO hO1
    subst hv
    generalize a.gl 0 = g0 at *
    go_enter Try.func57, Try.ntmps57
    go_wp2
    go_ret
    exact ⟨rfl, O2.out, Below.refl _ _⟩
  · obtain ⟨g, cap, rfl, _⟩ := hR.row.form (by omega)
    obtain ⟨n1, hn1⟩ : ∃ n1, m.out.length = n1 + 1 := ⟨m.out.length - 1, by omega⟩
    obtain ⟨x, hx0⟩ : ∃ x, m.out[n1]? = some x := ⟨_, List.getElem?_eq_getElem (by omega)⟩
    have e0 : treeIx m.out = x.toNat / 32 := by unfold treeIx; rw [if_neg h0, hn1, show n1 + 1 - 1 = n1 by omega, hx0]; rfl
    rw [e0] at hx ⊢
    have Hby := Lib.hid (fun w1 (h : St B (MdV p a (.slice (some ⟨g, 0, none⟩) m.out.length cap) m * R) w w1) => ((h.2.1.cast mdv_eq).foc (Rw 5 1 (.slice (some ⟨g, 0, none⟩) m.out.length cap) m.out.length (bytesU m.out))).byteAt n1 x hx0)
    have Hli := Lib.hid (fun w1 (h : St B (MdV p a (.slice (some ⟨g, 0, none⟩) m.out.length cap) m * R) w w1) => hlit w1 h.2.1 (x.toNat / 32) hx)
    have Hv := Lib.hid (fun w1 (h : St B (MdV p a (.slice (some ⟨g, 0, none⟩) m.out.length cap) m * R) w w1) => (show w1.cell? ⟨p, 12, none⟩ = some (.slice (some ⟨g, 0, none⟩) m.out.length cap) from (h.2.1.cast mdv_eq).cellOf p 12))
    have xlt := x.toNat_lt
    have s0 := St.drew hB hO
    clear hlit hR hO1 hO e0 hx0
    rw [hn1] at c12 Hby Hli Hv s0 hl ⊢
    clear hn1 h0
    have n2 : (n1 : Int) ≤ 70000 := by omega
    have n3 : (n1 : Int) < (n1 : Int) + 1 := by omega
    have n4 : ((n1 : Int) + 1 == 0) = false := by rw [beq_eq_false_iff_ne]; omega
    generalize x.toNat = X at *
    have hY : (X : Int) / 32 = ((X / 32 : Nat) : Int) := by omega
    generalize X / 32 = Y at *
    have Y0 : (0 : Int) ≤ (Y : Int) := by omega
    have Y8 : (Y : Int) < 8 := by omega
    generalize a.gl Y = gx at *
    have n0 : (0 : Int) ≤ (n1 : Int) := by omega
    have X0 : (0 : Int) ≤ (X : Int) := by omega
    have X1 : (X : Int) < 256 := by omega
    go_enter Try.func57, Try.ntmps57
    go_wp2
    refine wp_region_mix (St B _ w) [0, 1, 2, 3, 4, 5, 6, 7, 8, 9, 10, 11, 12, 13, 14, 15, 16, 17] [18] mixed (by kernel_rfl) rfl s0 ?_
    simp only [List.filterMap_cons, List.filterMap_nil, List.getElem?_toArray, List.getElem?_cons_succ, List.getElem?_cons_zero]
    repeat (first
      | (refine held_val ?_ rfl (fun w1 hS => ?_) ?_
         rotate_left
         · (have c12 := Hv.out w1 hS; have cx := Hby.out w1 hS; have cl := Hli.out w1 hS
            go_simp
            try go_bits
            rfl)
         simp only [Act.put, List.setIfInBounds_toArray, List.set_cons_zero, List.set_cons_succ])
      | (refine held_off rfl ?_
         simp only [Act.put, List.setIfInBounds_toArray, List.set_cons_zero, List.set_cons_succ]))
    refine held_nil (fun w3 hS => ?_)
    obtain ⟨B3, o3, b3⟩ := hS
    go_wp2
    go_ret
    exact ⟨rfl, o3, b3⟩
end Go.Proofs.Ytedcficjmogohaa

/- An open-order region, step by step: a stretch in which one step alone may come; and the rule of two threads from any place on. -/
namespace Go.Proofs.Ytedcficjmogohaa
set_option linter.unusedVariables false
set_option linter.unusedSimpArgs false
set_option maxRecDepth 100000
open Go.RowKit

section
variable {P : Program} {ops : Array Oper} {md : Region.Mode} {Q : Exit → Act → World → Prop} {B : Nat}

def preB (md : Region.Mode) (ops : Array Oper) : List Nat → Array Bool → Bool
  | [], _ => true
  | i :: l, listed => decide (i < ops.size) && decide (Region.ready md ops listed = [i]) && preB md ops l (listed.setIfInBounds i true)

theorem letsOut_then {K : Act → World → Prop} (h : LetsOut (Exit.then K Q)) : LetsOut Q := h
theorem upon_then {o : Oper} {a : Act} {N : Act → World → Prop} {K : Act → World → Prop} : ∀ r : Result Next, o.upon P a N (Exit.then K Q) r → o.upon P a N Q r := by
  intro r h
  cases r with
  | ok n w => cases n <;> exact h
  | halt x w => cases x <;> exact h
theorem wpOp_then {i : Nat} {N : Act → World → Prop} {K : Act → World → Prop} {a : Act} {w : World} (h : wpOp P ops (Exit.then K Q) i N a w) : wpOp P ops Q i N a w := by
  unfold wpOp at *
  split at h
  · exact h
  · split at h
    · rename_i hw
      rw [if_pos hw]
      rcases h with h | ⟨h1, h2⟩
      · exact .inl (upon_then _ h)
      · exact .inr ⟨h1, letsOut_then h2⟩
    · rename_i hw
      rw [if_neg hw]
      exact h
theorem wpAny_pre' {n : Nat} : ∀ (pre : List Nat) (listed : Array Bool) (a : Act) (w : World), preB md ops pre listed = true →
    wpOps P ops (Exit.then (fun a w => wpAny P md ops Q n (markAll pre listed) a w) Q) pre a w → wpAny P md ops Q (pre.length + n) listed a w
  | [], listed, a, w, _, h => by rw [List.length_nil, Nat.zero_add]; exact h
  | i :: pre, listed, a, w, hB, h => by
    simp only [preB, Bool.and_eq_true, decide_eq_true_eq] at hB
    obtain ⟨⟨_, hr⟩, hB'⟩ := hB
    rw [wpOps_cons] at h
    rw [show (i :: pre).length + n = (pre.length + n) + 1 by simp; omega]
    refine ⟨fun h0 => (by rw [h0] at hr; cases hr), fun j hj => ?_⟩
    rw [hr] at hj
    obtain rfl := List.mem_singleton.1 hj
    exact wpOp_mono (fun a' w' h' => wpAny_pre' pre _ a' w' hB' h') (wpOp_then h)
theorem preB_lt : ∀ (pre : List Nat) (listed : Array Bool), preB md ops pre listed = true → ∀ i ∈ pre, i < ops.size
  | [], _, _, i, hi => absurd hi (by simp)
  | j :: pre, listed, hB, i, hi => by
    simp only [preB, Bool.and_eq_true, decide_eq_true_eq] at hB
    rcases List.mem_cons.1 hi with rfl | hi
    · exact hB.1.1
    · exact preB_lt pre _ hB.2 i hi
/-- The first steps come one by one. -/
theorem wpAny_pre {fuel n : Nat} {listed : Array Bool} {a : Act} {w : World} (pre : List Nat) (hB : preB md ops pre listed = true) (hf : fuel = pre.length + n)
    (h : wpList P ops (Exit.then (fun a w => wpAny P md ops Q n (markAll pre listed) a w) Q) (pre.filterMap fun i => ops[i]?) a w) : wpAny P md ops Q fuel listed a w := by
  subst hf
  exact wpAny_pre' pre listed a w hB (wpOps_list pre a w (preB_lt pre listed hB) h)
theorem wp_region_pre {id : Nat} {a : Act} {w : World} (pre : List Nat) (n : Nat) (hm : P.follows .mixedOrders = true) (hB : preB .any ops pre (Array.replicate ops.size false) = true) (hf : ops.size = pre.length + n)
    (h : wpList P ops (Exit.then (fun a w => wpAny P .any ops Q n (markAll pre (Array.replicate ops.size false)) a w) Q) (pre.filterMap fun i => ops[i]?) a w.drew) : (Code.region id ops true).wp P Q a w := by
  refine wp_region_any hm ?_
  have := wpAny_pre (md := .any) pre hB hf h
  exact this
/-- Two threads, with late reads, from any place on. -/
theorem wpAny_ltwo {fuel : Nat} {listed : Array Bool} {a : Act} {w : World} (us ls l1 l2 ts : List Nat) (A1 A2 R : HP) [k1 : Loc B A1] [k2 : Loc B A2] [Loc B R]
    (hB : (freeB .any ops us listed && mixB .any ops (markAll us listed) (ls ++ (l1 ++ l2)) ts && twoB .any ops (markAll ls (markAll us listed)) l1 l2 ts) = true)
    (hf : fuel = us.length + ((ls.length + (l1.length + l2.length)) + ts.length))
    (hQ : ∀ c a d v w, Q (.panic c) (a.put (some d) v) w → Q (.panic c) a w) (hsz : B ≤ w.heap.size) (hO : Own B (A1 * (A2 * R)) w)
    (h : wpFree P ops (fun a1 => wpLate P ops (fun w => Own B R w) (fun a2 => ∃ Φ1 Φ2 : List Value → HP → Prop, TW P ops B (opsOf ops l1) Φ1 a2 A1 ∧ TW P ops B (opsOf ops l2) Φ2 a2 A2 ∧
      ∀ vs1 A1' vs2 A2' w', Φ1 vs1 A1' → Φ2 vs2 A2' → Own B (A1' * (A2' * R)) w' → Below B w w' → wpList P ops Q (ts.filterMap fun i => ops[i]?) (putAll (opsOf ops l2) vs2 (putAll (opsOf ops l1) vs1 a2)) w')
      (ls.filterMap fun i => ops[i]?) a1) (us.filterMap fun i => ops[i]?) a) : wpAny P .any ops Q fuel listed a w := by
  simp only [Bool.and_eq_true] at hB
  obtain ⟨⟨hB1, hB2⟩, hB3⟩ := hB
  obtain ⟨hsel, ok1⟩ := mixB_ok hB2
  obtain ⟨_, ok2⟩ := twoB_ok hB3
  have hts : ∀ i ∈ ts, i < ops.size := fun i hi => (ok1.un i (by simp [hi])).1
  have hR : Own B R w := hO.right.right
  have hgo : wpAny P .any ops Q (us.length + ((ls.length + (l1.length + l2.length)) + ts.length)) listed a w := by
    refine wpAny_free hQ hsel us _ a hB1 (fun a1 h1 => ?_) h
    refine wpL_any (S := fun w => Own B R w) (T := fun a4 w4 => wpOps P ops Q ts a4 w4) (fun _ _ h => h) _ (ls ++ (l1 ++ l2)) _ a1 _ (by simp) ok1 ?_
    have := wpL_lates (P := P) (S := fun w => Own B R w) (T := fun a4 w4 => wpOps P ops Q ts a4 w4) (w := w) hsel hQ hR ls (l1 ++ l2) _ a1 ok1 (fun a2 ⟨Φ1, Φ2, t1, t2, hK⟩ _ => ?_) h1
    · rw [List.length_append]
      exact wpL_two hsel (l1.length + l2.length) l1 l2 _ a2 _ Φ1 Φ2 A1 A2 rfl k1 k2 ok2 t1 t2 hsz hO fun vs1 A1' vs2 A2' w' p1 p2 ho hb => wpOps_list ts _ w' hts (hK vs1 A1' vs2 A2' w' p1 p2 ho hb)
    · rw [List.length_append] at this
      exact this
  rw [← hf] at hgo
  exact hgo
end
end Go.Proofs.Ytedcficjmogohaa

/- The walk over fits of pack's model. -/
namespace Go.Proofs.Ytedcficjmogohaa
set_option linter.unusedVariables false
set_option linter.unusedSimpArgs false
set_option maxRecDepth 100000
open Go.RowKit

set_option maxHeartbeats 6400000 in
theorem fits_any (p : Nat) (a : MA) (v : Value) (m : MS) (hl : m.out.length ≤ 70000) (t : Tk) (N : Int) (N0 : 0 ≤ N) (N1 : N ≤ 65536) (B : Nat) (R : HP) [Loc B R] (w : World) (hB : B ≤ w.heap.size) (hO : Own B (MdV p a v m * R) w) :
    Calls Try.prog 32 #[.pointer (some ⟨p, 0, none⟩), .agg (tkL t).toArray, .int .i64 N] w (Ret B w (.bool (fitsT m.out t N)) (MdV p a v m * R)) := by
  have Hright := Lib.hid (fun w1 => right_tk t w1)
  have Hfit : Hid (fitsT m.out t N = decide (rightP t ∧ t.back ≤ (m.out.length : Int) ∧ (m.out.length : Int) + maxT t ≤ N)) := Lib.hid rfl
  have hrt : rightT t = decide (rightP t) := rfl
  obtain ⟨lit, len, back⟩ := t
  generalize fitsT m.out ⟨lit, len, back⟩ N = res at *
  simp only [tkL] at Hright ⊢
  have oN := hO.new hB 39 #[.int .u8 (lit.toNat : Int), .int .i64 len, .int .i64 back]
  have b1 := (Below.refl B w).alloc hB (.cells #[.int .u8 (lit.toNat : Int), .int .i64 len, .int .i64 back] 39)
  have B1 : B ≤ (w.alloc (.cells #[.int .u8 (lit.toNat : Int), .int .i64 len, .int .i64 back] 39)).heap.size := by simp; omega
  obtain ⟨A, c, rfl⟩ := (hO.cast mdv_eq |>.foc (Rw 5 1 v m.out.length (bytesU m.out))).row_n
  have Hc := Lib.hid (fun (w1 : World) X (h : Own B (Bk X 39 #[.int .u8 (lit.toNat : Int), .int .i64 len, .int .i64 back] * (MdV p a (.slice A m.out.length c) m * R)) w1) => (show w1.cell? ⟨p, 12, none⟩ = some (.slice A m.out.length c) from (h.drop.cast mdv_eq).cellOf p 12))
  have l0 : (0 : Int) ≤ (m.out.length : Int) := by omega
  have l1 : (m.out.length : Int) ≤ 70000 := by omega
  generalize hL : m.out.length = L at *
  go_enter Try.func32, Try.ntmps32
  go_wp2
  refine wp_region_pre [0, 1, 2] 23 mixed (by kernel_rfl) rfl ?_
  simp only [List.filterMap_cons, List.filterMap_nil, List.getElem?_toArray, List.getElem?_cons_succ, List.getElem?_cons_zero]
  have oN2 := oN.drew B1
  have b2 := b1.drew
  have B2 : B ≤ (w.alloc (.cells #[.int .u8 (lit.toNat : Int), .int .i64 len, .int .i64 back] 39)).drew.heap.size := B1
  clear oN b1 B1
  generalize (lit.toNat : Int) = lz at *
  generalize hX0 : w.heap.size = X0 at *
  go_wp2_with fail
  refine (Hright.out _).mono ?_
  rintro e w3 ⟨rfl, b3⟩
  have o3 := oN2.grown B2 b3
  have hb3 := b2.trans (b3.mono B2)
  have B3 := Nat.le_trans B2 b3.size
  clear Hright oN2 b2 B2 b3 hO
  by_cases hrp : rightP ⟨lit, len, back⟩
  · rw [hrt, decide_eq_true hrp]
    have hmx := maxT_in (t := ⟨lit, len, back⟩) (decide_eq_true hrp)
    have Hrp := Lib.hid hrp
    have hbk : 0 ≤ back ∧ back ≤ 32768 := by rcases hrp with ⟨_, h⟩ | ⟨_, _, h, h2, _⟩ <;> simp only at * <;> omega
    obtain ⟨k0, k1⟩ := hbk
    by_cases hb : back ≤ (L : Int)
    · have hbd : decide (back ≤ (L : Int)) = true := decide_eq_true hb
      by_cases h0 : len = 0
      · subst h0
        by_cases hn : (L : Int) + 1 ≤ N
        · have Hf : Hid (res = true) := Lib.hid (by rw [Hfit.out]; exact decide_eq_true ⟨Hrp.out, hb, hn⟩)
          clear hrp Hfit hrt hmx
          go_wp2
          refine wpAny_mix (St B (Bk X0 39 #[.int .u8 lz, .int .i64 0, .int .i64 back] * (MdV p a (.slice A L c) m * R)) w3) [3, 4, 5, 6, 7, 8, 9, 10, 11, 12, 13, 14, 15, 16, 17, 18, 19, 20, 21, 22, 23, 24] [25] (by kernel_rfl) rfl ⟨B3, o3, Below.refl _ _⟩ ?_
          simp only [List.filterMap_cons, List.filterMap_nil, List.getElem?_toArray, List.getElem?_cons_succ, List.getElem?_cons_zero]
          repeat (first
            | (refine held_val ?_ rfl (fun w1 hS => ?_) ?_
               rotate_left
               · (have c12 := Hc.out w1 X0 hS.2.1; have q1 : w1.cell? ⟨X0, 1, none⟩ = some (.int .i64 0) := hS.2.1.cell 1; have q2 : w1.cell? ⟨X0, 2, none⟩ = some (.int .i64 back) := hS.2.1.cell 2
                  go_simp
                  try go_bits
                  rfl)
               simp only [Act.put, List.setIfInBounds_toArray, List.set_cons_zero, List.set_cons_succ])
            | (refine held_off rfl ?_
               simp only [Act.put, List.setIfInBounds_toArray, List.set_cons_zero, List.set_cons_succ]))
          refine held_nil (fun w5 hS => ?_)
          obtain ⟨B5, o5, b5⟩ := hS
          go_wp2
          go_ret
          exact ⟨by rw [Hf.out]; rfl, o5.right, hb3.trans b5⟩
        · have Hf : Hid (res = false) := Lib.hid (by rw [Hfit.out]; exact decide_eq_false (fun h => hn h.2.2))
          have hnd : decide ((L : Int) + 1 ≤ N) = false := decide_eq_false hn
          clear hrp Hfit hrt hmx
          go_wp2
          refine wpAny_mix (St B (Bk X0 39 #[.int .u8 lz, .int .i64 0, .int .i64 back] * (MdV p a (.slice A L c) m * R)) w3) [3, 4, 5, 6, 7, 8, 9, 10, 11, 12, 13, 14, 15, 16, 17, 18, 19, 20, 21, 22, 23, 24] [25] (by kernel_rfl) rfl ⟨B3, o3, Below.refl _ _⟩ ?_
          simp only [List.filterMap_cons, List.filterMap_nil, List.getElem?_toArray, List.getElem?_cons_succ, List.getElem?_cons_zero]
          repeat (first
            | (refine held_val ?_ rfl (fun w1 hS => ?_) ?_
               rotate_left
               · (have c12 := Hc.out w1 X0 hS.2.1; have q1 : w1.cell? ⟨X0, 1, none⟩ = some (.int .i64 0) := hS.2.1.cell 1; have q2 : w1.cell? ⟨X0, 2, none⟩ = some (.int .i64 back) := hS.2.1.cell 2
                  go_simp
                  try go_bits
                  rfl)
               simp only [Act.put, List.setIfInBounds_toArray, List.set_cons_zero, List.set_cons_succ])
            | (refine held_off rfl ?_
               simp only [Act.put, List.setIfInBounds_toArray, List.set_cons_zero, List.set_cons_succ]))
          refine held_nil (fun w5 hS => ?_)
          obtain ⟨B5, o5, b5⟩ := hS
          go_wp2
          go_ret
          exact ⟨by rw [Hf.out]; rfl, o5.right, hb3.trans b5⟩
      · have hl3 : 3 ≤ len ∧ len ≤ 258 := by rcases hrp with ⟨h, _⟩ | ⟨h, h2, _⟩ <;> simp only at * <;> omega
        obtain ⟨l3, l258⟩ := hl3
        have h1 : ¬ len < 1 := by omega
        have hm : maxT ⟨lit, len, back⟩ = len := by unfold maxT; rw [if_neg h1]
        rw [hm] at Hfit
        by_cases hn : (L : Int) + len ≤ N
        · have Hf : Hid (res = true) := Lib.hid (by rw [Hfit.out]; exact decide_eq_true ⟨Hrp.out, hb, hn⟩)
          clear hrp Hfit hrt hmx hm
          go_wp2
          refine wpAny_mix (St B (Bk X0 39 #[.int .u8 lz, .int .i64 len, .int .i64 back] * (MdV p a (.slice A L c) m * R)) w3) [3, 4, 5, 6, 7, 8, 9, 10, 11, 12, 13, 14, 15, 16, 17, 18, 19, 20, 21, 22, 23, 24] [25] (by kernel_rfl) rfl ⟨B3, o3, Below.refl _ _⟩ ?_
          simp only [List.filterMap_cons, List.filterMap_nil, List.getElem?_toArray, List.getElem?_cons_succ, List.getElem?_cons_zero]
          repeat (first
            | (refine held_val ?_ rfl (fun w1 hS => ?_) ?_
               rotate_left
               · (have c12 := Hc.out w1 X0 hS.2.1; have q1 : w1.cell? ⟨X0, 1, none⟩ = some (.int .i64 len) := hS.2.1.cell 1; have q2 : w1.cell? ⟨X0, 2, none⟩ = some (.int .i64 back) := hS.2.1.cell 2
                  go_simp
                  try go_bits
                  rfl)
               simp only [Act.put, List.setIfInBounds_toArray, List.set_cons_zero, List.set_cons_succ])
            | (refine held_off rfl ?_
               simp only [Act.put, List.setIfInBounds_toArray, List.set_cons_zero, List.set_cons_succ]))
          refine held_nil (fun w5 hS => ?_)
          obtain ⟨B5, o5, b5⟩ := hS
          go_wp2
          go_ret
          exact ⟨by rw [Hf.out]; rfl, o5.right, hb3.trans b5⟩
        · have Hf : Hid (res = false) := Lib.hid (by rw [Hfit.out]; exact decide_eq_false (fun h => hn h.2.2))
          have hnd : decide ((L : Int) + len ≤ N) = false := decide_eq_false hn
          clear hrp Hfit hrt hmx hm
          go_wp2
          refine wpAny_mix (St B (Bk X0 39 #[.int .u8 lz, .int .i64 len, .int .i64 back] * (MdV p a (.slice A L c) m * R)) w3) [3, 4, 5, 6, 7, 8, 9, 10, 11, 12, 13, 14, 15, 16, 17, 18, 19, 20, 21, 22, 23, 24] [25] (by kernel_rfl) rfl ⟨B3, o3, Below.refl _ _⟩ ?_
          simp only [List.filterMap_cons, List.filterMap_nil, List.getElem?_toArray, List.getElem?_cons_succ, List.getElem?_cons_zero]
          repeat (first
            | (refine held_val ?_ rfl (fun w1 hS => ?_) ?_
               rotate_left
               · (have c12 := Hc.out w1 X0 hS.2.1; have q1 : w1.cell? ⟨X0, 1, none⟩ = some (.int .i64 len) := hS.2.1.cell 1; have q2 : w1.cell? ⟨X0, 2, none⟩ = some (.int .i64 back) := hS.2.1.cell 2
                  go_simp
                  try go_bits
                  rfl)
               simp only [Act.put, List.setIfInBounds_toArray, List.set_cons_zero, List.set_cons_succ])
            | (refine held_off rfl ?_
               simp only [Act.put, List.setIfInBounds_toArray, List.set_cons_zero, List.set_cons_succ]))
          refine held_nil (fun w5 hS => ?_)
          obtain ⟨B5, o5, b5⟩ := hS
          go_wp2
          go_ret
          exact ⟨by rw [Hf.out]; rfl, o5.right, hb3.trans b5⟩
    · have Hf : Hid (res = false) := Lib.hid (by rw [Hfit.out]; exact decide_eq_false (fun h => hb h.2.1))
      have hbd : decide (back ≤ (L : Int)) = false := decide_eq_false hb
      clear hrp Hfit hrt hmx
      go_wp2
      refine wpAny_mix (St B (Bk X0 39 #[.int .u8 lz, .int .i64 len, .int .i64 back] * (MdV p a (.slice A L c) m * R)) w3) [3, 4, 5, 6, 7, 8, 9, 10, 11, 12, 13, 14, 15, 16, 17, 18, 19, 20, 21, 22, 23, 24] [25] (by kernel_rfl) rfl ⟨B3, o3, Below.refl _ _⟩ ?_
      simp only [List.filterMap_cons, List.filterMap_nil, List.getElem?_toArray, List.getElem?_cons_succ, List.getElem?_cons_zero]
      repeat (first
        | (refine held_val ?_ rfl (fun w1 hS => ?_) ?_
           rotate_left
           · (have c12 := Hc.out w1 X0 hS.2.1; have q1 : w1.cell? ⟨X0, 1, none⟩ = some (.int .i64 len) := hS.2.1.cell 1; have q2 : w1.cell? ⟨X0, 2, none⟩ = some (.int .i64 back) := hS.2.1.cell 2
              go_simp
              try go_bits
              rfl)
           simp only [Act.put, List.setIfInBounds_toArray, List.set_cons_zero, List.set_cons_succ])
        | (refine held_off rfl ?_
           simp only [Act.put, List.setIfInBounds_toArray, List.set_cons_zero, List.set_cons_succ]))
      refine held_nil (fun w5 hS => ?_)
      obtain ⟨B5, o5, b5⟩ := hS
      go_wp2
      go_ret
      exact ⟨by rw [Hf.out]; rfl, o5.right, hb3.trans b5⟩
  · rw [hrt, decide_eq_false hrp]
    have Hf : Hid (res = false) := Lib.hid (by rw [Hfit.out]; exact decide_eq_false (fun h => hrp h.1))
    clear hrp Hfit hrt
    go_wp2
    refine wpAny_mix (St B (Bk X0 39 #[.int .u8 lz, .int .i64 len, .int .i64 back] * (MdV p a (.slice A L c) m * R)) w3) [3, 4, 5, 6, 7, 8, 9, 10, 11, 12, 13, 14, 15, 16, 17, 18, 19, 20, 21, 22, 23, 24] [25] (by kernel_rfl) rfl ⟨B3, o3, Below.refl _ _⟩ ?_
    simp only [List.filterMap_cons, List.filterMap_nil, List.getElem?_toArray, List.getElem?_cons_succ, List.getElem?_cons_zero]
    repeat (first
      | (refine held_val ?_ rfl (fun w1 hS => ?_) ?_
         rotate_left
         · (have c12 := Hc.out w1 X0 hS.2.1; have q1 : w1.cell? ⟨X0, 1, none⟩ = some (.int .i64 len) := hS.2.1.cell 1; have q2 : w1.cell? ⟨X0, 2, none⟩ = some (.int .i64 back) := hS.2.1.cell 2
            go_simp
            try go_bits
            rfl)
         simp only [Act.put, List.setIfInBounds_toArray, List.set_cons_zero, List.set_cons_succ])
      | (refine held_off rfl ?_
         simp only [Act.put, List.setIfInBounds_toArray, List.set_cons_zero, List.set_cons_succ]))
    refine held_nil (fun w5 hS => ?_)
    obtain ⟨B5, o5, b5⟩ := hS
    go_wp2
    go_ret
    exact ⟨by rw [Hf.out]; rfl, o5.right, hb3.trans b5⟩
end Go.Proofs.Ytedcficjmogohaa

/- The walk over saw of pack's model. -/
namespace Go.Proofs.Ytedcficjmogohaa
set_option linter.unusedVariables false
set_option linter.unusedSimpArgs false
set_option maxRecDepth 100000
open Go.RowKit

def sawM (m : MS) (t : Tk) : MS := { m with kind := if t.len = 0 then 0 else 1, out := sawT m.out t }
theorem mdv_out {p : Nat} {a : MA} {v' : Value} {m : MS} {R : HP} {o : List UInt8} :
    Rw 5 1 v' o.length (bytesU o) * (Bk p 97 (mdA a m.kind v') * (Cb a.gk m.kinds * (Lt a m.lits * (Cb a.gn m.lens * (Cb a.gb m.backs * R))))) = MdV p a v' { m with out := o } * R := by
  rw [mdv_eq]
  show _ = Bk p 97 (mdA a m.kind v') * (Cb a.gk m.kinds * (Lt a m.lits * (Cb a.gn m.lens * (Cb a.gb m.backs * (Rw 5 1 v' o.length (bytesU o) * R)))))
  simp only [Cb]
  ac_rfl
/-- A byte more, behind what was ahead. -/
theorem snocM {B p g cap : Nat} {a : MA} {v : Value} {m : MS} {R : HP} [Loc B R] {w : World} {o : List UInt8} (hB : B ≤ w.heap.size)
    (h : Own B (Rw 5 1 (.slice (some ⟨g, 0, none⟩) o.length cap) o.length (bytesU o) * (Bk p 97 (mdA a m.kind v) * (Cb a.gk m.kinds * (Lt a m.lits * (Cb a.gn m.lens * (Cb a.gb m.backs * R)))))) w) :
    Own B (MdV p a (.slice (some ⟨g, 0, none⟩) o.length cap) { m with out := o } * R) (w.setCell ⟨p, 12, none⟩ (.slice (some ⟨g, 0, none⟩) o.length cap)) ∧ Below B w (w.setCell ⟨p, 12, none⟩ (.slice (some ⟨g, 0, none⟩) o.length cap)) := by
  obtain ⟨h1, h2⟩ := h.setOf hB p 12 (.slice (some ⟨g, 0, none⟩) o.length cap)
  exact ⟨h1.cast mdv_out, h2⟩

set_option maxHeartbeats 6400000 in
theorem saw_lit (p : Nat) (a : MA) (v : Value) (m : MS) (hl : m.out.length ≤ 70000) (lit : UInt8) (B : Nat) (R : HP) [Loc B R] (w : World) (hB : B ≤ w.heap.size) (hO : Own B (MdV p a v m * R) w) :
    Calls Try.prog 34 #[.pointer (some ⟨p, 0, none⟩), .agg #[.int .u8 (lit.toNat : Int), .int .i64 0, .int .i64 0]] w (Ret B w (.tuple #[]) (Md p a (sawM m ⟨lit, 0, 0⟩) * R)) := by
  have hs : sawM m ⟨lit, 0, 0⟩ = { m with kind := 0, out := m.out ++ [lit] } := rfl
  rw [hs]
  clear hs
  have o1 := hO.new hB 39 #[.int .u8 (lit.toNat : Int), .int .i64 0, .int .i64 0]
  have b1 := (Below.refl B w).alloc hB (.cells #[.int .u8 (lit.toNat : Int), .int .i64 0, .int .i64 0] 39)
  have B1 : B ≤ (w.alloc (.cells #[.int .u8 (lit.toNat : Int), .int .i64 0, .int .i64 0] 39)).heap.size := by simp; omega
  rw [mdv_eq] at o1
  have c11 : (w.alloc (.cells #[.int .u8 (lit.toNat : Int), .int .i64 0, .int .i64 0] 39)).cell? ⟨p, 11, none⟩ = some (.int .i64 (m.kind : Int)) := o1.cellOf p 11
  have z11 := o1.freeOf p 11
  obtain ⟨o2, b2⟩ := o1.setOf B1 p 11 (.int .i64 0)
  have B2 := Nat.le_trans B1 b2.size
  have hb2 := b1.trans b2
  rw [show (mdA a m.kind v).setIfInBounds 11 (.int .i64 0) = mdA a (({ m with kind := 0 } : MS).kind : Int) v from rfl] at o2
  have o3 := o2.cast (show _ = Bk w.heap.size 39 #[.int .u8 (lit.toNat : Int), .int .i64 0, .int .i64 0] * (Rw 5 1 v m.out.length (bytesU m.out) * (Bk p 97 (mdA a (({ m with kind := 0 } : MS).kind : Int) v) * (Cb a.gk m.kinds * (Lt a m.lits * (Cb a.gn m.lens * (Cb a.gb m.backs * R)))))) by simp only [Cb]; ac_rfl)
  have d1 := o3.cellOf w.heap.size 1
  clear o1 o2 b1 b2
  have Hc := Lib.hid (fun (w1 : World) X (h : Own B (Bk X 39 #[.int .u8 (lit.toNat : Int), .int .i64 0, .int .i64 0] * (Rw 5 1 v m.out.length (bytesU m.out) * (Bk p 97 (mdA a (({ m with kind := 0 } : MS).kind : Int) v) * (Cb a.gk m.kinds * (Lt a m.lits * (Cb a.gn m.lens * (Cb a.gb m.backs * R))))))) w1) => (show w1.cell? ⟨p, 12, none⟩ = some v from h.cellOf p 12))
  go_enter Try.func34, Try.ntmps34
  go_wp2
  generalize (w.alloc (.cells #[.int .u8 (lit.toNat : Int), .int .i64 0, .int .i64 0] 39)).setCell ⟨p, 11, none⟩ (.int .i64 0) = W2 at *
  generalize w.heap.size = X0 at *
  clear c11 z11 d1 B1
  refine wp_region_lmix (St B _ W2) [0] [1, 2, 3, 4] [5, 6] [7] [8, 9, 10, 11] mixed (by kernel_rfl) rfl (fun _ _ _ _ _ h => h) (St.drew B2 o3) ?_
  simp only [List.filterMap_cons, List.filterMap_nil, List.getElem?_toArray, List.getElem?_cons_succ, List.getElem?_cons_zero]
  repeat (
    refine free_val ?_ rfl (fun w1 => ?_) ?_
    rotate_left
    · (go_simp
       try go_bits
       rfl)
    simp only [Act.put, List.setIfInBounds_toArray, List.set_cons_zero, List.set_cons_succ])
  refine free_nil ?_
  repeat (first
    | (refine late_val ?_ rfl (fun w1 hS => ?_) ?_
       rotate_left
       · (have c0 := Hc.out w1 X0 hS.2.1
          go_simp
          try go_bits
          rfl)
       simp only [Act.put, List.setIfInBounds_toArray, List.set_cons_zero, List.set_cons_succ])
    | (refine late_off rfl ?_
       simp only [Act.put, List.setIfInBounds_toArray, List.set_cons_zero, List.set_cons_succ]))
  refine late_nil ?_
  repeat (first
    | (refine held_val ?_ rfl (fun w1 hS => ?_) ?_
       rotate_left
       · (have c1 : w1.cell? ⟨X0, 0, none⟩ = some (.int .u8 (lit.toNat : Int)) := hS.2.1.cell 0
          go_simp
          try go_bits
          rfl)
       simp only [Act.put, List.setIfInBounds_toArray, List.set_cons_zero, List.set_cons_succ])
    | (refine held_off rfl ?_
       simp only [Act.put, List.setIfInBounds_toArray, List.set_cons_zero, List.set_cons_succ]))
  refine held_nil (fun w1 hS => ?_)
  refine kept_val ?_ rfl (w1 := ?_) ?_ ?_ ?_
  rotate_left 2
  · (go_simp
     try go_bits
     first | (constructor <;> rfl) | rfl)
  · exact hS.alloc _
  simp only [Act.put, List.setIfInBounds_toArray, List.set_cons_zero, List.set_cons_succ]
  refine kept_nil ?_
  obtain ⟨k2, k3, k4⟩ := hS
  obtain ⟨g, cap, w5, hrun, o5, b5⟩ := byte_snoc k2 (k3.foc (Rw 5 1 v m.out.length (bytesU m.out))) lit (lit.toNat : Int) rfl (by omega)
  have Hrun := Lib.hid hrun
  have B5 := Nat.le_trans k2 b5.size
  have c5 := (o5.cellOf p 12)
  rw [show (mdA a (({ m with kind := 0 } : MS).kind : Int) v)[12]? = some v from rfl] at c5
  have z5 := o5.freeOf p 12
  obtain ⟨o6, b6⟩ := snocM (m := { m with kind := 0 }) B5 (o5.cast (show _ = Rw 5 1 (.slice (some ⟨g, 0, none⟩) (m.out ++ [lit]).length cap) (m.out ++ [lit]).length (bytesU (m.out ++ [lit])) * (Bk p 97 (mdA a (({ m with kind := 0 } : MS).kind : Int) v) * (Cb a.gk m.kinds * (Lt a m.lits * (Cb a.gn m.lens * (Cb a.gb m.backs * (Bk X0 39 #[.int .u8 (lit.toNat : Int), .int .i64 0, .int .i64 0] * R)))))) by simp only [Cb]; ac_rfl))
  have hb6 := hb2.trans (k4.trans (b5.trans b6))
  have o7 := o6.cast (sep_left_comm _ _ _)
  have q1 := o7.cell 1
  clear hrun o5 b5 b6 k3 k4 hb2 o3 Hc hO
  have O8 := Lib.hid (Own.to_hex (A := fun v => MdV p a v { m with kind := 0, out := m.out ++ [lit] }) _ o7.drop)
  generalize m.out ++ [lit] = out2 at *
  clear o6 o7
  refine wpList_append_run rfl (.tmp 17) (.tmp 20) 22 rfl rfl rfl Hrun.out ?_
  simp only [Act.put, List.setIfInBounds_toArray, List.set_cons_zero, List.set_cons_succ]
  go_wp2
  go_loopg [26] 0 (fun k u wr => u = .int .i64 0 ∧ wr = w5.setCell ⟨p, 12, none⟩ (.slice (some ⟨g, 0, none⟩) out2.length cap))
  case atStart => exact ⟨rfl, rfl⟩
  case round =>
    obtain ⟨rfl, rfl⟩ := hrel
    go_wp2
    go_end0
    exact ⟨rfl, O8.out, hb6⟩

set_option maxHeartbeats 6400000 in
theorem saw_match (p : Nat) (a : MA) (v : Value) (m : MS) (n bk : Nat) (hn : 3 ≤ n ∧ n ≤ 258) (hb1 : 1 ≤ bk) (hb2 : bk ≤ m.out.length) (hl : m.out.length + n ≤ 70000) (B : Nat) (R : HP) [Loc B R] (w : World) (hB : B ≤ w.heap.size) (hO : Own B (MdV p a v m * R) w) :
    Calls Try.prog 34 #[.pointer (some ⟨p, 0, none⟩), .agg #[.int .u8 0, .int .i64 (n : Int), .int .i64 (bk : Int)]] w (Ret B w (.tuple #[]) (Md p a (sawM m ⟨0, n, bk⟩) * R)) := by
  have hs : sawM m ⟨0, n, bk⟩ = { m with kind := 1, out := copyN bk n m.out } := by
    unfold sawM sawT
    simp only [show ¬ (n : Int) = 0 by omega, if_false]
    rfl
  rw [hs]
  clear hs
  have o1 := hO.new hB 39 #[.int .u8 0, .int .i64 (n : Int), .int .i64 (bk : Int)]
  have b1 := (Below.refl B w).alloc hB (.cells #[.int .u8 0, .int .i64 (n : Int), .int .i64 (bk : Int)] 39)
  have B1 : B ≤ (w.alloc (.cells #[.int .u8 0, .int .i64 (n : Int), .int .i64 (bk : Int)] 39)).heap.size := by simp; omega
  rw [mdv_eq] at o1
  have c11 : (w.alloc (.cells #[.int .u8 0, .int .i64 (n : Int), .int .i64 (bk : Int)] 39)).cell? ⟨p, 11, none⟩ = some (.int .i64 (m.kind : Int)) := o1.cellOf p 11
  have z11 := o1.freeOf p 11
  obtain ⟨o2, b2⟩ := o1.setOf B1 p 11 (.int .i64 1)
  have B2 := Nat.le_trans B1 b2.size
  have hb2' := b1.trans b2
  rw [show (mdA a m.kind v).setIfInBounds 11 (.int .i64 1) = mdA a (({ m with kind := 1 } : MS).kind : Int) v from rfl] at o2
  have o3 := o2.cast (show _ = Rw 5 1 v m.out.length (bytesU m.out) * (Bk p 97 (mdA a (({ m with kind := 1 } : MS).kind : Int) v) * (Cb a.gk m.kinds * (Lt a m.lits * (Cb a.gn m.lens * (Cb a.gb m.backs * (Bk w.heap.size 39 #[.int .u8 0, .int .i64 (n : Int), .int .i64 (bk : Int)] * R)))))) by simp only [Cb]; ac_rfl)
  have d1 := o3.cellOf w.heap.size 1
  have Hc := Lib.hid (fun (w1 : World) X v2 (o : List UInt8) (h : Own B (Rw 5 1 v2 o.length (bytesU o) * (Bk p 97 (mdA a (({ m with kind := 1 } : MS).kind : Int) v2) * (Cb a.gk m.kinds * (Lt a m.lits * (Cb a.gn m.lens * (Cb a.gb m.backs * (Bk X 39 #[.int .u8 0, .int .i64 (n : Int), .int .i64 (bk : Int)] * R))))))) w1) =>
    (show w1.cell? ⟨p, 12, none⟩ = some v2 ∧ w1.cell? ⟨X, 2, none⟩ = some (.int .i64 (bk : Int)) from ⟨h.cellOf p 12, h.cellOf X 2⟩))
  have hn1 : ¬ (n : Int) < 1 := by omega
  have hn2 : ¬ (n : Int) = 0 := by omega
  have hn3 : ((n : Int) == 0) = false := by rw [beq_eq_false_iff_ne]; exact hn2
  have hn4 : ¬ (n : Int) ≤ 0 := by omega
  have hn5 : 1 ≤ (n : Int) := by omega
  have hn6 : (n : Int) ≤ 258 := by omega
  have hbi : (1 : Int) ≤ (bk : Int) := by omega
  have hbj : (bk : Int) ≤ 70000 := by omega
  clear o1 o2 b1 b2
  go_enter Try.func34, Try.ntmps34
  go_wp2
  generalize (w.alloc (.cells #[.int .u8 0, .int .i64 (n : Int), .int .i64 (bk : Int)] 39)).setCell ⟨p, 11, none⟩ (.int .i64 1) = W2 at *
  generalize w.heap.size = X0 at *
  clear c11 z11 d1 B1 hO
  go_loopg [26] n (fun k u wr => ∃ (t : Nat) (out2 : List UInt8) (v2 : Value), k + t = n ∧ u = .int .i64 (t : Int) ∧ out2.length = m.out.length + t ∧ Hid (out2 = copyN bk t m.out) ∧ Below B w wr ∧ B ≤ wr.heap.size ∧ Own B (Rw 5 1 v2 out2.length (bytesU out2) * (Bk p 97 (mdA a (({ m with kind := 1 } : MS).kind : Int) v2) * (Cb a.gk m.kinds * (Lt a m.lits * (Cb a.gn m.lens * (Cb a.gb m.backs * (Bk X0 39 #[.int .u8 0, .int .i64 (n : Int), .int .i64 (bk : Int)] * R))))))) wr)
  case atStart => exact ⟨0, m.out, v, by omega, rfl, rfl, Lib.hid rfl, hb2', B2, o3⟩
  case round =>
    clear o3 hb2' B2
    obtain ⟨t, out2, v2, hk, rfl, hlen, he, hb, Bw, ho⟩ := hrel
    have t0 : (0 : Int) ≤ (t : Int) := by omega
    by_cases ht : (t : Int) < (n : Int)
    · obtain ⟨j, rfl⟩ : ∃ j, gk = j + 1 := ⟨gk - 1, by omega⟩
      obtain ⟨g, cap, rfl, _⟩ := ho.row.form (by omega)
      obtain ⟨ix, hix⟩ : ∃ ix, ix + bk = out2.length := ⟨out2.length - bk, by omega⟩
      obtain ⟨x, hx⟩ : ∃ x, out2[ix]? = some x := ⟨_, List.getElem?_eq_getElem (by omega)⟩
      have Hby := Lib.hid (fun w1 (h : St B (Rw 5 1 (.slice (some ⟨g, 0, none⟩) out2.length cap) out2.length (bytesU out2) * (Bk p 97 (mdA a (({ m with kind := 1 } : MS).kind : Int) (.slice (some ⟨g, 0, none⟩) out2.length cap)) * (Cb a.gk m.kinds * (Lt a m.lits * (Cb a.gn m.lens * (Cb a.gb m.backs * (Bk X0 39 #[.int .u8 0, .int .i64 (n : Int), .int .i64 (bk : Int)] * R))))))) wr w1) => h.2.1.byteAt ix x hx)
      have i1 : (out2.length : Int) - (bk : Int) = (ix : Int) := by omega
      have i2 : (ix : Int) < (out2.length : Int) := by omega
      have i3 : (0 : Int) ≤ (ix : Int) := by omega
      have i4 : (out2.length : Int) ≤ 70000 := by omega
      have He2 : Hid (out2 ++ [x] = copyN bk (t + 1) m.out) := Lib.hid (by rw [copyN_succ, ← he.out, show out2.length - bk = ix by omega, hx]; rfl)
      have Hlen : Hid ((out2 ++ [x]).length = m.out.length + (t + 1)) := Lib.hid (by rw [List.length_append, hlen]; rfl)
      have Hk := Lib.hid hk
      have hl2 : out2.length ≤ 70000 := by omega
      clear hx hlen he hk hix
      go_wp2
      refine wp_region_lmix (St B _ wr) [0] [1, 2, 3, 4] [5, 6, 7, 8, 9, 10, 11, 12, 13, 14, 15, 16, 17, 18] [19] [20, 21, 22, 23] mixed (by kernel_rfl) rfl (fun _ _ _ _ _ h => h) (St.drew Bw ho) ?_
      simp only [List.filterMap_cons, List.filterMap_nil, List.getElem?_toArray, List.getElem?_cons_succ, List.getElem?_cons_zero]
      repeat (
        refine free_val ?_ rfl (fun w1 => ?_) ?_
        rotate_left
        · (go_simp
           try go_bits
           rfl)
        simp only [Act.put, List.setIfInBounds_toArray, List.set_cons_zero, List.set_cons_succ])
      refine free_nil ?_
      repeat (first
        | (refine late_val ?_ rfl (fun w1 hS => ?_) ?_
           rotate_left
           · (have c0 := (Hc.out w1 X0 _ out2 hS.2.1).1
              go_simp
              try go_bits
              rfl)
           simp only [Act.put, List.setIfInBounds_toArray, List.set_cons_zero, List.set_cons_succ])
        | (refine late_off rfl ?_
           simp only [Act.put, List.setIfInBounds_toArray, List.set_cons_zero, List.set_cons_succ]))
      refine late_nil ?_
      repeat (first
        | (refine held_val ?_ rfl (fun w1 hS => ?_) ?_
           rotate_left
           · (have c0 := (Hc.out w1 X0 _ out2 hS.2.1).1; have c2 := (Hc.out w1 X0 _ out2 hS.2.1).2; have cx := Hby.out w1 hS
              go_simp
              try go_bits
              rfl)
           simp only [Act.put, List.setIfInBounds_toArray, List.set_cons_zero, List.set_cons_succ])
        | (refine held_off rfl ?_
           simp only [Act.put, List.setIfInBounds_toArray, List.set_cons_zero, List.set_cons_succ]))
      refine held_nil (fun w1 hS => ?_)
      refine kept_val ?_ rfl (w1 := ?_) ?_ ?_ ?_
      rotate_left 2
      · (go_simp
         try go_bits
         first | (constructor <;> rfl) | rfl)
      · exact hS.alloc _
      simp only [Act.put, List.setIfInBounds_toArray, List.set_cons_zero, List.set_cons_succ]
      refine kept_nil ?_
      obtain ⟨k2, k3, k4⟩ := hS
      obtain ⟨g2, cap2, w5, hrun, o5, b5⟩ := byte_snoc k2 k3 x (x.toNat : Int) rfl (by omega)
      have Hrun := Lib.hid hrun
      have B5 := Nat.le_trans k2 b5.size
      have c5 := (o5.cellOf p 12)
      rw [show (mdA a (({ m with kind := 1 } : MS).kind : Int) (.slice (some ⟨g, 0, none⟩) out2.length cap))[12]? = some (.slice (some ⟨g, 0, none⟩) out2.length cap) from rfl] at c5
      have z5 := o5.freeOf p 12
      obtain ⟨o6, b6⟩ := snocM (m := { m with kind := 1 }) B5 o5
      have hb6 := hb.trans (k4.trans (b5.trans b6))
      have B6 := Nat.le_trans B5 b6.size
      have O7 := Lib.hid (o6.cast (show _ = Rw 5 1 (.slice (some ⟨g2, 0, none⟩) (out2 ++ [x]).length cap2) (out2 ++ [x]).length (bytesU (out2 ++ [x])) * (Bk p 97 (mdA a (({ m with kind := 1 } : MS).kind : Int) (.slice (some ⟨g2, 0, none⟩) (out2 ++ [x]).length cap2)) * (Cb a.gk m.kinds * (Lt a m.lits * (Cb a.gn m.lens * (Cb a.gb m.backs * (Bk X0 39 #[.int .u8 0, .int .i64 (n : Int), .int .i64 (bk : Int)] * R)))))) from (mdv_out (m := { m with kind := 1 })).symm))
      clear hrun o5 b5 b6 k3 k4 hb ho o6 Hby
      generalize out2 ++ [x] = out3 at *
      refine wpList_append_run rfl (.tmp 32) (.tmp 47) 22 rfl rfl rfl Hrun.out ?_
      simp only [Act.put, List.setIfInBounds_toArray, List.set_cons_zero, List.set_cons_succ]
      go_wp2
      go_roundg j
      case measure => omega
      case rel => exact ⟨t + 1, out3, _, by have := Hk.out; omega, rfl, Hlen.out, He2, hb6, B6, O7.out⟩
    · obtain rfl : t = n := by omega
      go_wp2
      go_end0
      rw [← he.out]
      exact ⟨rfl, Own.to_hex (A := fun v => MdV p a v { m with kind := 1, out := out2 }) v2 ((ho.cast (show _ = Bk X0 39 _ * (Rw 5 1 v2 out2.length (bytesU out2) * (Bk p 97 (mdA a (({ m with kind := 1 } : MS).kind : Int) v2) * (Cb a.gk m.kinds * (Lt a m.lits * (Cb a.gn m.lens * (Cb a.gb m.backs * R)))))) by simp only [Cb]; ac_rfl)).drop.cast (mdv_out (m := { m with kind := 1 }))), hb⟩
end Go.Proofs.Ytedcficjmogohaa

/- What put of pack's model tells: plain. -/
namespace Go.Proofs.Ytedcficjmogohaa
set_option linter.unusedVariables false
set_option linter.unusedSimpArgs false
set_option maxRecDepth 100000
open Go.RowKit

def kindN (m : MS) : Int := m.kinds.getD m.kind 0
def bitM (s : WS) (m : MS) (b : Int) : WS := putS s (bitBound s (kindN m)) b
def kindsM (m : MS) (b : Int) : List Int := m.kinds.set m.kind (sawN (kindN m) b)
def putLit (s : WS) (m : MS) (lit : UInt8) : WS × MS :=
  ((treeS (bitM s m 0) (m.lits (treeIx m.out)) 1 (bitsOf lit.toNat 8)).1, { m with kinds := kindsM m 0, lits := upd m.lits (treeIx m.out) (treeS (bitM s m 0) (m.lits (treeIx m.out)) 1 (bitsOf lit.toNat 8)).2 })
def lenM (s : WS) (m : MS) (n : Nat) : WS × List Int := treeS (bitM s m 1) m.lens 1 (bitsOf ((n : Int) - 3) 8)
def backM (s : WS) (m : MS) (n bk : Nat) : WS × List Int := treeS (lenM s m n).1 m.backs 1 (bitsOf (lenN (bk - 1)) 4)
def putMatch (s : WS) (m : MS) (n bk : Nat) : WS × MS :=
  (evenS (backM s m n bk).1 (bitsOf ((bk : Int) - 1) (lenN (bk - 1) - 1)), { m with kinds := kindsM m 1, lens := (lenM s m n).2, backs := (backM s m n bk).2 })
def putT (s : WS) (m : MS) (t : Tk) : WS × MS := if t.len = 0 then putLit s m t.lit else putMatch s m t.len.toNat t.back.toNat
theorem bitsOf_len' (n : Int) (m : Nat) : (bitsOf n m).length = m := by simp [bitsOf]
theorem lenN_15 (n : Nat) (h : n < 32768) : lenN n ≤ 15 := by
  unfold lenN
  split
  · omega
  · have : Nat.log2 n < 15 := (Nat.log2_lt (by omega)).2 h
    omega
theorem bitM_gd {s : WS} {m : MS} {room : Int} (b : Int) (hr : 0 ≤ room) (hm : m.ok) (h : s.gd (room + 1)) : (bitM s m b).gd room ∧ chOk (kindsM m b) ∧ (kindsM m b).length = 2 := by
  have hk := chOk_get hm.ckinds m.kind
  have hb := bitBound_in h.live hk
  exact ⟨(putS_gd b hr h hb.1 hb.2).1, chOk_set hm.ckinds _ _ (sawN_ok _ _ hk), by unfold kindsM; rw [List.length_set]; exact hm.kinds⟩
theorem putLit_ok {s : WS} {m : MS} {room : Int} (lit : UInt8) (hr : 0 ≤ room) (hm : m.ok) (h : s.gd (room + 9)) : (putLit s m lit).1.gd room ∧ (putLit s m lit).2.ok := by
  obtain ⟨h1, h2, h3⟩ := bitM_gd 0 (room := room + 8) (by omega) hm (h.less (by omega))
  obtain ⟨k1, k2, k3⟩ := tree_gd (bitsOf lit.toNat 8) (bitM s m 0) (m.lits (treeIx m.out)) 1 room hr (hm.clits _) (h1.less (by rw [bitsOf_len']; omega))
  refine ⟨k1, ⟨h3, fun i => ?_, hm.lens, hm.backs, hm.kind, h2, fun i => ?_, hm.clens, hm.cbacks⟩⟩
  · show (upd m.lits _ _ i).length = 256
    unfold upd; split
    · rw [k3]; exact hm.lits _
    · exact hm.lits _
  · show chOk (upd m.lits _ _ i)
    unfold upd; split
    · exact k2
    · exact hm.clits _
theorem lenM_ok {s : WS} {m : MS} {room : Int} (n : Nat) (hr : 0 ≤ room) (hm : m.ok) (h : s.gd (room + 9)) : (lenM s m n).1.gd room ∧ chOk (lenM s m n).2 ∧ (lenM s m n).2.length = 256 := by
  obtain ⟨h1, _, _⟩ := bitM_gd 1 (room := room + 8) (by omega) hm (h.less (by omega))
  obtain ⟨k1, k2, k3⟩ := tree_gd (bitsOf ((n : Int) - 3) 8) (bitM s m 1) m.lens 1 room hr hm.clens (h1.less (by rw [bitsOf_len']; omega))
  exact ⟨k1, k2, k3.trans hm.lens⟩
theorem backM_ok {s : WS} {m : MS} {room : Int} (n bk : Nat) (hr : 0 ≤ room) (hm : m.ok) (h : s.gd (room + 13)) : (backM s m n bk).1.gd room ∧ chOk (backM s m n bk).2 ∧ (backM s m n bk).2.length = 16 := by
  obtain ⟨h1, _, _⟩ := lenM_ok n (room := room + 4) (by omega) hm (h.less (by omega))
  obtain ⟨k1, k2, k3⟩ := tree_gd (bitsOf (lenN (bk - 1)) 4) (lenM s m n).1 m.backs 1 room hr hm.cbacks (h1.less (by rw [bitsOf_len']; omega))
  exact ⟨k1, k2, k3.trans hm.backs⟩
theorem putMatch_ok {s : WS} {m : MS} {room : Int} (n bk : Nat) (hb : 1 ≤ bk ∧ bk ≤ 32768) (hr : 0 ≤ room) (hm : m.ok) (h : s.gd (room + 28)) : (putMatch s m n bk).1.gd room ∧ (putMatch s m n bk).2.ok := by
  obtain ⟨_, h2, h3⟩ := bitM_gd 1 (room := room + 27) (by omega) hm (h.less (by omega))
  obtain ⟨_, l2, l3⟩ := lenM_ok n (room := room + 19) (by omega) hm (h.less (by omega))
  obtain ⟨b1, b2, b3⟩ := backM_ok n bk (room := room + 15) (by omega) hm (h.less (by omega))
  have hl := lenN_15 (bk - 1) (by omega)
  exact ⟨even_gd _ _ room hr (b1.less (by rw [bitsOf_len']; omega)), ⟨h3, hm.lits, l3, b3, hm.kind, h2, hm.clits, l2, b2⟩⟩
end Go.Proofs.Ytedcficjmogohaa

/- The walk over put of pack's model. -/
namespace Go.Proofs.Ytedcficjmogohaa
set_option linter.unusedVariables false
set_option linter.unusedSimpArgs false
set_option maxRecDepth 100000
open Go.RowKit

theorem even_neg (p : Nat) (s : WS) (n : Int) (hdn : s.dn = false) (B : Nat) (R : HP) [Loc B R] (w : World) (hO : Own B (Wr p s * R) w) :
    Calls Try.prog 59 #[.pointer (some ⟨p, 0, none⟩), .int .i64 n, .int .i64 (-1)] w (Ret B w (.tuple #[]) (Wr p s * R)) := by
  obtain ⟨v, hV⟩ := hO.hex
  have hV := hV.assoc
  have c6 : w.cell? ⟨p, 6, none⟩ = some (.bool false) := by rw [hV.cell 6, ← hdn]; rfl
  go_enter Try.func59, Try.ntmps59
  go_wp2
  go_loopg [6] 0 (fun k i wr => i = .int .i64 (-2) ∧ wr = w)
  case atStart => exact ⟨rfl, rfl⟩
  case round =>
    obtain ⟨rfl, rfl⟩ := hrel
    go_wp2
    go_end0
    exact ⟨rfl, hO, Below.refl _ _⟩

theorem mdv_kinds {p : Nat} {a : MA} {v : Value} {m : MS} {R : HP} {k : List Int} :
    Cb a.gk k * (Bk p 97 (mdA a m.kind v) * (Lt a m.lits * (Cb a.gn m.lens * (Cb a.gb m.backs * (Rw 5 1 v m.out.length (bytesU m.out) * R))))) = MdV p a v { m with kinds := k } * R := by
  rw [mdv_eq]
  show _ = Bk p 97 (mdA a m.kind v) * (Cb a.gk k * (Lt a m.lits * (Cb a.gn m.lens * (Cb a.gb m.backs * (Rw 5 1 v m.out.length (bytesU m.out) * R)))))
  simp only [Cb]
  ac_rfl
theorem mdv_lens {p : Nat} {a : MA} {v : Value} {m : MS} {R : HP} {k : List Int} :
    Cb a.gn k * (Bk p 97 (mdA a m.kind v) * (Cb a.gk m.kinds * (Lt a m.lits * (Cb a.gb m.backs * (Rw 5 1 v m.out.length (bytesU m.out) * R))))) = MdV p a v { m with lens := k } * R := by
  rw [mdv_eq]
  show _ = Bk p 97 (mdA a m.kind v) * (Cb a.gk m.kinds * (Lt a m.lits * (Cb a.gn k * (Cb a.gb m.backs * (Rw 5 1 v m.out.length (bytesU m.out) * R)))))
  simp only [Cb]
  ac_rfl
theorem mdv_backs {p : Nat} {a : MA} {v : Value} {m : MS} {R : HP} {k : List Int} :
    Cb a.gb k * (Bk p 97 (mdA a m.kind v) * (Cb a.gk m.kinds * (Lt a m.lits * (Cb a.gn m.lens * (Rw 5 1 v m.out.length (bytesU m.out) * R))))) = MdV p a v { m with backs := k } * R := by
  rw [mdv_eq]
  show _ = Bk p 97 (mdA a m.kind v) * (Cb a.gk m.kinds * (Lt a m.lits * (Cb a.gn m.lens * (Cb a.gb k * (Rw 5 1 v m.out.length (bytesU m.out) * R)))))
  simp only [Cb]
  ac_rfl
theorem lt_upd (a : MA) (f : Nat → List Int) (q : Nat) (hq : q < 8) (x : List Int) : ∃ L : HP, (∀ B, Loc B L) ∧ Lt a f = Cb (a.gl q) (f q) * L ∧ Lt a (upd f q x) = Cb (a.gl q) x * L := by
  refine ⟨BigX (fun i => Cb (a.gl i) (f i)) q 8, fun B => inferInstance, big_split _ q 8 hq, ?_⟩
  have h := big_split (fun i => Cb (a.gl i) (upd f q x i)) q 8 hq
  simp only [upd_same] at h
  rw [bigX_congr (fun i => Cb (a.gl i) (upd f q x i)) (fun i => Cb (a.gl i) (f i)) q 8 (fun i _ hi => by simp only [upd_other f x hi])] at h
  exact h
theorem mdv_lits {p : Nat} {a : MA} {v : Value} {m : MS} {R : HP} {f : Nat → List Int} :
    Lt a f * (Bk p 97 (mdA a m.kind v) * (Cb a.gk m.kinds * (Cb a.gn m.lens * (Cb a.gb m.backs * (Rw 5 1 v m.out.length (bytesU m.out) * R))))) = MdV p a v { m with lits := f } * R := by
  rw [mdv_eq]
  show _ = Bk p 97 (mdA a m.kind v) * (Cb a.gk m.kinds * (Lt a f * (Cb a.gn m.lens * (Cb a.gb m.backs * (Rw 5 1 v m.out.length (bytesU m.out) * R)))))
  simp only [Cb]
  ac_rfl

set_option maxHeartbeats 6400000 in
theorem put_lit (p q : Nat) (a : MA) (v : Value) (m : MS) (hm : m.ok) (hl : m.out.length ≤ 70000) (lit : UInt8) (s : WS) (r : Int) (hr : 0 ≤ r) (hs : s.gd (r + 9)) (B : Nat) (R : HP) [Loc B R] (w : World) (hB : B ≤ w.heap.size) (hO : Own B (Wr q s * (MdV p a v m * R)) w) :
    Calls Try.prog 33 #[.pointer (some ⟨p, 0, none⟩), .pointer (some ⟨q, 0, none⟩), .agg #[.int .u8 (lit.toNat : Int), .int .i64 0, .int .i64 0]] w (Ret B w (.tuple #[]) (Wr q (putLit s m lit).1 * (MdV p a v (putLit s m lit).2 * R))) := by
  have o1 := hO.new hB 39 #[.int .u8 (lit.toNat : Int), .int .i64 0, .int .i64 0]
  have b1 := (Below.refl B w).alloc hB (.cells #[.int .u8 (lit.toNat : Int), .int .i64 0, .int .i64 0] 39)
  have B1 : B ≤ (w.alloc (.cells #[.int .u8 (lit.toNat : Int), .int .i64 0, .int .i64 0] 39)).heap.size := by simp; omega
  have Hc := Lib.hid (fun (w1 : World) X (m1 : MS) (s1 : WS) (h : Own B (Bk X 39 #[.int .u8 (lit.toNat : Int), .int .i64 0, .int .i64 0] * (Wr q s1 * (MdV p a v m1 * R))) w1) =>
    (show w1.cell? ⟨p, 0, none⟩ = some (chSl a.gk 2) ∧ w1.cell? ⟨p, 11, none⟩ = some (.int .i64 (m1.kind : Int)) ∧ w1.cell? ⟨X, 0, none⟩ = some (.int .u8 (lit.toNat : Int)) ∧ w1.cell? ⟨X, 1, none⟩ = some (.int .i64 0) from
      ⟨(h.drop.drop.cast mdv_eq).cellOf p 0, (h.drop.drop.cast mdv_eq).cellOf p 11, h.cell 0, h.cell 1⟩))
  have hbit := bitM_gd 0 (room := r + 8) (by omega) hm (hs.less (by omega))
  have Hb := Lib.hid (fun (w1 : World) X (B1 : B ≤ w1.heap.size) (h : Own B (Bk X 39 #[.int .u8 (lit.toNat : Int), .int .i64 0, .int .i64 0] * (Wr q s * (MdV p a v m * R))) w1) =>
    bit_any q a.gk m.kind s m.kinds 0 (r := r + 8) (by omega) B _ w1 B1 (hs.live.less (by omega)) hm.ckinds (by rw [hm.kinds]; exact hm.kind)
      (h.cast (show _ = Wr q s * (Bk a.gk 106 (chV m.kinds) * (Bk X 39 #[.int .u8 (lit.toNat : Int), .int .i64 0, .int .i64 0] * (Bk p 97 (mdA a m.kind v) * (Lt a m.lits * (Cb a.gn m.lens * (Cb a.gb m.backs * (Rw 5 1 v m.out.length (bytesU m.out) * R))))))) by rw [mdv_eq]; simp only [Cb]; ac_rfl)))
  have k0 : (0 : Int) ≤ (m.kind : Int) := by omega
  have k2 : (m.kind : Int) < 2 := by have := hm.kind; omega
  simp only [chSl] at Hc
  clear hO
  generalize hK : m.kind = K at Hc Hb k0 k2
  go_enter Try.func33, Try.ntmps33
  go_wp2
  generalize (w.alloc (.cells #[.int .u8 (lit.toNat : Int), .int .i64 0, .int .i64 0] 39)) = W1 at *
  generalize w.heap.size = X0 at *
  refine wp_region_mix (St B _ W1) [0, 1, 2, 3, 4, 5, 6, 7, 8, 9, 10, 11, 12] [13] mixed (by kernel_rfl) rfl (St.drew B1 o1) ?_
  simp only [List.filterMap_cons, List.filterMap_nil, List.getElem?_toArray, List.getElem?_cons_succ, List.getElem?_cons_zero]
  repeat (first
    | (refine held_val ?_ rfl (fun w1 hS => ?_) ?_
       rotate_left
       · (have cs := Hc.out w1 X0 _ _ hS.2.1; rw [hK] at cs; obtain ⟨c0, c11, d0, d1⟩ := cs
          go_simp
          try go_bits
          rfl)
       simp only [Act.put, List.setIfInBounds_toArray, List.set_cons_zero, List.set_cons_succ])
    | (refine held_off rfl ?_
       simp only [Act.put, List.setIfInBounds_toArray, List.set_cons_zero, List.set_cons_succ]))
  refine held_nil (fun w1 hS => ?_)
  obtain ⟨B2, o2, b2⟩ := hS
  have hb2 := b1.trans b2
  clear o1 b1 b2 B1
  have Hb2 := Lib.hid (Hb.out w1 X0 B2 o2)
  clear Hb Hc o2
  go_wp2_with fail
  refine Hb2.out.mono ?_
  rintro e w4 ⟨rfl, o4, b4⟩
  subst hK
  have hb4 := hb2.trans b4
  have B4 := Nat.le_trans B2 b4.size
  have o5 := o4.cast (show _ = Bk X0 39 #[.int .u8 (lit.toNat : Int), .int .i64 0, .int .i64 0] * (Wr q (bitM s m 0) * (MdV p a v { m with kinds := kindsM m 0 } * R)) by
    rw [← mdv_kinds]
    show Wr q (bitM s m 0) * (Cb a.gk (kindsM m 0) * _) = _
    simp only [Cb]
    ac_rfl)
  have e1 : putLit s m lit = ((treeS (bitM s m 0) (m.lits (treeIx m.out)) 1 (bitsOf lit.toNat 8)).1, { m with kinds := kindsM m 0, lits := upd m.lits (treeIx m.out) (treeS (bitM s m 0) (m.lits (treeIx m.out)) 1 (bitsOf lit.toNat 8)).2 }) := rfl
  rw [e1]
  clear e1 Hb2 hb2 B2 b4 o4
  have hlv := hbit.1.live
  obtain ⟨L, hL, e2, e3⟩ := lt_upd a m.lits (treeIx m.out) (treeIx_lt _) (treeS (bitM s m 0) (m.lits (treeIx m.out)) 1 (bitsOf lit.toNat 8)).2
  have hLB := hL B
  have Ht := Lib.hid (fun (w1 : World) (B1 : B ≤ w1.heap.size) (h : Own B (Bk X0 39 #[.int .u8 (lit.toNat : Int), .int .i64 0, .int .i64 0] * (Wr q (bitM s m 0) * (MdV p a v { m with kinds := kindsM m 0 } * R))) w1) =>
    tree_any p a v { m with kinds := kindsM m 0 } hl B (Bk X0 39 #[.int .u8 (lit.toNat : Int), .int .i64 0, .int .i64 0] * (Wr q (bitM s m 0) * R)) w1 B1 (h.cast (by ac_rfl)))
  have Ht2 := Lib.hid (fun (w1 : World) (B1 : B ≤ w1.heap.size) (h : Own B (Bk X0 39 #[.int .u8 (lit.toNat : Int), .int .i64 0, .int .i64 0] * (Wr q (bitM s m 0) * (MdV p a v { m with kinds := kindsM m 0 } * R))) w1) =>
    tree_live q (a.gl (treeIx m.out)) (bitM s m 0) (m.lits (treeIx m.out)) lit.toNat 8 (by omega) (by rw [hm.lits]; decide) (by rw [hm.lits]; omega) (by omega) (by have := lit.toNat_lt; omega) r hr B (L * (Bk X0 39 #[.int .u8 (lit.toNat : Int), .int .i64 0, .int .i64 0] * (Bk p 97 (mdA a m.kind v) * (Cb a.gk (kindsM m 0) * (Cb a.gn m.lens * (Cb a.gb m.backs * (Rw 5 1 v m.out.length (bytesU m.out) * R))))))) w1 B1 (hlv.less (by omega)) (hm.clits _)
      (h.cast (by
        rw [← mdv_lits (m := { m with kinds := kindsM m 0 }) (f := m.lits), e2]
        show _ = Wr q (bitM s m 0) * (Bk (a.gl (treeIx m.out)) _ _ * (L * _))
        simp only [Cb]
        ac_rfl)) 256)
  rw [hm.lits] at Ht2
  have d1 : w4.cell? ⟨X0, 1, none⟩ = some (.int .i64 0) := o5.cell 1
  have z1 := lit.toNat_lt
  have hlz : (0 : Int) ≤ (lit.toNat : Int) ∧ (lit.toNat : Int) < 256 := by omega
  obtain ⟨hz0, hz1⟩ := hlz
  clear hbit hlv hs hL z1
  go_wp2
  refine wp_region_mix (St B _ w4) [0, 1, 2, 3, 4, 5] [6] mixed (by kernel_rfl) rfl (St.drew B4 o5) ?_
  simp only [List.filterMap_cons, List.filterMap_nil, List.getElem?_toArray, List.getElem?_cons_succ, List.getElem?_cons_zero]
  repeat (first
    | (refine held_val ?_ rfl (fun w1 hS => ?_) ?_
       rotate_left
       · (skip
          go_simp
          try go_bits
          rfl)
       simp only [Act.put, List.setIfInBounds_toArray, List.set_cons_zero, List.set_cons_succ])
    | (refine held_off rfl ?_
       simp only [Act.put, List.setIfInBounds_toArray, List.set_cons_zero, List.set_cons_succ]))
  refine held_call 57 #[.pointer (some ⟨p, 0, none⟩)] (chSl (a.gl (treeIx m.out)) 256) rfl (fun w1 hS => by go_simp) (fun w1 hS => (Ht.out w1 hS.1 hS.2.1).mono ?_) ?_
  · rintro e w2 ⟨rfl, o2, b2⟩
    exact ⟨rfl, Nat.le_trans hS.1 b2.size, o2.cast (by ac_rfl), hS.2.2.trans b2⟩
  simp only [Act.put, List.setIfInBounds_toArray, List.set_cons_zero, List.set_cons_succ]
  repeat (first
    | (refine held_val ?_ rfl (fun w1 hS => ?_) ?_
       rotate_left
       · (have d0 : w1.cell? ⟨X0, 0, none⟩ = some (.int .u8 (lit.toNat : Int)) := hS.2.1.cell 0
          go_simp
          try go_bits
          rfl)
       simp only [Act.put, List.setIfInBounds_toArray, List.set_cons_zero, List.set_cons_succ])
    | (refine held_off rfl ?_
       simp only [Act.put, List.setIfInBounds_toArray, List.set_cons_zero, List.set_cons_succ]))
  refine held_nil (fun w6 hS => ?_)
  obtain ⟨B6, o6, b6⟩ := hS
  have hb6 := hb4.trans b6
  have Ht3 := Lib.hid (Ht2.out w6 B6 o6)
  clear Ht Ht2 o6 o5 d1 hb4 B4 b6
  simp only [chSl]
  go_wp2_with fail
  refine Ht3.out.mono ?_
  rintro e w7 ⟨rfl, o7, b7⟩
  have o8 := o7.cast (show _ = Bk X0 39 #[.int .u8 (lit.toNat : Int), .int .i64 0, .int .i64 0] * (Wr q (treeS (bitM s m 0) (m.lits (treeIx m.out)) 1 (bitsOf lit.toNat 8)).1 * (MdV p a v { m with kinds := kindsM m 0, lits := upd m.lits (treeIx m.out) (treeS (bitM s m 0) (m.lits (treeIx m.out)) 1 (bitsOf lit.toNat 8)).2 } * R)) by
    rw [← mdv_lits (m := { m with kinds := kindsM m 0 }), e3]
    simp only [Cb]
    ac_rfl)
  have hb7 := hb6.trans b7
  clear o7 b7 hb6 Ht3
  go_wp2
  go_end0
  exact ⟨rfl, o8.drop, hb7⟩
end Go.Proofs.Ytedcficjmogohaa
