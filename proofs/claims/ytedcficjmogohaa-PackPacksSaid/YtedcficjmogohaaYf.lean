/- Texts of one proof, merged: XK7 XLr XLb XLaw XDo XLc XR1 XR2. -/
import Derived.Test.YtedcficjmogohaaYe
import Derived.Carry
import Derived.Deep.Slices
import Derived.ProofKit
import Derived.SizedLaws
import Derived.OpenShut
import Derived.ChangeOld
import Derived.Deep.Fields
import Derived.ChangeSame
/- The walk over Parse of package match. -/
namespace Go.Proofs.Ytedcficjmogohaa
set_option linter.unusedVariables false
set_option linter.unusedSimpArgs false
set_option maxRecDepth 100000
open Go.RowKit

def tokAt (b : List UInt8) (win : Int) (m : Nat) : Tk := ⟨if (bestN b win m).1 = 0 then b[m]?.getD 0 else 0, (bestN b win m).1, (bestN b win m).2⟩
def prs (b : List UInt8) (win : Int) : Nat → Nat → List Tk
  | 0, _ => []
  | k + 1, m => if m < b.length then tokAt b win m :: prs b win k (m + (if (bestN b win m).1 = 0 then 1 else (bestN b win m).1)) else []
def parseN (b : List UInt8) (win : Int) : List Tk := if 1 ≤ win ∧ win ≤ 32768 then prs b win b.length 0 else []
theorem bst_in (b : List UInt8) (win : Int) (m : Nat) (hm : m ≤ b.length) : ∀ (k : Nat) (c : Int) (n d : Nat), n ≤ 258 → m + n ≤ b.length → (bst b win m k c n d).1 ≤ 258 ∧ m + (bst b win m k c n d).1 ≤ b.length
  | 0, c, n, d, h1, h2 => ⟨h1, h2⟩
  | k + 1, c, n, d, h1, h2 => by
    have ha := alk_in b c.toNat m 258 0
    rw [bst]
    unfold alikeN
    split
    · split
      · split
        · exact ⟨Nat.le_refl _, by have := ha.2.2 hm; omega⟩
        · exact bst_in b win m hm k _ _ _ (by omega) (by have := ha.2.2 hm; omega)
      · exact bst_in b win m hm k _ _ _ h1 h2
    · exact ⟨h1, h2⟩
theorem bestN_in (b : List UInt8) (win : Int) (m : Nat) (hm : m ≤ b.length) : (bestN b win m).1 ≤ 258 ∧ m + (bestN b win m).1 ≤ b.length := bst_in b win m hm _ _ _ _ (by omega) (by omega)

theorem info_tok : (Try.prog.info? 39).map (fun i => (i.zero, i.size, i.bytes)) = some (some (.agg #[.int .u8 0, .int .i64 0, .int .i64 0]), 3, 24) := by kernel_rfl
theorem info_int : (Try.prog.info? 3).map (fun i => (i.zero, i.size, i.bytes)) = some (some (.int .i64 0), 1, 8) := by kernel_rfl
theorem run_make_ints (k : Nat) (hk : k ≤ 131072) (W : World) : (Instr.makeSlice 79 (.int .i64 (k : Int)) (.int .i64 (k : Int))).run Try.prog W = .ok (.slice (some ⟨W.heap.size, 0, none⟩) k k) (W.alloc (.cells (intsV (List.replicate k 0)) 3)) := by
  obtain ⟨i0, hi, hz0, hz1, hz2⟩ := info_parts info_int
  have h := run_make (P := Try.prog) W 79 3 i0 _ Try.underlying79 hi hz0 .i64 .i64 k k (by omega) (Int.le_refl _) (by rw [hz2]; omega) (by omega)
  rw [hz1] at h
  have hc : madeCells (Value.int .i64 0).cells (k * 1) = intsV (List.replicate k 0) := by
    apply Array.ext'
    show (madeCells #[.int .i64 0] (k * 1)).toList = _
    rw [Nat.mul_one, toList_madeCells_one]
    simp [intsV]
  simp only [Int.toNat_natCast, hc] at h
  exact h
set_option maxRecDepth 100000 in
theorem tok_snoc {B : Nat} {R : HP} [Loc B R] {w : World} (hB : B ≤ w.heap.size) {v : Value} {xs : List Tk} (h : Own B (Rw 39 3 v xs.length (flat tkL xs) * R) w) (t : Tk) (hl : xs.length ≤ 1099511627775) :
    ∃ g cap w', (Builtin.append_ #[33, 33] 33 #[v, .slice (some ⟨w.heap.size, 0, none⟩) 1 1]).run Try.prog (w.alloc (.cells (tkL t).toArray 39)) = .ok (.slice (some ⟨g, 0, none⟩) (xs ++ [t]).length cap) w' ∧
      Own B (Rw 39 3 (.slice (some ⟨g, 0, none⟩) (xs ++ [t]).length cap) (xs ++ [t]).length (flat tkL (xs ++ [t])) * R) w' ∧ Below B w w' := by
  obtain ⟨i0, hi, hz0, hz1, hz2⟩ := info_parts info_tok
  have h1 := h.alloc_keep hB (.cells (tkL t).toArray 39)
  have hB1 : B ≤ (w.alloc (.cells (tkL t).toArray 39)).heap.size := by simp; omega
  obtain ⟨v', w', hr, h2, h3, _, h5⟩ := run_append_own_at (P := Try.prog) (w.alloc (.cells (tkL t).toArray 39)) B 33 33 39 i0 _ 3 24 Try.underlying33 hi hz0 hz1 hz2 rfl (by omega) v xs.length (flat tkL xs) h1.row
    ⟨w.heap.size, 0, none⟩ 1 1 (tkL t) rfl (by
      intro j x hj
      rw [Addr.add_lit, Nat.zero_add]
      match j, hj with
      | 0, hj => simp [tkL] at hj; subst hj; simp [tkL]
      | 1, hj => simp [tkL] at hj; subst hj; simp [tkL]
      | 2, hj => simp [tkL] at hj; subst hj; simp [tkL]) (by intro x hx; simp [tkL] at hx; rcases hx with rfl | rfl | rfl <;> rfl) (by unfold maxLen; omega) (by omega) hB1
  have h6 := Own.appended hB1 h1 h2 h3 h5
  rw [show xs.length + 1 = (xs ++ [t]).length by simp, ← flat_snoc] at h6
  obtain ⟨g, cap, rfl, _⟩ := h6.1.row.form (by simp)
  exact ⟨g, cap, w', hr, h6.1, ((Below.refl B w).alloc hB _).trans h6.2⟩

def RetTk (w : World) (l : List Tk) (e : Ending) (w' : World) : Prop := ∃ v, e = .returned v ∧ w'.ownsRow w.heap.size 39 3 v l.length (flat tkL l) ∧ Below w.heap.size w w'
theorem RetTk.mk {w w' : World} {l l' : List Tk} {e : Ending} {v : Value} {B : Nat} {R : HP} (he : e = .returned v) (hl : l' = l) (hB : B = w.heap.size) (ho : Own B (Rw 39 3 v l'.length (flat tkL l') * R) w') (hb : Below w.heap.size w w') : RetTk w l e w' := by
  subst hl; subst hB; exact ⟨v, he, ho.row, hb⟩
theorem World.size_alloc' (w : World) (o : Obj) : (w.alloc o).heap.size = w.heap.size + 1 := by simp
theorem backs0 (b : List UInt8) : List.replicate b.length 0 = backsAt b 0 := by
  apply List.ext_getElem
  · simp [backsAt]
  · intro i h1 h2; simp [backsAt]

set_option maxHeartbeats 6400000 in
theorem parse_any (A : Option Addr) (c : Nat) (b : List UInt8) (hbl : b.length ≤ 65536) (hc : b.length ≤ c ∧ c ≤ 9223372036854775807) (win : Int) (w : World) (hr : Rd w (.slice A b.length c) (bytesU b)) :
    Calls Try.prog 21 #[.slice A b.length c, .int .i64 win] w (RetTk w (parseN b win)) := by
  have hO := (Own.start w.heap.size w).rw_nil 39 3
  have hmk := run_make_ints b.length (by omega)
  have l1 : (b.length : Int) ≤ 65536 := by omega
  have Hr := Lib.hid (fun w1 (h : Below w.heap.size w w1) => hr.below h)
  have HP : Hid (parseN b win = if 1 ≤ win ∧ win ≤ 32768 then prs b win b.length 0 else []) := Lib.hid rfl
  generalize parseN b win = res at *
  have hb := Below.refl w.heap.size w
  by_cases hw1 : win < 1
  · have HP2 : Hid ([] = res) := Lib.hid (by have := HP.out; rw [if_neg (by omega)] at this; exact this.symm)
    clear HP hmk hr
    go_enter Try.func21, Try.ntmps21
    go_wp2
    go_ret
    exact RetTk.mk (l' := []) rfl HP2.out rfl hO hb
  · by_cases hw2 : 32768 < win
    · have HP2 : Hid ([] = res) := Lib.hid (by have := HP.out; rw [if_neg (by omega)] at this; exact this.symm)
      clear HP hmk hr
      go_enter Try.func21, Try.ntmps21
      go_wp2
      go_ret
      exact RetTk.mk (l' := []) rfl HP2.out rfl hO hb
    · have HP2 : Hid (prs b win b.length 0 = res) := Lib.hid (by have := HP.out; rw [if_pos (by omega)] at this; exact this.symm)
      clear HP hr
      have o1 := hO.mo_new (Nat.le_refl _)
      have b1 := hb.alloc (Nat.le_refl _) (.map #[] 0)
      have o2 := o1.new b1.size 3 (intsV (List.replicate b.length 0))
      have b2 := b1.alloc b1.size (.cells (intsV (List.replicate b.length 0)) 3)
      have o3 := o2.new b2.size 81 #[.slice A b.length c, .map (some w.heap.size), .slice (some ⟨w.heap.size + 1, 0, none⟩) b.length b.length]
      have b3 := b2.alloc b2.size (.cells #[.slice A b.length c, .map (some w.heap.size), .slice (some ⟨w.heap.size + 1, 0, none⟩) b.length b.length] 81)
      simp only [World.size_alloc'] at o3
      have oA := o3.cast (show _ = Fd (w.heap.size + 1 + 1) (.slice A b.length c) w.heap.size (w.heap.size + 1) 0 b 0 * (Rw 39 3 (.slice none 0 0) 0 [] * Emp) by
        rw [fd_eq, ← backs0, show lastP b 0 = fun _ _ _ => none from rfl]
        ac_rfl)
      have hmm := @run_makeMap Try.prog
      clear o1 o2 o3 b1 b2 hO hb
      go_enter Try.func21, Try.ntmps21
      go_wp2
      generalize hX0 : w.heap.size = X0 at *
      go_loopg [6, 7] b.length (fun k' v u wr => ∃ (m : Nat) (out : List Tk) (v0 : Value), v0 = v ∧ u = .int .i64 (m : Int) ∧ m ≤ b.length ∧ b.length ≤ k' + m ∧ out.length ≤ m ∧ Hid (out ++ prs b win k' m = res) ∧ Below X0 w wr ∧ Own X0 (Fd (X0 + 1 + 1) (.slice A b.length c) X0 (X0 + 1) m b m * (Rw 39 3 v0 out.length (flat tkL out) * Emp)) wr)
      case atStart => exact ⟨0, [], _, rfl, rfl, by omega, by omega, by simp, Lib.hid HP2.out, b3, oA⟩
      case round =>
        clear oA b3 hmk hmm HP2
        obtain ⟨m, out, v, rfl, rfl, hm1, hm2, ho1, he, hb, ho⟩ := hrel
        have Bw : X0 ≤ wr.heap.size := by rw [← hX0]; exact hb.size
        by_cases hlt : (m : Int) < (b.length : Int)
        · obtain ⟨j, rfl⟩ : ∃ j, gk = j + 1 := ⟨gk - 1, by omega⟩
          have m0 : (0 : Int) ≤ (m : Int) := by omega
          have hml : m < b.length := by omega
          have Hr2 : Hid (∀ w1, Below X0 w w1 → Rd w1 (.slice A b.length c) (bytesU b)) := Lib.hid (fun w1 h => Hr.out w1 (hX0 ▸ h))
          have he1 := he.out
          rw [prs, if_pos hml] at he1
          have hin := bestN_in b win m (by omega)
          have Hput := Lib.hid (fput_any (X0 + 1 + 1) X0 (X0 + 1) m A c b hbl hc m hml (by omega) X0 _ wr Bw (fun w1 h1 => Hr2.out w1 (hb.trans h1)) ho)
          have Hbest := Lib.hid (fun w1 (h1 : Below X0 w w1) B1 h2 => fbest_any (X0 + 1 + 1) X0 (X0 + 1) (m + 1) A c b hbl win (by omega) (by omega) m hml X0 (Rw 39 3 v out.length (flat tkL out) * Emp) w1 B1 (fun w2 h3 => Hr2.out w2 (h1.trans h3)) h2)
          have Htk : Hid (tokAt b win m = ⟨if (bestN b win m).1 = 0 then b[m] else 0, (bestN b win m).1, (bestN b win m).2⟩) := Lib.hid (by unfold tokAt; rw [List.getElem?_eq_getElem hml]; rfl)
          have Hrd := Lib.hid (fun w1 h1 => (Hr2.out w1 h1).at' m hml)
          generalize bestN b win m = r at *
          generalize tokAt b win m = tk at *
          obtain ⟨rn, rd⟩ := r
          have he3 := Lib.hid he1
          have Hm2 := Lib.hid hm2
          obtain ⟨hin1, hin2⟩ := hin
          simp only at hin1 hin2
          clear he he1 hm2 hm1
          go_wp2_with fail
          refine Hput.out.mono ?_
          rintro e w4 ⟨rfl, o4, b4⟩
          have B4 := Nat.le_trans Bw b4.size
          have hb4 := hb.trans b4
          clear Hput ho hb b4 Bw
          go_wp2_with fail
          refine (Hbest.out _ hb4 B4 o4).mono ?_
          rintro e w5 ⟨rfl, o5, b5⟩
          have B5 := Nat.le_trans B4 b5.size
          have hb5 := hb4.trans b5
          clear Hbest o4 hb4 b5 B4
          have o6 := o5.new B5 39 #[.int .u8 0, .int .i64 (rn : Int), .int .i64 (rd : Int)]
          have b6 := hb5.alloc B5 (.cells #[.int .u8 0, .int .i64 (rn : Int), .int .i64 (rd : Int)] 39)
          have B6 := Nat.le_trans B5 (show w5.heap.size ≤ (w5.alloc (.cells #[.int .u8 0, .int .i64 (rn : Int), .int .i64 (rd : Int)] 39)).heap.size by simp)
          by_cases h0 : rn = 0
          · subst h0
            rw [show ((0 : Nat) : Int) = 0 from rfl] at o6 b6 B6
            obtain ⟨b0, o0, rfl, x0⟩ := Hrd.out _ b6
            generalize b[m] = bm at *
            obtain rfl : tk = ⟨bm, 0, (rd : Int)⟩ := Htk.out
            have o7 := o5.new B5 39 #[.int .u8 (bm.toNat : Int), .int .i64 0, .int .i64 (rd : Int)]
            have b7 := hb5.alloc B5 (.cells #[.int .u8 (bm.toNat : Int), .int .i64 0, .int .i64 (rd : Int)] 39)
            have B7 : X0 ≤ (w5.alloc (.cells #[.int .u8 (bm.toNat : Int), .int .i64 0, .int .i64 (rd : Int)] 39)).heap.size := by simp; omega
            obtain ⟨g, cap, w8, hrun, o8, b8⟩ := tok_snoc B7 (o7.foc (Rw 39 3 v out.length (flat tkL out))) ⟨bm, 0, (rd : Int)⟩ (by omega)
            rw [show (w5.alloc (.cells #[.int .u8 (bm.toNat : Int), .int .i64 0, .int .i64 (rd : Int)] 39)).heap.size = w5.heap.size + 1 by simp] at hrun
            simp only [tkL] at hrun
            have Hrun := Lib.hid hrun
            have hb8 := b7.trans b8
            have c8 : w8.cell? ⟨w5.heap.size, 1, none⟩ = some (.int .i64 0) := o8.cellOf w5.heap.size 1
            have O9 := Lib.hid (o8.cast (show _ = Bk w5.heap.size 39 _ * (Fd (X0 + 1 + 1) (.slice (some ⟨b0, o0, none⟩) b.length c) X0 (X0 + 1) (m + 1) b (m + 1) * (Rw 39 3 _ _ _ * Emp)) by ac_rfl)).right
            have He4 : Hid ((out ++ [⟨bm, 0, (rd : Int)⟩]) ++ prs b win j (m + 1) = res) := Lib.hid (by rw [List.append_assoc]; exact he3.out)
            have ho2 : (out ++ [(⟨bm, 0, (rd : Int)⟩ : Tk)]).length ≤ m + 1 := by rw [List.length_append]; simp; omega
            have Ho2 := Lib.hid ho2
            clear hrun o7 b7 o8 b8 ho2 o6 o5 B7 B6
            generalize out ++ [(⟨bm, 0, (rd : Int)⟩ : Tk)] = out2 at *
            go_wp2_with (at_builtin; refine wpList_append_run rfl (.tmp 41) (.tmp 43) 33 rfl rfl rfl Hrun.out ?_)
            go_loopg [7, 49] 0 (fun k v u wr => v = .int .i64 (m : Int) ∧ u = .int .i64 0 ∧ wr = w8)
            case atStart => exact ⟨rfl, rfl, rfl⟩
            case round =>
              obtain ⟨rfl, rfl, rfl⟩ := hrel
              go_wp2
              go_roundg j
              case measure => omega
              case rel => exact ⟨m + 1, out2, _, rfl, rfl, by omega, by have := Hm2.out; omega, Ho2.out, He4, hb8, O9.out⟩
          · have h1 : ¬ (rn : Int) < 1 := by omega
            have h0' : ((rn : Int) == 0) = false := by rw [beq_eq_false_iff_ne]; omega
            have r258 : (rn : Int) ≤ 258 := by omega
            have htk2 := Htk.out
            simp only [if_neg h0] at htk2
            subst htk2
            have he5 := he3.out
            simp only [if_neg h0] at he5
            have He4 : Hid ((out ++ [⟨0, (rn : Int), (rd : Int)⟩]) ++ prs b win j (m + rn) = res) := Lib.hid (by rw [List.append_assoc]; exact he5)
            obtain ⟨g, cap, w8, hrun, o8, b8⟩ := tok_snoc B6 (o6.foc (Rw 39 3 v out.length (flat tkL out))) ⟨0, (rn : Int), (rd : Int)⟩ (by omega)
            rw [show (w5.alloc (.cells #[.int .u8 0, .int .i64 (rn : Int), .int .i64 (rd : Int)] 39)).heap.size = w5.heap.size + 1 by simp] at hrun
            simp only [tkL, show (((0 : UInt8).toNat : Nat) : Int) = 0 from rfl] at hrun
            have Hrun := Lib.hid hrun
            have hb8 := b6.trans b8
            have c8 : w8.cell? ⟨w5.heap.size, 1, none⟩ = some (.int .i64 (rn : Int)) := o8.cellOf w5.heap.size 1
            have o9 := (o8.cast (show _ = Bk w5.heap.size 39 _ * (Fd (X0 + 1 + 1) (.slice A b.length c) X0 (X0 + 1) (m + 1) b (m + 1) * (Rw 39 3 _ _ _ * Emp)) by ac_rfl)).right
            have ho2 : (out ++ [(⟨0, (rn : Int), (rd : Int)⟩ : Tk)]).length ≤ m + rn := by rw [List.length_append]; simp; omega
            have Ho2 := Lib.hid ho2
            have B8 := Nat.le_trans B6 b8.size
            clear hrun o8 b8 ho2 o6 o5 B6 he3 he5 Htk
            generalize out ++ [(⟨0, (rn : Int), (rd : Int)⟩ : Tk)] = out2 at *
            go_wp2_with (at_builtin; refine wpList_append_run rfl (.tmp 41) (.tmp 43) 33 rfl rfl rfl Hrun.out ?_)
            generalize w5.heap.size = Y at *
            go_loopg [7, 49] (rn - 1) (fun k v u wr2 => ∃ i : Nat, k + (i + 1) = rn ∧ v = .int .i64 ((m : Int) + (i : Int)) ∧ u = .int .i64 (i : Int) ∧ Below X0 w wr2 ∧ X0 ≤ wr2.heap.size ∧ Own X0 (Fd (X0 + 1 + 1) (.slice A b.length c) X0 (X0 + 1) (m + 1 + i) b (m + 1 + i) * (Rw 39 3 (.slice (some ⟨g, 0, none⟩) out2.length cap) out2.length (flat tkL out2) * Emp)) wr2)
            case atStart => exact ⟨0, by omega, by simp, rfl, hb8, B8, o9⟩
            case round =>
              clear o9 hb8 B8 c8 b6
              obtain ⟨i, hk, rfl, rfl, hb9, B9, o10⟩ := hrel
              have i0 : (0 : Int) ≤ (i : Int) := by omega
              by_cases hi : (i : Int) < (rn : Int) - 1
              · obtain ⟨jj, rfl⟩ : ∃ jj, gk = jj + 1 := ⟨gk - 1, by omega⟩
                have hput := (fput_any (X0 + 1 + 1) X0 (X0 + 1) (m + 1 + i) A c b hbl hc (m + 1 + i) (by omega) (by omega) X0 _ wr B9 (fun w1 h1 => Hr2.out w1 (hb9.trans h1)) o10)
                rw [show (((m + 1 + i : Nat)) : Int) = (m : Int) + (i : Int) + 1 by omega] at hput
                have Hput := Lib.hid hput
                have iw : (m : Int) + (i : Int) + 1 ≤ 65536 := by omega
                clear hput o10
                go_wp2_with fail
                refine Hput.out.mono ?_
                rintro e w11 ⟨rfl, o11, b11⟩
                go_wp2
                go_roundg jj
                case measure => omega
                case rel => exact ⟨i + 1, by omega, congrArg (Value.int .i64) (by omega), rfl, hb9.trans b11, Nat.le_trans B9 b11.size, o11⟩
              · obtain rfl : rn = i + 1 := by omega
                go_wp2
                go_roundg j
                case measure => omega
                case rel => exact ⟨m + (i + 1), out2, _, rfl, by simp; omega, by omega, by have := Hm2.out; omega, Ho2.out, He4, hb9, o10.cast (by rw [show m + (i + 1) = m + 1 + i by omega])⟩
        · have he2 : out = res := by
            have := he.out
            cases gk with
            | zero => simpa [prs] using this
            | succ j => rw [prs, if_neg (by omega)] at this; simpa using this
          have He := Lib.hid he2
          clear he he2
          go_wp2
          go_ret
          exact RetTk.mk rfl He.out hX0.symm (ho.foc (Rw 39 3 v out.length (flat tkL out))) (hX0 ▸ hb)
end Go.Proofs.Ytedcficjmogohaa

/- What a reader keeps, whatever is taken: plain laws of its states. -/
namespace Go.Proofs.Ytedcficjmogohaa
set_option linter.unusedVariables false
set_option linter.unusedSimpArgs false
set_option maxRecDepth 100000
open Go.RowKit

/-- What is read of L bytes: no more is left than may be; what is missing is told. -/
structure RS.raw (L : Nat) (s : RS) : Prop where
  live : s.live
  left : s.rem.length ≤ L - 4
  err : s.e = 0 ∨ s.e = 2 ∧ s.rem = []
  short : L < 4 → s.e = 2

theorem nextS_raw {L : Nat} {s : RS} (h0 : s.rem.length ≤ L - 4) (h1 : s.e = 0 ∨ s.e = 2 ∧ s.rem = []) (h2 : L < 4 → s.e = 2) :
    (nextS s).rem.length ≤ L - 4 ∧ ((nextS s).e = 0 ∨ (nextS s).e = 2 ∧ (nextS s).rem = []) ∧ (L < 4 → (nextS s).e = 2) := by
  obtain ⟨rem, n, width, e⟩ := s
  cases rem with
  | nil => exact ⟨by simp [nextS], Or.inr ⟨rfl, rfl⟩, fun _ => rfl⟩
  | cons c l =>
    simp at h0 h1 h2
    refine ⟨by show l.length ≤ _; omega, Or.inl h1, h2⟩

theorem takeS_raw {L : Nat} {s : RS} {bound : Int} (h : s.raw L) (b0 : 65536 ≤ bound) (b1 : bound + 65536 ≤ s.width) : (takeS s bound).raw L := by
  have hl := takeS_live h.live b0 b1
  have e1 : (takeT s bound).rem = s.rem := by unfold takeT; split <;> rfl
  have e2 : (takeT s bound).e = s.e := by unfold takeT; split <;> rfl
  unfold takeS at hl ⊢
  split at hl <;> rename_i hw
  · obtain ⟨a, b, c⟩ := nextS_raw (L := L) (s := { takeT s bound with width := (takeT s bound).width * 256 }) (by show (takeT s bound).rem.length ≤ _; rw [e1]; exact h.left) (by show (takeT s bound).e = 0 ∨ (takeT s bound).e = 2 ∧ (takeT s bound).rem = []; rw [e1, e2]; exact h.err) (by show L < 4 → (takeT s bound).e = 2; rw [e2]; exact h.short)
    rw [if_pos hw]
    exact ⟨hl, a, b, c⟩
  · rw [if_neg hw]
    exact ⟨hl, by rw [e1]; exact h.left, by rw [e1, e2]; exact h.err, by rw [e2]; exact h.short⟩

theorem evenBound_in {s : RS} (h : s.live) : 65536 ≤ s.width / 2 ∧ s.width / 2 + 65536 ≤ s.width := by
  have := h.wide
  omega

theorem rEven_raw {L : Nat} : ∀ (k : Nat) (s : RS) (a : Nat), s.raw L → (rEven k s a).2.raw L
  | 0, _, _, h => h
  | k + 1, s, a, h => rEven_raw k _ _ (takeS_raw h (evenBound_in h.live).1 (evenBound_in h.live).2)
theorem rEven_lt : ∀ (k : Nat) (s : RS) (a : Nat), (rEven k s a).1 < (a + 1) * 2 ^ k
  | 0, s, a => by simp [rEven]
  | k + 1, s, a => by
    have ih := rEven_lt k (takeS s (s.width / 2)) (2 * a + (takeBit s (s.width / 2)).toNat)
    have h1 := takeBit_01 s (s.width / 2)
    have h2 : (takeBit s (s.width / 2)).toNat ≤ 1 := by omega
    have e2 : (a + 1) * 2 ^ (k + 1) = (2 * a + 2) * 2 ^ k := by rw [Nat.pow_succ, show 2 * a + 2 = (a + 1) * 2 by omega, Nat.mul_assoc, Nat.mul_comm 2 (2 ^ k)]
    rw [e2]
    exact Nat.lt_of_lt_of_le ih (Nat.mul_le_mul_right _ (by omega))
theorem rTree_raw {L : Nat} : ∀ (k : Nat) (s : RS) (cl : List Int) (a : Nat), s.raw L → chOk cl → (rTree k s cl a).2.1.raw L ∧ chOk (rTree k s cl a).2.2 ∧ (rTree k s cl a).2.2.length = cl.length
  | 0, _, _, _, h, hc => ⟨h, hc, rfl⟩
  | k + 1, s, cl, a, h, hc => by
    have hb := rBound_in h.live (chOk_get hc a)
    have h1 := takeS_raw h hb.1 hb.2
    have h2 : chOk (cl.set a (sawN (cl.getD a 0) (takeBit s (rBound s (cl.getD a 0))))) := chOk_set hc _ _ (sawN_ok _ _ (chOk_get hc a))
    obtain ⟨x, y, z⟩ := rTree_raw (L := L) k _ _ (2 * a + (takeBit s (rBound s (cl.getD a 0))).toNat) h1 h2
    exact ⟨x, y, by rw [show rTree (k + 1) s cl a = rTree k _ _ _ from rfl, z]; simp⟩

theorem openS_width (l : List Int) : (openS l).width = 4294967295 := by
  show (nextS (nextS (nextS (nextS (open0 l))))).width = _
  simp only [nextS_width]
  rfl
theorem openS_live {l : List Int} (hb : bytesOk l) : (openS l).live := by
  refine ⟨nextN_ok 4 _ ⟨hb, by show (0 : Int) ≤ 0; omega, by show (0 : Int) < 18446744073709551616; omega, by show (0 : Int) ≤ 4294967295; omega, by show (4294967295 : Int) < 4294967296; omega⟩, ?_⟩
  rw [openS_width]; decide
theorem openS_raw {l : List Int} (hb : bytesOk l) : (openS l).raw l.length := by
  refine ⟨openS_live hb, ?_, ?_, ?_⟩ <;>
  · match l with
    | [] => simp [openS, nextN, nextS, open0]
    | [a] => simp [openS, nextN, nextS, open0]
    | [a, b] => simp [openS, nextN, nextS, open0]
    | [a, b, c] => simp [openS, nextN, nextS, open0]
    | a :: b :: c :: d :: t => simp [openS, nextN, nextS, open0]
end Go.Proofs.Ytedcficjmogohaa

/- What was put is taken: plain laws of the writer's and the reader's states. -/
namespace Go.Proofs.Ytedcficjmogohaa
set_option linter.unusedVariables false
set_option linter.unusedSimpArgs false
set_option maxRecDepth 100000
open Go.RowKit

/-! bytes as a number -/
def numR : List Int → Int
  | [] => 0
  | c :: l => c + 256 * numR l
def num (l : List Int) : Int := numR l.reverse
theorem numR_append : ∀ a b : List Int, numR (a ++ b) = numR a + 256 ^ a.length * numR b
  | [], b => by simp [numR]
  | c :: a, b => by
    show c + 256 * numR (a ++ b) = c + 256 * numR a + 256 ^ (a.length + 1) * numR b
    rw [numR_append a b, Int.pow_succ, Int.mul_add, Int.mul_comm (256 ^ a.length) 256, Int.mul_assoc]
    omega
theorem num_append (a b : List Int) : num (a ++ b) = num a * 256 ^ b.length + num b := by
  unfold num
  rw [List.reverse_append, numR_append, List.length_reverse, Int.mul_comm]
  omega
theorem num_snoc (a : List Int) (c : Int) : num (a ++ [c]) = num a * 256 + c := by
  rw [num_append, show num [c] = c by show c + 256 * 0 = c; omega, show (256 : Int) ^ [c].length = 256 from rfl]
theorem p256 : ∀ n : Nat, (1 : Int) ≤ 256 ^ n
  | 0 => by rw [Int.pow_zero]; omega
  | n + 1 => by rw [Int.pow_succ]; have := p256 n; omega
theorem numR_range : ∀ l : List Int, bytesOk l → 0 ≤ numR l ∧ numR l < 256 ^ l.length
  | [], _ => by simp [numR]
  | c :: l, h => by
    have hc := h c List.mem_cons_self
    have ih := numR_range l (fun x hx => h x (List.mem_cons_of_mem _ hx))
    show 0 ≤ c + 256 * numR l ∧ c + 256 * numR l < 256 ^ (l.length + 1)
    rw [Int.pow_succ]
    generalize (256 : Int) ^ l.length = P at ih
    omega
theorem bytesOk_rev {l : List Int} (h : bytesOk l) : bytesOk l.reverse := fun x hx => h x (List.mem_reverse.1 hx)
theorem num_range {l : List Int} (h : bytesOk l) : 0 ≤ num l ∧ num l < 256 ^ l.length := by
  have := numR_range l.reverse (bytesOk_rev h)
  rwa [List.length_reverse] at this
theorem numR_carry : ∀ l : List Int, bytesOk l → numR (carryR l) = numR l + 1 ∨ numR l + 1 = 256 ^ l.length
  | [], _ => by right; simp [numR]
  | c :: l, h => by
    have ih := numR_carry l (fun x hx => h x (List.mem_cons_of_mem _ hx))
    unfold carryR
    split
    · rename_i hc
      subst hc
      show (0 + 256 * numR (carryR l) = 255 + 256 * numR l + 1) ∨ (255 + 256 * numR l + 1 = 256 ^ (l.length + 1))
      rw [Int.pow_succ]
      generalize (256 : Int) ^ l.length = P at ih
      omega
    · left
      show c + 1 + 256 * numR l = c + 256 * numR l + 1
      omega
theorem num_carry {l : List Int} (h : bytesOk l) (hn : num l + 1 < 256 ^ l.length) : num (carryL l) = num l + 1 := by
  unfold num carryL
  rw [List.reverse_reverse]
  rcases numR_carry l.reverse (bytesOk_rev h) with h1 | h1
  · exact h1
  · rw [List.length_reverse] at h1
    unfold num at hn
    omega

/-! the place of a state among all numbers -/
def Lr (r : RW) : Int := num r.out * 4294967296 + r.low
structure RW.good (r : RW) (room : Int) : Prop where
  ok : r.ok room
  fit : Lr r + r.width ≤ 256 ^ (r.out.length + 4)
theorem p256_4 (n : Nat) : (256 : Int) ^ (n + 4) = 256 ^ n * 4294967296 := by
  rw [Int.pow_succ, Int.pow_succ, Int.pow_succ, Int.pow_succ, Int.mul_assoc, Int.mul_assoc, Int.mul_assoc]
  rfl

/-- The end's number lies where the state says. -/
def Pt (r rT : RW) : Prop := ∃ d : Nat, rT.out.length = r.out.length + d ∧ Lr r * 256 ^ d ≤ Lr rT ∧ Lr rT < (Lr r + r.width) * 256 ^ d
theorem Pt.self {r : RW} (h : 0 < r.width) : Pt r r := ⟨0, rfl, by simp, by simp; omega⟩

theorem mid_parts {r : RW} {b : Int} (bit : Int) {room : Int} (g : r.good (room + 1)) (b0 : 65536 ≤ b) (b1 : b + 65536 ≤ r.width) :
    Lr (rcarry (rput1 r b bit)) = (if bit = 0 then Lr r else Lr r + b) ∧ (rcarry (rput1 r b bit)).width = (if bit = 0 then b else r.width - b) ∧ (rcarry (rput1 r b bit)).out.length = r.out.length := by
  obtain ⟨⟨ob, ol, l0, l1, w0, w1, sm⟩, fit⟩ := g
  obtain ⟨out, low, width⟩ := r
  simp only [Lr] at *
  rw [p256_4] at fit
  by_cases hbit : bit = 0
  · rw [if_pos hbit, if_pos hbit]
    have e : rcarry (rput1 ⟨out, low, width⟩ b bit) = ⟨out, low, b⟩ := by unfold rcarry rput1; rw [if_pos hbit, if_neg (by show ¬ 4294967296 ≤ low; omega)]
    rw [e]
    exact ⟨rfl, rfl, rfl⟩
  · rw [if_neg hbit, if_neg hbit]
    by_cases hcar : 4294967296 ≤ low + b
    · have e : rcarry (rput1 ⟨out, low, width⟩ b bit) = ⟨carryL out, low + b - 4294967296, width - b⟩ := by unfold rcarry rput1; rw [if_neg hbit, if_pos (by show 4294967296 ≤ low + b; omega)]
      rw [e]
      have hc := num_carry ob (by generalize (256 : Int) ^ out.length = P at fit ⊢; omega)
      refine ⟨?_, rfl, carryL_len out⟩
      show num (carryL out) * 4294967296 + (low + b - 4294967296) = _
      rw [hc]
      omega
    · have e : rcarry (rput1 ⟨out, low, width⟩ b bit) = ⟨out, low + b, width - b⟩ := by unfold rcarry rput1; rw [if_neg hbit, if_neg (by show ¬ 4294967296 ≤ low + b; omega)]
      rw [e]
      refine ⟨?_, rfl, rfl⟩
      show num out * 4294967296 + (low + b) = _
      omega

theorem norm_parts {r : RW} (h0 : 0 ≤ r.low) : (r.width < 16777216 → Lr (rnorm r) = Lr r * 256 ∧ (rnorm r).width = r.width * 256 ∧ (rnorm r).out.length = r.out.length + 1) ∧ (¬ r.width < 16777216 → rnorm r = r) := by
  constructor
  · intro h
    unfold rnorm
    rw [if_pos h]
    refine ⟨?_, rfl, by simp⟩
    show num (r.out ++ [r.low / 16777216]) * 4294967296 + r.low % 16777216 * 256 = (num r.out * 4294967296 + r.low) * 256
    rw [num_snoc]
    omega
  · intro h
    unfold rnorm
    rw [if_neg h]

theorem put_good {r : RW} {b : Int} (bit : Int) {room : Int} (g : r.good (room + 1)) (b0 : 65536 ≤ b) (b1 : b + 65536 ≤ r.width) : (rput r b bit).good room := by
  refine ⟨(rput_ok bit g.ok b0 b1).1, ?_⟩
  obtain ⟨m1, m2, m3⟩ := mid_parts bit g b0 b1
  have hf := (rput1_facts bit g.ok b0 b1).1.low0
  have fit := g.fit
  have hle : Lr (rcarry (rput1 r b bit)) + (rcarry (rput1 r b bit)).width ≤ 256 ^ (r.out.length + 4) := by
    rw [m1, m2]
    split <;> omega
  obtain ⟨n1, n2⟩ := norm_parts hf
  unfold rput
  by_cases hw : (rcarry (rput1 r b bit)).width < 16777216
  · obtain ⟨e1, e2, e3⟩ := n1 hw
    rw [e1, e2, e3, m3, show r.out.length + 1 + 4 = (r.out.length + 4) + 1 by omega, Int.pow_succ]
    generalize (256 : Int) ^ (r.out.length + 4) = P at hle
    omega
  · rw [n2 hw, m3]
    exact hle

/-- Behind a bit: where the end's number lies ahead of it, and on which side. -/
theorem pt_mid {r rT : RW} {b : Int} (bit : Int) {room : Int} (g : r.good (room + 1)) (b0 : 65536 ≤ b) (b1 : b + 65536 ≤ r.width) (h : Pt (rput r b bit) rT) :
    ∃ d : Nat, rT.out.length = r.out.length + d ∧ Lr (rcarry (rput1 r b bit)) * 256 ^ d ≤ Lr rT ∧ Lr rT < (Lr (rcarry (rput1 r b bit)) + (rcarry (rput1 r b bit)).width) * 256 ^ d ∧ ((rcarry (rput1 r b bit)).width < 16777216 → 0 < d) := by
  obtain ⟨m1, m2, m3⟩ := mid_parts bit g b0 b1
  have hf := (rput1_facts bit g.ok b0 b1).1.low0
  obtain ⟨n1, n2⟩ := norm_parts hf
  obtain ⟨d, hd, h1, h2⟩ := h
  unfold rput at hd h1 h2
  by_cases hw : (rcarry (rput1 r b bit)).width < 16777216
  · obtain ⟨e1, e2, e3⟩ := n1 hw
    rw [e3, m3] at hd
    rw [e1] at h1
    rw [e1, e2, ← Int.add_mul] at h2
    refine ⟨d + 1, by omega, ?_, ?_, fun _ => by omega⟩
    · rw [Int.pow_succ, Int.mul_comm (256 ^ d) 256, ← Int.mul_assoc]; exact h1
    · rw [Int.pow_succ, Int.mul_comm (256 ^ d) 256, ← Int.mul_assoc]; exact h2
  · rw [n2 hw] at hd h1 h2
    rw [m3] at hd
    exact ⟨d, hd, h1, h2, fun h => absurd h hw⟩
theorem pt_back {r rT : RW} {b : Int} (bit : Int) {room : Int} (g : r.good (room + 1)) (b0 : 65536 ≤ b) (b1 : b + 65536 ≤ r.width) (h : Pt (rput r b bit) rT) : Pt r rT := by
  obtain ⟨d, hd, h1, h2, _⟩ := pt_mid bit g b0 b1 h
  obtain ⟨m1, m2, m3⟩ := mid_parts bit g b0 b1
  have hp := p256 d
  refine ⟨d, hd, ?_, ?_⟩
  · refine Int.le_trans (Int.mul_le_mul_of_nonneg_right ?_ (by omega)) h1
    rw [m1]; split <;> omega
  · refine Int.lt_of_lt_of_le h2 (Int.mul_le_mul_of_nonneg_right ?_ (by omega))
    rw [m1, m2]; split <;> omega

/-- A reader stands where the writer stood. -/
structure Dec (r : RW) (q : RS) (fb : List Int) : Prop where
  pre : ∃ pre, fb = pre ++ q.rem ∧ pre.length = r.out.length + 4 ∧ num pre = Lr r + q.n
  width : q.width = r.width
  e : q.e = 0
  live : q.live

theorem num_rend {rT : RW} (h0 : 0 ≤ rT.low) (h1 : rT.low < 4294967296) : num (rend rT) = Lr rT := by
  unfold rend Lr
  rw [num_append]
  have : num [rT.low / 16777216, rT.low / 65536 % 256, rT.low / 256 % 256, rT.low % 256] = rT.low := by
    show rT.low % 256 + 256 * (rT.low / 256 % 256 + 256 * (rT.low / 65536 % 256 + 256 * (rT.low / 16777216 + 256 * 0))) = rT.low
    omega
  rw [this]
  show num rT.out * (256 : Int) ^ 4 + rT.low = _
  rw [show (256 : Int) ^ 4 = 4294967296 by decide]

theorem dec_step {r rT : RW} {q : RS} {b bit : Int} {room roomT : Int} (g : r.good (room + 1)) (gT : rT.ok roomT) (b0 : 65536 ≤ b) (b1 : b + 65536 ≤ r.width) (hbit : bit = 0 ∨ bit = 1) (hp : Pt (rput r b bit) rT) (hd : Dec r q (rend rT)) :
    takeBit q b = bit ∧ Dec (rput r b bit) (takeS q b) (rend rT) := by
  obtain ⟨d, hdl, p1, p2, p3⟩ := pt_mid bit g b0 b1 hp
  obtain ⟨m1, m2, m3⟩ := mid_parts bit g b0 b1
  have hf := (rput1_facts bit g.ok b0 b1).1.low0
  obtain ⟨n1, n2⟩ := norm_parts hf
  obtain ⟨⟨pre, e1, e2, e3⟩, hw, he, hl⟩ := hd
  have hnum := num_rend gT.low0 gT.low1
  have hlen : (rend rT).length = rT.out.length + 4 := by simp [rend]
  have hrem : q.rem.length = d := by
    rw [e1, List.length_append] at hlen
    omega
  have hrb := num_range (l := q.rem) hl.ok.bytes
  rw [e1, num_append, hrem] at hnum
  rw [hrem] at hrb
  have hq := p256 d
  generalize hQ : (256 : Int) ^ d = Q at *
  have hlow : ∀ x : Int, x * Q ≤ Lr rT → x ≤ num pre := fun x hx => by
    by_cases h : x ≤ num pre
    · exact h
    · have := Int.mul_le_mul_of_nonneg_right (show num pre + 1 ≤ x by omega) (show 0 ≤ Q by omega)
      rw [Int.add_mul] at this
      omega
  have hupp : ∀ x : Int, Lr rT < x * Q → num pre < x := fun x hx => by
    by_cases h : num pre < x
    · exact h
    · have := Int.mul_le_mul_of_nonneg_right (show x ≤ num pre by omega) (show 0 ≤ Q by omega)
      omega
  have k1 := hlow _ p1
  have k2 := hupp _ p2
  have hbitq : takeBit q b = bit := by
    unfold takeBit
    rw [m1, m2] at k2
    rw [m1] at k1
    rcases hbit with rfl | rfl
    · simp only [if_true] at k2
      rw [if_pos (by omega)]
    · rw [if_neg (by decide)] at k1
      rw [if_neg (by omega)]
  refine ⟨hbitq, ?_⟩
  have hlive : (takeS q b).live := takeS_live hl b0 (by rw [hw]; exact b1)
  have t1 : (takeT q b).width = (rcarry (rput1 r b bit)).width ∧ num pre = Lr (rcarry (rput1 r b bit)) + (takeT q b).n ∧ (takeT q b).rem = q.rem ∧ (takeT q b).e = q.e := by
    unfold takeBit at hbitq
    unfold takeT
    rw [m1, m2]
    rcases hbit with rfl | rfl
    · split at hbitq
      · rename_i h
        rw [if_pos h, if_pos rfl, if_pos rfl]
        exact ⟨rfl, e3, rfl, rfl⟩
      · cases hbitq
    · split at hbitq
      · cases hbitq
      · rename_i h
        rw [if_neg h, if_neg (by decide), if_neg (by decide)]
        exact ⟨by show q.width - b = _; rw [hw], by show num pre = Lr r + b + (q.n - b); omega, rfl, rfl⟩
  obtain ⟨t1, t2, t3, t4⟩ := t1
  unfold takeS at hlive ⊢
  unfold rput
  by_cases hsm : (rcarry (rput1 r b bit)).width < 16777216
  · obtain ⟨x1, x2, x3⟩ := n1 hsm
    rw [if_pos (by rw [t1]; exact hsm)] at hlive ⊢
    have hd0 := p3 hsm
    obtain ⟨c, rem', hc⟩ : ∃ c rem', q.rem = c :: rem' := by
      cases hr : q.rem with
      | nil => rw [hr] at hrem; simp at hrem; omega
      | cons c l => exact ⟨c, l, rfl⟩
    have hn0 : 0 ≤ (takeT q b).n := by omega
    have htk : tkN q b = { takeT q b with width := (takeT q b).width * 256, rem := rem', n := (takeT q b).n * 256 % 18446744073709551616 + c } := by
      unfold tkN nextS
      show (match (takeT q b).rem with | [] => _ | c :: l => _) = _
      rw [t3, hc]
    rw [htk] at hlive ⊢
    refine ⟨⟨pre ++ [c], by rw [e1, hc]; simp, by rw [List.length_append, x3, m3, e2]; show r.out.length + 4 + 1 = _; omega, ?_⟩, by rw [x2, ← t1], by show (takeT q b).e = 0; rw [t4]; exact he, hlive⟩
    rw [num_snoc, x1]
    show num pre * 256 + c = _ + ((takeT q b).n * 256 % 18446744073709551616 + c)
    rw [Int.emod_eq_of_lt (by omega) (by omega)]
    omega
  · rw [n2 hsm]
    rw [if_neg (by rw [t1]; exact hsm)] at hlive ⊢
    exact ⟨⟨pre, by rw [t3]; exact e1, by rw [m3]; exact e2, t2⟩, t1, by rw [t4]; exact he, hlive⟩
end Go.Proofs.Ytedcficjmogohaa

/- The arguments of a law, as its walk wants them. -/
namespace Go.Proofs.Ytedcficjmogohaa
set_option linter.unusedVariables false
set_option linter.unusedSimpArgs false
set_option maxRecDepth 100000
open Go.RowKit Go.Deep Go.ChangeShapes Go.WideShapes

section
variable {H : Type} {enc : TypeId × Value → H} {P : Program} {W : World} {base : Nat} {spare : Nat → Bool} {held : Bool}

/-- A slice of one-cell elements that came in, by what each element's own reading gives. -/
theorem rd_slice1 {α : Type} [Inhabited α] (f : α → Value) (ok : α → Prop) {t e : TypeId} {v : Value} {d : DataW H} {p : List MemPlace} (ht : P.underlying t = some (.slice e)) (hC : P.cellsOf e = 1)
    (hel : ∀ (fuel : Nat) (u : Value) (y : DataW H × List MemPlace), DataW.trod enc P W base spare held fuel e [u] = some y → ∃ a, u = f a ∧ ok a)
    (hv : ∃ A n c, v = .slice A n c) (h : DataW.Trod enc P W base spare held t v d p) : ∃ (A : Option Addr) (l : List α) (c : Nat), v = .slice A l.length c ∧ Rd W v (l.map f) ∧ l.length ≤ c ∧ c ≤ maxLen ∧ ∀ a ∈ l, ok a := by
  obtain ⟨A, n, c, rfl⟩ := hv
  obtain ⟨fuel, hf⟩ := h
  rcases open_slice1 ht hC hf with ⟨hcs, _⟩ | ⟨a, len, cap, m, k, V, D, Pl, hcs, hb, hl, hm, hmm, hx, hi⟩
  · simp [Value.cells] at hcs
    obtain ⟨rfl, rfl, rfl⟩ := hcs
    exact ⟨none, [], 0, rfl, Rd.nil W, Nat.le_refl _, by unfold maxLen; omega, by simp⟩
  · simp [Value.cells] at hcs
    obtain ⟨rfl, rfl, rfl⟩ := hcs
    have hlm : n ≤ m := by rw [hmm]; split <;> omega
    obtain ⟨g, hg⟩ := choose_lt (n := n) (p := fun i a => V i = f a ∧ ok a) (fun i hin => hel k (V i) _ (hi i (by omega)).2)
    refine ⟨some a, (List.range n).map g, c, by simp, ⟨some a, c, by simp, fun _ => ⟨a, rfl, fun j u hu => ?_⟩⟩, by simpa using hl, hm, ?_⟩
    · have hj : j < n := by
        have := (List.getElem?_eq_some_iff.1 hu).1
        simpa using this
      have e : (((List.range n).map g).map f)[j]? = some (f (g j)) := by simp [hj]
      rw [e] at hu
      injection hu with hu
      subst hu
      rw [(hi j (by omega)).1, (hg j hj).1]
    · intro x hx
      obtain ⟨i, hir, rfl⟩ := List.mem_map.1 hx
      exact (hg i (List.mem_range.1 hir)).2

theorem rd_bools {t e : TypeId} {v : Value} {d : DataW H} {p : List MemPlace} (ht : P.underlying t = some (.slice e)) (he : P.underlying e = some .bool) (hC : P.cellsOf e = 1)
    (hv : ∃ A n c, v = .slice A n c) (h : DataW.Trod enc P W base spare held t v d p) : ∃ (A : Option Addr) (l : List Bool) (c : Nat), v = .slice A l.length c ∧ Rd W v (l.map Value.bool) ∧ l.length ≤ c ∧ c ≤ maxLen ∧ ∀ a ∈ l, True :=
  rd_slice1 Value.bool (fun _ => True) ht hC (fun fuel u y hy => by
    obtain ⟨b, hb, _⟩ := DataW.trod_bool he hy
    exact ⟨b, by simpa using hb, trivial⟩) hv h
theorem rd_ints {k : IntKind} {t e : TypeId} {v : Value} {d : DataW H} {p : List MemPlace} (ht : P.underlying t = some (.slice e)) (he : P.underlying e = some (.int k)) (hC : P.cellsOf e = 1)
    (hv : ∃ A n c, v = .slice A n c) (h : DataW.Trod enc P W base spare held t v d p) : ∃ (A : Option Addr) (l : List Int) (c : Nat), v = .slice A l.length c ∧ Rd W v (l.map (Value.int k)) ∧ l.length ≤ c ∧ c ≤ maxLen ∧ ∀ a ∈ l, (Lit.int k a).wf = true :=
  rd_slice1 (Value.int k) (fun a => (Lit.int k a).wf = true) ht hC (fun fuel u y hy => by
    obtain ⟨n, hn, _, hw⟩ := DataW.trod_int he hy
    exact ⟨n, by simpa using hn, hw⟩) hv h
end
end Go.Proofs.Ytedcficjmogohaa

/- The steps that a law of package coder is asked for, as its walk wants them. -/
namespace Go.Proofs.Ytedcficjmogohaa
set_option linter.unusedVariables false
set_option linter.unusedSimpArgs false
set_option maxRecDepth 100000
open Go.RowKit Go.Deep Go.ChangeShapes Go.WideShapes

/-- A step's four numbers. -/
structure Dn where
  verb : Int
  k : Int
  n : Int
  bits : Int
instance : Inhabited Dn := ⟨⟨0, 0, 0, 0⟩⟩
def Dn.cell (d : Dn) : Nat → Int
  | 0 => d.verb
  | 1 => d.k
  | 2 => d.n
  | _ => d.bits
def Dn.ok (d : Dn) : Prop := ∀ j, -9223372036854775808 ≤ d.cell j ∧ d.cell j ≤ 9223372036854775807

/-- A slice of steps, as it lies. -/
def RdDo (W : World) (v : Value) (l : List Dn) : Prop := ∃ (A : Option Addr) (c : Nat), v = .slice A l.length c ∧ ∀ i d, l[i]? = some d → ∃ b off, A = some ⟨b, off, none⟩ ∧ ∀ j, j < 4 → W.cell? ⟨b, off + (i * 4 + j), none⟩ = some (.int .i64 (d.cell j))

theorem RdDo.at_ {w : World} {A : Option Addr} {n c : Nat} {l : List Dn} (h : RdDo w (.slice A n c) l) : l.length = n ∧ ∀ i, i < n → ∃ b off d, A = some ⟨b, off, none⟩ ∧ l[i]? = some d ∧ ∀ j, j < 4 → w.cell? ⟨b, off + (i * 4 + j), none⟩ = some (.int .i64 (d.cell j)) := by
  obtain ⟨A', c', hv, hr⟩ := h
  injection hv with h1 h2 h3
  subst h1; subst h2; subst h3
  refine ⟨rfl, fun i hi => ?_⟩
  obtain ⟨b, off, ha, hc⟩ := hr i _ (List.getElem?_eq_getElem hi)
  exact ⟨b, off, _, ha, List.getElem?_eq_getElem hi, hc⟩

section
variable {H : Type} {enc : TypeId × Value → H} {P : Program} {w : World} {base : Nat} {spare : Nat → Bool} {held : Bool}
theorem open_slice_fields {t e : TypeId} {fs : Array Field} {fuel : Nat} {cs : List Value} {x : DataW H × List MemPlace} (ht : P.underlying t = some (.slice e)) (he : P.underlying e = some (.struct fs))
    (hone : oneCellFields P fs = true) (hC : P.cellsOf e = fs.size) (h : DataW.trod enc P w base spare held fuel t cs = some x) :
    (cs = [.slice none 0 0] ∧ x = (.nil, [])) ∨
    ∃ (a : Addr) (len cap m : Nat), cs = [.slice (some a) len cap] ∧ base ≤ a.block ∧ len ≤ cap ∧ cap ≤ maxLen ∧ m = (if spare a.block then cap else len) ∧
      ∀ i, i < m → ∃ n : Nat, ∀ (j : Nat) (f : Field), fs[j]? = some f → ∃ (v : Value) (y : DataW H × List MemPlace), w.cell? (a.add (i * fs.size + j)) = some v ∧ DataW.trod enc P w base spare held n f.type [v] = some y := by
  rcases open_slice ht h with h0 | ⟨a, len, cap, m, n, D, Pl, hcs, hb, hl, hm, hmm, hx, hi⟩
  · exact .inl h0
  · refine .inr ⟨a, len, cap, m, hcs, hb, hl, hm, hmm, fun i him => ?_⟩
    obtain ⟨cs', hc, ht'⟩ := hi i him
    rw [hC] at hc
    obtain ⟨ys, n', hn', hy, hlen, hyl, hf⟩ := DataW.trod_struct he ht'
    obtain ⟨_, hcl, hat⟩ := World.cells?_some hc
    refine ⟨n', fun j f hj => ?_⟩
    obtain ⟨ho, hk⟩ := hone_of hone j f hj
    have hjl : j < fs.size := (Array.getElem?_eq_some_iff.1 hj).1
    have hcell := hat j hjl
    have hv : cs'[j]? = some (cs'[j]'(by omega)) := List.getElem?_eq_getElem (by omega)
    have h1 := hf j f hj
    rw [ho, hk] at h1
    have hone' : (cs'.drop j).take 1 = [cs'[j]'(by omega)] := by
      rw [List.drop_eq_getElem_cons (by omega)]
      rfl
    rw [hone'] at h1
    have hys : ys[j]? = some (ys[j]'(by omega)) := List.getElem?_eq_getElem (by omega)
    refine ⟨_, _, ?_, h1.trans hys⟩
    rw [← Go.Deep.add_add, hcell, hv]

/-- A slice of steps that came in. -/
theorem rd_dos {t e ti : TypeId} {f0 f1 f2 f3 : Field} {v : Value} {d : DataW H} {p : List MemPlace} (ht : P.underlying t = some (.slice e)) (he : P.underlying e = some (.struct #[f0, f1, f2, f3])) (hone : oneCellFields P #[f0, f1, f2, f3] = true) (hC : P.cellsOf e = 4)
    (hti : P.underlying ti = some (.int .i64)) (h0 : f0.type = ti) (h1 : f1.type = ti) (h2 : f2.type = ti) (h3 : f3.type = ti)
    (hv : ∃ A n c, v = .slice A n c) (h : DataW.Trod enc P w base spare held t v d p) : ∃ (A : Option Addr) (l : List Dn) (c : Nat), v = .slice A l.length c ∧ RdDo w v l ∧ l.length ≤ c ∧ c ≤ maxLen ∧ ∀ a ∈ l, a.ok := by
  obtain ⟨A, n, c, rfl⟩ := hv
  obtain ⟨fuel, hf⟩ := h
  rcases open_slice_fields ht he hone hC hf with ⟨hcs, _⟩ | ⟨a, len, cap, m, hcs, hb, hl, hm, hmm, hi⟩
  · simp [Value.cells] at hcs
    obtain ⟨rfl, rfl, rfl⟩ := hcs
    exact ⟨none, [], 0, rfl, ⟨none, 0, rfl, by simp⟩, Nat.le_refl _, by unfold maxLen; omega, by simp⟩
  · simp [Value.cells] at hcs
    obtain ⟨rfl, rfl, rfl⟩ := hcs
    have hlm : n ≤ m := by rw [hmm]; split <;> omega
    have hel : ∀ i, i < n → ∃ q : Dn, (∀ j, j < 4 → w.cell? (a.add (i * 4 + j)) = some (.int .i64 (q.cell j))) ∧ q.ok := by
      intro i hin
      obtain ⟨n', hfs⟩ := hi i (by omega)
      have g : ∀ (j : Nat) (f : Field), (#[f0, f1, f2, f3] : Array Field)[j]? = some f → f.type = ti → ∃ z : Int, w.cell? (a.add (i * 4 + j)) = some (.int .i64 z) ∧ (-9223372036854775808 ≤ z ∧ z ≤ 9223372036854775807) := by
        intro j f hj hft
        obtain ⟨u, y, hc, hy⟩ := hfs j f hj
        obtain ⟨z, hz, _, hw⟩ := DataW.trod_int (k := .i64) (by rw [hft]; exact hti) hy
        simp at hz
        subst hz
        exact ⟨z, hc, by have := hw; simp [Lit.wf, IntKind.min, IntKind.max, IntKind.signed, IntKind.bits] at this; omega⟩
      obtain ⟨z0, c0, w0⟩ := g 0 f0 rfl h0
      obtain ⟨z1, c1, w1⟩ := g 1 f1 rfl h1
      obtain ⟨z2, c2, w2⟩ := g 2 f2 rfl h2
      obtain ⟨z3, c3, w3⟩ := g 3 f3 rfl h3
      refine ⟨⟨z0, z1, z2, z3⟩, fun j hj => ?_, fun j => ?_⟩
      · match j, hj with
        | 0, _ => exact c0
        | 1, _ => exact c1
        | 2, _ => exact c2
        | 3, _ => exact c3
      · match j with
        | 0 => exact w0
        | 1 => exact w1
        | 2 => exact w2
        | j + 3 => exact w3
    by_cases hn : n = 0
    · subst hn
      exact ⟨some a, [], c, rfl, ⟨some a, c, rfl, by simp⟩, Nat.zero_le _, hm, by simp⟩
    have hsp : a.spot = none := by
      obtain ⟨q, hq, _⟩ := hel 0 (by omega)
      have := World.cell?_spot (hq 0 (by omega))
      simpa [Addr.add] using this
    obtain ⟨b, off, spot⟩ := a
    simp only at hsp
    subst hsp
    obtain ⟨g, hg⟩ := choose_lt (n := n) (α := Dn) (p := fun i q => (∀ j, j < 4 → w.cell? ((⟨b, off, none⟩ : Addr).add (i * 4 + j)) = some (.int .i64 (q.cell j))) ∧ q.ok) hel
    refine ⟨some ⟨b, off, none⟩, (List.range n).map g, c, by simp, ⟨some ⟨b, off, none⟩, c, by simp, fun i d hd => ⟨b, off, rfl, fun j hj => ?_⟩⟩, by simpa using hl, hm, ?_⟩
    · have hin : i < n := by
        have := (List.getElem?_eq_some_iff.1 hd).1
        simpa using this
      have e : ((List.range n).map g)[i]? = some (g i) := by simp [hin]
      rw [e] at hd
      injection hd with hd
      subst hd
      have := (hg i hin).1 j hj
      rwa [Addr.add_lit] at this
    · intro x hx
      obtain ⟨i, hir, rfl⟩ := List.mem_map.1 hx
      exact (hg i (List.mem_range.1 hir)).2
end
end Go.Proofs.Ytedcficjmogohaa

/- What was put is taken: the steps of a law, by the law of one bit. -/
namespace Go.Proofs.Ytedcficjmogohaa
set_option linter.unusedVariables false
set_option linter.unusedSimpArgs false
set_option maxRecDepth 100000
open Go.RowKit

def rOf (s : WS) : RW := ⟨s.told, s.low % 4294967296, s.width⟩
theorem rel_rOf (s : WS) : Rel s (rOf s) := ⟨rfl, rfl, rfl⟩
theorem rel_eq {s : WS} {r : RW} (h : Rel s r) : rOf s = r := by
  obtain ⟨out, low, width⟩ := r
  obtain ⟨h1, h2, h3⟩ := h
  simp only at h1 h2 h3
  unfold rOf
  rw [h1, h2, h3]

structure WS.gd (s : WS) (room : Int) : Prop where
  live : s.live room
  calm : s.calm
  good : (rOf s).good room
theorem WS.gd.less {s : WS} {r r' : Int} (h : s.gd r) (hr : r' ≤ r) : s.gd r' :=
  ⟨h.live.less hr, h.calm, ⟨⟨h.good.ok.bytes, by have := h.good.ok.len; omega, h.good.ok.low0, h.good.ok.low1, h.good.ok.width0, h.good.ok.width1, h.good.ok.sum⟩, h.good.fit⟩⟩
theorem putS_gd {s : WS} {b : Int} (bit : Int) {room : Int} (hr : 0 ≤ room) (g : s.gd (room + 1)) (b0 : 65536 ≤ b) (b1 : b + 65536 ≤ s.width) : (putS s b bit).gd room ∧ rOf (putS s b bit) = rput (rOf s) b bit := by
  obtain ⟨h1, h2⟩ := put_rel bit g.live g.calm (rel_rOf s) b0 b1
  have e := rel_eq h1
  exact ⟨⟨putS_live bit hr g.live b0 b1, h2, by rw [e]; exact put_good bit g.good b0 b1⟩, e⟩
theorem begin0_gd (r : Int) (h0 : 0 ≤ r) (h1 : r ≤ 1099511627776) : begin0.gd r := by
  refine ⟨begin0_live r h1 h0, begin_rel.2, ?_⟩
  rw [rel_eq begin_rel.1]
  exact ⟨⟨by intro c hc; simp at hc, by show ((0 : Nat) : Int) + r ≤ _; omega, by show (0 : Int) ≤ 0; omega, by show (0 : Int) < 4294967296; omega, by show (0 : Int) ≤ 4294967295; omega, by show (4294967295 : Int) < 4294967296; omega, by show (0 : Int) + 4294967295 < 8589934592; omega⟩, by show (0 : Int) * 4294967296 + 0 + 4294967295 ≤ (256 : Int) ^ 4; decide⟩

/-- The number that bits make, behind a. -/
def val : Nat → List Int → Nat
  | a, [] => a
  | a, b :: l => val (2 * a + b.toNat) l
def bitsL (l : List Int) : Prop := ∀ b ∈ l, b = 0 ∨ b = 1
theorem bitsOf_bits (n : Int) (m : Nat) : bitsL (bitsOf n m) := by
  intro b hb
  obtain ⟨k, _, rfl⟩ := List.mem_map.1 hb
  exact bitOf_01 n k
theorem mod_pow_succ (n : Int) (m : Nat) : n % 2 ^ (m + 1) = bitOf n m * 2 ^ m + n % 2 ^ m := by
  have hp : (0 : Int) < 2 ^ m := by
    have : ∀ k : Nat, (0 : Int) < 2 ^ k := fun k => by
      induction k with
      | zero => decide
      | succ k ih => rw [Int.pow_succ]; omega
    exact this m
  have h1 := Int.emod_nonneg n (Int.ne_of_gt hp)
  have h2 := Int.emod_lt_of_pos n hp
  have h3 := Int.mul_ediv_add_emod n (2 ^ m)
  have hb : bitOf n m = n / 2 ^ m % 2 := rfl
  have h4 : n / 2 ^ m = 2 * (n / 2 ^ m / 2) + bitOf n m := by rw [hb]; omega
  have hb01 := bitOf_01 n m
  rw [Int.pow_succ]
  generalize n / 2 ^ m / 2 = z at h4
  generalize bitOf n m = b at h4 hb01 ⊢
  generalize hq : n / 2 ^ m = q at h3 h4
  generalize hy : n % 2 ^ m = y at h1 h2 h3 ⊢
  generalize (2 : Int) ^ m = P at hp h1 h2 h3 ⊢
  have e : n = (b * P + y) + (P * 2) * z := by
    rw [← h3, h4, Int.mul_add, Int.mul_comm P b, ← Int.mul_assoc, Int.mul_comm]
    have : P * 2 * z = z * (P * 2) := Int.mul_comm _ _
    omega
  rw [e, Int.add_mul_emod_self_left]
  rcases hb01 with rfl | rfl
  · exact Int.emod_eq_of_lt (by omega) (by omega)
  · exact Int.emod_eq_of_lt (by omega) (by omega)
theorem val_bitsOf (n : Int) : ∀ (m a : Nat), ((val a (bitsOf n m) : Nat) : Int) = (a : Int) * 2 ^ m + n % 2 ^ m
  | 0, a => by
    show ((a : Nat) : Int) = _
    rw [Int.pow_zero]
    omega
  | m + 1, a => by
    rw [bitsOf_succ]
    show ((val (2 * a + (bitOf n m).toNat) (bitsOf n m) : Nat) : Int) = _
    rw [val_bitsOf n m, mod_pow_succ, Int.pow_succ]
    have hb := bitOf_01 n m
    generalize bitOf n m = b at hb ⊢
    generalize n % 2 ^ m = y
    generalize (2 : Int) ^ m = P
    have e : ((2 * a + b.toNat : Nat) : Int) = 2 * (a : Int) + b := by omega
    rw [e, Int.add_mul]
    have : (a : Int) * (P * 2) = 2 * (a : Int) * P := by rw [Int.mul_comm P 2, ← Int.mul_assoc, Int.mul_comm (a : Int) 2]
    omega

theorem ev_in {s : WS} {room : Int} (h : s.gd room) : 65536 ≤ s.width / 2 ∧ s.width / 2 + 65536 ≤ s.width := by have := h.live.wide; omega

theorem even_gd : ∀ (l : List Int) (s : WS) (room : Int), 0 ≤ room → s.gd (room + l.length) → (evenS s l).gd room
  | [], s, room, _, h => by simpa [evenS] using h
  | b :: l, s, room, hr, h => by
    have e : room + ((b :: l).length : Int) = (room + l.length) + 1 := by simp; omega
    rw [e] at h
    exact even_gd l _ room hr (putS_gd b (by omega) h (ev_in h).1 (ev_in h).2).1
theorem even_pt {rT : RW} : ∀ (l : List Int) (s : WS) (room : Int), 0 ≤ room → s.gd (room + l.length) → Pt (rOf (evenS s l)) rT → Pt (rOf s) rT
  | [], s, room, _, _, h => h
  | b :: l, s, room, hr, g, h => by
    have e : room + ((b :: l).length : Int) = (room + l.length) + 1 := by simp; omega
    rw [e] at g
    obtain ⟨g1, e1⟩ := putS_gd b (by omega) g (ev_in g).1 (ev_in g).2
    have := even_pt l _ room hr g1 h
    rw [e1] at this
    exact pt_back b g.good (ev_in g).1 (ev_in g).2 this
theorem even_dec {rT : RW} {roomT : Int} (gT : rT.ok roomT) : ∀ (l : List Int) (s : WS) (q : RS) (a : Nat) (room : Int), 0 ≤ room → bitsL l → s.gd (room + l.length) → Pt (rOf (evenS s l)) rT → Dec (rOf s) q (rend rT) →
    (rEven l.length q a).1 = val a l ∧ Dec (rOf (evenS s l)) (rEven l.length q a).2 (rend rT)
  | [], s, q, a, room, _, _, _, _, hd => ⟨rfl, hd⟩
  | b :: l, s, q, a, room, hr, hb, g, hp, hd => by
    have e : room + ((b :: l).length : Int) = (room + l.length) + 1 := by simp; omega
    rw [e] at g
    obtain ⟨g1, e1⟩ := putS_gd b (by omega) g (ev_in g).1 (ev_in g).2
    have hp1 := even_pt l _ room hr g1 hp
    rw [e1] at hp1
    have hw : q.width = s.width := hd.width
    obtain ⟨h1, h2⟩ := dec_step g.good gT (ev_in g).1 (ev_in g).2 (hb b List.mem_cons_self) hp1 hd
    rw [← e1] at h2
    have := even_dec gT l _ (takeS q (s.width / 2)) (2 * a + b.toNat) room hr (fun x hx => hb x (List.mem_cons_of_mem _ hx)) g1 hp h2
    show (rEven l.length (takeS q (q.width / 2)) (2 * a + (takeBit q (q.width / 2)).toNat)).1 = _ ∧ Dec _ (rEven l.length (takeS q (q.width / 2)) (2 * a + (takeBit q (q.width / 2)).toNat)).2 _
    rw [hw, h1]
    exact this

theorem tree_gd : ∀ (l : List Int) (s : WS) (cl : List Int) (a : Nat) (room : Int), 0 ≤ room → chOk cl → s.gd (room + l.length) → (treeS s cl a l).1.gd room ∧ chOk (treeS s cl a l).2 ∧ (treeS s cl a l).2.length = cl.length
  | [], s, cl, a, room, _, hc, h => ⟨by simpa [treeS] using h, hc, rfl⟩
  | b :: l, s, cl, a, room, hr, hc, h => by
    have e : room + ((b :: l).length : Int) = (room + l.length) + 1 := by simp; omega
    rw [e] at h
    have hb := bitBound_in h.live (chOk_get hc a)
    have h2 : chOk (cl.set a (sawN (cl.getD a 0) b)) := chOk_set hc _ _ (sawN_ok _ _ (chOk_get hc a))
    obtain ⟨x, y, z⟩ := tree_gd l _ _ (2 * a + b.toNat) room hr h2 (putS_gd b (by omega) h hb.1 hb.2).1
    exact ⟨x, y, by rw [show treeS s cl a (b :: l) = treeS _ _ _ l from rfl, z]; simp⟩
theorem tree_pt {rT : RW} : ∀ (l : List Int) (s : WS) (cl : List Int) (a : Nat) (room : Int), 0 ≤ room → chOk cl → s.gd (room + l.length) → Pt (rOf (treeS s cl a l).1) rT → Pt (rOf s) rT
  | [], _, _, _, _, _, _, _, h => h
  | b :: l, s, cl, a, room, hr, hc, g, h => by
    have e : room + ((b :: l).length : Int) = (room + l.length) + 1 := by simp; omega
    rw [e] at g
    have hb := bitBound_in g.live (chOk_get hc a)
    have h2 : chOk (cl.set a (sawN (cl.getD a 0) b)) := chOk_set hc _ _ (sawN_ok _ _ (chOk_get hc a))
    obtain ⟨g1, e1⟩ := putS_gd b (by omega) g hb.1 hb.2
    have := tree_pt l _ _ (2 * a + b.toNat) room hr h2 g1 h
    rw [e1] at this
    exact pt_back b g.good hb.1 hb.2 this
theorem tree_dec {rT : RW} {roomT : Int} (gT : rT.ok roomT) : ∀ (l : List Int) (s : WS) (q : RS) (cl : List Int) (a : Nat) (room : Int), 0 ≤ room → bitsL l → chOk cl → s.gd (room + l.length) → Pt (rOf (treeS s cl a l).1) rT → Dec (rOf s) q (rend rT) →
    (rTree l.length q cl a).1 = val a l ∧ (rTree l.length q cl a).2.2 = (treeS s cl a l).2 ∧ Dec (rOf (treeS s cl a l).1) (rTree l.length q cl a).2.1 (rend rT)
  | [], s, q, cl, a, room, _, _, _, _, _, hd => ⟨rfl, rfl, hd⟩
  | b :: l, s, q, cl, a, room, hr, hb, hc, g, hp, hd => by
    have e : room + ((b :: l).length : Int) = (room + l.length) + 1 := by simp; omega
    rw [e] at g
    have hbd := bitBound_in g.live (chOk_get hc a)
    have h2 : chOk (cl.set a (sawN (cl.getD a 0) b)) := chOk_set hc _ _ (sawN_ok _ _ (chOk_get hc a))
    obtain ⟨g1, e1⟩ := putS_gd b (by omega) g hbd.1 hbd.2
    have hp1 := tree_pt l _ _ (2 * a + b.toNat) room hr h2 g1 hp
    rw [e1] at hp1
    have hw : rBound q (cl.getD a 0) = bitBound s (cl.getD a 0) := by unfold rBound bitBound; rw [show q.width = s.width from hd.width]
    obtain ⟨k1, k2⟩ := dec_step g.good gT hbd.1 hbd.2 (hb b List.mem_cons_self) hp1 hd
    rw [← e1] at k2
    have := tree_dec gT l _ (takeS q (bitBound s (cl.getD a 0))) _ (2 * a + b.toNat) room hr (fun x hx => hb x (List.mem_cons_of_mem _ hx)) h2 g1 hp k2
    show (rTree l.length (takeS q (rBound q (cl.getD a 0))) (cl.set a (sawN (cl.getD a 0) (takeBit q (rBound q (cl.getD a 0))))) (2 * a + (takeBit q (rBound q (cl.getD a 0))).toNat)).1 = _ ∧ (rTree l.length (takeS q (rBound q (cl.getD a 0))) (cl.set a (sawN (cl.getD a 0) (takeBit q (rBound q (cl.getD a 0))))) (2 * a + (takeBit q (rBound q (cl.getD a 0))).toNat)).2.2 = _ ∧ Dec _ (rTree l.length (takeS q (rBound q (cl.getD a 0))) (cl.set a (sawN (cl.getD a 0) (takeBit q (rBound q (cl.getD a 0))))) (2 * a + (takeBit q (rBound q (cl.getD a 0))).toNat)).2.1 _
    rw [hw, k1]
    exact this

/-! the law's steps -/
structure SX where
  s : WS
  cl : List Int
  tl : List Int
def mayD (d : Dn) : Prop := (d.verb = 0 ∧ 0 ≤ d.k ∧ d.k < 8 ∧ 0 ≤ d.n ∧ d.n < 2) ∨ (d.verb = 1 ∧ 0 ≤ d.bits ∧ d.bits ≤ 32) ∨ (d.verb = 2 ∧ 0 ≤ d.bits ∧ d.bits ≤ 8)
instance (d : Dn) : Decidable (mayD d) := by unfold mayD; infer_instance
def stepX (x : SX) (d : Dn) : SX :=
  if mayD d then
    if d.verb = 0 then ⟨putS x.s (bitBound x.s (x.cl.getD d.k.toNat 0)) d.n, x.cl.set d.k.toNat (sawN (x.cl.getD d.k.toNat 0) d.n), x.tl⟩
    else if d.verb = 1 then ⟨evenS x.s (bitsOf d.n d.bits.toNat), x.cl, x.tl⟩
    else ⟨(treeS x.s x.tl 1 (bitsOf d.n d.bits.toNat)).1, x.cl, (treeS x.s x.tl 1 (bitsOf d.n d.bits.toNat)).2⟩
  else x
structure SX.ok (x : SX) (room : Int) : Prop where
  gd : x.s.gd room
  c : chOk x.cl
  cn : x.cl.length = 8
  t : chOk x.tl
  tn : x.tl.length = 256
theorem SX.ok.less {x : SX} {r r' : Int} (h : x.ok r) (hr : r' ≤ r) : x.ok r' := ⟨h.gd.less hr, h.c, h.cn, h.t, h.tn⟩
theorem step_ok {x : SX} {d : Dn} {room : Int} (hr : 0 ≤ room) (h : x.ok (room + 32)) : (stepX x d).ok room := by
  unfold stepX
  split
  · rename_i hm
    split
    · have hb := bitBound_in h.gd.live (chOk_get h.c d.k.toNat)
      exact ⟨(putS_gd d.n hr (h.gd.less (by omega)) hb.1 hb.2).1, chOk_set h.c _ _ (sawN_ok _ _ (chOk_get h.c _)), by rw [List.length_set]; exact h.cn, h.t, h.tn⟩
    · split
      · exact ⟨even_gd _ _ _ hr (h.gd.less (by rw [bitsOf_len]; unfold mayD at hm; omega)), h.c, h.cn, h.t, h.tn⟩
      · obtain ⟨a, b, c⟩ := tree_gd (bitsOf d.n d.bits.toNat) x.s x.tl 1 room hr h.t (h.gd.less (by rw [bitsOf_len]; unfold mayD at hm; omega))
        exact ⟨a, h.c, h.cn, b, by rw [c]; exact h.tn⟩
  · exact h.less (by omega)
theorem step_pt {x : SX} {d : Dn} {room : Int} {rT : RW} (hr : 0 ≤ room) (h : x.ok (room + 32)) (hp : Pt (rOf (stepX x d).s) rT) : Pt (rOf x.s) rT := by
  unfold stepX at hp
  split at hp
  · rename_i hm
    split at hp
    · have hb := bitBound_in h.gd.live (chOk_get h.c d.k.toNat)
      obtain ⟨g1, e1⟩ := putS_gd d.n hr (h.gd.less (by omega)) hb.1 hb.2
      rw [e1] at hp
      exact pt_back d.n (h.gd.less (show room + 1 ≤ room + 32 by omega)).good hb.1 hb.2 hp
    · split at hp
      · exact even_pt _ _ room hr (h.gd.less (by rw [bitsOf_len]; unfold mayD at hm; omega)) hp
      · exact tree_pt _ _ _ _ room hr h.t (h.gd.less (by rw [bitsOf_len]; unfold mayD at hm; omega)) hp
  · exact hp
theorem run_ok : ∀ (l : List Dn) (x : SX) (room : Int), 0 ≤ room → x.ok (room + 32 * (l.length : Int)) → (l.foldl stepX x).ok room
  | [], x, room, _, h => by simpa using h
  | d :: l, x, room, hr, h => run_ok l _ room hr (step_ok (by omega) (h.less (by simp; omega)))
theorem run_pt {rT : RW} : ∀ (l : List Dn) (x : SX) (room : Int), 0 ≤ room → x.ok (room + 32 * (l.length : Int)) → Pt (rOf (l.foldl stepX x).s) rT → Pt (rOf x.s) rT
  | [], x, room, _, _, h => h
  | d :: l, x, room, hr, h, hp => by
    have h1 : x.ok (room + 32 * (l.length : Int) + 32) := h.less (by simp; omega)
    exact step_pt (by omega) h1 (run_pt l _ room hr (step_ok (by omega) h1) hp)

/-- A reader of the end's bytes stands where the writer began. -/
theorem open_dec {rT : RW} {room : Int} (ok : rT.ok room) : Dec ⟨[], 0, 4294967295⟩ (openS (rend rT)) (rend rT) := by
  have hb : bytesOk (rend rT) := by
    intro c hc
    have h0 := ok.low0
    have h1 := ok.low1
    rcases List.mem_append.1 hc with h | h
    · exact ok.bytes c h
    · simp at h; omega
  have hlen : (rend rT).length = rT.out.length + 4 := by simp [rend]
  generalize rend rT = fb at hb hlen ⊢
  match fb, hlen with
  | a :: b :: c :: d :: t, _ =>
    have ha := hb a (by simp)
    have hb' := hb b (by simp)
    have hc' := hb c (by simp)
    have hd' := hb d (by simp)
    have e : openS (a :: b :: c :: d :: t) = ⟨t, a * 16777216 + b * 65536 + c * 256 + d, 4294967295, 0⟩ := by
      show (⟨t, (((0 * 256 % 18446744073709551616 + a) * 256 % 18446744073709551616 + b) * 256 % 18446744073709551616 + c) * 256 % 18446744073709551616 + d, 4294967295, 0⟩ : RS) = _
      have : (((0 * 256 % 18446744073709551616 + a) * 256 % 18446744073709551616 + b) * 256 % 18446744073709551616 + c) * 256 % 18446744073709551616 + d = a * 16777216 + b * 65536 + c * 256 + d := by omega
      rw [this]
    have hl := openS_live hb
    rw [e] at hl ⊢
    refine ⟨⟨[a, b, c, d], rfl, rfl, ?_⟩, rfl, rfl, hl⟩
    show d + 256 * (c + 256 * (b + 256 * (a + 256 * 0))) = (0 * 4294967296 + 0) + (a * 16777216 + b * 65536 + c * 256 + d)
    omega
theorem dec_end {r : RW} {q : RS} (h : Dec r q (rend r)) : q.rem = [] := by
  obtain ⟨pre, e1, e2, _⟩ := h.pre
  have hlen : (rend r).length = r.out.length + 4 := by simp [rend]
  rw [e1, List.length_append] at hlen
  exact List.eq_nil_of_length_eq_zero (by omega)
end Go.Proofs.Ytedcficjmogohaa

/- The walk over the reference's bit of a chance in a map. -/
namespace Go.Proofs.Ytedcficjmogohaa
set_option linter.unusedVariables false
set_option linter.unusedSimpArgs false
set_option maxRecDepth 100000
open Go.RowKit

/-- The reference's state: a writer, and a map of chances. -/
def stC (v : Value) (r : RW) (g : Nat) : List Value := [v, .int .i64 r.low, .int .i64 r.width, .map (some g)]
def Stt (v : Value) (s : WS) (g n : Nat) (f : Int → Option Int) : HP := Rw 5 1 v (rOf s).out.length (bytesV (rOf s).out) * Mi g n f
instance Loc.stt {B : Nat} {v : Value} {s : WS} {g n : Nat} {f : Int → Option Int} : Loc B (Stt v s g n f) := inferInstanceAs (Loc B (Rw _ _ _ _ _ * Mi _ _ _))
def ch (f : Int → Option Int) (a : Int) : Int := (f a).getD 1024

set_option maxHeartbeats 3200000 in
theorem mbit_any (v : Value) (s : WS) (g n : Nat) (f : Int → Option Int) (at_ c bit : Int) (ha : 0 ≤ at_ ∧ at_ ≤ 1000000) (room : Int) (hr : 0 ≤ room) (gd : s.gd (room + 1)) (hc : ch f at_ = c + 1024) (hc2 : -993 ≤ c ∧ c ≤ 993) (hb : bit = 0 ∨ bit = 1) (hn : n ≤ 100000000)
    (B : Nat) (R : HP) [Loc B R] (w : World) (hB : B ≤ w.heap.size) (hO : Own B (Stt v s g n f * R) w) :
    Calls Try.prog 37 #[.agg (stC v (rOf s) g).toArray, .int .i64 at_, .int .i64 bit] w fun e w' => ∃ v', Ret B w (.agg (stC v' (rOf (putS s (bitBound s c) bit)) g).toArray) (Stt v' (putS s (bitBound s c) bit) g (n + 1) (updI f at_ (sawN c bit + 1024)) * R) e w' := by
  have hbd := bitBound_in gd.live hc2
  have e := (putS_gd bit hr gd hbd.1 hbd.2).2
  have hO := hO.assoc
  have ok := gd.good.ok
  unfold Stt
  rw [e]
  have hbb : bitBound s c = (rOf s).width / 2048 * (c + 1024) := rfl
  rw [hbb] at hbd ⊢
  have hsw : (rOf s).width = s.width := rfl
  have Hbit := Lib.hid (fun W R1 (k1 : Loc B R1) (h1 : B ≤ W.heap.size) (h : Own B (Rw 5 1 v (rOf s).out.length (bytesV (rOf s).out) * R1) W) => refbit_any v (rOf s) (c + 1024) bit room hr ok (by omega) (by omega) B R1 W h1 h)
  have Hsaw := Lib.hid (fun W => sawref_any c bit hc2.1 hc2.2 W)
  have Hsw := Lib.hid (show okL (sawN c bit + 1024) from okL_of (by have := sawN_ok c bit hc2; omega))
  clear e hbb hbd gd ok hsw
  generalize (rOf s).width / 2048 * (c + 1024) = Q at *
  generalize rOf s = r at *
  generalize rput r Q bit = r4 at *
  generalize sawN c bit = c2 at *
  simp only [stC]
  have o1 := hO.new hB 70 #[v, .int .i64 r.low, .int .i64 r.width, .map (some g)]
  have b1 := (Below.refl B w).alloc hB (.cells #[v, .int .i64 r.low, .int .i64 r.width, .map (some g)] 70)
  have B1 := Nat.le_trans hB b1.size
  have o2 := o1.new B1 70 #[.slice none 0 0, .int .i64 0, .int .i64 0, .map none]
  have b2 := b1.alloc B1 (.cells #[.slice none 0 0, .int .i64 0, .int .i64 0, .map none] 70)
  have B2 := Nat.le_trans hB b2.size
  rw [World.size_alloc'] at o2
  have hlk := (o2.foc (Mi g n f)).mi_look at_ (okL_of (by omega))
  obtain ⟨o, ho⟩ : ∃ o, f at_ = o := ⟨_, rfl⟩
  have hc3 : o.getD 1024 = c + 1024 := by unfold ch at hc; rw [ho] at hc; exact hc
  rw [ho] at hlk
  have c3 : ((w.alloc (.cells #[v, .int .i64 r.low, .int .i64 r.width, .map (some g)] 70)).alloc (.cells #[.slice none 0 0, .int .i64 0, .int .i64 0, .map none] 70)).cell? ⟨w.heap.size, 3, none⟩ = some (.map (some g)) := o2.cellOf w.heap.size 3
  have d3 := c3
  clear c3 o1 b1 B1 hO
  obtain ⟨cc, hcc⟩ : ∃ cc, c + 1024 = cc := ⟨_, rfl⟩
  rw [hcc] at Hbit Hsaw hc3
  have Hcc := Lib.hid hcc
  clear hcc hc
  cases o with
  | none =>
    simp only [Option.getD_none, Option.isSome_none] at hlk hc3
    subst hc3
    clear ho
    go_enter Try.func37, Try.ntmps37
    go_wp2_with fail
    generalize hX : w.heap.size = X at *
    have hB : B ≤ w.heap.size := by omega
    refine (Hbit.out _ _ inferInstance B2 (o2.cast (show _ = Rw 5 1 v r.out.length (bytesV r.out) * (Bk (X + 1) 70 #[.slice none 0 0, .int .i64 0, .int .i64 0, .map none] * (Bk X 70 #[v, .int .i64 r.low, .int .i64 r.width, .map (some g)] * (Mi g n f * R))) by ac_rfl))).mono ?_
    rintro e w4 ⟨v4, rfl, o4, b4⟩
    have hb4 := b2.trans b4
    have B4 := Nat.le_trans hB hb4.size
    obtain ⟨A4, c4, rfl⟩ := o4.row_n
    have x0 : w4.cell? ⟨X, 0, none⟩ = some v := o4.cellOf X 0
    have x1 : w4.cell? ⟨X, 1, none⟩ = some (.int .i64 r.low) := o4.cellOf X 1
    have x2 : w4.cell? ⟨X, 2, none⟩ = some (.int .i64 r.width) := o4.cellOf X 2
    have x3 : w4.cell? ⟨X, 3, none⟩ = some (.map (some g)) := o4.cellOf X 3
    have z0 := o4.freeOf X 0
    have z1 := o4.freeOf X 1
    have z2 := o4.freeOf X 2
    obtain ⟨s0, t0⟩ := o4.setOf B4 X 0 (.slice A4 r4.out.length c4)
    have hs0 := hb4.trans t0
    have S0 := Nat.le_trans hB hs0.size
    obtain ⟨s1, t1⟩ := s0.setOf S0 X 1 (.int .i64 r4.low)
    have hs1 := hs0.trans t1
    have S1 := Nat.le_trans hB hs1.size
    obtain ⟨s2, t2⟩ := s1.setOf S1 X 2 (.int .i64 r4.width)
    have hs2 := hs1.trans t2
    have S2 := Nat.le_trans hB hs2.size
    clear hlk d3 o2 o4 b4 hb4 s0 s1 t0 t1 t2 hs0 hs1 b2
    simp only [refV]
    go_wp2
    clear x0 x1 x2 x3 z0 z1 z2
    generalize ((w4.setCell ⟨X, 0, none⟩ (.slice A4 r4.out.length c4)).setCell ⟨X, 1, none⟩ (.int .i64 r4.low)).setCell ⟨X, 2, none⟩ (.int .i64 r4.width) = w5 at *
    have s2 : Own B (Rw 5 1 (.slice A4 r4.out.length c4) r4.out.length (bytesV r4.out) * (Bk (X + 1) 70 #[.slice none 0 0, .int .i64 0, .int .i64 0, .map none] * (Bk X 70 #[.slice A4 r4.out.length c4, .int .i64 r4.low, .int .i64 r4.width, .map (some g)] * (Mi g n f * R)))) w5 := s2
    refine wp_region_mix (St B _ w5) [0, 1, 2, 3, 4, 5] [6] mixed (by kernel_rfl) rfl (St.drew S2 s2) ?_
    simp only [List.filterMap_cons, List.filterMap_nil, List.getElem?_toArray, List.getElem?_cons_succ, List.getElem?_cons_zero]
    repeat (first
      | (refine held_val ?_ rfl (fun w1 hS => ?_) ?_
         rotate_left
         · (have k3 : w1.cell? ⟨X, 3, none⟩ = some (.map (some g)) := hS.2.1.cellOf X 3
            go_simp
            try go_bits
            rfl)
         simp only [Act.put, List.setIfInBounds_toArray, List.set_cons_zero, List.set_cons_succ])
      | (refine held_off rfl ?_
         simp only [Act.put, List.setIfInBounds_toArray, List.set_cons_zero, List.set_cons_succ]))
    refine held_call 62 #[.int .i64 1024, .int .i64 bit] (.int .i64 (c2 + 1024)) rfl (fun w1 hS => by go_simp) (fun w1 hS => (Hsaw.out w1).mono ?_) ?_
    · rintro e w2 ⟨rfl, rfl⟩
      exact ⟨rfl, hS⟩
    simp only [Act.put, List.setIfInBounds_toArray, List.set_cons_zero, List.set_cons_succ]
    refine held_nil (fun w9 hS => ?_)
    obtain ⟨B9, o9, b9⟩ := hS
    obtain ⟨wa, hrun, oa, ba⟩ := (o9.cast (show _ = Mi g n f * (Bk (X + 1) 70 #[.slice none 0 0, .int .i64 0, .int .i64 0, .map none] * (Bk X 70 #[.slice A4 r4.out.length c4, .int .i64 r4.low, .int .i64 r4.width, .map (some g)] * (Rw 5 1 (.slice A4 r4.out.length c4) r4.out.length (bytesV r4.out) * R))) by ac_rfl)).mi_put B9 (by unfold maxLen; omega) at_ (okL_of (by omega)) (c2 + 1024) Hsw.out
    have hba := (hs2.trans b9).trans ba
    have Ba := Nat.le_trans hB hba.size
    have Hrun := Lib.hid hrun
    clear hrun o9 b9 ba s2 hs2
    refine wpList_mapUpdate_run rfl (.tmp 25) (.tmp 26) (.tmp 29) 68 rfl rfl rfl rfl Hrun.out ?_
    simp only [Act.put, List.setIfInBounds_toArray, List.set_cons_zero, List.set_cons_succ]
    have x0 : wa.cell? ⟨X, 0, none⟩ = some (.slice A4 r4.out.length c4) := oa.cellOf X 0
    have x1 : wa.cell? ⟨X, 1, none⟩ = some (.int .i64 r4.low) := oa.cellOf X 1
    have x2 : wa.cell? ⟨X, 2, none⟩ = some (.int .i64 r4.width) := oa.cellOf X 2
    have x3 : wa.cell? ⟨X, 3, none⟩ = some (.map (some g)) := oa.cellOf X 3
    have oa := oa.cast (show _ = Bk (X + 1) 70 #[.slice none 0 0, .int .i64 0, .int .i64 0, .map none] * (Bk X 70 #[.slice A4 r4.out.length c4, .int .i64 r4.low, .int .i64 r4.width, .map (some g)] * (Rw 5 1 (.slice A4 r4.out.length c4) r4.out.length (bytesV r4.out) * (Mi g (n + 1) (updI f at_ (c2 + 1024)) * R))) by ac_rfl)
    have q0 : wa.cell? ⟨X + 1, 0, none⟩ = some (.slice none 0 0) := oa.cell 0
    have q1 : wa.cell? ⟨X + 1, 1, none⟩ = some (.int .i64 0) := oa.cell 1
    have q2 : wa.cell? ⟨X + 1, 2, none⟩ = some (.int .i64 0) := oa.cell 2
    have q3 : wa.cell? ⟨X + 1, 3, none⟩ = some (.map none) := oa.cell 3
    have y0 := oa.unfrozen 0
    have y1 := oa.unfrozen 1
    have y2 := oa.unfrozen 2
    have y3 := oa.unfrozen 3
    have p0 := oa.set Ba 0 (.slice A4 r4.out.length c4)
    have p1 := p0.set (by simpa [World.setCell] using Ba) 1 (.int .i64 r4.low)
    have p2 := p1.set (by simpa [World.setCell] using Ba) 2 (.int .i64 r4.width)
    have p3 := p2.set (by simpa [World.setCell] using Ba) 3 (.map (some g))
    have tt := (((oa.below_set 0 (.slice A4 r4.out.length c4)).trans (p0.below_set 1 (.int .i64 r4.low))).trans (p1.below_set 2 (.int .i64 r4.width))).trans (p2.below_set 3 (.map (some g)))
    go_wp2
    refine bodyPost_ret (results_cell_row rfl _ _ (X + 1) 70 #[.slice A4 r4.out.length c4, .int .i64 r4.low, .int .i64 r4.width, .map (some g)] (0, 0) _ rfl p3.bk.1 Try.underlying70 rfl (by kernel_rfl)) rfl ?_
    exact ⟨.slice A4 r4.out.length c4, rfl, p3.drop.drop.assoc', hba.trans tt⟩
  | some z =>
    simp only [Option.getD_some, Option.isSome_some] at hlk hc3
    subst hc3
    clear ho
    go_enter Try.func37, Try.ntmps37
    go_wp2_with fail
    generalize hX : w.heap.size = X at *
    have hB : B ≤ w.heap.size := by omega
    refine (Hbit.out _ _ inferInstance B2 (o2.cast (show _ = Rw 5 1 v r.out.length (bytesV r.out) * (Bk (X + 1) 70 #[.slice none 0 0, .int .i64 0, .int .i64 0, .map none] * (Bk X 70 #[v, .int .i64 r.low, .int .i64 r.width, .map (some g)] * (Mi g n f * R))) by ac_rfl))).mono ?_
    rintro e w4 ⟨v4, rfl, o4, b4⟩
    have hb4 := b2.trans b4
    have B4 := Nat.le_trans hB hb4.size
    obtain ⟨A4, c4, rfl⟩ := o4.row_n
    have x0 : w4.cell? ⟨X, 0, none⟩ = some v := o4.cellOf X 0
    have x1 : w4.cell? ⟨X, 1, none⟩ = some (.int .i64 r.low) := o4.cellOf X 1
    have x2 : w4.cell? ⟨X, 2, none⟩ = some (.int .i64 r.width) := o4.cellOf X 2
    have x3 : w4.cell? ⟨X, 3, none⟩ = some (.map (some g)) := o4.cellOf X 3
    have z0 := o4.freeOf X 0
    have z1 := o4.freeOf X 1
    have z2 := o4.freeOf X 2
    obtain ⟨s0, t0⟩ := o4.setOf B4 X 0 (.slice A4 r4.out.length c4)
    have hs0 := hb4.trans t0
    have S0 := Nat.le_trans hB hs0.size
    obtain ⟨s1, t1⟩ := s0.setOf S0 X 1 (.int .i64 r4.low)
    have hs1 := hs0.trans t1
    have S1 := Nat.le_trans hB hs1.size
    obtain ⟨s2, t2⟩ := s1.setOf S1 X 2 (.int .i64 r4.width)
    have hs2 := hs1.trans t2
    have S2 := Nat.le_trans hB hs2.size
    clear hlk d3 o2 o4 b4 hb4 s0 s1 t0 t1 t2 hs0 hs1 b2
    simp only [refV]
    go_wp2
    clear x0 x1 x2 x3 z0 z1 z2
    generalize ((w4.setCell ⟨X, 0, none⟩ (.slice A4 r4.out.length c4)).setCell ⟨X, 1, none⟩ (.int .i64 r4.low)).setCell ⟨X, 2, none⟩ (.int .i64 r4.width) = w5 at *
    have s2 : Own B (Rw 5 1 (.slice A4 r4.out.length c4) r4.out.length (bytesV r4.out) * (Bk (X + 1) 70 #[.slice none 0 0, .int .i64 0, .int .i64 0, .map none] * (Bk X 70 #[.slice A4 r4.out.length c4, .int .i64 r4.low, .int .i64 r4.width, .map (some g)] * (Mi g n f * R)))) w5 := s2
    refine wp_region_mix (St B _ w5) [0, 1, 2, 3, 4, 5] [6] mixed (by kernel_rfl) rfl (St.drew S2 s2) ?_
    simp only [List.filterMap_cons, List.filterMap_nil, List.getElem?_toArray, List.getElem?_cons_succ, List.getElem?_cons_zero]
    repeat (first
      | (refine held_val ?_ rfl (fun w1 hS => ?_) ?_
         rotate_left
         · (have k3 : w1.cell? ⟨X, 3, none⟩ = some (.map (some g)) := hS.2.1.cellOf X 3
            go_simp
            try go_bits
            rfl)
         simp only [Act.put, List.setIfInBounds_toArray, List.set_cons_zero, List.set_cons_succ])
      | (refine held_off rfl ?_
         simp only [Act.put, List.setIfInBounds_toArray, List.set_cons_zero, List.set_cons_succ]))
    refine held_call 62 #[.int .i64 z, .int .i64 bit] (.int .i64 (c2 + 1024)) rfl (fun w1 hS => by go_simp) (fun w1 hS => (Hsaw.out w1).mono ?_) ?_
    · rintro e w2 ⟨rfl, rfl⟩
      exact ⟨rfl, hS⟩
    simp only [Act.put, List.setIfInBounds_toArray, List.set_cons_zero, List.set_cons_succ]
    refine held_nil (fun w9 hS => ?_)
    obtain ⟨B9, o9, b9⟩ := hS
    obtain ⟨wa, hrun, oa, ba⟩ := (o9.cast (show _ = Mi g n f * (Bk (X + 1) 70 #[.slice none 0 0, .int .i64 0, .int .i64 0, .map none] * (Bk X 70 #[.slice A4 r4.out.length c4, .int .i64 r4.low, .int .i64 r4.width, .map (some g)] * (Rw 5 1 (.slice A4 r4.out.length c4) r4.out.length (bytesV r4.out) * R))) by ac_rfl)).mi_put B9 (by unfold maxLen; omega) at_ (okL_of (by omega)) (c2 + 1024) Hsw.out
    have hba := (hs2.trans b9).trans ba
    have Ba := Nat.le_trans hB hba.size
    have Hrun := Lib.hid hrun
    clear hrun o9 b9 ba s2 hs2
    refine wpList_mapUpdate_run rfl (.tmp 25) (.tmp 26) (.tmp 29) 68 rfl rfl rfl rfl Hrun.out ?_
    simp only [Act.put, List.setIfInBounds_toArray, List.set_cons_zero, List.set_cons_succ]
    have x0 : wa.cell? ⟨X, 0, none⟩ = some (.slice A4 r4.out.length c4) := oa.cellOf X 0
    have x1 : wa.cell? ⟨X, 1, none⟩ = some (.int .i64 r4.low) := oa.cellOf X 1
    have x2 : wa.cell? ⟨X, 2, none⟩ = some (.int .i64 r4.width) := oa.cellOf X 2
    have x3 : wa.cell? ⟨X, 3, none⟩ = some (.map (some g)) := oa.cellOf X 3
    have oa := oa.cast (show _ = Bk (X + 1) 70 #[.slice none 0 0, .int .i64 0, .int .i64 0, .map none] * (Bk X 70 #[.slice A4 r4.out.length c4, .int .i64 r4.low, .int .i64 r4.width, .map (some g)] * (Rw 5 1 (.slice A4 r4.out.length c4) r4.out.length (bytesV r4.out) * (Mi g (n + 1) (updI f at_ (c2 + 1024)) * R))) by ac_rfl)
    have q0 : wa.cell? ⟨X + 1, 0, none⟩ = some (.slice none 0 0) := oa.cell 0
    have q1 : wa.cell? ⟨X + 1, 1, none⟩ = some (.int .i64 0) := oa.cell 1
    have q2 : wa.cell? ⟨X + 1, 2, none⟩ = some (.int .i64 0) := oa.cell 2
    have q3 : wa.cell? ⟨X + 1, 3, none⟩ = some (.map none) := oa.cell 3
    have y0 := oa.unfrozen 0
    have y1 := oa.unfrozen 1
    have y2 := oa.unfrozen 2
    have y3 := oa.unfrozen 3
    have p0 := oa.set Ba 0 (.slice A4 r4.out.length c4)
    have p1 := p0.set (by simpa [World.setCell] using Ba) 1 (.int .i64 r4.low)
    have p2 := p1.set (by simpa [World.setCell] using Ba) 2 (.int .i64 r4.width)
    have p3 := p2.set (by simpa [World.setCell] using Ba) 3 (.map (some g))
    have tt := (((oa.below_set 0 (.slice A4 r4.out.length c4)).trans (p0.below_set 1 (.int .i64 r4.low))).trans (p1.below_set 2 (.int .i64 r4.width))).trans (p2.below_set 3 (.map (some g)))
    go_wp2
    refine bodyPost_ret (results_cell_row rfl _ _ (X + 1) 70 #[.slice A4 r4.out.length c4, .int .i64 r4.low, .int .i64 r4.width, .map (some g)] (0, 0) _ rfl p3.bk.1 Try.underlying70 rfl (by kernel_rfl)) rfl ?_
    exact ⟨.slice A4 r4.out.length c4, rfl, p3.drop.drop.assoc', hba.trans tt⟩
end Go.Proofs.Ytedcficjmogohaa

/- The walk over the reference's tree. -/
namespace Go.Proofs.Ytedcficjmogohaa
set_option linter.unusedVariables false
set_option linter.unusedSimpArgs false
set_option maxRecDepth 100000
open Go.RowKit

/-- The chances from a place on are these. -/
def Mt (f : Int → Option Int) (base : Int) (cl : List Int) : Prop := ∀ i : Nat, i < cl.length → ch f (base + i) = cl.getD i 0 + 1024
def Ot (f f' : Int → Option Int) (base : Int) (L : Nat) : Prop := ∀ a : Int, a < base ∨ base + L ≤ a → f' a = f a
theorem ch_upd (f : Int → Option Int) (a p x : Int) : ch (updI f a p) x = if x = a then p else ch f x := by
  unfold ch updI
  split <;> rfl
theorem Mt.set {f : Int → Option Int} {base : Int} {cl : List Int} (h : Mt f base cl) (i : Nat) (hi : i < cl.length) (z : Int) : Mt (updI f (base + i) (z + 1024)) base (cl.set i z) := by
  intro j hj
  rw [List.length_set] at hj
  rw [ch_upd]
  by_cases e : j = i
  · subst e
    rw [if_pos rfl]
    simp [List.getD_eq_getElem?_getD, hj]
  · rw [if_neg (by omega), h j hj]
    simp [List.getD_eq_getElem?_getD, List.getElem?_set, Ne.symm e]
theorem Mt.other {f f' : Int → Option Int} {base : Int} {cl : List Int} {b2 : Int} {L : Nat} (h : Mt f base cl) (ho : Ot f f' b2 L) (hd : base + cl.length ≤ b2 ∨ b2 + L ≤ base) : Mt f' base cl := by
  intro i hi
  have : f' (base + i) = f (base + i) := ho _ (by omega)
  unfold ch
  rw [this]
  exact h i hi

set_option maxHeartbeats 6400000 in
theorem mtree_any (v : Value) (s : WS) (g N : Nat) (f : Int → Option Int) (base : Nat) (cl : List Int) (n K : Nat) (hbase : base ≤ 100000) (hn : n ≤ 1000000) (hK : K ≤ 20) (hL : 2 ^ K ≤ cl.length) (hL2 : cl.length ≤ 1000) (room : Int) (hr : 0 ≤ room) (gd : s.gd (room + K)) (hc : chOk cl) (hm : Mt f base cl) (hN : N ≤ 90000000)
    (B : Nat) (R : HP) [Loc B R] (w : World) (hB : B ≤ w.heap.size) (hO : Own B (Stt v s g N f * R) w) :
    Calls Try.prog 38 #[.agg (stC v (rOf s) g).toArray, .int .i64 (base : Int), .int .i64 (n : Int), .int .i64 (K : Int)] w fun e w' => ∃ v' f', Mt f' base (treeS s cl 1 (bitsOf n K)).2 ∧ Ot f f' base cl.length ∧ Ret B w (.agg (stC v' (rOf (treeS s cl 1 (bitsOf n K)).1) g).toArray) (Stt v' (treeS s cl 1 (bitsOf n K)).1 g (N + K) f' * R) e w' := by
  obtain ⟨L, hLL⟩ : ∃ L, cl.length = L := ⟨_, rfl⟩
  rw [hLL] at hL hL2 ⊢
  obtain ⟨res, hres⟩ : ∃ res, treeS s cl 1 (bitsOf n K) = res := ⟨_, rfl⟩
  rw [hres]
  have o1 := hO.new hB 70 #[v, .int .i64 (rOf s).low, .int .i64 (rOf s).width, .map (some g)]
  have b1 := (Below.refl B w).alloc hB (.cells #[v, .int .i64 (rOf s).low, .int .i64 (rOf s).width, .map (some g)] 70)
  have B1 := Nat.le_trans hB b1.size
  have o2 := o1.new B1 70 #[.slice none 0 0, .int .i64 0, .int .i64 0, .map none]
  have b2 := b1.alloc B1 (.cells #[.slice none 0 0, .int .i64 0, .int .i64 0, .map none] 70)
  have B2 := Nat.le_trans hB b2.size
  rw [World.size_alloc'] at o2
  have n0 : (n : Int) ≤ 1000000 := by omega
  have k0 : (K : Int) ≤ 20 := by omega
  have bb : (base : Int) ≤ 100000 := by omega
  clear o1 b1 hO B1
  have Hres := Lib.hid hres
  have Hst := Lib.hid (And.intro gd (And.intro hc (And.intro hLL hm)))
  clear hres gd hc hLL hm
  simp only [stC]
  go_enter Try.func38, Try.ntmps38
  go_wp2
  generalize hX : w.heap.size = X at *
  have hB : B ≤ w.heap.size := by omega
  go_loopg [9, 10] K (fun kk v9 v10 wr => ∃ (at_ : Nat) (v' : Value) (s' : WS) (cl' : List Int) (f' : Int → Option Int), kk ≤ K ∧ v9 = .int .i64 (at_ : Int) ∧ v10 = .int .i64 ((kk : Int) - 1) ∧ Hid ((at_ + 1) * 2 ^ kk ≤ 2 * 2 ^ K) ∧ Own B (Bk (X + 1) 70 #[.slice none 0 0, .int .i64 0, .int .i64 0, .map none] * (Bk X 70 #[v', .int .i64 (rOf s').low, .int .i64 (rOf s').width, .map (some g)] * (Stt v' s' g (N + (K - kk)) f' * R))) wr ∧ Below B w wr ∧ Hid (treeS s' cl' at_ (bitsOf n kk) = res) ∧ Hid (s'.gd (room + kk) ∧ chOk cl' ∧ cl'.length = L ∧ Mt f' base cl') ∧ Hid (Ot f f' base L))
  case atStart => exact ⟨1, v, s, cl, f, Nat.le_refl _, rfl, rfl, Lib.hid (by omega), o2.cast (by rw [show N + (K - K) = N by omega]), b2, Hres, Hst, Lib.hid (fun a _ => rfl)⟩
  case round =>
    clear o2 b2 B2 Hst Hres
    obtain ⟨at_, v', s', cl', f', hkk, rfl, rfl, hat, ho, hb, he, hst, hot⟩ := hrel
    have Bw : B ≤ wr.heap.size := Nat.le_trans hB hb.size
    have x0 : wr.cell? ⟨X, 0, none⟩ = some v' := ho.cellOf X 0
    have x1 : wr.cell? ⟨X, 1, none⟩ = some (.int .i64 (rOf s').low) := ho.cellOf X 1
    have x2 : wr.cell? ⟨X, 2, none⟩ = some (.int .i64 (rOf s').width) := ho.cellOf X 2
    have x3 : wr.cell? ⟨X, 3, none⟩ = some (.map (some g)) := ho.cellOf X 3
    by_cases h0 : gk = 0
    · subst h0
      have hb0 : bitsOf (n : Int) 0 = [] := rfl
      have hre : (s', cl') = res := by have := he.out; rw [hb0] at this; exact this
      have q0 : wr.cell? ⟨X + 1, 0, none⟩ = some (.slice none 0 0) := ho.cell 0
      have q1 : wr.cell? ⟨X + 1, 1, none⟩ = some (.int .i64 0) := ho.cell 1
      have q2 : wr.cell? ⟨X + 1, 2, none⟩ = some (.int .i64 0) := ho.cell 2
      have q3 : wr.cell? ⟨X + 1, 3, none⟩ = some (.map none) := ho.cell 3
      have y0 := ho.unfrozen 0
      have y1 := ho.unfrozen 1
      have y2 := ho.unfrozen 2
      have y3 := ho.unfrozen 3
      have oS := ho.right.right.left
      obtain ⟨A', c', hv'⟩ := (show Own B (Rw 5 1 v' (rOf s').out.length (bytesV (rOf s').out) * (Mi g (N + (K - 0)) f' * R)) wr from (ho.right.right).assoc).row_n
      subst hv'
      generalize hvv : Value.slice A' (rOf s').out.length c' = vv at *
      have p0 := ho.set Bw 0 vv
      have p1 := p0.set (by simpa [World.setCell] using Bw) 1 (.int .i64 (rOf s').low)
      have p2 := p1.set (by simpa [World.setCell] using Bw) 2 (.int .i64 (rOf s').width)
      have p3 := p2.set (by simpa [World.setCell] using Bw) 3 (.map (some g))
      have tt := (((ho.below_set 0 vv).trans (p0.below_set 1 (.int .i64 (rOf s').low))).trans (p1.below_set 2 (.int .i64 (rOf s').width))).trans (p2.below_set 3 (.map (some g)))
      have Hre := Lib.hid hre
      rw [← hvv] at x0 p0 p1 p2 p3 tt
      clear hre he oS hvv hb0
      generalize (rOf s').out.length = ol at *
      go_wp2
      refine bodyPost_ret (results_cell_row rfl _ _ (X + 1) 70 #[.slice A' ol c', .int .i64 (rOf s').low, .int .i64 (rOf s').width, .map (some g)] (0, 0) _ rfl p3.bk.1 Try.underlying70 rfl (by kernel_rfl)) rfl ?_
      refine ⟨.slice A' ol c', f', ?_, hot.out, ?_⟩
      · rw [← Hre.out]; exact hst.out.2.2.2
      · rw [← Hre.out]
        exact ⟨rfl, p3.drop.drop, hb.trans tt⟩
    · obtain ⟨j, rfl⟩ : ∃ j, gk = j + 1 := ⟨gk - 1, by omega⟩
      obtain ⟨gd, hc, hcl, hm⟩ := hst.out
      have hat2 : at_ < L := by
        have h1 := hat.out
        rw [Nat.pow_succ] at h1
        have hp : 1 ≤ 2 ^ j := Nat.one_le_two_pow
        have h2 : (at_ + 1) * 2 ≤ (at_ + 1) * (2 ^ j * 2) := Nat.mul_le_mul_left _ (by omega)
        omega
      have hbit := bitOf_01 (n : Int) j
      have hcb := chOk_get hc at_
      have he2 := he.out
      rw [bitsOf_succ] at he2
      have Hat2 : Hid ((2 * at_ + (bitOf (n : Int) j).toNat + 1) * 2 ^ j ≤ 2 * 2 ^ K) := Lib.hid (by
        have h1 := hat.out
        rw [Nat.pow_succ, Nat.mul_comm (2 ^ j) 2, ← Nat.mul_assoc] at h1
        exact Nat.le_trans (Nat.mul_le_mul_right _ (by omega)) h1)
      have HB := Lib.hid (fun W => bitat_any n j hn (by omega) W)
      have gd1 : s'.gd (room + (j : Int) + 1) := gd.less (by omega)
      have hbd := bitBound_in gd1.live hcb
      have gd2 := (putS_gd (bitOf (n : Int) j) (by omega) gd1 hbd.1 hbd.2).1
      have HM := Lib.hid (fun W R1 (k1 : Loc B R1) (h1 : B ≤ W.heap.size) (h : Own B (Stt v' s' g (N + (K - (j + 1))) f' * R1) W) => mbit_any v' s' g (N + (K - (j + 1))) f' (base + at_) (cl'.getD at_ 0) (bitOf (n : Int) j) (by omega) (room + j) (by omega) gd1 (hm at_ (by omega)) hcb hbit (by omega) B R1 W h1 h)
      have hm2 := hm.set at_ (by omega) (sawN (cl'.getD at_ 0) (bitOf (n : Int) j))
      have hc2 : chOk (cl'.set at_ (sawN (cl'.getD at_ 0) (bitOf (n : Int) j))) := chOk_set hc _ _ (sawN_ok _ _ hcb)
      have Hot2 : Hid (Ot f (updI f' (base + at_) (sawN (cl'.getD at_ 0) (bitOf (n : Int) j) + 1024)) base L) := Lib.hid (fun a ha => by
        unfold updI
        rw [if_neg (by omega)]
        exact hot.out a ha)
      have Hst2 : Hid ((putS s' (bitBound s' (cl'.getD at_ 0)) (bitOf (n : Int) j)).gd (room + j) ∧ chOk (cl'.set at_ (sawN (cl'.getD at_ 0) (bitOf (n : Int) j))) ∧ (cl'.set at_ (sawN (cl'.getD at_ 0) (bitOf (n : Int) j))).length = L ∧ Mt (updI f' (base + at_) (sawN (cl'.getD at_ 0) (bitOf (n : Int) j) + 1024)) base (cl'.set at_ (sawN (cl'.getD at_ 0) (bitOf (n : Int) j)))) := Lib.hid ⟨gd2, hc2, by rw [List.length_set]; exact hcl, hm2⟩
      have He2 : Hid (treeS (putS s' (bitBound s' (cl'.getD at_ 0)) (bitOf (n : Int) j)) (cl'.set at_ (sawN (cl'.getD at_ 0) (bitOf (n : Int) j))) (2 * at_ + (bitOf (n : Int) j).toNat) (bitsOf n j) = res) := Lib.hid he2
      have hNk : N + (K - (j + 1)) + 1 = N + (K - j) := by omega
      rw [hNk] at HM
      clear hm hm2 hc2 hc gd gd1 gd2 hbd hcb he he2 hot hst hat hcl hNk
      generalize putS s' (bitBound s' (cl'.getD at_ 0)) (bitOf (n : Int) j) = s2 at *
      generalize cl'.set at_ (sawN (cl'.getD at_ 0) (bitOf (n : Int) j)) = cl2 at *
      generalize updI f' (base + at_) (sawN (cl'.getD at_ 0) (bitOf (n : Int) j) + 1024) = f2 at *
      generalize bitOf (n : Int) j = b at *
      simp only [stC] at HM
      have at1 : (at_ : Int) ≤ 1000 := by omega
      have at0 : (0 : Int) ≤ (at_ : Int) := by omega
      have hj1 : ((j + 1 : Nat) : Int) - 1 = (j : Int) := by omega
      have hja : (j : Int) < 20 := by omega
      have bb1 : 0 ≤ b := by omega
      have bb2 : b ≤ 1 := by omega
      rw [hj1]
      clear hbit
      go_wp2_with fail
      refine (HB.out _).mono ?_
      rintro e w2 ⟨rfl, rfl⟩
      go_wp2_with fail
      refine (HM.out _ _ inferInstance Bw (ho.cast (show _ = Stt v' s' g (N + (K - (j + 1))) f' * (Bk (X + 1) 70 #[.slice none 0 0, .int .i64 0, .int .i64 0, .map none] * (Bk X 70 #[v', .int .i64 (rOf s').low, .int .i64 (rOf s').width, .map (some g)] * R)) by ac_rfl))).mono ?_
      rintro e w4 ⟨v4, rfl, o4, b4⟩
      have hb4 := hb.trans b4
      have B4 := Nat.le_trans hB hb4.size
      have o4 := o4.cast (show _ = Bk (X + 1) 70 #[.slice none 0 0, .int .i64 0, .int .i64 0, .map none] * (Bk X 70 #[v', .int .i64 (rOf s').low, .int .i64 (rOf s').width, .map (some g)] * (Stt v4 s2 g (N + (K - j)) f2 * R)) by ac_rfl)
      obtain ⟨A4, c4, hv4⟩ := (show Own B (Rw 5 1 v4 (rOf s2).out.length (bytesV (rOf s2).out) * (Mi g (N + (K - j)) f2 * R)) w4 from (o4.right.right).assoc).row_n
      subst hv4
      have u0 : w4.cell? ⟨X, 0, none⟩ = some v' := o4.cellOf X 0
      have u1 : w4.cell? ⟨X, 1, none⟩ = some (.int .i64 (rOf s').low) := o4.cellOf X 1
      have u2 : w4.cell? ⟨X, 2, none⟩ = some (.int .i64 (rOf s').width) := o4.cellOf X 2
      have u3 : w4.cell? ⟨X, 3, none⟩ = some (.map (some g)) := o4.cellOf X 3
      have z0 := o4.freeOf X 0
      have z1 := o4.freeOf X 1
      have z2 := o4.freeOf X 2
      have z3 := o4.freeOf X 3
      obtain ⟨s0, t0⟩ := o4.setOf B4 X 0 (.slice A4 (rOf s2).out.length c4)
      have hs0 := hb4.trans t0
      have S0 := Nat.le_trans hB hs0.size
      obtain ⟨s1, t1⟩ := s0.setOf S0 X 1 (.int .i64 (rOf s2).low)
      have hs1 := hs0.trans t1
      have S1 := Nat.le_trans hB hs1.size
      obtain ⟨s2', t2⟩ := s1.setOf S1 X 2 (.int .i64 (rOf s2).width)
      have hs2 := hs1.trans t2
      have S2 := Nat.le_trans hB hs2.size
      obtain ⟨s3, t3⟩ := s2'.setOf S2 X 3 (.map (some g))
      have hs3 := hs2.trans t3
      have Fin := Lib.hid (And.intro s3 hs3)
      have hcast : (((2 * at_ + b.toNat : Nat)) : Int) = (at_ : Int) * 2 + b := by omega
      have Hcast := Lib.hid hcast
      clear HB HM o4 b4 hb4 s0 s1 s2' s3 t0 t1 t2 t3 hs0 hs1 hs2 hs3 ho hb hcast
      go_wp2
      go_roundg j
      case measure => omega
      case rel => exact ⟨2 * at_ + b.toNat, .slice A4 (rOf s2).out.length c4, s2, cl2, f2, by omega, congrArg (Value.int .i64) (by rw [Hcast.out]), rfl, Hat2, Fin.out.1, Fin.out.2, He2, Hst2, Hot2⟩
end Go.Proofs.Ytedcficjmogohaa
