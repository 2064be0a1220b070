/- The walk over the law EntryTells. -/
import Derived.Test.YtfppancidgamjaaDoorEg
namespace Go.Proofs.YtfppancidgamjaaDoor
set_option linter.unusedVariables false
set_option linter.unusedSimpArgs false
open Go.RowKit

theorem within_is_take (l : List En) (n : Int) : withinE l n = l.take (withinE l n).length := by
  have : withinE l n <+: l := by
    unfold withinE; split
    · exact List.takeWhile_prefix _
    · exact List.nil_prefix
  exact List.prefix_iff_eq_take.1 this
/-- What one sees of entries from the k-th on: the first one of a path. -/
def Seen (l : List En) (p : List UInt8) (k : Nat) (e : En) (b : Bool) : Prop := (findE (l.drop k) p).getD default = e ∧ (findE (l.drop k) p).isSome = b
theorem seen_end (l : List En) (p : List UInt8) : Seen l p l.length default false := by
  unfold Seen findE; simp
theorem seen_is {l : List En} {p : List UInt8} {k : Nat} (hk : k < l.length) (h : l[k].path = p) : Seen l p k l[k] true := by
  unfold Seen findE
  rw [List.drop_eq_getElem_cons hk, List.find?_cons_of_pos (by simpa using h)]
  exact ⟨rfl, rfl⟩
theorem seen_not {l : List En} {p : List UInt8} {k : Nat} {e : En} {b : Bool} (hk : k < l.length) (h : ¬ l[k].path = p) (hs : Seen l p (k + 1) e b) : Seen l p k e b := by
  unfold Seen findE at *
  rw [List.drop_eq_getElem_cons hk, List.find?_cons_of_neg (by simpa using h)]
  exact hs
theorem seen_all {l : List En} {p : List UInt8} {e : En} {b : Bool} (hs : Seen l p 0 e b) : (findE l p).getD default = e ∧ (findE l p).isSome = b := hs

set_option maxRecDepth 100000 in
set_option maxHeartbeats 6400000 in
theorem tells_walk (A : Option Addr) (c : Nat) (l : List En) (hl : l.length ≤ c) (hc : c ≤ 9223372036854775807) (hw : ∀ x ∈ l, x.ok) (n : Int) (p : ByteArray) (w : World) (h : Sh w) (hr : RdA 7 enL w A l) :
    Calls Tryd.prog 8 #[.slice A l.length c, .int .i64 n, .string p] w fun e w' => e = .returned (.bool true) ∧ Below w.heap.size w w' := by
  have hb := Below.refl w.heap.size w
  have Hh := Lib.hid (fun w1 (b : Below w.heap.size w w1) => sh_below h b)
  have Aw := Lib.hid (fun w1 h1 => awakeE_any w1 h1)
  have Fe := Lib.hid (short_any A c l (by omega) hw w hr)
  have Hr := Lib.hid (fun w1 (b : Below w.heap.size w w1) => hr.below b)
  by_cases hf : shortP l
  · rw [decide_eq_true hf] at Fe
    by_cases hp : 300 < p.size
    · have hp1 : (300 : Int) < (p.size : Int) := by omega
      clear h hr hf
      go_enter Tryd.func8, Tryd.ntmps8
      go_wp2_with fail
      refine (Fe.out).mono ?_
      rintro e wz ⟨rfl, rfl⟩
      go_wp2_with fail
      refine (Aw.out _ (Hh.out _ hb)).mono ?_
      rintro e wz ⟨rfl, b⟩
      replace hb := hb.trans (b.mono hb.size)
      clear b
      go_wp2
      go_ret
      exact ⟨rfl, hb⟩
    have hp1 : ¬ (300 : Int) < (p.size : Int) := by omega
    have f1 := hf.1
    have f2 : ∀ e ∈ l, e.path.length ≤ 4294967280 := fun e he => by have := (hf.2 e he).1; omega
    have n1 : (l.length : Int) ≤ 20 := by omega
    have n2 : (l.length : Int) ≤ (c : Int) := by omega
    have n3 : (c : Int) ≤ 9223372036854775807 := by omega
    have G := Lib.hid (given_any A c l (by omega) w hr)
    have Wr := Lib.hid (fun A c w1 hr => refwithin_any A c l (by omega) hw f2 n w1 hr)
    have W := Lib.hid (fun w1 h1 hr => within_any A c l (by omega) hw f2 n w1 h1 hr)
    have F := Lib.hid (fun w1 h1 hr => fine_any A c l (by omega) hw f2 w1 h1 hr)
    have T := Lib.hid (fun w1 h1 hr => total_any A c l (by omega) hw f2 w1 h1 hr)
    have Fr := Lib.hid (fun A c w1 hr => reffine_any A c l (by omega) hw f2 w1 hr)
    have Tr := Lib.hid (fun A c w1 hr => reftotal_any A c l (by omega) hw f2 w1 hr)
    have Fi := Lib.hid (fun w1 hr => find_any A c l (by omega) p w1 hr)
    have ht := within_is_take l n
    have hle : (withinE l n).length ≤ l.length := by rw [ht, List.length_take]; omega
    have Sm := Lib.hid (fun A B ca cb w1 hra hrb => same_any A B ca cb (withinE l n) (l.take (withinE l n).length) (by omega) (by rw [List.length_take]; omega) w1 hra hrb)
    rw [← ht, decide_eq_true rfl] at Sm
    have Ht := Lib.hid ht
    have hg := guardEn
    clear h hr hf f2 ht
    generalize withinE l n = a at *
    have a0 : (0 : Int) ≤ (a.length : Int) := by omega
    have a1 : (a.length : Int) ≤ (l.length : Int) := by omega
    go_enter Tryd.func8, Tryd.ntmps8
    go_wp2_with fail
    refine (Fe.out).mono ?_
    rintro e wz ⟨rfl, rfl⟩
    go_wp2_with fail
    refine G.out.mono ?_
    rintro e w1 ⟨Ag, cg, rfl, ⟨kg1, kg2⟩, rg, b1⟩
    have Rg := Lib.hid rg
    have hb1 := Below.refl w1.heap.size w1
    replace hb := hb.trans (b1.mono hb.size)
    clear rg b1
    have cg1 : (a.length : Int) ≤ (cg : Int) := by omega
    have cg2 : a.length ≤ cg := by omega
    go_wp2_with fail
    refine (Wr.out _ _ _ Rg.out).mono ?_
    rintro e w2 ⟨rfl, b2⟩
    replace hb := hb.trans (b2.mono hb.size)
    replace hb1 := hb1.trans b2
    clear b2
    go_wp2_with fail
    refine (W.out _ (Hh.out _ hb) (Hr.out _ hb)).mono ?_
    rintro e w3 ⟨Aa, ca, rfl, ⟨ka1, ka2⟩, ra, b3⟩
    replace hb := hb.trans (b3.mono hb.size)
    replace hb1 := hb1.trans (b3.mono hb1.size)
    have Sg := Lib.hid (Sm.out Aa Ag ca cg w3 ra (by rw [Ht.out]; exact (Rg.out.below hb1).take _))
    clear b3 ra
    go_wp2_with fail
    refine Sg.out.mono ?_
    rintro e wz ⟨rfl, b4⟩
    replace hb := hb.trans (b4.mono hb.size)
    replace hb1 := hb1.trans (b4.mono hb1.size)
    have bz : w1.heap.size ≤ wz.heap.size := hb1.size
    have o0 := (Own.start wz.heap.size wz).new (Nat.le_refl _) 30 #[.string ByteArray.empty, .int .i64 0, .int .i64 0, .int .i64 0, .string ByteArray.empty, .int .i64 0, .int .i64 0]
    have hbz := (Below.refl wz.heap.size wz).alloc (Nat.le_refl _) (.cells #[.string ByteArray.empty, .int .i64 0, .int .i64 0, .int .i64 0, .string ByteArray.empty, .int .i64 0, .int .i64 0] 30)
    clear b4
    go_wp2
    go_loopg [11, 12] l.length (fun k v11 v12 wr => ∃ (path : List UInt8) (kind mode time : Int) (tgt : List UInt8) (beg size : Int) (hs : Bool), Hid (k ≤ l.length ∧ Seen l p.data.toList k ⟨path, kind, mode, time, tgt, beg, size⟩ hs) ∧ v11 = .bool hs ∧ v12 = .int .i64 ((k : Int) - 1) ∧ Below wz.heap.size wz wr ∧ Own wz.heap.size (Bk wz.heap.size 30 #[.string (str path), .int .i64 kind, .int .i64 mode, .int .i64 time, .string (str tgt), .int .i64 beg, .int .i64 size] * Emp) wr)
    case atStart => exact ⟨[], 0, 0, 0, [], 0, 0, false, Lib.hid ⟨Nat.le_refl _, seen_end _ _⟩, rfl, rfl, hbz, o0⟩
    case round =>
      clear hbz o0
      obtain ⟨path, kind, mode, time, tgt, beg, size, has, Hs, rfl, rfl, hbz, ho⟩ := hrel
      have hkl := Hs.out.1
      have f0 := ho.unfrozen 0
      have f1 := ho.unfrozen 1
      have f2 := ho.unfrozen 2
      have f3 := ho.unfrozen 3
      have f4 := ho.unfrozen 4
      have f5 := ho.unfrozen 5
      have f6 := ho.unfrozen 6
      have c0 : wr.cell? ⟨wz.heap.size, 0, none⟩ = some (.string (str path)) := ho.cell 0
      have c1 : wr.cell? ⟨wz.heap.size, 1, none⟩ = some (.int .i64 kind) := ho.cell 1
      have c2 : wr.cell? ⟨wz.heap.size, 2, none⟩ = some (.int .i64 mode) := ho.cell 2
      have c3 : wr.cell? ⟨wz.heap.size, 3, none⟩ = some (.int .i64 time) := ho.cell 3
      have c4 : wr.cell? ⟨wz.heap.size, 4, none⟩ = some (.string (str tgt)) := ho.cell 4
      have c5 : wr.cell? ⟨wz.heap.size, 5, none⟩ = some (.int .i64 beg) := ho.cell 5
      have c6 : wr.cell? ⟨wz.heap.size, 6, none⟩ = some (.int .i64 size) := ho.cell 6
      by_cases hlt : (0 : Int) ≤ (gk : Int) - 1
      · obtain ⟨j, rfl⟩ : ∃ j, gk = j + 1 := ⟨gk - 1, by omega⟩
        have ej : ((j + 1 : Nat) : Int) - 1 = (j : Int) := by omega
        rw [ej] at *
        have hil : j < l.length := by omega
        have i0' : (0 : Int) ≤ (j : Int) := by omega
        have i1' : (j : Int) < (l.length : Int) := by omega
        obtain ⟨b, off, rfl, q, d⟩ := Hr.out _ (hb.trans (hbz.mono hb.size)) j hil
        have hs2 := Hs.out.2
        have Hs0 := Lib.hid (fun (hx : l[j].path = p.data.toList) => seen_is hil hx)
        have Hs1 := Lib.hid (fun (hx : ¬ l[j].path = p.data.toList) => seen_not hil hx hs2)
        clear hs2 Hs
        generalize l[j] = x at *
        obtain ⟨pa, ki, mo, ti, tg, be, si⟩ := x
        obtain ⟨d0, d1, d2, d3, d4, d5, d6⟩ := RdA.cells7 d
        simp only at d0 d1 d2 d3 d4 d5 d6 Hs0 Hs1
        clear d
        by_cases hx : pa = p.data.toList
        · have hx1 : (str pa).toList = p.toList := by rw [ByteArray.toList_eq, ByteArray.toList_eq]; exact hx
          have hx2 : ((str pa).toList == p.toList) = true := by rw [hx1]; simp
          have Hs2 := Lib.hid (Hs0.out hx)
          have s6 := ho.set7 hbz.size (.string (str pa)) (.int .i64 ki) (.int .i64 mo) (.int .i64 ti) (.string (str tg)) (.int .i64 be) (.int .i64 si)
          have S6 := Lib.hid (And.intro (hbz.trans s6.2) s6.1)
          clear s6 Hs0 Hs1 hx ho hbz
          go_wp2
          go_roundg j
          case measure => omega
          case rel => exact ⟨pa, ki, mo, ti, tg, be, si, true, Lib.hid ⟨by omega, Hs2.out⟩, rfl, rfl, S6.out.1, S6.out.2⟩
        · have hx1 : ¬ (str pa).toList = p.toList := by rw [ByteArray.toList_eq, ByteArray.toList_eq]; exact hx
          have hx2 : ((str pa).toList == p.toList) = false := by simpa using hx1
          have Hs2 := Lib.hid (Hs1.out hx)
          clear Hs0 Hs1 hx
          go_wp2
          go_roundg j
          case measure => omega
          case rel => exact ⟨path, kind, mode, time, tgt, beg, size, has, Lib.hid ⟨by omega, Hs2.out⟩, rfl, rfl, hbz, ho⟩
      · obtain rfl : gk = 0 := by omega
        obtain ⟨q1, q2⟩ := seen_all Hs.out.2
        have Q1 := Lib.hid q1
        have Q2 := Lib.hid q2
        replace hb := hb.trans (hbz.mono hb.size)
        replace hb1 := hb1.trans (hbz.mono hb1.size)
        clear Hs hkl f0 f1 f2 f3 f4 f5 f6 c0 c1 c2 c3 c4 c5 c6 q1 q2
        go_wp2_with fail
        refine (Fi.out _ (Hr.out _ hb)).mono ?_
        rintro e w5 ⟨rfl, b5⟩
        replace hb := hb.trans (b5.mono hb.size)
        replace hb1 := hb1.trans (b5.mono hb1.size)
        have o1 := ho.grown hbz.size b5
        replace hbz := hbz.trans (b5.mono hbz.size)
        rw [Q1.out, Q2.out]
        simp only [enL]
        have o2 := o1.new hbz.size 30 #[.string (str path), .int .i64 kind, .int .i64 mode, .int .i64 time, .string (str tgt), .int .i64 beg, .int .i64 size]
        have al := fun {B : Nat} {w0 : World} (h : Below B w0 w5) (k : B ≤ w0.heap.size) => h.alloc (Nat.le_trans k h.size) (.cells #[.string (str path), .int .i64 kind, .int .i64 mode, .int .i64 time, .string (str tgt), .int .i64 beg, .int .i64 size] 30)
        replace hb := al hb (Nat.le_refl _)
        replace hb1 := al hb1 (Nat.le_refl _)
        replace hbz := al hbz (Nat.le_refl _)
        clear ho b5 o1 al
        have heq := eqlEn ⟨path, kind, mode, time, tgt, beg, size⟩ ⟨path, kind, mode, time, tgt, beg, size⟩
        rw [decide_eq_true rfl] at heq
        simp only [enL] at heq
        generalize fineB l = fb at *
        generalize totalE l = tt at *
        have hfb : (fb == fb) = true := by simp
        have htt : (tt == tt) = true := by simp
        have hhas : (has == has) = true := by simp
        go_wp2_with fail
        generalize w5.alloc (.cells #[.string (str path), .int .i64 kind, .int .i64 mode, .int .i64 time, .string (str tgt), .int .i64 beg, .int .i64 size] 30) = W5 at *
        generalize w5.heap.size = g13 at *
        refine (F.out _ (Hh.out _ hb) (Hr.out _ hb)).mono ?_
        rintro e w6 ⟨rfl, b6⟩
        replace hb := hb.trans (b6.mono hb.size)
        replace hb1 := hb1.trans (b6.mono hb1.size)
        have o3 := o2.grown hbz.size b6
        replace hbz := hbz.trans (b6.mono hbz.size)
        clear b6 o2
        go_wp2_with fail
        refine (Fr.out _ _ _ (Rg.out.below hb1)).mono ?_
        rintro e w7 ⟨rfl, b7⟩
        replace hb := hb.trans (b7.mono hb.size)
        replace hb1 := hb1.trans (b7.mono hb1.size)
        have o4 := o3.grown hbz.size b7
        replace hbz := hbz.trans (b7.mono hbz.size)
        clear b7 o3
        go_wp2_with fail
        refine (T.out _ (Hh.out _ hb) (Hr.out _ hb)).mono ?_
        rintro e w8 ⟨rfl, b8⟩
        replace hb := hb.trans (b8.mono hb.size)
        replace hb1 := hb1.trans (b8.mono hb1.size)
        have o5 := o4.grown hbz.size b8
        replace hbz := hbz.trans (b8.mono hbz.size)
        clear b8 o4
        go_wp2_with fail
        refine (Tr.out _ _ _ (Rg.out.below hb1)).mono ?_
        rintro e w9 ⟨rfl, b9⟩
        replace hb := hb.trans (b9.mono hb.size)
        have o6 := o5.grown hbz.size b9
        clear b9 o5 hbz hb1
        have o7 := o6.cast (sep_left_comm _ _ _)
        have c0 : w9.cell? ⟨g13, 0, none⟩ = some (.string (str path)) := o6.cell 0
        have c1 : w9.cell? ⟨g13, 1, none⟩ = some (.int .i64 kind) := o6.cell 1
        have c2 : w9.cell? ⟨g13, 2, none⟩ = some (.int .i64 mode) := o6.cell 2
        have c3 : w9.cell? ⟨g13, 3, none⟩ = some (.int .i64 time) := o6.cell 3
        have c4 : w9.cell? ⟨g13, 4, none⟩ = some (.string (str tgt)) := o6.cell 4
        have c5 : w9.cell? ⟨g13, 5, none⟩ = some (.int .i64 beg) := o6.cell 5
        have c6 : w9.cell? ⟨g13, 6, none⟩ = some (.int .i64 size) := o6.cell 6
        have d0 : w9.cell? ⟨wz.heap.size, 0, none⟩ = some (.string (str path)) := o7.cell 0
        have d1 : w9.cell? ⟨wz.heap.size, 1, none⟩ = some (.int .i64 kind) := o7.cell 1
        have d2 : w9.cell? ⟨wz.heap.size, 2, none⟩ = some (.int .i64 mode) := o7.cell 2
        have d3 : w9.cell? ⟨wz.heap.size, 3, none⟩ = some (.int .i64 time) := o7.cell 3
        have d4 : w9.cell? ⟨wz.heap.size, 4, none⟩ = some (.string (str tgt)) := o7.cell 4
        have d5 : w9.cell? ⟨wz.heap.size, 5, none⟩ = some (.int .i64 beg) := o7.cell 5
        have d6 : w9.cell? ⟨wz.heap.size, 6, none⟩ = some (.int .i64 size) := o7.cell 6
        go_wp2_with fail
        refine (Aw.out _ (Hh.out _ hb)).mono ?_
        rintro e wz ⟨rfl, b⟩
        replace hb := hb.trans (b.mono hb.size)
        clear b
        go_wp2
        go_ret
        exact ⟨rfl, hb⟩
  · rw [decide_eq_false hf] at Fe
    clear h hr hf
    go_enter Tryd.func8, Tryd.ntmps8
    go_wp2_with fail
    refine (Fe.out).mono ?_
    rintro e wz ⟨rfl, rfl⟩
    go_wp2_with fail
    refine (Aw.out _ (Hh.out _ hb)).mono ?_
    rintro e wz ⟨rfl, b⟩
    replace hb := hb.trans (b.mono hb.size)
    clear b
    go_wp2
    go_ret
    exact ⟨rfl, hb⟩
end Go.Proofs.YtfppancidgamjaaDoor
