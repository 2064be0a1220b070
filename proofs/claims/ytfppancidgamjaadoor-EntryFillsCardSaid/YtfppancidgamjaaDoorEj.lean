/- The walk over Fill of package entry. -/
import Derived.Test.YtfppancidgamjaaDoorEi
import Derived.Test.YtfppancidgamjaaDoorTwo
namespace Go.Proofs.YtfppancidgamjaaDoor
set_option linter.unusedVariables false
set_option linter.unusedSimpArgs false
open Go.RowKit

theorem infoFi : (Tryd.prog.info? 41).map (fun i => (i.zero, i.size, i.bytes)) = some (some (.agg #[.string ByteArray.empty, .int .i64 0, .int .i64 0, .int .i64 0, .slice none 0 0, .string ByteArray.empty]), 6, 80) := by kernel_rfl
def fileOf (data : List UInt8) (e : En) : Fi := ⟨e.path, e.kind, e.mode, e.time, (data.drop e.beg.toNat).take e.size.toNat, e.tgt⟩
def fillE (l : List En) (data : List UInt8) : Option (List Fi) := if fineB l = true ∧ (data.length : Int) = totalE l then some (l.map (fileOf data)) else none
def FillP (w : World) : Option (List Fi) → Ending → World → Prop
  | none, e, w' => e = .returned (.tuple #[.slice none 0 0, .int .i64 1]) ∧ Below w.heap.size w w'
  | some fs, e, w' => ∃ (A : Option Addr) (c : Nat) (l : List (Fi × Value)), l.map (·.1) = fs ∧ e = .returned (.tuple #[.slice A l.length c, .int .i64 0]) ∧ (l.length ≤ c ∧ c ≤ 9223372036854775807) ∧ RdF w' A l ∧ Below w.heap.size w w'
theorem FillP.mk {w w' : World} {fs : List Fi} {e : Ending} {A : Option Addr} {c n : Nat} {l : List (Fi × Value)} {z : Int} (he : e = .returned (.tuple #[.slice A n c, .int .i64 z])) (hz : z = 0) (hn : n = l.length) (hl : l.map (·.1) = fs) (hc : n ≤ c ∧ c ≤ 9223372036854775807) (hr : RdF w' A l) (hb : Below w.heap.size w w') : FillP w (some fs) e w' := by
  subst hz; subst hn; exact ⟨A, c, l, hl, he, hc, hr, hb⟩
theorem fine_ends {l : List En} (h : fineB l = true) (i : Nat) (hi : i < l.length) : l[i].beg + l[i].size ≤ totalE l := by
  obtain ⟨h1, h2⟩ := fineB_true h
  obtain ⟨_, _, _, hp⟩ := whyE_zero h1
  unfold totalE
  rw [if_pos h, h2 i hi, ← sumS_snoc, ← List.take_succ_eq_append_getElem hi]
  exact sumS_take hp _

theorem Rd.cut {w : World} {A : Option Addr} {n c : Nat} {data : List UInt8} (h : Rd w (.slice A n c) (bytesU data)) {l m : Nat} (hm : l + m ≤ data.length) (hc : data.length ≤ c) (c' : Nat) :
    Rd w (.slice (if c = l then A else Option.map (fun x => x.add l) A) m c') (bytesU ((data.drop l).take m)) := by
  have hl : ((data.drop l).take m).length = m := by rw [List.length_take, List.length_drop]; omega
  split
  · next e =>
    have : m = 0 := by omega
    subst this
    exact ⟨A, c', by simp [bytesU], fun hne => absurd (by simp [bytesU]) hne⟩
  · exact h.part l m c' _ (by unfold bytesU; rw [← List.map_drop, ← List.map_take]) (by rw [bytesU_length, hl])

set_option maxRecDepth 100000 in
set_option maxHeartbeats 6400000 in
theorem fill_any (A : Option Addr) (c : Nat) (l : List En) (hl : l.length ≤ 4294967296) (ok : ∀ e ∈ l, e.ok) (hx : ∀ e ∈ l, e.path.length ≤ 4294967280) (Ad : Option Addr) (cd : Nat) (data : List UInt8) (hdc : data.length ≤ cd ∧ cd ≤ 9223372036854775807) (w : World) (h : Sh w) (hr : RdA 7 enL w A l) (hd : Rd w (.slice Ad data.length cd) (bytesU data)) :
    Calls Tryd.prog 21 #[.slice A l.length c, .slice Ad data.length cd] w (FillP w (fillE l data)) := by
  obtain ⟨i0, hi, hz0, hz1, hz2⟩ := info_parts infoFi
  have Hi0 := Lib.hid (And.intro hi (And.intro hz0 (And.intro hz1 hz2)))
  have hb := Below.refl w.heap.size w
  have Hh := Lib.hid (fun w1 (b : Below w.heap.size w w1) => sh_below h b)
  have Hr := Lib.hid (fun w1 (b : Below w.heap.size w w1) => hr.below b)
  have Hd := Lib.hid (fun w1 (b : Below w.heap.size w w1) => hd.below b)
  have F := Lib.hid (fun w1 h1 hr => fine_any A c l hl ok hx w1 h1 hr)
  have T := Lib.hid (fun w1 h1 hr => total_any A c l hl ok hx w1 h1 hr)
  have n1 : (l.length : Int) ≤ 4294967296 := by omega
  cases hff : fineB l with
  | false =>
    have e0 : Hid (fillE l data = none) := Lib.hid (by unfold fillE; rw [if_neg]; rintro ⟨h1, _⟩; rw [hff] at h1; cases h1)
    rw [hff] at F
    clear h hr hd hff hi hz0 hz1 hz2
    go_enter Tryd.func21, Tryd.ntmps21
    go_wp2_with fail
    refine (F.out _ (Hh.out _ hb) (Hr.out _ hb)).mono ?_
    rintro e wz ⟨rfl, b⟩
    replace hb := hb.trans (b.mono hb.size)
    clear b
    go_wp2
    go_ret2
    rw [e0.out]
    exact ⟨rfl, hb⟩
  | true =>
    rw [hff] at F
    by_cases ht : (data.length : Int) = totalE l
    · have e0 : Hid (fillE l data = some (l.map (fileOf data))) := Lib.hid (by unfold fillE; rw [if_pos ⟨hff, ht⟩])
      have Hb := Lib.hid (fun i hi => fine_bounds hff i hi)
      have He := Lib.hid (fun i hi => fine_ends hff i hi)
      rw [← ht] at T He
      have hO := (Own.start w.heap.size w).emp.rw_nil 41 6
      clear h hr hd hff hi hz0 hz1 hz2 ht
      go_enter Tryd.func21, Tryd.ntmps21
      go_wp2_with fail
      refine (F.out _ (Hh.out _ hb) (Hr.out _ hb)).mono ?_
      rintro e w1 ⟨rfl, b1⟩
      replace hO := hO.grown (Nat.le_refl _) b1
      replace hb := hb.trans (b1.mono hb.size)
      clear b1
      go_wp2_with fail
      refine (T.out _ (Hh.out _ hb) (Hr.out _ hb)).mono ?_
      rintro e w2 ⟨rfl, b2⟩
      replace hO := hO.grown hb.size b2
      replace hb := hb.trans (b2.mono hb.size)
      clear b2
      have hOD : Own w.heap.size (Rw 41 6 (.slice none 0 0) 0 (flat fiL []) * (Dat [] * Emp)) w2 := hO
      clear hO
      have htt : (data.length == data.length) = true := by simp
      go_wp2
      go_loopg [6, 22] l.length (fun k v u wr => ∃ (i : Nat) (A' : Option Addr) (c' : Nat) (fs : List (Fi × Value)), k + i = l.length ∧ u = .int .i64 i ∧ v = .slice A' i c' ∧ Hid (fs.length = i ∧ fs.map (·.1) = (l.take i).map (fileOf data)) ∧ Below w.heap.size w wr ∧ Own w.heap.size (Rw 41 6 (.slice A' i c') i (flat fiL fs) * (Dat fs * Emp)) wr)
      case atStart => exact ⟨0, none, 0, [], by omega, rfl, rfl, Lib.hid ⟨rfl, rfl⟩, hb, hOD⟩
      case round =>
        clear hb hOD
        obtain ⟨i, A', c', fs, hk, rfl, rfl, hfs, hb, ho⟩ := hrel
        by_cases hlt : (i : Int) < (l.length : Int)
        · obtain ⟨j, rfl⟩ : ∃ j, gk = j + 1 := ⟨gk - 1, by omega⟩
          have hil : i < l.length := by omega
          have i0' : (0 : Int) ≤ (i : Int) := by omega
          have Hk := Lib.hid hk
          clear hk
          obtain ⟨b, off, rfl, q, d⟩ := Hr.out _ hb i hil
          have hbd := Hb.out i hil
          have hed := He.out i hil
          have htk : (l.take (i + 1)).map (fileOf data) = (l.take i).map (fileOf data) ++ [fileOf data l[i]] := by rw [List.take_succ_eq_append_getElem hil, List.map_append]; rfl
          have Htk := Lib.hid htk
          clear htk
          generalize l[i] = x at *
          obtain ⟨path, kind, mode, time, tgt, beg, size⟩ := x
          obtain ⟨d0, d1, d2, d3, d4, d5, d6⟩ := RdA.cells7 d
          simp only at d0 d1 d2 d3 d4 d5 d6 hbd hed Htk
          clear d
          obtain ⟨bn, rfl⟩ : ∃ n : Nat, beg = (n : Int) := ⟨beg.toNat, by omega⟩
          obtain ⟨sn, rfl⟩ : ∃ n : Nat, size = (n : Int) := ⟨size.toNat, by omega⟩
          obtain ⟨h1, h2, h3, h4⟩ := hbd
          have o1 := ho.new hb.size 30 #[.string (str path), .int .i64 kind, .int .i64 mode, .int .i64 time, .string (str tgt), .int .i64 (bn : Int), .int .i64 (sn : Int)]
          have hb1 := hb.alloc hb.size (.cells #[.string (str path), .int .i64 kind, .int .i64 mode, .int .i64 time, .string (str tgt), .int .i64 (bn : Int), .int .i64 (sn : Int)] 30)
          have o2 := o1.new hb1.size 41 #[.string (str path), .int .i64 kind, .int .i64 mode, .int .i64 time, .slice none 0 0, .string (str tgt)]
          have hb2 := hb1.alloc hb1.size (.cells #[.string (str path), .int .i64 kind, .int .i64 mode, .int .i64 time, .slice none 0 0, .string (str tgt)] 41)
          clear o1 hb1 ho hb
          go_wp2
          clear d0 d1 d2 d3 d4 d5 d6
          have g9e : (wr.alloc (.cells #[.string (str path), .int .i64 kind, .int .i64 mode, .int .i64 time, .string (str tgt), .int .i64 (bn : Int), .int .i64 (sn : Int)] 30)).heap.size = wr.heap.size + 1 := by simp
          rw [g9e] at o2
          generalize (wr.alloc (.cells #[.string (str path), .int .i64 kind, .int .i64 mode, .int .i64 time, .string (str tgt), .int .i64 (bn : Int), .int .i64 (sn : Int)] 30)).alloc (.cells #[.string (str path), .int .i64 kind, .int .i64 mode, .int .i64 time, .slice none 0 0, .string (str tgt)] 41) = W2 at *
          generalize wr.heap.size + 1 = g9 at *
          generalize wr.heap.size = g8 at *
          clear g9e
          have m1 : (bn : Int) + (sn : Int) ≤ (cd : Int) := by omega
          have m2 : (bn : Int) ≤ (bn : Int) + (sn : Int) := by omega
          have m3 : (0 : Int) ≤ (bn : Int) + (sn : Int) := by omega
          refine wp_region_mix (St w.heap.size _ W2) [0, 1, 2, 3, 4, 5, 6, 7, 8, 9, 10] [11, 12, 13] mixed (by kernel_rfl) rfl (St.drew hb2.size o2) ?_
          simp only [List.filterMap_cons, List.filterMap_nil, List.getElem?_toArray, List.getElem?_cons_succ, List.getElem?_cons_zero]
          repeat (first
            | (refine held_val ?_ rfl (fun w1 hS => ?_) ?_
               rotate_left
               · (have c4 : w1.cell? ⟨g9, 4, none⟩ = some (.slice none 0 0) := hS.2.1.cell 4; have e5 : w1.cell? ⟨g8, 5, none⟩ = some (.int .i64 (bn : Int)) := (hS.2.1.cast (sep_left_comm _ _ _)).cell 5; have e6 : w1.cell? ⟨g8, 6, none⟩ = some (.int .i64 (sn : Int)) := (hS.2.1.cast (sep_left_comm _ _ _)).cell 6
                  go_simp
                  try go_bits
                  rfl)
               simp only [Act.put, List.setIfInBounds_toArray, List.set_cons_zero, List.set_cons_succ])
            | (refine held_off rfl ?_
               simp only [Act.put, List.setIfInBounds_toArray, List.set_cons_zero, List.set_cons_succ]))
          refine held_nil ?_
          rintro w3 ⟨B3, o3, b3⟩
          have hb3 := hb2.trans b3
          have hsn : bn + sn - bn = sn := by omega
          have hdl : bn + sn ≤ data.length := by omega
          have hrd := Rd.cut (Hd.out _ hb3) hdl hdc.1 (cd - bn)
          have Htk := Lib.hid Htk.out
          have hfo : fileOf data ⟨path, kind, mode, time, tgt, (bn : Int), (sn : Int)⟩ = ⟨path, kind, mode, time, (data.drop bn).take sn, tgt⟩ := rfl
          have hpl : ((data.drop bn).take sn).length = sn := by rw [List.length_take, List.length_drop]; omega
          have Hfo := Lib.hid hfo
          clear hfo
          generalize (data.drop bn).take sn = part at *
          subst hpl
          rw [hsn]
          generalize (if cd = bn then Ad else Option.map (fun x => x.add bn) Ad) = As at *
          generalize cd - bn = cq at *
          obtain ⟨v4, w4, hrun4, o4, b4⟩ := byte_append (xs := []) B3 (o3.rw_nil 5 1) hrd (by simp; omega)
          rw [List.nil_append] at o4
          obtain ⟨Ap, cp, rfl⟩ := o4.row_n
          have B4 := Nat.le_trans B3 b4.size
          have hb4 := hb3.trans b4
          refine wpList_append_at rfl (.tmp 38) (.tmp 47) 39 rfl rfl rfl hrun4 ?_
          simp only [Act.put, List.setIfInBounds_toArray, List.set_cons_zero, List.set_cons_succ]
          clear hrun4 hrd o3 b3 b4 hb2 o2
          have k9 := o4.cast (sep_left_comm _ _ _)
          have c0 : w4.cell? ⟨g9, 0, none⟩ = some (.string (str path)) := k9.cell 0
          have c1 : w4.cell? ⟨g9, 1, none⟩ = some (.int .i64 kind) := k9.cell 1
          have c2 : w4.cell? ⟨g9, 2, none⟩ = some (.int .i64 mode) := k9.cell 2
          have c3 : w4.cell? ⟨g9, 3, none⟩ = some (.int .i64 time) := k9.cell 3
          have c4 : w4.cell? ⟨g9, 4, none⟩ = some (.slice none 0 0) := k9.cell 4
          have c5 : w4.cell? ⟨g9, 5, none⟩ = some (.string (str tgt)) := k9.cell 5
          have z4 := k9.unfrozen 4
          obtain ⟨B5, o5, b5⟩ := Own.step B4 k9 4 (.slice Ap part.length cp)
          have hb5 := hb4.trans b5
          clear o4 k9
          obtain ⟨g2, cap2, w6, hrun, o6, b6⟩ := row_append (P := Tryd.prog) hb5.size Tryd.underlying22 Hi0.out.1 Hi0.out.2.1 Hi0.out.2.2.1 Hi0.out.2.2.2 rfl (by omega) (o5.cast (show _ = Rw 41 6 (.slice A' i c') i (flat fiL fs) * (Bk g9 _ _ * (Bk g8 _ _ * (Rw _ _ _ _ _ * (Dat fs * Emp)))) by ac_rfl)) #[.string (str path), .int .i64 kind, .int .i64 mode, .int .i64 time, .slice Ap part.length cp, .string (str tgt)] rfl
            (by intro u hu; simp at hu; rcases hu with rfl | rfl | rfl | rfl | rfl | rfl <;> rfl) (by omega) (by omega)
          rw [show (w4.setCell ⟨g9, 4, none⟩ (.slice Ap part.length cp)).heap.size = w4.heap.size by simp [World.setCell]] at hrun
          have Hrun := Lib.hid hrun
          have hb6 := hb5.trans b6
          have o7 := (o6.cast (show _ = Bk g9 _ _ * (Bk g8 _ _ * (Dat fs * (Rw _ _ _ _ _ * (Rw 41 6 _ _ _ * Emp)))) by ac_rfl)).right.right
          have o8 := Own.dat_snoc (x := (⟨path, kind, mode, time, part, tgt⟩, .slice Ap part.length cp)) o7
          have o9 : Own w.heap.size (Rw 41 6 (.slice (some ⟨g2, 0, none⟩) (i + 1) cap2) (i + 1) (flat fiL (fs ++ [(⟨path, kind, mode, time, part, tgt⟩, .slice Ap part.length cp)])) * (Dat (fs ++ [(⟨path, kind, mode, time, part, tgt⟩, .slice Ap part.length cp)]) * Emp)) w6 := by
            rw [flat_snoc]
            exact o8.cast (by ac_rfl)
          have Hnew := Lib.hid (And.intro hb6 o9)
          clear hrun o5 o6 o7 o8 o9 hb6 hb5 hb4 hb3 b6 b5
          go_wp2_with (at_builtin; refine wpList_append_at rfl (.tmp 50) (.tmp 52) 22 rfl rfl rfl Hrun.out ?_)
          go_roundg j
          case measure => omega
          case rel => exact ⟨i + 1, some ⟨g2, 0, none⟩, cap2, _, by have := Hk.out; omega, rfl, rfl, Lib.hid ⟨by rw [List.length_append, hfs.out.1]; rfl, by rw [List.map_append, hfs.out.2, Htk.out, Hfo.out]; rfl⟩, Hnew.out.1, Hnew.out.2⟩
        · obtain rfl : i = l.length := by omega
          obtain ⟨q1, q2⟩ := hfs.out
          rw [List.take_length] at q2
          go_wp2
          go_ret2
          rw [e0.out]
          exact FillP.mk rfl rfl q1.symm q2 ho.cap ⟨ho.rdA fiL_len q1.symm, ho.right.dat⟩ hb
    · have e0 : Hid (fillE l data = none) := Lib.hid (by unfold fillE; rw [if_neg]; rintro ⟨_, h1⟩; exact ht h1)
      have ht1 : ¬ (totalE l) = (data.length : Int) := fun e => ht e.symm
      clear h hr hd hff hi hz0 hz1 hz2
      generalize totalE l = tt at *
      go_enter Tryd.func21, Tryd.ntmps21
      go_wp2_with fail
      refine (F.out _ (Hh.out _ hb) (Hr.out _ hb)).mono ?_
      rintro e wz ⟨rfl, b⟩
      replace hb := hb.trans (b.mono hb.size)
      clear b
      go_wp2_with fail
      refine (T.out _ (Hh.out _ hb) (Hr.out _ hb)).mono ?_
      rintro e wz ⟨rfl, b⟩
      replace hb := hb.trans (b.mono hb.size)
      clear b
      have ht2 : ((data.length : Int) == tt) = false := by simpa using ht
      go_wp2
      go_ret2
      rw [e0.out]
      exact ⟨rfl, hb⟩
end Go.Proofs.YtfppancidgamjaaDoor
