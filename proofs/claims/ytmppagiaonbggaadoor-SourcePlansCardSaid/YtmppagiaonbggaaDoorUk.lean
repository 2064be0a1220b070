/- Texts of one proof, merged: XGc XGd XEn XTwc XTwx XKp XGe. -/
import Derived.Test.YtmppagiaonbggaaDoorUj
/- The walk over awake of the laws on source. -/
namespace Go.Proofs.YtmppagiaonbggaaDoor
set_option linter.unusedVariables false
set_option linter.unusedSimpArgs false
set_option maxRecDepth 100000
open Go.RowKit

theorem two_data : streamP twoFiles = [97, 98, 99, 100, 101] := by unfold streamP; rw [if_pos two_why]; rfl
theorem two_plan {p : Pn} {z : Int} (h : planP twoFiles 2 9 p z) : p = ⟨2, 9, 5, p.dg⟩ ∧ z = 0 ∧ p.dg.length = 32 := by
  obtain ⟨h1, _, _, h4⟩ := h
  obtain ⟨a, b, c, d⟩ := h4 two_why (by decide)
  obtain ⟨ch, wi, tot, dg⟩ := p
  simp only at a b c d h1 ⊢
  subst a b c d
  exact ⟨rfl, rfl, h1⟩
theorem str_toL (l : List UInt8) : (str l).toList = l := by rw [ByteArray.toList_eq]; rfl
theorem two_chunk1 (D : List UInt8) : chunkP [97, 98, 99, 100, 101] ⟨2, 9, 5, D⟩ 1 = [99, 100] := rfl
theorem two_chunk2 (D : List UInt8) : chunkP [97, 98, 99, 100, 101] ⟨2, 9, 5, D⟩ 2 = [101] := rfl

set_option maxRecDepth 100000 in
set_option maxHeartbeats 3200000 in
theorem awakeS_any (w : World) (h : Sh w) : Calls Tryd.prog 10 #[] w fun e w' => e = .returned (.bool true) ∧ Below w.heap.size w w' := by
  have Hh := Lib.hid (fun w1 (b : Below w.heap.size w w1) => sh_below h b)
  have kc := fun (w : World) (C : Array Value) (n c g : Nat) (hg : g = w.heap.size) => Joins.run_convert_bytes_const_at (P := Tryd.prog) w 32 5 C n c g hg Tryd.underlying32 Tryd.underlying5
  have e1 : (twoIn w.heap.size).map (·.1) = twoFiles := rfl
  have hdl : dataLen twoFiles ≤ 1000000000 := by decide
  have P := Lib.hid (fun w1 h1 h2 => plan_any (some ⟨w.heap.size + 1 + 1, 0, none⟩) 2 (twoIn w.heap.size) (show 2 ≤ 1000000 by decide) hdl (two_ok _) 2 9 ⟨by decide, by decide⟩ ⟨by decide, by decide⟩ w1 h1 h2)
  have S := Lib.hid (fun w1 h1 h2 => stream_any (some ⟨w.heap.size + 1 + 1, 0, none⟩) 2 (twoIn w.heap.size) (show 2 ≤ 1000000 by decide) hdl (two_ok _) w1 h1 h2)
  have C := Lib.hid (fun p pok k hk w1 h1 h2 => chunk_any (some ⟨w.heap.size + 1 + 1, 0, none⟩) 2 (twoIn w.heap.size) (show 2 ≤ 1000000 by decide) hdl (two_ok _) p pok k hk w1 h1 h2)
  rw [e1] at P S C
  rw [two_data] at S C
  have hlen : (twoIn w.heap.size).length = 2 := rfl
  have hinf : (Tryd.prog.info? 27).map (·.size) = some z35.size := infoPlan
  clear h e1 hdl
  have hb := (((Below.refl w.heap.size w).alloc (Nat.le_refl _) (.cells #[.int .u8 97, .int .u8 98, .int .u8 99] 5 (3, 4))).alloc (by simp) (.cells #[.int .u8 100, .int .u8 101] 5 (2, 3))).alloc (by simp; omega) (.cells #[.string ⟨#[97]⟩, .int .i64 1, .int .i64 0, .int .i64 0, .slice (some ⟨w.heap.size, 0, none⟩) 3 3, .string ⟨#[]⟩, .string ⟨#[98]⟩, .int .i64 1, .int .i64 0, .int .i64 0, .slice (some ⟨w.heap.size + 1, 0, none⟩) 2 2, .string ⟨#[]⟩] 57)
  go_enter Tryd.func10, Tryd.ntmps10
  go_wp2_with fail
  have hrd := two_rd (w := ((w.alloc (.cells #[.int .u8 97, .int .u8 98, .int .u8 99] 5 (3, 4))).alloc (.cells #[.int .u8 100, .int .u8 101] 5 (2, 3))).alloc (.cells #[.string ⟨#[97]⟩, .int .i64 1, .int .i64 0, .int .i64 0, .slice (some ⟨w.heap.size, 0, none⟩) 3 3, .string ⟨#[]⟩, .string ⟨#[98]⟩, .int .i64 1, .int .i64 0, .int .i64 0, .slice (some ⟨w.heap.size + 1, 0, none⟩) 2 2, .string ⟨#[]⟩] 57))
    (g := w.heap.size) (h := w.heap.size + 1 + 1) (t1 := 5) (t2 := 5) (t3 := 57) (f1 := (3, 4)) (f2 := (2, 3)) (f3 := (0, 0)) ?_ ?_ ?_
  rotate_left
  · exact (heap_alloc_old _ _ (by simp; omega)).trans ((heap_alloc_old _ _ (by simp)).trans (heap_alloc_new _ _))
  · exact (heap_alloc_old _ _ (by simp)).trans (by rw [show w.heap.size + 1 = (w.alloc (.cells #[.int .u8 97, .int .u8 98, .int .u8 99] 5 (3, 4))).heap.size by simp]; exact heap_alloc_new _ _)
  · rw [show w.heap.size + 1 + 1 = ((w.alloc (.cells #[.int .u8 97, .int .u8 98, .int .u8 99] 5 (3, 4))).alloc (.cells #[.int .u8 100, .int .u8 101] 5 (2, 3))).heap.size by simp, heap_alloc_new]
  have Hr := Lib.hid (fun w1 (b : Below _ _ w1) => hrd.below b)
  refine (P.out _ (Hh.out _ hb) hrd).mono ?_
  rintro e w1 ⟨p, z, hp, rfl, b⟩
  obtain ⟨hp1, rfl, hp3⟩ := two_plan hp
  have hr1 := Hr.out _ b
  generalize p.dg = D at *
  subst hp1
  clear hp Hr hrd P
  replace hb := hb.trans (b.mono hb.size)
  have o1 := (Own.start w.heap.size w1).new hb.size 27 z35
  have hb1 := hb.alloc hb.size (.cells z35 27)
  have pok : Pn.ok ⟨2, 9, 5, D⟩ := ⟨⟨by simp only; decide, by simp only; decide⟩, ⟨by simp only; decide, by simp only; decide⟩, ⟨by simp only; decide, by simp only; decide⟩, hp3⟩
  have C1 := Lib.hid (C.out ⟨2, 9, 5, D⟩ pok 1 ⟨by decide, by decide⟩)
  have C2 := Lib.hid (C.out ⟨2, 9, 5, D⟩ pok 2 ⟨by decide, by decide⟩)
  rw [two_chunk1] at C1
  rw [two_chunk2] at C2
  have hps := pnL_size (p := ⟨2, 9, 5, D⟩) hp3
  have Hpo := Lib.hid (pnL_one ⟨2, 9, 5, D⟩)
  have hinf2 : (Tryd.prog.info? 27).map (·.size) = some (pnL ⟨2, 9, 5, D⟩).toArray.size := by rw [hps]; exact infoPlan
  have Hz : Hid (z35.size = (pnL ⟨2, 9, 5, D⟩).toArray.size) := Lib.hid (by rw [hps]; rfl)
  have k2 : (pnL ⟨2, 9, 5, D⟩).toArray[2]? = some (.int .i64 5) := rfl
  clear b C hp3 pok hps
  generalize (pnL ⟨2, 9, 5, D⟩).toArray = PA at *
  obtain ⟨B2, o2, b2⟩ := o1.setRow hb1.size PA
  have hb2 := hb1.trans b2
  have Hh1 := Lib.hid o1.bk.1
  have c2 : ((w1.alloc (.cells z35 27)).setRow w1.heap.size PA).cell? ⟨w1.heap.size, 2, none⟩ = some (.int .i64 5) := (o2.cell 2).trans k2
  have Hh2 := Lib.hid o2.bk.1
  have hr2 := hr1.below ((((Below.refl w1.heap.size w1).alloc (Nat.le_refl _) (.cells z35 27))).trans (below_setRow (Below.refl _ _) (Nat.le_refl _) PA))
  unfold z35 at c2
  clear o1 b2 hb1 hr1
  go_wp2_with first
    | (refine wpList_plain rfl fun _ hK => wp_store_row 27 (.tmp 2) (.tmp 14) rfl w1.heap.size PA rfl rfl 27 _ Hh1.out hinf2 Hz.out Hpo.out (hK _ _ ?_))
    | (refine wpList_load_row_g rfl 27 (.tmp 2) rfl w1.heap.size rfl 27 PA (0, 0) _ Hh2.out Tryd.underlying27 rfl hinf2 ?_)
  refine (C1.out _ (Hh.out _ hb2) hr2).mono ?_
  rintro e w2 ⟨v2, rfl, h2, b2⟩
  have o3 := Own.fresh B2 o2 h2 b2
  obtain ⟨A2, c2', rfl⟩ := o3.row_n
  have s2 : (convert 32 9 (.slice A2 2 c2')).run Tryd.prog w2 = .ok (.string (str [99, 100])) w2 := str_of_rd o3.rd
  have hb3 := hb2.trans (b2.mono hb2.size)
  have B3 := hb3.size
  have o4 := o3.drop
  have Hh3 := Lib.hid o4.bk.1
  have hr3 := hr2.below b2
  have q2 : ((str [99, 100]).toList == [99, 100]) = true := by rw [str_toL]; rfl
  clear o3 h2 b2 o2 c2 hr2 Hh1 Hh2 C1 hb2 B2
  simp only [List.length_cons, List.length_nil, Nat.reduceAdd] at *
  go_wp2_with first
    | (refine wpList_load_row_g rfl 27 (.tmp 2) rfl w1.heap.size rfl 27 PA (0, 0) _ Hh3.out Tryd.underlying27 rfl hinf2 ?_)
  refine (C2.out _ (Hh.out _ hb3) hr3).mono ?_
  rintro e w3 ⟨v3, rfl, h3, b3⟩
  have o5 := Own.fresh B3 o4 h3 b3
  obtain ⟨A3, c3, rfl⟩ := o5.row_n
  have s3 : (convert 32 9 (.slice A3 1 c3)).run Tryd.prog w3 = .ok (.string (str [101])) w3 := str_of_rd o5.rd
  have hb4 := hb3.trans (b3.mono hb3.size)
  have hr4 := hr3.below b3
  have q3 : ((str [101]).toList == [101]) = true := by rw [str_toL]; rfl
  clear o5 h3 b3 o4 hr3 Hh3 C2 hb3 B3 s2
  simp only [List.length_cons, List.length_nil, Nat.reduceAdd] at *
  go_wp2_with fail
  refine (S.out _ (Hh.out _ hb4) hr4).mono ?_
  rintro e w4 ⟨v4, rfl, h4, b4⟩
  have o5 := Own.fresh hb4.size (Own.start w.heap.size w3) h4 b4
  obtain ⟨A4, c4, rfl⟩ := o5.row_n
  have s4 : (convert 32 9 (.slice A4 5 c4)).run Tryd.prog w4 = .ok (.string (str [97, 98, 99, 100, 101])) w4 := str_of_rd o5.rd
  have hb5 := hb4.trans (b4.mono hb4.size)
  have q4 : ((str [97, 98, 99, 100, 101]).toList == [97, 98, 99, 100, 101]) = true := by rw [str_toL]; rfl
  clear o5 h4 b4 hr4 S hb4 s3
  simp only [List.length_cons, List.length_nil, Nat.reduceAdd] at *
  have p1 := (Own.start w.heap.size w4).new hb5.size 5 #[.int .u8 1]
  have g1 := hb5.alloc hb5.size (.cells #[.int .u8 1] 5)
  have p2 := p1.new g1.size 5 #[.int .u8 2]
  have g2 := g1.alloc g1.size (.cells #[.int .u8 2] 5)
  have p3 := p2.new g2.size 32 #[.slice (some ⟨w4.heap.size, 0, none⟩) 1 1, .slice (some ⟨w4.heap.size + 1, 0, none⟩) 1 1]
  have g3 := g2.alloc g2.size (.cells #[.slice (some ⟨w4.heap.size, 0, none⟩) 1 1, .slice (some ⟨w4.heap.size + 1, 0, none⟩) 1 1] 32)
  simp only [World.size_alloc9] at p1 p2 p3
  have hrp : RdP (((w4.alloc (.cells #[.int .u8 1] 5)).alloc (.cells #[.int .u8 2] 5)).alloc (.cells #[.slice (some ⟨w4.heap.size, 0, none⟩) 1 1, .slice (some ⟨w4.heap.size + 1, 0, none⟩) 1 1] 32)) (some ⟨w4.heap.size + 1 + 1, 0, none⟩) [(.slice (some ⟨w4.heap.size, 0, none⟩) 1 1, [1]), (.slice (some ⟨w4.heap.size + 1, 0, none⟩) 1 1, [2])] := by
    refine ⟨fun j hj => ⟨_, 0, rfl, ?_⟩, fun x hx => ?_⟩
    · rw [p3.cell]
      match j, hj with
      | 0, _ => rfl
      | 1, _ => rfl
    · simp only [List.mem_cons, List.not_mem_nil, or_false] at hx
      rcases hx with rfl | rfl
      · exact rd_block (p3.foc (Bk w4.heap.size 5 #[.int .u8 1])).bk.1 1
      · exact rd_block (p3.foc (Bk (w4.heap.size + 1) 5 #[.int .u8 2])).bk.1 1
  have J := Lib.hid (join_any (some ⟨w4.heap.size + 1 + 1, 0, none⟩) 2 [(.slice (some ⟨w4.heap.size, 0, none⟩) 1 1, [1]), (.slice (some ⟨w4.heap.size + 1, 0, none⟩) 1 1, [2])] (by simp) (by simp [joinP]) _ hrp)
  clear p1 p2 p3 hrp hb5 g1 g2
  go_wp2_with fail
  refine J.out.mono ?_
  rintro e w5 ⟨v5, rfl, h5, b5⟩
  have o6 := Own.fresh g3.size (Own.start w.heap.size _) h5 b5
  obtain ⟨A5, c5, rfl⟩ := o6.row_n
  have s5 : (convert 32 9 (.slice A5 2 c5)).run Tryd.prog w5 = .ok (.string (str [1, 2])) w5 := str_of_rd o6.rd
  have hb6 := g3.trans (b5.mono g3.size)
  have q5 : ((str [1, 2]).toList == [1, 2]) = true := by rw [str_toL]; rfl
  clear o6 h5 b5 g3 J s4
  have hjl : (joinP [((Value.slice (some ⟨w4.heap.size, 0, none⟩) 1 1 : Value), ([1] : List UInt8)), (.slice (some ⟨w4.heap.size + 1, 0, none⟩) 1 1, [2])]).length = 2 := rfl
  simp only [hjl] at *
  go_wp2
  go_ret
  exact ⟨rfl, hb6⟩
end Go.Proofs.YtmppagiaonbggaaDoor

/- The walk over told of the laws on source. -/
namespace Go.Proofs.YtmppagiaonbggaaDoor
set_option linter.unusedVariables false
set_option linter.unusedSimpArgs false
set_option maxRecDepth 100000
open Go.RowKit

def RetTold (w : World) (l : List Fi) (e : Ending) (w' : World) : Prop := ∃ A c Ad cd, e = .returned (.tuple #[.slice A l.length c, .slice Ad (dataL l).length cd]) ∧ (l.length ≤ c ∧ c ≤ 9223372036854775807) ∧ RdA 7 enL w' A (ents l) ∧ w'.ownsRow w.heap.size 5 1 (.slice Ad (dataL l).length cd) (dataL l).length (bytesU (dataL l)) ∧ Below w.heap.size w w'
theorem dataL_snoc (l : List Fi) (f : Fi) : dataL (l ++ [f]) = dataL l ++ f.data := by simp [dataL]

set_option maxRecDepth 100000 in
set_option maxHeartbeats 3200000 in
theorem toldS_any (A : Option Addr) (c : Nat) (l : List (Fi × Value)) (hl : l.length ≤ 4294967296) (hs : dataLen (l.map (·.1)) ≤ 4294967296) (w : World) (hr : RdF w A l) :
    Calls Tryd.prog 12 #[.slice A l.length c] w (RetTold w (l.map (·.1))) := by
  obtain ⟨i0, hi, hz0, hz1, hz2⟩ := info_parts infoEnR
  have Hi0 := Lib.hid (And.intro hi (And.intro hz0 (And.intro hz1 hz2)))
  have hO := ((Own.start w.heap.size w).rw_nil 5 1).rw_nil 62 7
  have hb := Below.refl w.heap.size w
  have Hr := Lib.hid (fun w1 (b : Below w.heap.size w w1) => hr.below b)
  have Hd := Lib.hid (fun i => dataLen_take (l.map (·.1)) i)
  have Hs := Lib.hid hs
  have n1 : (l.length : Int) ≤ 4294967296 := by omega
  clear hr hi hz0 hz1 hz2 hs
  go_enter Tryd.func12, Tryd.ntmps12
  go_wp2
  go_loopg [4, 5, 10] l.length (fun k v a u wr => ∃ (i : Nat) (A' : Option Addr) (c' : Nat) (Ad' : Option Addr) (cd' : Nat) (D : List UInt8), k + i = l.length ∧ u = .int .i64 i ∧ a = .slice Ad' D.length cd' ∧ Hid (D = dataL ((l.take i).map (·.1))) ∧ v = .slice A' i c' ∧ Below w.heap.size w wr ∧ Own w.heap.size (Rw 62 7 (.slice A' i c') i (flat enL (ents ((l.take i).map (·.1)))) * (Rw 5 1 (.slice Ad' D.length cd') D.length (bytesU D) * Emp)) wr)
  case atStart => exact ⟨0, none, 0, none, 0, [], by omega, rfl, rfl, Lib.hid rfl, rfl, hb, hO⟩
  case round =>
    clear hb hO
    obtain ⟨i, A', c', Ad', cd', D, hk, rfl, rfl, hD, rfl, hb, ho⟩ := hrel
    by_cases hlt : (i : Int) < (l.length : Int)
    · obtain ⟨j, rfl⟩ : ∃ j, gk = j + 1 := ⟨gk - 1, by omega⟩
      have hil : i < l.length := by omega
      have i0' : (0 : Int) ≤ (i : Int) := by omega
      obtain ⟨b, off, rfl, q, d⟩ := (Hr.out _ hb).1 i hil
      obtain ⟨Ad, cd, hdv⟩ := (Hr.out _ hb).get i hil
      have R2 := Lib.hid (fun W (b : Below w.heap.size w W) => (Hr.out W b).2 _ (List.getElem_mem hil))
      have Hk := Lib.hid hk
      have htk : (l.take (i + 1)).map (·.1) = (l.take i).map (·.1) ++ [l[i].1] := by rw [List.take_succ_eq_append_getElem hil, List.map_append]; rfl
      have hsn : ents ((l.take (i + 1)).map (·.1)) = ents ((l.take i).map (·.1)) ++ [⟨l[i].1.path, l[i].1.kind, l[i].1.mode, l[i].1.time, l[i].1.tgt, (D.length : Int), l[i].1.data.length⟩] := by
        rw [htk]; unfold ents; rw [entsFrom_snoc, Int.zero_add, hD.out, dataL_length]
      have hdl : dataL ((l.take (i + 1)).map (·.1)) = D ++ l[i].1.data := by rw [htk, dataL_snoc, hD.out]
      have hle := Hd.out (i + 1)
      rw [← List.map_take, ← dataL_length, hdl, List.length_append] at hle
      have hle := Nat.le_trans hle Hs.out
      have Hsn := Lib.hid hsn
      have Hdl := Lib.hid hdl
      clear htk hsn hdl hk hD
      generalize ents ((l.take i).map (·.1)) = E at *
      generalize l[i] = x at *
      obtain ⟨⟨path, kind, mode, time, data, tgt⟩, dv⟩ := x
      simp only at hdv hle Hsn Hdl R2
      subst hdv
      have d0 := d 0 _ rfl
      have d1 := d 1 _ rfl
      have d2 := d 2 _ rfl
      have d3 := d 3 _ rfl
      have d4 := d 4 _ rfl
      have d5 := d 5 _ rfl
      simp only [Nat.add_zero] at d0 d1 d2 d3 d4 d5
      clear d
      have D0 : (D.length : Int) ≤ 4294967296 := by omega
      have D1 : (data.length : Int) ≤ 4294967296 := by omega
      have o1 := (ho.new hb.size 57 #[.string (str path), .int .i64 kind, .int .i64 mode, .int .i64 time, .slice Ad data.length cd, .string (str tgt)]).cast (sep_left_comm _ _ _)
      have ba := (Below.refl wr.heap.size wr).alloc (Nat.le_refl _) (.cells #[.string (str path), .int .i64 kind, .int .i64 mode, .int .i64 time, .slice Ad data.length cd, .string (str tgt)] 57)
      have hb1 := hb.trans (ba.mono hb.size)
      obtain ⟨g2, cap2, w2, hrun, o2, b2⟩ := row_append (P := Tryd.prog) hb1.size Tryd.underlying31 Hi0.out.1 Hi0.out.2.1 Hi0.out.2.2.1 Hi0.out.2.2.2 rfl (by omega) o1 #[.string (str path), .int .i64 kind, .int .i64 mode, .int .i64 time, .string (str tgt), .int .i64 D.length, .int .i64 data.length] rfl
        (by intro u hu; simp at hu; rcases hu with rfl | rfl | rfl | rfl | rfl | rfl | rfl <;> rfl) (by omega) (by omega)
      rw [World.size_alloc] at hrun
      have Hrun := Lib.hid hrun
      have hb2 := hb1.trans b2
      have r4 := R2.out _ hb2
      have k4 : w2.cell? ⟨wr.heap.size, 4, none⟩ = some (.slice Ad data.length cd) := (o2.cast (sep_left_comm _ _ _)).cell 4
      have o3 := (o2.cast (sep_left_comm _ _ _)).drop
      obtain ⟨v3, w3, hrun3, o4, b4⟩ := byte_append hb2.size (o3.foc (Rw 5 1 (.slice Ad' D.length cd') D.length (bytesU D))) r4 (by omega)
      obtain ⟨A3, c3, rfl⟩ := o4.row_n
      have hla : (D ++ data).length = D.length + data.length := List.length_append
      rw [hla] at o4 hrun3
      have Hrun3 := Lib.hid hrun3
      have hb3 := hb2.trans b4
      clear hrun o1 hb1 hb ho b2 o2 hrun3 ba r4
      go_wp2_with (at_builtin; first | refine wpList_append_at rfl (.tmp 14) (.tmp 31) 31 rfl rfl rfl Hrun.out ?_ | refine wpList_append_at rfl (.tmp 33) (.tmp 35) 32 rfl rfl rfl Hrun3.out ?_)
      go_roundg j
      case measure => omega
      case rel => exact ⟨i + 1, some ⟨g2, 0, none⟩, cap2, A3, c3, D ++ data, by have := Hk.out; omega, rfl, by rw [List.length_append], Lib.hid Hdl.out.symm, rfl, hb3, by rw [Hsn.out, flat_snoc]; exact o4.cast (by simp only [enL, List.length_append]; ac_rfl)⟩
    · obtain rfl : i = l.length := by omega
      rw [List.take_length] at ho hD
      have hfin : RetTold w (l.map (·.1)) (.returned (.tuple #[.slice A' l.length c', .slice Ad' D.length cd'])) wr := by
        have h1 : (l.map (·.1)).length = l.length := by simp
        refine ⟨A', c', Ad', cd', by rw [h1, ← hD.out], by rw [h1]; exact ho.cap, ?_, ?_, hb⟩
        · exact ho.rdA enL_len (by unfold ents; rw [entsFrom_length]; simp)
        · rw [← hD.out]; exact (ho.foc (Rw 5 1 (.slice Ad' D.length cd') D.length (bytesU D))).row
      have Hfin := Lib.hid hfin
      clear hfin hD ho hb
      go_wp2
      refine bodyPost_ret (results_tmp2 rfl _ _ _) rfl ?_
      exact Hfin.out
end Go.Proofs.YtmppagiaonbggaaDoor

/- The walk over Files of the laws on entries, of whatever files. -/
namespace Go.Proofs.YtmppagiaonbggaaDoor
set_option linter.unusedVariables false
set_option linter.unusedSimpArgs false
set_option maxRecDepth 100000
open Go.RowKit

set_option maxRecDepth 100000 in
set_option maxHeartbeats 3200000 in
theorem files_any (A B : Option Addr) (ca cb : Nat) (a b : List (Fi × Value)) (ha : a.length ≤ 4294967296) (hbl : b.length ≤ 4294967296) (w : World) (hra : RdF w A a) (hrb : RdF w B b) :
    Calls Tryd.prog 19 #[.slice A a.length ca, .slice B b.length cb] w fun e w' => e = .returned (.bool (decide (a.map (·.1) = b.map (·.1)))) ∧ Below w.heap.size w w' := by
  have hb := Below.refl w.heap.size w
  by_cases hlen : b.length = a.length
  · have Ha := Lib.hid (fun w1 (h : Below w.heap.size w w1) => hra.below h)
    have Hb := Lib.hid (fun w1 (h : Below w.heap.size w w1) => hrb.below h)
    have He : Hid (∀ i (h1 : i < a.length) (h2 : i < b.length), ¬ a[i].1 = b[i].1 → decide (a.map (·.1) = b.map (·.1)) = false) := Lib.hid (fun i h1 h2 hn => decide_eq_false (fun he => hn (by
      have := List.getElem_of_eq he (i := i) (by simpa using h1)
      simpa using this)))
    have Hs : Hid (∀ i (h1 : i < a.length) (h2 : i < b.length), a[i].1 = b[i].1 → (a.take i).map (·.1) = (b.take i).map (·.1) → (a.take (i + 1)).map (·.1) = (b.take (i + 1)).map (·.1)) := Lib.hid (fun i h1 h2 hn h3 => by
      rw [List.take_succ_eq_append_getElem h1, List.take_succ_eq_append_getElem h2, List.map_append, List.map_append, h3]
      simp [hn])
    have Hf : Hid ((a.take a.length).map (·.1) = (b.take a.length).map (·.1) → decide (a.map (·.1) = b.map (·.1)) = true) := Lib.hid (fun h => decide_eq_true (by rw [List.take_length, ← hlen, List.take_length] at h; exact h))
    have n1 : (a.length : Int) ≤ 4294967296 := by omega
    have Hlen := Lib.hid hlen
    rw [hlen]
    clear hra hrb hlen hbl
    obtain ⟨n, hal⟩ : ∃ n, n = a.length := ⟨_, rfl⟩
    rw [← hal] at n1 Hf ⊢
    have Hal := Lib.hid hal
    clear hal ha
    have hnn : (n == n) = true := by simp
    generalize decide (a.map (·.1) = b.map (·.1)) = res at *
    go_enter Tryd.func19, Tryd.ntmps19
    go_wp2
    go_loopg [15] n (fun k v wr => ∃ i : Nat, k + i = n ∧ v = .int .i64 i ∧ Hid ((a.take i).map (·.1) = (b.take i).map (·.1)) ∧ Below w.heap.size w wr)
    case atStart => exact ⟨0, by omega, rfl, Lib.hid rfl, hb⟩
    case round =>
      clear hb
      obtain ⟨i, hk, rfl, hq, hb⟩ := hrel
      by_cases hlt : (i : Int) < (n : Int)
      · obtain ⟨j, rfl⟩ : ∃ j, gk = j + 1 := ⟨gk - 1, by omega⟩
        have hil : i < a.length := by have := Hal.out; omega
        have hil2 : i < b.length := by have := Hal.out; have := Hlen.out; omega
        have i0' : (0 : Int) ≤ (i : Int) := by omega
        obtain ⟨p1, o1, rfl, q1, d⟩ := (Ha.out _ hb).1 i hil
        obtain ⟨p2, o2, rfl, q2, d'⟩ := (Hb.out _ hb).1 i hil2
        obtain ⟨d0, d1, d2, d3, d4, d5⟩ := cells6 d
        obtain ⟨e0, e1, e2, e3, e4, e5⟩ := cells6 d'
        have r1 := (Ha.out _ hb).2 _ (List.getElem_mem hil)
        have r2 := (Hb.out _ hb).2 _ (List.getElem_mem hil2)
        have Bad := Lib.hid (He.out i hil hil2)
        have Good := Lib.hid (fun h => Hs.out i hil hil2 h hq.out)
        have Hk := Lib.hid hk
        clear d d' hk hq He
        generalize a[i] = x at *
        generalize b[i] = y at *
        obtain ⟨⟨path, kind, mode, time, data, tgt⟩, xv⟩ := x
        obtain ⟨⟨path', kind', mode', time', data', tgt'⟩, yv⟩ := y
        simp only [Fi.mk.injEq] at d0 d1 d2 d3 d4 d5 e0 e1 e2 e3 e4 e5 r1 r2 Bad Good
        obtain ⟨Ax, cx, hx⟩ : ∃ A c, xv = .slice A data.length c := by obtain ⟨A, c, h, _⟩ := r1; exact ⟨A, c, by rw [h, bytesU_length]⟩
        obtain ⟨Ay, cy, hy⟩ : ∃ A c, yv = .slice A data'.length c := by obtain ⟨A, c, h, _⟩ := r2; exact ⟨A, c, by rw [h, bytesU_length]⟩
        subst hx; subst hy
        generalize hdn : data.length = dn at *
        generalize hdn' : data'.length = dn' at *
        clear hdn hdn'
        have b1 := (Below.refl wr.heap.size wr).alloc (Nat.le_refl _) (.cells #[.string (str path), .int .i64 kind, .int .i64 mode, .int .i64 time, .slice Ax dn cx, .string (str tgt)] 57)
        have b2 := b1.alloc (by simp) (.cells #[.string (str path'), .int .i64 kind', .int .i64 mode', .int .i64 time', .slice Ay dn' cy, .string (str tgt')] 57)
        have s1 := str_of_rd (r1.below b2)
        have s2 := str_of_rd (r2.below b2)
        have hb2 := hb.trans (b2.mono hb.size)
        clear r1 r2 b1 b2 hb
        by_cases h : path = path'
        · subst h
          by_cases h : kind = kind'
          · subst h
            by_cases h : mode = mode'
            · subst h
              by_cases h : time = time'
              · subst h
                by_cases h : tgt = tgt'
                · subst h
                  by_cases h : data = data'
                  · subst h
                    have Hq := Lib.hid (Good.out ⟨rfl, rfl, rfl, rfl, rfl, rfl⟩)
                    clear Good Bad
                    go_wp2
                    go_roundg j
                    case measure => omega
                    case rel => exact ⟨i + 1, by have := Hk.out; omega, rfl, Hq, hb2⟩
                  · have n5 : ((str data).toList == (str data').toList) = false := by rw [str_beq]; exact decide_eq_false h
                    have m5 : ((str data).toList != (str data').toList) = true := by rw [bne, n5]; rfl
                    have q := Lib.hid (Bad.out (fun e => h e.2.2.2.2.1))
                    clear Bad Good
                    go_wp2
                    go_ret
                    exact ⟨by rw [q.out]; rfl, hb2⟩
                · have n4 : ((str tgt).toList == (str tgt').toList) = false := by rw [str_beq]; exact decide_eq_false h
                  have m4 : ((str tgt).toList != (str tgt').toList) = true := by rw [bne, n4]; rfl
                  have q := Lib.hid (Bad.out (fun e => h e.2.2.2.2.2))
                  clear Bad Good
                  go_wp2
                  go_ret
                  exact ⟨by rw [q.out]; rfl, hb2⟩
              · have n3 : (time == time') = false := by simpa using h
                have m3 : (time != time') = true := by simpa using h
                have q := Lib.hid (Bad.out (fun e => h e.2.2.2.1))
                clear Bad Good
                go_wp2
                go_ret
                exact ⟨by rw [q.out]; rfl, hb2⟩
            · have n2 : (mode == mode') = false := by simpa using h
              have m2 : (mode != mode') = true := by simpa using h
              have q := Lib.hid (Bad.out (fun e => h e.2.2.1))
              clear Bad Good
              go_wp2
              go_ret
              exact ⟨by rw [q.out]; rfl, hb2⟩
          · have n1 : (kind == kind') = false := by simpa using h
            have m1 : (kind != kind') = true := by simpa using h
            have q := Lib.hid (Bad.out (fun e => h e.2.1))
            clear Bad Good
            go_wp2
            go_ret
            exact ⟨by rw [q.out]; rfl, hb2⟩
        · have n0 : ((str path).toList == (str path').toList) = false := by rw [str_beq]; exact decide_eq_false h
          have m0 : ((str path).toList != (str path').toList) = true := by rw [bne, n0]; rfl
          have q := Lib.hid (Bad.out (fun e => h e.1))
          clear Bad Good
          go_wp2
          go_ret
          exact ⟨by rw [q.out]; rfl, hb2⟩
      · obtain rfl : i = n := by omega
        have q := Lib.hid (Hf.out hq.out)
        clear Hf hq
        go_wp2
        go_ret
        exact ⟨by rw [q.out]; rfl, hb⟩
  · have e : decide (a.map (·.1) = b.map (·.1)) = false := decide_eq_false (fun h => hlen (by simpa using (congrArg List.length h).symm))
    rw [e]
    have h1 : ((a.length : Int) == (b.length : Int)) = false := by simpa using fun h => hlen (by omega)
    have h2 : ((a.length : Int) != (b.length : Int)) = true := by simpa using fun h => hlen (by omega)
    have h3 : (a.length == b.length) = false := by simpa using fun h => hlen (by omega)
    have h4 : (a.length != b.length) = true := by simpa using fun h => hlen (by omega)
    clear hra hrb e hlen
    generalize a.length = n at *
    generalize b.length = m at *
    go_enter Tryd.func19, Tryd.ntmps19
    go_wp2
    go_ret
    exact ⟨rfl, hb⟩
end Go.Proofs.YtmppagiaonbggaaDoor

/- The rule of two threads of which the second one may wait for steps of the first one (calls come in their order). -/
namespace Go.Proofs.YtmppagiaonbggaaDoor
set_option linter.unusedVariables false
set_option linter.unusedSimpArgs false
set_option maxRecDepth 100000
open Go.RowKit

section
variable {P : Program} {ops : Array Oper} {md : Region.Mode} {Q : Exit → Act → World → Prop} {B : Nat}

def crossB (md : Region.Mode) (ops : Array Oper) (listed : Array Bool) (l1 l2 ts : List Nat) : Bool :=
  Region.noSelect ops && decide (listed.size = ops.size) &&
  ((List.range ops.size).all fun j => listed.getD j true || l1.contains j || l2.contains j || ts.contains j) &&
  ((l1 ++ l2 ++ ts).all fun j => decide (j < ops.size) && !listed.getD j true) &&
  decide (l1 ++ l2).Nodup && lexOk md ops l1 listed && lexOk md ops (l1 ++ l2) listed && chained md ops l1 && chained md ops l2 &&
  (ts.all fun t => !(l1 ++ l2).contains t && ((ts.any fun s => Region.waitsFor md ops t s) || (behind md ops l1 t && behind md ops l2 t))) && apartAll ops l1 l2

structure CrossOk (md : Region.Mode) (ops : Array Oper) (listed : Array Bool) (l1 l2 ts : List Nat) : Prop where
  size : listed.size = ops.size
  cover : ∀ j, j < ops.size → listed.getD j true = false → j ∈ l1 ∨ j ∈ l2 ∨ j ∈ ts
  un : ∀ j, j ∈ l1 ∨ j ∈ l2 ∨ j ∈ ts → j < ops.size ∧ listed.getD j true = false
  nd1 : l1.Nodup
  nd2 : l2.Nodup
  dis : ∀ i ∈ l1, i ∉ l2
  ndt : ∀ t ∈ ts, t ∉ l1 ∧ t ∉ l2
  lex1 : lexOk md ops l1 listed = true
  lex2 : lexOk md ops (l1 ++ l2) listed = true
  ch1 : chained md ops l1 = true
  ch2 : chained md ops l2 = true
  root : ∀ t ∈ ts, (∃ s ∈ ts, Region.waitsFor md ops t s = true) ∨ (behind md ops l1 t = true ∧ behind md ops l2 t = true)
  apart : ∀ i ∈ l1, ∀ j ∈ l2, ∀ oi oj, ops[i]? = some oi → ops[j]? = some oj → oi.apart ops oj = true ∧ oj.apart ops oi = true

theorem crossB_ok {listed : Array Bool} {l1 l2 ts : List Nat} (h : crossB md ops listed l1 l2 ts = true) : Region.noSelect ops = true ∧ CrossOk md ops listed l1 l2 ts := by
  simp only [crossB, Bool.and_eq_true, decide_eq_true_eq] at h
  obtain ⟨⟨⟨⟨⟨⟨⟨⟨⟨⟨h1, h2⟩, h3⟩, h4⟩, h5⟩, h6⟩, h7⟩, h8⟩, h9⟩, h10⟩, h11⟩ := h
  have hnd := List.nodup_append.1 h5
  refine ⟨h1, h2, fun j hj hl => ?_, fun j hj => ?_, hnd.1, hnd.2.1, fun i hi hi2 => hnd.2.2 i hi i hi2 rfl, fun t ht => ?_, h6, h7, h8, h9, fun t ht => ?_, fun i hi j hj oi oj hoi hoj => ?_⟩
  · have := List.all_eq_true.1 h3 j (List.mem_range.2 hj)
    rw [hl] at this
    simpa [or_assoc] using this
  · have := List.all_eq_true.1 h4 j (by simp; exact hj)
    simp only [Bool.and_eq_true, decide_eq_true_eq, Bool.not_eq_true'] at this
    exact this
  · have := List.all_eq_true.1 h10 t ht
    simp only [Bool.and_eq_true, Bool.not_eq_true'] at this
    have h := this.1
    simp at h
    exact h
  · have := List.all_eq_true.1 h10 t ht
    simp only [Bool.and_eq_true, Bool.or_eq_true, List.any_eq_true] at this
    exact this.2
  · have := List.all_eq_true.1 (List.all_eq_true.1 h11 i hi) j hj
    rw [hoi, hoj] at this
    simpa [Bool.and_eq_true] using this

theorem CrossOk.only {listed : Array Bool} {l1 l2 ts : List Nat} (ok : CrossOk md ops listed l1 l2 ts) (hne : l1 ≠ [] ∨ l2 ≠ []) {i : Nat} (hi : i ∈ Region.ready md ops listed) : (∃ l, l1 = i :: l) ∨ (∃ l, l2 = i :: l) := by
  obtain ⟨hlt, hun, hed⟩ := mem_ready'.1 hi
  have bad : ∀ s, s ∈ l1 ∨ s ∈ l2 ∨ s ∈ ts → Region.waitsFor md ops i s = true → False := fun s hs' hw => by
    have h1 := edgesIn_waits hed hw
    rw [getD_both (ok.un s hs').2] at h1
    cases h1
  rcases ok.cover i hlt hun with h | h | h
  · rcases chained_prev l1 i ok.ch1 h with h2 | ⟨s, hs, hw⟩
    · exact .inl h2
    · exact (bad s (.inl hs) hw).elim
  · rcases chained_prev l2 i ok.ch2 h with h2 | ⟨s, hs, hw⟩
    · exact .inr h2
    · exact (bad s (.inr (.inl hs)) hw).elim
  · exfalso
    rcases ok.root i h with ⟨s, hs, hw⟩ | ⟨hb1, hb2⟩
    · exact bad s (.inr (.inr hs)) hw
    · rcases hne with hne | hne
      · obtain ⟨x, l, rfl⟩ : ∃ x l, l1 = x :: l := by cases l1 with | nil => exact absurd rfl hne | cons x l => exact ⟨x, l, rfl⟩
        obtain ⟨j, hj⟩ := lastOf_some x l
        rw [behind, hj] at hb1
        exact bad j (.inl (lastOf_mem _ _ hj)) hb1
      · obtain ⟨x, l, rfl⟩ : ∃ x l, l2 = x :: l := by cases l2 with | nil => exact absurd rfl hne | cons x l => exact ⟨x, l, rfl⟩
        obtain ⟨j, hj⟩ := lastOf_some x l
        rw [behind, hj] at hb2
        exact bad j (.inr (.inl (lastOf_mem _ _ hj))) hb2

theorem CrossOk.strike {listed : Array Bool} {i : Nat} {l1 l2 ts : List Nat} (ok : CrossOk md ops listed (i :: l1) l2 ts) : CrossOk md ops (listed.setIfInBounds i true) l1 l2 ts := by
  obtain ⟨hlt, hui⟩ := ok.un i (.inl List.mem_cons_self)
  have hn := List.nodup_cons.1 ok.nd1
  have hi2 := ok.dis i List.mem_cons_self
  have hne : ∀ j, j ∈ l1 ∨ j ∈ l2 ∨ j ∈ ts → i ≠ j := by
    rintro j hj rfl
    rcases hj with h | h | h
    · exact hn.1 h
    · exact hi2 h
    · exact (ok.ndt i h).1 List.mem_cons_self
  have hlex := ok.lex1
  simp only [lexOk, Bool.and_eq_true] at hlex
  have hlex2 := ok.lex2
  simp only [List.cons_append, lexOk, Bool.and_eq_true] at hlex2
  refine ⟨by simp [ok.size], fun j hj hl => ?_, fun j hj => ?_, hn.2, ok.nd2, fun j hj => ok.dis j (List.mem_cons_of_mem _ hj), fun t ht => ⟨fun h => (ok.ndt t ht).1 (List.mem_cons_of_mem _ h), (ok.ndt t ht).2⟩, hlex.2, hlex2.2, chained_tail ok.ch1, ok.ch2,
    fun t ht => (ok.root t ht).imp id (fun h => ⟨behind_tail h.1, h.2⟩), fun a ha b hb => ok.apart a (List.mem_cons_of_mem _ ha) b hb⟩
  · by_cases hij : i = j
    · subst hij
      rw [show (listed.setIfInBounds i true).getD i true = true by simp [ok.size, hlt]] at hl
      cases hl
    · rw [getD_set_ne true hij] at hl
      rcases ok.cover j hj hl with h | h | h
      · rcases List.mem_cons.1 h with h | h
        · exact absurd h.symm hij
        · exact .inl h
      · exact .inr (.inl h)
      · exact .inr (.inr h)
  · have := ok.un j (by rcases hj with h | h | h <;> simp [h])
    exact ⟨this.1, by rw [getD_set_ne true (hne j hj)]; exact this.2⟩

theorem CrossOk.strike2 {listed : Array Bool} {i : Nat} {l1 l2 ts : List Nat} (ok : CrossOk md ops listed l1 (i :: l2) ts) : CrossOk md ops (listed.setIfInBounds i true) l1 l2 ts := by
  obtain ⟨hlt, hui⟩ := ok.un i (.inr (.inl List.mem_cons_self))
  have hn := List.nodup_cons.1 ok.nd2
  have hi1 : i ∉ l1 := fun h => ok.dis i h List.mem_cons_self
  have hne : ∀ j, j ∈ l1 ∨ j ∈ l2 ∨ j ∈ ts → i ≠ j := by
    rintro j hj rfl
    rcases hj with h | h | h
    · exact hi1 h
    · exact hn.1 h
    · exact (ok.ndt i h).2 List.mem_cons_self
  refine ⟨by simp [ok.size], fun j hj hl => ?_, fun j hj => ?_, ok.nd1, hn.2, fun j hj h => ok.dis j hj (List.mem_cons_of_mem _ h), fun t ht => ⟨(ok.ndt t ht).1, fun h => (ok.ndt t ht).2 (List.mem_cons_of_mem _ h)⟩, lexOk_set _ _ ok.lex1, lexOk_strike l1 listed hi1 ok.lex2, ok.ch1, chained_tail ok.ch2,
    fun t ht => (ok.root t ht).imp id (fun h => ⟨h.1, behind_tail h.2⟩), fun a ha b hb => ok.apart a ha b (List.mem_cons_of_mem _ hb)⟩
  · by_cases hij : i = j
    · subst hij
      rw [show (listed.setIfInBounds i true).getD i true = true by simp [ok.size, hlt]] at hl
      cases hl
    · rw [getD_set_ne true hij] at hl
      rcases ok.cover j hj hl with h | h | h
      · exact .inl h
      · rcases List.mem_cons.1 h with h | h
        · exact absurd h.symm hij
        · exact .inr (.inl h)
      · exact .inr (.inr h)
  · have := ok.un j (by rcases hj with h | h | h <;> simp [h])
    exact ⟨this.1, by rw [getD_set_ne true (hne j hj)]; exact this.2⟩

theorem wpAny_cross (hsel : Region.noSelect ops = true) {ts : List Nat} {R : HP} [Loc B R] {fuel : Nat} : ∀ (n : Nat) (l1 l2 : List Nat) (listed : Array Bool) (a : Act) (w : World) (Φ1 Φ2 : List Value → HP → Prop) (A1 A2 : HP), l1.length + l2.length = n → Loc B A1 → Loc B A2 →
    CrossOk md ops listed l1 l2 ts → TW P ops B (opsOf ops l1) Φ1 a A1 → TW P ops B (opsOf ops l2) Φ2 a A2 → B ≤ w.heap.size → Own B (A1 * (A2 * R)) w →
    (∀ vs1 A1' vs2 A2' w', Φ1 vs1 A1' → Φ2 vs2 A2' → Own B (A1' * (A2' * R)) w' → Below B w w' → wpAny P md ops Q fuel (markAll l2 (markAll l1 listed)) (putAll (opsOf ops l2) vs2 (putAll (opsOf ops l1) vs1 a)) w') →
    wpAny P md ops Q (n + fuel) listed a w
  | 0, l1, l2, listed, a, w, Φ1, Φ2, A1, A2, hn, _, _, ok, h1, h2, hB, hO, hK => by
    obtain rfl : l1 = [] := List.eq_nil_of_length_eq_zero (by omega)
    obtain rfl : l2 = [] := List.eq_nil_of_length_eq_zero (by omega)
    rw [Nat.zero_add]
    exact hK [] A1 [] A2 w h1 h2 hO (Below.refl B w)
  | n + 1, l1, l2, listed, a, w, Φ1, Φ2, A1, A2, hn, k1, k2, ok, h1, h2, hB, hO, hK => by
    rw [show n + 1 + fuel = (n + fuel) + 1 by omega]
    have hne : l1 ≠ [] ∨ l2 ≠ [] := by
      cases l1 with
      | nil => right; intro e; subst e; simp at hn
      | cons x l => left; simp
    have hrdy : Region.ready md ops listed ≠ [] := by
      intro h0
      cases hl1 : l1 with
      | cons x l =>
        subst hl1
        have hlex := ok.lex1
        simp only [lexOk, Bool.and_eq_true] at hlex
        have hun := ok.un x (by simp)
        have : x ∈ Region.ready md ops listed := mem_ready'.2 ⟨hun.1, hun.2, hlex.1⟩
        rw [h0] at this; cases this
      | nil =>
        subst hl1
        obtain ⟨x, l, rfl⟩ : ∃ x l, l2 = x :: l := by cases l2 with | nil => simp at hne | cons x l => exact ⟨x, l, rfl⟩
        have hlex := ok.lex2
        simp only [List.nil_append, lexOk, Bool.and_eq_true] at hlex
        have hun := ok.un x (by simp)
        have : x ∈ Region.ready md ops listed := mem_ready'.2 ⟨hun.1, hun.2, hlex.1⟩
        rw [h0] at this; cases this
    refine ⟨fun h0 => absurd h0 hrdy, fun i hi => ?_⟩
    have hlt := (mem_ready'.1 hi).1
    obtain ⟨o, ho⟩ : ∃ o, ops[i]? = some o := ⟨_, Array.getElem?_eq_getElem hlt⟩
    unfold wpOp
    simp only [ho]
    rcases ok.only hne hi with ⟨l, rfl⟩ | ⟨l, rfl⟩
    · rw [opsOf_cons ho] at h1
      have hap : ∀ o' ∈ opsOf ops l2, (∃ j : Nat, ops[j]? = some o') ∧ o'.apart ops o = true := fun o' h' => by
        obtain ⟨j, hj, hoj⟩ := mem_opsOf h'
        exact ⟨⟨j, hoj⟩, (ok.apart i List.mem_cons_self j hj o o' ho hoj).2⟩
      have hlen : l.length + l2.length = n := by simp at hn; omega
      obtain ⟨_, h1 | h1⟩ := h1
      · rw [if_pos h1.1]
        left
        refine h1.2.wp hB hO fun v A' w' ⟨kl, ht⟩ hO' hb => ?_
        refine wpAny_cross hsel n l l2 _ _ w' (fun vs => Φ1 (v :: vs)) Φ2 A' A2 hlen kl k2 ok.strike ht (h2.put hsel _ _ _ _ hap) (Nat.le_trans hB hb.size) hO' fun vs1 A1' vs2 A2' w'' p1 p2 hO'' hb' => ?_
        have := hK (v :: vs1) A1' vs2 A2' w'' p1 p2 hO'' (hb.trans hb')
        rw [opsOf_cons ho] at this
        exact this
      · rw [if_neg (by rw [h1.1]; exact Bool.false_ne_true)]
        refine wpAny_cross hsel n l l2 _ _ w (fun vs => Φ1 (undef :: vs)) Φ2 A1 A2 hlen k1 k2 ok.strike h1.2 (h2.put hsel _ _ _ _ hap) hB hO fun vs1 A1' vs2 A2' w'' p1 p2 hO'' hb' => ?_
        have := hK (undef :: vs1) A1' vs2 A2' w'' p1 p2 hO'' hb'
        rw [opsOf_cons ho] at this
        exact this
    · rw [opsOf_cons ho] at h2
      have hap : ∀ o' ∈ opsOf ops l1, (∃ j : Nat, ops[j]? = some o') ∧ o'.apart ops o = true := fun o' h' => by
        obtain ⟨j, hj, hoj⟩ := mem_opsOf h'
        exact ⟨⟨j, hoj⟩, (ok.apart j hj i List.mem_cons_self o' o hoj ho).1⟩
      have hlen : l1.length + l.length = n := by simp at hn; omega
      obtain ⟨_, h2 | h2⟩ := h2
      · rw [if_pos h2.1]
        left
        refine h2.2.wp hB (hO.cast (sep_left_comm _ _ _)) fun v A' w' ⟨kl, ht⟩ hO' hb => ?_
        refine wpAny_cross hsel n l1 l _ _ w' Φ1 (fun vs => Φ2 (v :: vs)) A1 A' hlen k1 kl ok.strike2 (h1.put hsel _ _ _ _ hap) ht (Nat.le_trans hB hb.size) (hO'.cast (sep_left_comm _ _ _)) fun vs1 A1' vs2 A2' w'' p1 p2 hO'' hb' => ?_
        have := hK vs1 A1' (v :: vs2) A2' w'' p1 p2 hO'' (hb.trans hb')
        rw [opsOf_cons ho] at this
        rw [putAll_put _ _ _ _ _ (fun o' h' => (hap o' h').2), markAll_set]
        exact this
      · rw [if_neg (by rw [h2.1]; exact Bool.false_ne_true)]
        refine wpAny_cross hsel n l1 l _ _ w Φ1 (fun vs => Φ2 (undef :: vs)) A1 A2 hlen k1 k2 ok.strike2 (h1.put hsel _ _ _ _ hap) h2.2 hB hO fun vs1 A1' vs2 A2' w'' p1 p2 hO'' hb' => ?_
        have := hK vs1 A1' (undef :: vs2) A2' w'' p1 p2 hO'' hb'
        rw [opsOf_cons ho] at this
        rw [putAll_put _ _ _ _ _ (fun o' h' => (hap o' h').2), markAll_set]
        exact this

/-- THE RULE: us free, at whatever time · l1 and l2 two threads · ts behind both. -/
theorem wp_region_cross {id : Nat} {a : Act} {w : World} (us l1 l2 ts : List Nat) (A1 A2 R : HP) [k1 : Loc B A1] [k2 : Loc B A2] [Loc B R] (hm : P.follows .mixedOrders = true)
    (hB : (freeB .any ops us (Array.replicate ops.size false) && crossB .any ops (markAll us (Array.replicate ops.size false)) l1 l2 ts) = true) (hf : ops.size = us.length + ((l1.length + l2.length) + ts.length))
    (hQ : ∀ c a d v w, Q (.panic c) (a.put (some d) v) w → Q (.panic c) a w) (hsz : B ≤ w.heap.size) (hO : Own B (A1 * (A2 * R)) w.drew)
    (h : wpFree P ops (fun a1 => ∃ Φ1 Φ2 : List Value → HP → Prop, TW P ops B (opsOf ops l1) Φ1 a1 A1 ∧ TW P ops B (opsOf ops l2) Φ2 a1 A2 ∧
      ∀ vs1 A1' vs2 A2' w', Φ1 vs1 A1' → Φ2 vs2 A2' → Own B (A1' * (A2' * R)) w' → Below B w w' → wpAny P .any ops Q ts.length (markAll l2 (markAll l1 (markAll us (Array.replicate ops.size false)))) (putAll (opsOf ops l2) vs2 (putAll (opsOf ops l1) vs1 a1)) w')
      (us.filterMap fun i => ops[i]?) a) : (Code.region id ops true).wp P Q a w := by
  rw [Bool.and_eq_true] at hB
  refine wp_region_any hm ?_
  obtain ⟨hsel, ok⟩ := crossB_ok hB.2
  have hgo : wpAny P .any ops Q (us.length + ((l1.length + l2.length) + ts.length)) (Array.replicate ops.size false) a w.drew := by
    refine wpAny_free hQ hsel us _ a hB.1 (fun a' ⟨Φ1, Φ2, t1, t2, hK⟩ => ?_) h
    exact wpAny_cross hsel (l1.length + l2.length) l1 l2 _ a' _ Φ1 Φ2 A1 A2 rfl k1 k2 ok t1 t2 hsz hO fun vs1 A1' vs2 A2' w' p1 p2 ho hb => hK vs1 A1' vs2 A2' w' p1 p2 ho ((Below.refl B w).drew.trans hb)
  rw [← hf] at hgo
  exact hgo

end
end Go.Proofs.YtmppagiaonbggaaDoor

/- The rule of two threads of which the second may wait for the first one's steps, with reads that the rest decides. -/
namespace Go.Proofs.YtmppagiaonbggaaDoor
set_option linter.unusedVariables false
set_option linter.unusedSimpArgs false
set_option maxRecDepth 100000
open Go.RowKit

section
variable {P : Program} {ops : Array Oper} {md : Region.Mode} {Q : Exit → Act → World → Prop} {B : Nat}

theorem wpL_cross (hsel : Region.noSelect ops = true) {ts : List Nat} {R : HP} [Loc B R] {T : Act → World → Prop} : ∀ (n : Nat) (l1 l2 : List Nat) (listed : Array Bool) (a : Act) (w : World) (Φ1 Φ2 : List Value → HP → Prop) (A1 A2 : HP), l1.length + l2.length = n → Loc B A1 → Loc B A2 →
    CrossOk md ops listed l1 l2 ts → TW P ops B (opsOf ops l1) Φ1 a A1 → TW P ops B (opsOf ops l2) Φ2 a A2 → B ≤ w.heap.size → Own B (A1 * (A2 * R)) w →
    (∀ vs1 A1' vs2 A2' w', Φ1 vs1 A1' → Φ2 vs2 A2' → Own B (A1' * (A2' * R)) w' → Below B w w' → T (putAll (opsOf ops l2) vs2 (putAll (opsOf ops l1) vs1 a)) w') →
    wpL P md ops Q (fun w => Own B R w) T n listed a w
  | 0, l1, l2, listed, a, w, Φ1, Φ2, A1, A2, hn, _, _, ok, h1, h2, hB, hO, hK => by
    obtain rfl : l1 = [] := List.eq_nil_of_length_eq_zero (by omega)
    obtain rfl : l2 = [] := List.eq_nil_of_length_eq_zero (by omega)
    exact hK [] A1 [] A2 w h1 h2 hO (Below.refl B w)
  | n + 1, l1, l2, listed, a, w, Φ1, Φ2, A1, A2, hn, k1, k2, ok, h1, h2, hB, hO, hK => by
    have hne : l1 ≠ [] ∨ l2 ≠ [] := by
      cases l1 with
      | nil => right; intro e; subst e; simp at hn
      | cons x l => left; simp
    have hrdy : Region.ready md ops listed ≠ [] := by
      intro h0
      cases hl1 : l1 with
      | cons x l =>
        subst hl1
        have hlex := ok.lex1
        simp only [lexOk, Bool.and_eq_true] at hlex
        have hun := ok.un x (by simp)
        have : x ∈ Region.ready md ops listed := mem_ready'.2 ⟨hun.1, hun.2, hlex.1⟩
        rw [h0] at this; cases this
      | nil =>
        subst hl1
        obtain ⟨x, l, rfl⟩ : ∃ x l, l2 = x :: l := by cases l2 with | nil => simp at hne | cons x l => exact ⟨x, l, rfl⟩
        have hlex := ok.lex2
        simp only [List.nil_append, lexOk, Bool.and_eq_true] at hlex
        have hun := ok.un x (by simp)
        have : x ∈ Region.ready md ops listed := mem_ready'.2 ⟨hun.1, hun.2, hlex.1⟩
        rw [h0] at this; cases this
    have hd : ∀ {A1' A2' : HP} {w' : World}, Loc B A1' → Loc B A2' → Own B (A1' * (A2' * R)) w' → Own B R w' := fun _ _ h => h.right.right
    refine ⟨hrdy, fun i hi => ?_⟩
    have hlt := (mem_ready'.1 hi).1
    obtain ⟨o, ho⟩ : ∃ o, ops[i]? = some o := ⟨_, Array.getElem?_eq_getElem hlt⟩
    unfold wpOp
    simp only [ho]
    rcases ok.only hne hi with ⟨l, rfl⟩ | ⟨l, rfl⟩
    · rw [opsOf_cons ho] at h1
      have hap : ∀ o' ∈ opsOf ops l2, (∃ j : Nat, ops[j]? = some o') ∧ o'.apart ops o = true := fun o' h' => by
        obtain ⟨j, hj, hoj⟩ := mem_opsOf h'
        exact ⟨⟨j, hoj⟩, (ok.apart i List.mem_cons_self j hj o o' ho hoj).2⟩
      have hlen : l.length + l2.length = n := by simp at hn; omega
      obtain ⟨_, h1 | h1⟩ := h1
      · rw [if_pos h1.1]
        left
        refine h1.2.wp hB hO fun v A' w' ⟨kl, ht⟩ hO' hb => ⟨hd kl k2 hO', ?_⟩
        refine wpL_cross hsel n l l2 _ _ w' (fun vs => Φ1 (v :: vs)) Φ2 A' A2 hlen kl k2 ok.strike ht (h2.put hsel _ _ _ _ hap) (Nat.le_trans hB hb.size) hO' fun vs1 A1' vs2 A2' w'' p1 p2 hO'' hb' => ?_
        have := hK (v :: vs1) A1' vs2 A2' w'' p1 p2 hO'' (hb.trans hb')
        rw [opsOf_cons ho] at this
        exact this
      · rw [if_neg (by rw [h1.1]; exact Bool.false_ne_true)]
        refine ⟨hd k1 k2 hO, wpL_cross hsel n l l2 _ _ w (fun vs => Φ1 (undef :: vs)) Φ2 A1 A2 hlen k1 k2 ok.strike h1.2 (h2.put hsel _ _ _ _ hap) hB hO fun vs1 A1' vs2 A2' w'' p1 p2 hO'' hb' => ?_⟩
        have := hK (undef :: vs1) A1' vs2 A2' w'' p1 p2 hO'' hb'
        rw [opsOf_cons ho] at this
        exact this
    · rw [opsOf_cons ho] at h2
      have hap : ∀ o' ∈ opsOf ops l1, (∃ j : Nat, ops[j]? = some o') ∧ o'.apart ops o = true := fun o' h' => by
        obtain ⟨j, hj, hoj⟩ := mem_opsOf h'
        exact ⟨⟨j, hoj⟩, (ok.apart j hj i List.mem_cons_self o' o hoj ho).1⟩
      have hlen : l1.length + l.length = n := by simp at hn; omega
      obtain ⟨_, h2 | h2⟩ := h2
      · rw [if_pos h2.1]
        left
        refine h2.2.wp hB (hO.cast (sep_left_comm _ _ _)) fun v A' w' ⟨kl, ht⟩ hO' hb => ⟨hd kl k1 hO', ?_⟩
        refine wpL_cross hsel n l1 l _ _ w' Φ1 (fun vs => Φ2 (v :: vs)) A1 A' hlen k1 kl ok.strike2 (h1.put hsel _ _ _ _ hap) ht (Nat.le_trans hB hb.size) (hO'.cast (sep_left_comm _ _ _)) fun vs1 A1' vs2 A2' w'' p1 p2 hO'' hb' => ?_
        have := hK vs1 A1' (v :: vs2) A2' w'' p1 p2 hO'' (hb.trans hb')
        rw [opsOf_cons ho] at this
        rw [putAll_put _ _ _ _ _ (fun o' h' => (hap o' h').2)]
        exact this
      · rw [if_neg (by rw [h2.1]; exact Bool.false_ne_true)]
        refine ⟨hd k1 k2 hO, wpL_cross hsel n l1 l _ _ w Φ1 (fun vs => Φ2 (undef :: vs)) A1 A2 hlen k1 k2 ok.strike2 (h1.put hsel _ _ _ _ hap) h2.2 hB hO fun vs1 A1' vs2 A2' w'' p1 p2 hO'' hb' => ?_⟩
        have := hK vs1 A1' (undef :: vs2) A2' w'' p1 p2 hO'' hb'
        rw [opsOf_cons ho] at this
        rw [putAll_put _ _ _ _ _ (fun o' h' => (hap o' h').2)]
        exact this

/-- THE RULE: us free · ls: reads that R decides, ahead of ts · l1 and l2 two threads · ts the rest, in their order. -/
theorem wp_region_lcross {id : Nat} {a : Act} {w : World} (us ls l1 l2 ts : List Nat) (A1 A2 R : HP) [k1 : Loc B A1] [k2 : Loc B A2] [Loc B R] (hm : P.follows .mixedOrders = true)
    (hB : (freeB .any ops us (Array.replicate ops.size false) && mixB .any ops (markAll us (Array.replicate ops.size false)) (ls ++ (l1 ++ l2)) ts && crossB .any ops (markAll ls (markAll us (Array.replicate ops.size false))) l1 l2 ts) = true)
    (hf : ops.size = us.length + ((ls.length + (l1.length + l2.length)) + ts.length))
    (hQ : ∀ c a d v w, Q (.panic c) (a.put (some d) v) w → Q (.panic c) a w) (hsz : B ≤ w.heap.size) (hO : Own B (A1 * (A2 * R)) w.drew)
    (h : wpFree P ops (fun a1 => wpLate P ops (fun w => Own B R w) (fun a2 => ∃ Φ1 Φ2 : List Value → HP → Prop, TW P ops B (opsOf ops l1) Φ1 a2 A1 ∧ TW P ops B (opsOf ops l2) Φ2 a2 A2 ∧
      ∀ vs1 A1' vs2 A2' w', Φ1 vs1 A1' → Φ2 vs2 A2' → Own B (A1' * (A2' * R)) w' → Below B w w' → wpList P ops Q (ts.filterMap fun i => ops[i]?) (putAll (opsOf ops l2) vs2 (putAll (opsOf ops l1) vs1 a2)) w')
      (ls.filterMap fun i => ops[i]?) a1) (us.filterMap fun i => ops[i]?) a) : (Code.region id ops true).wp P Q a w := by
  simp only [Bool.and_eq_true] at hB
  obtain ⟨⟨hB1, hB2⟩, hB3⟩ := hB
  obtain ⟨hsel, ok1⟩ := mixB_ok hB2
  obtain ⟨_, ok2⟩ := crossB_ok hB3
  have hts : ∀ i ∈ ts, i < ops.size := fun i hi => (ok1.un i (by simp [hi])).1
  refine wp_region_any hm ?_
  have hR : Own B R w.drew := hO.right.right
  have hgo : wpAny P .any ops Q (us.length + ((ls.length + (l1.length + l2.length)) + ts.length)) (Array.replicate ops.size false) a w.drew := by
    refine wpAny_free hQ hsel us _ a hB1 (fun a1 h1 => ?_) h
    refine wpL_any (S := fun w => Own B R w) (T := fun a4 w4 => wpOps P ops Q ts a4 w4) (fun _ _ h => h) _ (ls ++ (l1 ++ l2)) _ a1 _ (by simp) ok1 ?_
    have := wpL_lates (P := P) (S := fun w => Own B R w) (T := fun a4 w4 => wpOps P ops Q ts a4 w4) (w := w.drew) hsel hQ hR ls (l1 ++ l2) _ a1 ok1 (fun a2 ⟨Φ1, Φ2, t1, t2, hK⟩ _ => ?_) h1
    · rw [List.length_append]
      exact wpL_cross hsel (l1.length + l2.length) l1 l2 _ a2 _ Φ1 Φ2 A1 A2 rfl k1 k2 ok2 t1 t2 hsz hO fun vs1 A1' vs2 A2' w' p1 p2 ho hb => wpOps_list ts _ w' hts (hK vs1 A1' vs2 A2' w' p1 p2 ho ((Below.refl B w).drew.trans hb))
    · rw [List.length_append] at this
      exact this
  rw [← hf] at hgo
  exact hgo

end
end Go.Proofs.YtmppagiaonbggaaDoor

/- What lies below B, as a part of what is owned. -/
namespace Go.Proofs.YtmppagiaonbggaaDoor
set_option linter.unusedVariables false
set_option linter.unusedSimpArgs false
set_option maxRecDepth 100000
open Go.RowKit

/-- All below B is as it was. -/
def Kept (B : Nat) (w0 : World) : HP := fun w _ => ∀ k, k < B → w.heap[k]? = w0.heap[k]?
instance Loc.kept {B : Nat} {w0 : World} : Loc B (Kept B w0) := ⟨fun _ _ _ _ h2 h k hk => (h2 k hk).trans (h k hk), fun _ _ _ _ h => h⟩
theorem Own.kept {B : Nat} {R : HP} {w0 w : World} (h : Own B R w) (hb : Below B w0 w) (hB : B ≤ w0.heap.size) : Own B (Kept B w0 * R) w := by
  obtain ⟨F, hf, hr⟩ := h
  exact ⟨F, hf, fun _ => False, F, fun _ h => h.elim, fun _ h => h.elim, fun _ h => h, fun k hk => hb.block k hk, hr⟩
theorem Own.kept_out {B : Nat} {R : HP} {w0 w : World} (h : Own B (Kept B w0 * R) w) : ∀ k, k < B → w.heap[k]? = w0.heap[k]? := let ⟨_, _, _, _, _, _, _, hp, _⟩ := h; hp
theorem RdA.kept {α : Type} {k : Nat} {cs : α → List Value} {w w' : World} {A : Option Addr} {l : List α} (h : RdA k cs w A l) (hk : ∀ j, j < w.heap.size → w'.heap[j]? = w.heap[j]?) (hs : w.heap.size ≤ w'.heap.size) : RdA k cs w' A l := fun i hi => by
  obtain ⟨b, off, ha, hlt, hc⟩ := h i hi
  refine ⟨b, off, ha, by omega, fun j u hu => ?_⟩
  rw [World.cell?_of_block (w := w) (w' := w') (a := ⟨b, off + i * k + j, none⟩) (hk b hlt)]
  exact hc j u hu

theorem Rd.kept {w w' : World} {v : Value} {xs : List Value} (h : Rd w v xs) (hk : ∀ j, j < w.heap.size → w'.heap[j]? = w.heap[j]?) : Rd w' v xs := by
  obtain ⟨A, c, hv, hr⟩ := h
  refine ⟨A, c, hv, fun hne => ?_⟩
  obtain ⟨ad, ha, hc⟩ := hr hne
  exact ⟨ad, ha, fun j u hu => (World.cell?_of_block (hk _ (World.block_lt_of_cell? w _ (hc j u hu)))).trans (hc j u hu)⟩
end Go.Proofs.YtmppagiaonbggaaDoor

/- Files that are told alike are alike, plain; and the walk over SourceApart. -/
namespace Go.Proofs.YtmppagiaonbggaaDoor
set_option linter.unusedVariables false
set_option linter.unusedSimpArgs false
set_option maxRecDepth 100000
open Go.RowKit

theorem readAll_enc {l : List En} (h : fineB l = true) (r : List UInt8) : readAll (encL l ++ r) = (l, ⟨r, 0⟩) := by
  obtain ⟨hs, hl, _, hp⟩ := whyE_zero (fineB_true h).1
  unfold readAll encL
  rw [List.append_assoc, readNum_onumI (by omega) 1024 (by omega), Int.toNat_natCast, readL_enc l r [] (fine_num h)]
  simp
theorem ents_inj : ∀ (a b : List Fi) (k : Int), entsFrom k a = entsFrom k b → dataL a = dataL b → a = b
  | [], [], _, _, _ => rfl
  | [], _ :: _, _, h, _ => by simp [entsFrom] at h
  | _ :: _, [], _, h, _ => by simp [entsFrom] at h
  | f :: a, g :: b, k, h, hd => by
    simp only [entsFrom, List.cons.injEq, En.mk.injEq] at h
    obtain ⟨⟨h1, h2, h3, h4, h5, _, h7⟩, ht⟩ := h
    have hl : f.data.length = g.data.length := by omega
    unfold dataL at hd
    rw [List.flatMap_cons, List.flatMap_cons] at hd
    obtain ⟨e1, e2⟩ := List.append_inj hd hl
    rw [hl] at ht
    have := ents_inj a b _ ht e2
    obtain ⟨p, ki, mo, ti, da, tg⟩ := f
    obtain ⟨p', ki', mo', ti', da', tg'⟩ := g
    simp only at h1 h2 h3 h4 h5 e1
    subst h1 h2 h3 h4 h5 e1 this
    rfl
theorem apart_law {a b : List Fi} (ha : whyE (ents a) = 0) (hb : whyE (ents b) = 0) : (encL (ents a) ++ dataL a = encL (ents b) ++ dataL b) ↔ a = b := by
  refine ⟨fun h => ?_, fun h => by rw [h]⟩
  have h1 := readAll_enc (fineB_ents ha) (dataL a)
  rw [h, readAll_enc (fineB_ents hb) (dataL b)] at h1
  injection h1 with e1 e2
  injection e2 with e2 _
  exact ents_inj a b 0 e1.symm e2.symm

theorem sh_kept {w w' : World} (h : Sh w) (hk : ∀ j, j < w.heap.size → w'.heap[j]? = w.heap[j]?) (hs : w.heap.size ≤ w'.heap.size) : Sh w' :=
  World.ShapedOpen.of_heap (w := { w' with os := w.os, tape := w.tape, output := w.output }) rfl (sh_below h ⟨rfl, rfl, rfl, hs, hk⟩)
theorem RdF.kept {w w' : World} {A : Option Addr} {l : List (Fi × Value)} (h : RdF w A l) (hk : ∀ j, j < w.heap.size → w'.heap[j]? = w.heap[j]?) (hs : w.heap.size ≤ w'.heap.size) : RdF w' A l :=
  ⟨h.1.kept hk hs, fun x hx => (h.2 x hx).kept hk⟩
theorem Own.keptR {B : Nat} {w0 w : World} (h : Own B (Kept B w0) w) : ∀ k, k < B → w.heap[k]? = w0.heap[k]? := let ⟨_, _, hp⟩ := h; hp
theorem str_size (l : List UInt8) : (str l).size = l.length := by simp [str, ByteArray.size]
theorem str_append_eq (x y u v : List UInt8) : ((str x ++ str y).toList == (str u ++ str v).toList) = decide (x ++ y = u ++ v) := by
  have e : ∀ p q : List UInt8, (str p ++ str q).toList = p ++ q := by
    intro p q
    rw [ByteArray.toList_eq]
    simp [str]
  rw [e, e]
  by_cases h : x ++ y = u ++ v
  · rw [h]; simp
  · rw [decide_eq_false h]; simpa using h

set_option maxRecDepth 100000 in
set_option maxHeartbeats 6400000 in
theorem apart_walk (A : Option Addr) (c : Nat) (l : List (Fi × Value)) (hl : l.length ≤ 9223372036854775807) (hw : ∀ x ∈ l, x.1.wide) (A2 : Option Addr) (c2 : Nat) (l2 : List (Fi × Value)) (hl2 : l2.length ≤ 9223372036854775807) (hw2 : ∀ x ∈ l2, x.1.wide) (w : World) (h : Sh w) (hr : RdF w A l) (hr2 : RdF w A2 l2) :
    Calls Tryd.prog 4 #[.slice A l.length c, .slice A2 l2.length c2] w fun e w' => e = .returned (.bool true) ∧ Below w.heap.size w w' := by
  have hb := Below.refl w.heap.size w
  have Hh := Lib.hid (fun w1 (b : Below w.heap.size w w1) => sh_below h b)
  have Aw := Lib.hid (fun w1 h1 => awakeS_any w1 h1)
  have Fe := Lib.hid (few_any A c l hl hw w hr)
  have Fe2 := Lib.hid (few_any A2 c2 l2 hl2 hw2 w hr2)
  have Hr := Lib.hid (fun w1 (b : Below w.heap.size w w1) => hr.below b)
  have Hr2 := Lib.hid (fun w1 (b : Below w.heap.size w w1) => hr2.below b)
  by_cases hf : fewP (l.map (·.1))
  · rw [decide_eq_true hf] at Fe
    by_cases hf2 : fewP (l2.map (·.1))
    · rw [decide_eq_true hf2] at Fe2
      obtain ⟨f1, f2, f3⟩ := few_ok hw hf
      obtain ⟨g1, g2, g3⟩ := few_ok hw2 hf2
      have R1 := Lib.hid (fun w1 h1 hr => rightE_any A c l (by omega) (by omega) f3 w1 h1 hr)
      have R2 := Lib.hid (fun w1 h1 hr => rightE_any A2 c2 l2 (by omega) (by omega) g3 w1 h1 hr)
      by_cases hz : whyE (ents (l.map (·.1))) = 0
      · rw [hz] at R1
        by_cases hz2 : whyE (ents (l2.map (·.1))) = 0
        · rw [hz2] at R2
          have hek := ents_ok (l := l.map (·.1)) (by intro f hf; obtain ⟨x, hx, rfl⟩ := List.mem_map.1 hf; exact f3 x hx) (by omega)
          have hek2 := ents_ok (l := l2.map (·.1)) (by intro f hf; obtain ⟨x, hx, rfl⟩ := List.mem_map.1 hf; exact g3 x hx) (by omega)
          have hel : (ents (l.map (·.1))).length = l.length := by unfold ents; rw [entsFrom_length]; simp
          have hel2 : (ents (l2.map (·.1))).length = l2.length := by unfold ents; rw [entsFrom_length]; simp
          have O1 := Lib.hid (fun w1 h1 hr => ofE_any A c l (by omega) (by omega) f3 w1 h1 hr)
          have O2 := Lib.hid (fun w1 h1 hr => ofE_any A2 c2 l2 (by omega) (by omega) g3 w1 h1 hr)
          have ho1 : ofE (l.map (·.1)) = ents (l.map (·.1)) := by unfold ofE; rw [if_pos hz]
          have ho2 : ofE (l2.map (·.1)) = ents (l2.map (·.1)) := by unfold ofE; rw [if_pos hz2]
          rw [hz, ho1] at O1
          rw [hz2, ho2] at O2
          have E1 := Lib.hid (fun A c w h hr => encode_any A c (ents (l.map (·.1))) (by omega) (fun e he => (hek e he).1) (fun e he => (hek e he).2) w h hr)
          have E2 := Lib.hid (fun A c w h hr => encode_any A c (ents (l2.map (·.1))) (by omega) (fun e he => (hek2 e he).1) (fun e he => (hek2 e he).2) w h hr)
          have S1 := Lib.hid (fun w1 h1 hr => stream_any A c l (by omega) (by omega) f3 w1 h1 hr)
          have S2 := Lib.hid (fun w1 h1 hr => stream_any A2 c2 l2 (by omega) (by omega) g3 w1 h1 hr)
          have hs1 : streamP (l.map (·.1)) = dataL (l.map (·.1)) := if_pos hz
          have hs2 : streamP (l2.map (·.1)) = dataL (l2.map (·.1)) := if_pos hz2
          rw [hs1] at S1
          rw [hs2] at S2
          have Fl := Lib.hid (fun w1 h1 h2 => files_any A A2 c c2 l l2 (by omega) (by omega) w1 h1 h2)
          have HF1 := Lib.hid (fineB_ents hz)
          have HF2 := Lib.hid (fineB_ents hz2)
          have law := apart_law hz hz2
          have hq : decide (encL (ents (l.map (·.1))) ++ dataL (l.map (·.1)) = encL (ents (l2.map (·.1))) ++ dataL (l2.map (·.1))) = decide (l.map (·.1) = l2.map (·.1)) := decide_eq_decide.2 law
          have Hq := Lib.hid hq
          have Hz1 : Hid ((str (encL (ents (l.map (·.1))))).size + (str (dataL (l.map (·.1)))).size ≤ 9223372036854775807) := Lib.hid (by rw [str_size, str_size]; have := encL_le (fineB_ents hz); have := dataL_le hz; omega)
          have Hz2 : Hid ((str (encL (ents (l2.map (·.1))))).size + (str (dataL (l2.map (·.1)))).size ≤ 9223372036854775807) := Lib.hid (by rw [str_size, str_size]; have := encL_le (fineB_ents hz2); have := dataL_le hz2; omega)
          rw [hel] at E1
          rw [hel2] at E2
          clear law hq h hr hr2 hf hf2 f3 g3 hek hek2 ho1 ho2 hs1 hs2 hz hz2 hw hw2
          generalize decide (l.map (·.1) = l2.map (·.1)) = res at *
          generalize ents (l.map (·.1)) = es at *
          generalize ents (l2.map (·.1)) = es2 at *
          generalize dataL (l.map (·.1)) = dt at *
          generalize dataL (l2.map (·.1)) = dt2 at *
          go_enter Tryd.func4, Tryd.ntmps4
          go_wp2_with fail
          refine (Fe.out).mono ?_
          rintro e wz ⟨rfl, rfl⟩
          go_wp2_with fail
          refine (Fe2.out).mono ?_
          rintro e wz ⟨rfl, rfl⟩
          go_wp2_with fail
          refine (R1.out _ (Hh.out _ hb) (Hr.out _ hb)).mono ?_
          rintro e wz ⟨rfl, b⟩
          replace hb := hb.trans (b.mono hb.size)
          clear b
          go_wp2_with fail
          refine (R2.out _ (Hh.out _ hb) (Hr2.out _ hb)).mono ?_
          rintro e wz ⟨rfl, b⟩
          replace hb := hb.trans (b.mono hb.size)
          clear b
          go_wp2_with fail
          refine (O1.out _ (Hh.out _ hb) (Hr.out _ hb)).mono ?_
          rintro e w1 ⟨Ae, ce, rfl, k1, r1, b1⟩
          replace hb := hb.trans (b1.mono hb.size)
          clear b1 O1 R1 R2
          go_wp2_with fail
          refine (O2.out _ (Hh.out _ hb) (Hr2.out _ hb)).mono ?_
          rintro e w2 ⟨Ae2, ce2, rfl, k2, r2, b2⟩
          have r1 := r1.below b2
          replace hb := hb.trans (b2.mono hb.size)
          clear b2 O2
          go_wp2_with fail
          refine (E1.out _ _ _ (Hh.out _ hb) r1).mono ?_
          rintro e w3 hE
          unfold EncP at hE
          rw [if_pos HF1.out] at hE
          obtain ⟨v3, rfl, h3, b3⟩ := hE
          generalize encL es = en at *
          have o3 := Own.fresh (Nat.le_refl _) (Own.start w2.heap.size w2) h3 b3
          obtain ⟨A3, c3, rfl⟩ := o3.row_n
          have r2 := r2.below b3
          have d3 := o3.rd
          replace hb := hb.trans (b3.mono hb.size)
          clear h3 b3 o3 E1 r1
          go_wp2_with fail
          refine (E2.out _ _ _ (Hh.out _ hb) r2).mono ?_
          rintro e w4 hE
          unfold EncP at hE
          rw [if_pos HF2.out] at hE
          obtain ⟨v4, rfl, h4, b4⟩ := hE
          generalize encL es2 = en2 at *
          have o4 := Own.fresh (Nat.le_refl _) (Own.start w3.heap.size w3) h4 b4
          obtain ⟨A4, c4, rfl⟩ := o4.row_n
          have d3 := d3.below b4
          have d4 := o4.rd
          replace hb := hb.trans (b4.mono hb.size)
          clear h4 b4 o4 E2 r2
          go_wp2
          have hr4 := Hr.out _ hb
          have hr5 := Hr2.out _ hb
          have hh4 := Hh.out _ hb
          refine wp_region_lcross (B := w4.heap.size) [0, 2, 6, 8] [1, 7] [3, 4, 5] [9, 10, 11] [12, 13] (Kept w4.heap.size w4) (Kept w4.heap.size w4) (Kept w4.heap.size w4) mixed (by kernel_rfl) rfl (fun _ _ _ _ _ h => h) (Nat.le_refl _) ((((((Own.start w4.heap.size w4).kept (Below.refl _ _) (Nat.le_refl _)).left).kept (Below.refl _ _) (Nat.le_refl _)).kept (Below.refl _ _) (Nat.le_refl _)).drew (Nat.le_refl _)) ?_
          simp only [List.filterMap_cons, List.filterMap_nil, List.getElem?_toArray, List.getElem?_cons_succ, List.getElem?_cons_zero]
          repeat (
            refine free_val ?_ rfl (fun w1 => ?_) ?_
            rotate_left
            · (go_simp
               try go_bits
               rfl)
            simp only [Act.put, List.setIfInBounds_toArray, List.set_cons_zero, List.set_cons_succ])
          refine free_nil ?_
          refine late_val (.string (str en)) rfl (fun w1 hS => ?_) ?_
          · have s1 := str_of_rd (d3.kept hS.keptR)
            go_simp
          simp only [Act.put, List.setIfInBounds_toArray, List.set_cons_zero, List.set_cons_succ]
          refine late_val (.string (str en2)) rfl (fun w1 hS => ?_) ?_
          · have s1 := str_of_rd (d4.kept hS.keptR)
            go_simp
          simp only [Act.put, List.setIfInBounds_toArray, List.set_cons_zero, List.set_cons_succ]
          refine late_nil ?_
          refine ⟨fun vs F => ∃ v1 v2, vs = [v1, v2, .string (str en ++ str dt)], fun vs F => ∃ v1 v2, vs = [v1, v2, .string (str en2 ++ str dt2)], ?_, ?_, ?_⟩
          · simp only [opsOf, List.filterMap_cons, List.filterMap_nil, List.getElem?_toArray, List.getElem?_cons_succ, List.getElem?_cons_zero]
            refine tw_call 14 #[.slice A l.length c] (fun v F => ∃ A6 c6, v = .slice A6 dt.length c6 ∧ F = Rw 5 1 (.slice A6 dt.length c6) dt.length (bytesU dt)) rfl (fun R1 _ w1 hS => by go_simp) (fun R1 _ w1 hB1 hS => (S1.out w1 (sh_kept hh4 hS.kept_out hB1) (hr4.kept hS.kept_out hB1)).mono ?_) ?_
            · rintro e w5 ⟨v6, rfl, ho6, b6⟩
              have o6 := Own.fresh hB1 hS.right ho6 b6
              obtain ⟨A6, c6, rfl⟩ := o6.row_n
              exact ⟨_, _, rfl, ⟨inferInstance, A6, c6, rfl, rfl⟩, o6, b6.mono hB1⟩
            · rintro v6 F6 _ ⟨A6, c6, rfl, rfl⟩
              simp only [Act.put, List.setIfInBounds_toArray, List.set_cons_zero, List.set_cons_succ]
              refine tw_val (.string (str dt)) rfl (fun R1 _ w1 hS => ?_) ?_
              · have s7 := str_of_rd hS.rd
                go_simp
              simp only [Act.put, List.setIfInBounds_toArray, List.set_cons_zero, List.set_cons_succ]
              refine tw_val (.string (str en ++ str dt)) rfl (fun R1 _ w1 hS => ?_) ?_
              · have hz := Hz1.out
                go_simp
              · exact tw_nil ⟨_, _, rfl⟩
          · simp only [opsOf, List.filterMap_cons, List.filterMap_nil, List.getElem?_toArray, List.getElem?_cons_succ, List.getElem?_cons_zero]
            refine tw_call 14 #[.slice A2 l2.length c2] (fun v F => ∃ A6 c6, v = .slice A6 dt2.length c6 ∧ F = Rw 5 1 (.slice A6 dt2.length c6) dt2.length (bytesU dt2)) rfl (fun R1 _ w1 hS => by go_simp) (fun R1 _ w1 hB1 hS => (S2.out w1 (sh_kept hh4 hS.kept_out hB1) (hr5.kept hS.kept_out hB1)).mono ?_) ?_
            · rintro e w5 ⟨v6, rfl, ho6, b6⟩
              have o6 := Own.fresh hB1 hS.right ho6 b6
              obtain ⟨A6, c6, rfl⟩ := o6.row_n
              exact ⟨_, _, rfl, ⟨inferInstance, A6, c6, rfl, rfl⟩, o6, b6.mono hB1⟩
            · rintro v6 F6 _ ⟨A6, c6, rfl, rfl⟩
              simp only [Act.put, List.setIfInBounds_toArray, List.set_cons_zero, List.set_cons_succ]
              refine tw_val (.string (str dt2)) rfl (fun R1 _ w1 hS => ?_) ?_
              · have s7 := str_of_rd hS.rd
                go_simp
              simp only [Act.put, List.setIfInBounds_toArray, List.set_cons_zero, List.set_cons_succ]
              refine tw_val (.string (str en2 ++ str dt2)) rfl (fun R1 _ w1 hS => ?_) ?_
              · have hz := Hz2.out
                go_simp
              · exact tw_nil ⟨_, _, rfl⟩
          · rintro vs1 F1 vs2 F2 w5 ⟨x1, x2, rfl⟩ ⟨y1, y2, rfl⟩ o5 b5
            simp only [opsOf, putAll, Act.put, List.filterMap_cons, List.filterMap_nil, List.getElem?_toArray, List.getElem?_cons_succ, List.getElem?_cons_zero, List.setIfInBounds_toArray, List.set_cons_zero, List.set_cons_succ]
            replace hb := hb.trans (b5.mono hb.size)
            have heq := str_append_eq en dt en2 dt2
            rw [Hq.out] at heq
            clear o5 b5 hr4 hr5 hh4 d3 d4 S1 S2
            have hres : (res == res) = true := by simp
            go_wp2_with fail
            refine (Fl.out _ (Hr.out _ hb) (Hr2.out _ hb)).mono ?_
            rintro e w6 ⟨rfl, b6⟩
            replace hb := hb.trans (b6.mono hb.size)
            clear b6 Fl
            go_wp2_with fail
            refine (Aw.out _ (Hh.out _ hb)).mono ?_
            rintro e wz ⟨rfl, b⟩
            replace hb := hb.trans (b.mono hb.size)
            clear b
            go_wp2
            go_ret
            exact ⟨rfl, hb⟩
        · have hz' : (whyE (ents (l2.map (·.1))) == 0) = false := by simpa using hz2
          rw [hz'] at R2
          clear h hr hr2 hf hf2 f3 g3 hz hz2 hw hw2
          go_enter Tryd.func4, Tryd.ntmps4
          go_wp2_with fail
          refine (Fe.out).mono ?_
          rintro e wz ⟨rfl, rfl⟩
          go_wp2_with fail
          refine (Fe2.out).mono ?_
          rintro e wz ⟨rfl, rfl⟩
          go_wp2_with fail
          refine (R1.out _ (Hh.out _ hb) (Hr.out _ hb)).mono ?_
          rintro e wz ⟨rfl, b⟩
          replace hb := hb.trans (b.mono hb.size)
          clear b
          go_wp2_with fail
          refine (R2.out _ (Hh.out _ hb) (Hr2.out _ hb)).mono ?_
          rintro e wz ⟨rfl, b⟩
          replace hb := hb.trans (b.mono hb.size)
          clear b
          go_wp2_with fail
          refine (Aw.out _ (Hh.out _ hb)).mono ?_
          rintro e wz ⟨rfl, b⟩
          replace hb := hb.trans (b.mono hb.size)
          clear b
          go_wp2
          go_ret
          exact ⟨rfl, hb⟩
      · have hz' : (whyE (ents (l.map (·.1))) == 0) = false := by simpa using hz
        rw [hz'] at R1
        clear h hr hr2 hf hf2 f3 g3 hz hw hw2
        go_enter Tryd.func4, Tryd.ntmps4
        go_wp2_with fail
        refine (Fe.out).mono ?_
        rintro e wz ⟨rfl, rfl⟩
        go_wp2_with fail
        refine (Fe2.out).mono ?_
        rintro e wz ⟨rfl, rfl⟩
        go_wp2_with fail
        refine (R1.out _ (Hh.out _ hb) (Hr.out _ hb)).mono ?_
        rintro e wz ⟨rfl, b⟩
        replace hb := hb.trans (b.mono hb.size)
        clear b
        go_wp2_with fail
        refine (Aw.out _ (Hh.out _ hb)).mono ?_
        rintro e wz ⟨rfl, b⟩
        replace hb := hb.trans (b.mono hb.size)
        clear b
        go_wp2
        go_ret
        exact ⟨rfl, hb⟩
    · rw [decide_eq_false hf2] at Fe2
      clear h hr hr2 hf hf2 hw hw2
      go_enter Tryd.func4, Tryd.ntmps4
      go_wp2_with fail
      refine (Fe.out).mono ?_
      rintro e wz ⟨rfl, rfl⟩
      go_wp2_with fail
      refine (Fe2.out).mono ?_
      rintro e wz ⟨rfl, rfl⟩
      go_wp2_with fail
      refine (Aw.out _ (Hh.out _ hb)).mono ?_
      rintro e wz ⟨rfl, b⟩
      replace hb := hb.trans (b.mono hb.size)
      clear b
      go_wp2
      go_ret
      exact ⟨rfl, hb⟩
  · rw [decide_eq_false hf] at Fe
    clear h hr hr2 hf hw hw2
    go_enter Tryd.func4, Tryd.ntmps4
    go_wp2_with fail
    refine (Fe.out).mono ?_
    rintro e wz ⟨rfl, rfl⟩
    go_wp2_with fail
    refine (Aw.out _ (Hh.out _ hb)).mono ?_
    rintro e wz ⟨rfl, b⟩
    replace hb := hb.trans (b.mono hb.size)
    clear b
    go_wp2
    go_ret
    exact ⟨rfl, hb⟩
end Go.Proofs.YtmppagiaonbggaaDoor
