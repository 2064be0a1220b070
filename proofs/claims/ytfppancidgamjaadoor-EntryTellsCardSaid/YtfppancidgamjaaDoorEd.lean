/- The walk over awake of the laws on entries. -/
import Derived.Test.YtfppancidgamjaaDoorEc
import Derived.Lib.SmallJoins
namespace Go.Proofs.YtfppancidgamjaaDoor
set_option linter.unusedVariables false
set_option linter.unusedSimpArgs false
open Go.RowKit

def twoFiles : List Fi := [⟨[97], 1, 0, 0, [97, 98, 99], []⟩, ⟨[98], 1, 0, 0, [100, 101], []⟩]
def twoEnts : List En := [⟨[97], 1, 0, 0, [], 0, 3⟩, ⟨[98], 1, 0, 0, [], 3, 2⟩]
theorem two_why : whyE (ents twoFiles) = 0 := by decide +kernel
theorem two_of : ofE twoFiles = twoEnts := by unfold ofE; rw [if_pos two_why]; rfl
theorem two_total : totalE twoEnts = 5 := by decide +kernel
theorem two_fine : fineB twoEnts = true := by decide +kernel

theorem rd_block {w : World} {g : Nat} {arr : Array Value} {t : TypeId} {fr : Nat × Nat} (h : w.heap[g]? = some (.cells arr t fr)) (c : Nat) : Rd w (.slice (some ⟨g, 0, none⟩) arr.size c) arr.toList :=
  ⟨some ⟨g, 0, none⟩, c, by simp, fun _ => ⟨⟨g, 0, none⟩, rfl, fun j u hu => by rw [Addr.add_lit, Nat.zero_add, cell_of_row _ _ _ _ _ _ h]; simpa using hu⟩⟩
theorem rdA_block {α : Type} {k : Nat} {cs : α → List Value} (hk : ∀ a, (cs a).length = k) {w : World} {g : Nat} {arr : Array Value} {t : TypeId} {fr : Nat × Nat} (h : w.heap[g]? = some (.cells arr t fr)) (l : List α) (hl : arr.toList = flat cs l) : RdA k cs w (some ⟨g, 0, none⟩) l := by
  intro i hi
  refine ⟨g, 0, rfl, (Array.getElem?_eq_some_iff.1 h).1, fun j u hu => ?_⟩
  have := flat_get hk l i hi j u hu
  rw [← hl] at this
  rw [Nat.zero_add, cell_of_row _ _ _ _ _ _ h]
  simpa using this
def twoIn (g : Nat) : List (Fi × Value) := [(⟨[97], 1, 0, 0, [97, 98, 99], []⟩, .slice (some ⟨g, 0, none⟩) 3 3), (⟨[98], 1, 0, 0, [100, 101], []⟩, .slice (some ⟨g + 1, 0, none⟩) 2 2)]
theorem fiL_len (x : Fi × Value) : (fiL x).length = 6 := rfl
theorem two_rd {w : World} {g h : Nat} {t1 t2 t3 : TypeId} {f1 f2 f3 : Nat × Nat} (h1 : w.heap[g]? = some (.cells #[.int .u8 97, .int .u8 98, .int .u8 99] t1 f1)) (h2 : w.heap[g + 1]? = some (.cells #[.int .u8 100, .int .u8 101] t2 f2))
    (h3 : w.heap[h]? = some (.cells #[.string ⟨#[97]⟩, .int .i64 1, .int .i64 0, .int .i64 0, .slice (some ⟨g, 0, none⟩) 3 3, .string ⟨#[]⟩, .string ⟨#[98]⟩, .int .i64 1, .int .i64 0, .int .i64 0, .slice (some ⟨g + 1, 0, none⟩) 2 2, .string ⟨#[]⟩] t3 f3)) : RdF w (some ⟨h, 0, none⟩) (twoIn g) := by
  refine ⟨rdA_block fiL_len h3 _ rfl, fun x hx => ?_⟩
  rcases List.mem_cons.1 hx with rfl | hx
  · exact rd_block h1 3
  · rcases List.mem_singleton.1 hx with rfl
    exact rd_block h2 2
theorem two_files_ok : ∀ f ∈ twoFiles, f.ok := by
  intro f hf
  rcases List.mem_cons.1 hf with rfl | hf
  · exact ⟨by decide, ⟨by decide, by decide⟩, ⟨by decide, by decide⟩, ⟨by decide, by decide⟩, by decide⟩
  · rcases List.mem_singleton.1 hf with rfl
    exact ⟨by decide, ⟨by decide, by decide⟩, ⟨by decide, by decide⟩, ⟨by decide, by decide⟩, by decide⟩
theorem two_ok (g : Nat) : ∀ x ∈ twoIn g, x.1.ok := fun x hx => two_files_ok x.1 (show x.1 ∈ (twoIn g).map (·.1) from List.mem_map_of_mem hx)
theorem twoEnts_ok : ∀ e ∈ twoEnts, e.ok ∧ e.path.length ≤ 4294967280 := ents_ok (l := twoFiles) two_files_ok (by decide)

set_option maxRecDepth 100000 in
set_option maxHeartbeats 1600000 in
theorem awakeE_any (w : World) (h : Sh w) : Calls Tryd.prog 12 #[] w fun e w' => e = .returned (.bool true) ∧ Below w.heap.size w w' := by
  have Hh := Lib.hid (fun w1 (b : Below w.heap.size w w1) => sh_below h b)
  have kc := fun (w : World) (C : Array Value) (n c g : Nat) (hg : g = w.heap.size) => Joins.run_convert_bytes_const_at (P := Tryd.prog) w 39 5 C n c g hg Tryd.underlying39 Tryd.underlying5
  have O := Lib.hid (fun w1 h1 h2 => of_any (some ⟨w.heap.size + 1 + 1, 0, none⟩) 2 (twoIn w.heap.size) (show 2 ≤ 4294967296 by decide) (show dataLen twoFiles ≤ 4294967296 by decide) (two_ok _) w1 h1 h2)
  have e1 : (twoIn w.heap.size).map (·.1) = twoFiles := rfl
  rw [e1, two_of, two_why] at O
  have T := Lib.hid (fun A c w1 h1 h2 => total_any A c twoEnts (by decide) (fun e he => (twoEnts_ok e he).1) (fun e he => (twoEnts_ok e he).2) w1 h1 h2)
  have F := Lib.hid (fun A c w1 h1 h2 => fine_any A c twoEnts (by decide) (fun e he => (twoEnts_ok e he).1) (fun e he => (twoEnts_ok e he).2) w1 h1 h2)
  rw [two_total] at T
  rw [two_fine] at F
  clear h e1
  have hb := (((Below.refl w.heap.size w).alloc (Nat.le_refl _) (.cells #[.int .u8 97, .int .u8 98, .int .u8 99] 5 (3, 4))).alloc (by simp) (.cells #[.int .u8 100, .int .u8 101] 5 (2, 3))).alloc (by simp; omega) (.cells #[.string ⟨#[97]⟩, .int .i64 1, .int .i64 0, .int .i64 0, .slice (some ⟨w.heap.size, 0, none⟩) 3 3, .string ⟨#[]⟩, .string ⟨#[98]⟩, .int .i64 1, .int .i64 0, .int .i64 0, .slice (some ⟨w.heap.size + 1, 0, none⟩) 2 2, .string ⟨#[]⟩] 41)
  go_enter Tryd.func12, Tryd.ntmps12
  go_wp2_with fail
  refine (O.out _ (Hh.out _ hb) (two_rd (t1 := 5) (t2 := 5) (t3 := 41) (f1 := (3, 4)) (f2 := (2, 3)) (f3 := (0, 0)) ?_ ?_ ?_)).mono ?_
  · exact (heap_alloc_old _ _ (by simp; omega)).trans ((heap_alloc_old _ _ (by simp)).trans (heap_alloc_new _ _))
  · exact (heap_alloc_old _ _ (by simp)).trans (by rw [show w.heap.size + 1 = (w.alloc (.cells #[.int .u8 97, .int .u8 98, .int .u8 99] 5 (3, 4))).heap.size by simp]; exact heap_alloc_new _ _)
  · rw [show w.heap.size + 1 + 1 = ((w.alloc (.cells #[.int .u8 97, .int .u8 98, .int .u8 99] 5 (3, 4))).alloc (.cells #[.int .u8 100, .int .u8 101] 5 (2, 3))).heap.size by simp, heap_alloc_new]
  rintro e wz ⟨A1, c1, rfl, k1, r1, b⟩
  replace hb := hb.trans (b.mono hb.size)
  clear b
  obtain ⟨p, o, rfl, q, d⟩ := r1 1 (by decide)
  have d5 : wz.cell? ⟨p, o + 1 * 7 + 5, none⟩ = some (.int .i64 3) := d 5 _ rfl
  have d6 : wz.cell? ⟨p, o + 1 * 7 + 6, none⟩ = some (.int .i64 2) := d 6 _ rfl
  simp only [Nat.one_mul, Nat.add_assoc, Nat.reduceAdd] at d5 d6
  have R1 := Lib.hid r1
  clear r1 d
  go_wp2_with fail
  refine (T.out _ _ _ (Hh.out _ hb) R1.out).mono ?_
  rintro e w2 ⟨rfl, b⟩
  have R2 := Lib.hid (R1.out.below b)
  replace hb := hb.trans (b.mono hb.size)
  clear b
  go_wp2_with fail
  refine (F.out _ _ _ (Hh.out _ hb) R2.out).mono ?_
  rintro e wz ⟨rfl, b⟩
  replace hb := hb.trans (b.mono hb.size)
  clear b
  go_wp2
  go_ret
  exact ⟨rfl, hb⟩
end Go.Proofs.YtfppancidgamjaaDoor
