/- JsonNames: the walk. -/
import Derived.Test.YtknmbfkpclacgaaDoorFx
set_option linter.unusedSimpArgs false
namespace Go.Proofs.YtknmbfkpclacgaaDoor
open Go.RowKit

def nCases : List (List UInt8 × Int × Nat) := [([], 240, 0), ([91, 49, 44, 93], 240, 3), ([91, 49, 32, 50, 93], 240, 3), ([116, 114, 117], 240, 0), ([48, 49], 242, 0), ([49, 46, 48], 242, 0), ([45], 242, 0), ([45, 48], 242, 0), ([57, 48, 48, 55, 49, 57, 57, 50, 53, 52, 55, 52, 48, 57, 57, 50], 242, 0), ([34, 97], 240, 2), ([34, 92, 117, 100, 56, 51, 100, 34], 243, 1), ([34, 92, 117, 100, 101, 48, 48, 34], 243, 1), ([34, 92, 120, 34], 243, 1), ([34, 97, 31, 34], 243, 2), ([34, 195, 34], 243, 1), ([123, 34, 97, 34, 58, 49, 44, 34, 97, 34, 58, 50, 125], 244, 7), ([123, 49, 58, 50, 125], 240, 1), ([49, 32, 49], 240, 2)]
def nCells : List Value := nCases.flatMap fun c => [.string ⟨c.1.toArray⟩, .int .i64 c.2.1, .int .i64 (c.2.2 : Nat)]
theorem nCases_parse : nCases.map (fun c => parseJ c.1) = nCases.map (fun c => .error (c.2.2, c.2.1)) := by kernel_rfl
theorem nCases_at (j : Nat) (hj : j < 18) : ∃ (l : List UInt8) (e : Int) (a : Nat), nCells[3 * j]? = some (.string ⟨l.toArray⟩) ∧ nCells[3 * j + 1]? = some (.int .i64 e) ∧ nCells[3 * j + 2]? = some (.int .i64 (a : Nat)) ∧ parseJ l = .error (a, e) ∧ l.length ≤ 100 := by
  have key : ∀ j : Fin 18, ∃ c ∈ nCases, nCases[j.val]? = some c ∧ nCells[3 * j.val]? = some (.string ⟨c.1.toArray⟩) ∧ nCells[3 * j.val + 1]? = some (.int .i64 c.2.1) ∧ nCells[3 * j.val + 2]? = some (.int .i64 (c.2.2 : Nat)) := by
    intro j
    match j with
    | ⟨0, _⟩ => exact ⟨([], 240, 0), by decide, rfl, rfl, rfl, rfl⟩
    | ⟨1, _⟩ => exact ⟨([91, 49, 44, 93], 240, 3), by decide, rfl, rfl, rfl, rfl⟩
    | ⟨2, _⟩ => exact ⟨([91, 49, 32, 50, 93], 240, 3), by decide, rfl, rfl, rfl, rfl⟩
    | ⟨3, _⟩ => exact ⟨([116, 114, 117], 240, 0), by decide, rfl, rfl, rfl, rfl⟩
    | ⟨4, _⟩ => exact ⟨([48, 49], 242, 0), by decide, rfl, rfl, rfl, rfl⟩
    | ⟨5, _⟩ => exact ⟨([49, 46, 48], 242, 0), by decide, rfl, rfl, rfl, rfl⟩
    | ⟨6, _⟩ => exact ⟨([45], 242, 0), by decide, rfl, rfl, rfl, rfl⟩
    | ⟨7, _⟩ => exact ⟨([45, 48], 242, 0), by decide, rfl, rfl, rfl, rfl⟩
    | ⟨8, _⟩ => exact ⟨([57, 48, 48, 55, 49, 57, 57, 50, 53, 52, 55, 52, 48, 57, 57, 50], 242, 0), by decide, rfl, rfl, rfl, rfl⟩
    | ⟨9, _⟩ => exact ⟨([34, 97], 240, 2), by decide, rfl, rfl, rfl, rfl⟩
    | ⟨10, _⟩ => exact ⟨([34, 92, 117, 100, 56, 51, 100, 34], 243, 1), by decide, rfl, rfl, rfl, rfl⟩
    | ⟨11, _⟩ => exact ⟨([34, 92, 117, 100, 101, 48, 48, 34], 243, 1), by decide, rfl, rfl, rfl, rfl⟩
    | ⟨12, _⟩ => exact ⟨([34, 92, 120, 34], 243, 1), by decide, rfl, rfl, rfl, rfl⟩
    | ⟨13, _⟩ => exact ⟨([34, 97, 31, 34], 243, 2), by decide, rfl, rfl, rfl, rfl⟩
    | ⟨14, _⟩ => exact ⟨([34, 195, 34], 243, 1), by decide, rfl, rfl, rfl, rfl⟩
    | ⟨15, _⟩ => exact ⟨([123, 34, 97, 34, 58, 49, 44, 34, 97, 34, 58, 50, 125], 244, 7), by decide, rfl, rfl, rfl, rfl⟩
    | ⟨16, _⟩ => exact ⟨([123, 49, 58, 50, 125], 240, 1), by decide, rfl, rfl, rfl, rfl⟩
    | ⟨17, _⟩ => exact ⟨([49, 32, 49], 240, 2), by decide, rfl, rfl, rfl, rfl⟩
    | ⟨n + 18, h⟩ => exact absurd h (by omega)
  obtain ⟨c, hc, h0, h1, h2, h3⟩ := key ⟨j, hj⟩
  have hp : parseJ c.1 = .error (c.2.2, c.2.1) := by
    have h := congrArg (fun l => l[j]?) nCases_parse
    simp only [List.getElem?_map, h0, Option.map_some, Option.some.injEq] at h
    exact h
  have hl : ∀ c ∈ nCases, c.1.length ≤ 100 := by decide
  exact ⟨c.1, c.2.1, c.2.2, h1, h2, h3, hp, hl c hc⟩
def nT : List UInt8 := [34, 92, 117, 100, 56, 51, 100, 92, 117, 100, 101, 48, 48, 92, 117, 48, 48, 101, 57, 92, 47, 34]
def nV : List JV := [jStr [240, 159, 152, 128, 195, 169, 47]]
theorem nT_parse : parseJ nT = .ok nV := by kernel_rfl
theorem nV_kl : ∀ v ∈ nV, KL v := by
  intro v hv
  simp only [nV, List.mem_cons, List.mem_nil_iff, or_false] at hv
  subst hv
  exact ⟨by decide, by decide⟩
theorem nT_conv (w : World) : (convert 30 30 (.slice (some ⟨w.heap.size, 0, none⟩) 22 22)).run Tryd.prog (w.alloc (.cells #[.int .u8 34, .int .u8 92, .int .u8 117, .int .u8 100, .int .u8 56, .int .u8 51, .int .u8 100, .int .u8 92, .int .u8 117, .int .u8 100, .int .u8 101, .int .u8 48, .int .u8 48, .int .u8 92, .int .u8 117, .int .u8 48, .int .u8 48, .int .u8 101, .int .u8 57, .int .u8 92, .int .u8 47, .int .u8 34] 5)) = .ok (.slice (some ⟨w.heap.size, 0, none⟩) 22 22) (w.alloc (.cells (u8s nT) 5 (22, 23))) :=
  Lib.run_convert_bytes_const w 30 5 _ 22 22 Tryd.underlying30 Tryd.underlying5
/-- []byte(s), as Parse is handed it. -/
theorem conv_sb (w : World) (l : List UInt8) (hl : l.length ≤ 140737488355328) : ∃ cc W, (convert 9 30 (.string ⟨l.toArray⟩)).run Tryd.prog w = .ok (.slice (some ⟨w.heap.size, 0, none⟩) l.length cc) W ∧ l.length ≤ cc ∧ Chg (fun _ => False) w W ∧ Bs W W.heap.size (some ⟨w.heap.size, 0, none⟩) l := by
  have hsz : (⟨l.toArray⟩ : ByteArray).size = l.length := by show l.toArray.size = _; simp
  have hcv := run_bytes_of_string (P := Tryd.prog) w 9 30 5 ⟨l.toArray⟩ Tryd.underlying9 Tryd.underlying30 Tryd.underlying5
  rw [hsz] at hcv
  refine ⟨_, _, hcv, grownCap_ge w l.length 0 _, ((Chg.refl _ w).drew).alloc _, hl, fun _ => ⟨w.heap.size, 0, rfl, ?_, fun j hj => ?_⟩⟩
  · rw [World.size_alloc]; show w.heap.size < w.heap.size + 1; omega
  · have h := heap_alloc_new w.drew (.cells (bytesRow ⟨l.toArray⟩ (grownCap w l.length 0 5)) 5 ((bytesRow ⟨l.toArray⟩ (grownCap w l.length 0 5)).size, (bytesRow ⟨l.toArray⟩ (grownCap w l.length 0 5)).size + 1))
    rw [Nat.zero_add, cell_of_row _ w.heap.size j _ _ _ h, bytesRow_at _ _ _ (by simpa using hj)]
    simp [pk, List.getD_eq_getElem?_getD, hj]

set_option maxRecDepth 100000 in
set_option maxHeartbeats 4000000 in
theorem names_walk (w : World) (hG : Gs w w.heap.size) :
    Calls Tryd.prog 3 #[] w fun e w' => e = .returned (.bool true) ∧ Chg (fun _ => False) w w' := by
  have HG := Lib.hid hG
  have hfx := fixed_any w w.heap.size (Nat.le_refl _) hG
  clear hG
  go_enter Tryd.func3, Tryd.ntmps3
  go_wp2_with fail
  refine hfx.mono ?_
  rintro e w2 ⟨rfl, hch2⟩
  clear hfx
  go_wp2_with fail
  generalize hWW : w2.alloc (.cells #[.string ⟨#[]⟩, .int .i64 240, .int .i64 0, .string ⟨#[91, 49, 44, 93]⟩, .int .i64 240, .int .i64 3, .string ⟨#[91, 49, 32, 50, 93]⟩, .int .i64 240, .int .i64 3, .string ⟨#[116, 114, 117]⟩, .int .i64 240, .int .i64 0, .string ⟨#[48, 49]⟩, .int .i64 242, .int .i64 0, .string ⟨#[49, 46, 48]⟩, .int .i64 242, .int .i64 0, .string ⟨#[45]⟩, .int .i64 242, .int .i64 0, .string ⟨#[45, 48]⟩, .int .i64 242, .int .i64 0, .string ⟨#[57, 48, 48, 55, 49, 57, 57, 50, 53, 52, 55, 52, 48, 57, 57, 50]⟩, .int .i64 242, .int .i64 0, .string ⟨#[34, 97]⟩, .int .i64 240, .int .i64 2, .string ⟨#[34, 92, 117, 100, 56, 51, 100, 34]⟩, .int .i64 243, .int .i64 1, .string ⟨#[34, 92, 117, 100, 101, 48, 48, 34]⟩, .int .i64 243, .int .i64 1, .string ⟨#[34, 92, 120, 34]⟩, .int .i64 243, .int .i64 1, .string ⟨#[34, 97, 31, 34]⟩, .int .i64 243, .int .i64 2, .string ⟨#[34, 195, 34]⟩, .int .i64 243, .int .i64 1, .string ⟨#[123, 34, 97, 34, 58, 49, 44, 34, 97, 34, 58, 50, 125]⟩, .int .i64 244, .int .i64 7, .string ⟨#[123, 49, 58, 50, 125]⟩, .int .i64 240, .int .i64 1, .string ⟨#[49, 32, 49]⟩, .int .i64 240, .int .i64 2] 24) = W
  have hblk : W.heap[w2.heap.size]? = some (.cells nCells.toArray 24) := by rw [← hWW]; exact heap_alloc_new w2 _
  have hchW : Chg (fun _ => False) w W := by rw [← hWW]; exact hch2.alloc _
  have hrow : ∀ k v, nCells[k]? = some v → W.cell? ⟨w2.heap.size, k, none⟩ = some v := fun k v h => by
    rw [cell_of_row _ _ _ _ _ _ hblk]
    simpa using h
  clear hWW hblk hch2
  have HR := Lib.hid hrow
  clear hrow
  go_loopg [33] 19 (fun g s33 wr => ∃ j : Nat, s33 = .int .i64 j ∧ j ≤ 18 ∧ Chg (fun _ => False) W wr ∧ 18 - j + 1 = g)
  case atStart => exact ⟨0, rfl, by omega, Chg.refl _ _, rfl⟩
  case round =>
    obtain ⟨j, rfl, hj, hch, hg⟩ := hrel
    have HGG := Lib.hid hg
    clear hg
    have hwr := hchW.trans hch
    by_cases hj18 : j < 18
    · obtain ⟨l, ee, a, n0, n1, n2, hp, hl⟩ := nCases_at j hj18
      have k0 := hch.cell (HR.out _ _ n0) id
      have k1 := hch.cell (HR.out _ _ n1) id
      have k2 := hch.cell (HR.out _ _ n2) id
      rw [Nat.mul_comm] at k0 k1 k2
      have hal : ∀ o, Chg (fun _ => False) W (wr.alloc o) := fun o => hch.alloc o
      obtain ⟨cc, W2, hcv, hcc, hc2, hbs⟩ := conv_sb (wr.alloc (.cells #[.string ⟨l.toArray⟩, .int .i64 ee, .int .i64 (a : Nat)] 24)) l (by omega)
      have hcw2 := (hwr.alloc (.cells #[.string ⟨l.toArray⟩, .int .i64 ee, .int .i64 (a : Nat)] 24)).trans hc2
      have hpc := parse_bad _ cc l (a, ee) hp W2 w.heap.size hcw2.size hbs hcc (HG.out.keep (hcw2.below (Nat.le_refl _) (fun _ h => h.elim)))
      rw [World.size_alloc] at hpc
      have hnb := hc2.obj (heap_alloc_new wr _) id
      have HPC := Lib.hid hpc
      have HNB := Lib.hid hnb
      have HCC := Lib.hid ((hal _).trans hc2)
      clear n0 n1 n2 hp hpc hnb hbs hcw2 hc2 hal hwr hch
      go_wp2_with fail
      refine HPC.out.mono ?_
      rintro e w3 ⟨rfl, hch3⟩
      have hb3 := hch3.obj HNB.out id
      have b1 : w3.cell? ⟨wr.heap.size, 1, none⟩ = some (.int .i64 ee) := by rw [cell_of_row _ _ _ _ _ _ hb3]; rfl
      have b2 : w3.cell? ⟨wr.heap.size, 2, none⟩ = some (.int .i64 (a : Nat)) := by rw [cell_of_row _ _ _ _ _ _ hb3]; rfl
      have hc3 := HCC.out.trans hch3
      clear hb3 hch3 k0 k1 k2 hcv HPC
      go_wp2_with fail
      go_roundg (18 - (j + 1) + 1)
      case measure => rw [← HGG.out]; omega
      case rel => exact ⟨j + 1, int_i64 (by omega), by omega, hc3, rfl⟩
    · have hal : Chg (fun _ => False) w (wr.alloc (.cells (u8s nT) 5 (22, 23))) := hwr.alloc _
      have hpc := parse_ok (some ⟨wr.heap.size, 0, none⟩) 22 nT nV nT_parse _ w.heap.size hal.size (Bs.lit wr nT 5 (22, 23) (by decide)) (by decide) (HG.out.keep (hal.below (Nat.le_refl _) (fun _ h => h.elim)))
      rw [show nT.length = 22 from rfl] at hpc
      have HPC := Lib.hid hpc
      have HAL := Lib.hid hal
      have hcv := nT_conv wr
      clear hpc hal hwr
      go_wp2_with fail
      refine HPC.out.mono ?_
      rintro e w3 ⟨tv, xs, rfl, hTR, hch3⟩
      obtain ⟨A, c, rfl, _, hT⟩ := hTR.rd (by decide) nV_kl
      obtain ⟨b, oo, Ak, ck, An, cn, hA, hbB, c0, c1, c2, c3, c4, c5, hkr, hnr, hkl, hnl⟩ := hT.at 0 (by decide)
      subst hA
      have k3 : w3.cell? ⟨b, oo + 3, none⟩ = some (.string ⟨#[240, 159, 152, 128, 195, 169, 47]⟩) := by rw [Nat.zero_mul, Nat.add_zero] at c3; exact c3
      have hc3 := HAL.out.trans hch3
      rw [show nV.length = 1 from rfl]
      clear hTR hch3 hT c0 c1 c2 c3 c4 c5 hkr hnr hkl hnl HPC hcv
      go_wp2_with fail
      go_ret
      exact ⟨rfl, hc3⟩
end Go.Proofs.YtknmbfkpclacgaaDoor
