import Derived.Test.YtnjmhneobgmejaaDoorText
import Derived.Test.YtnjmhneobgmejaaDoorNumA
namespace Go.Proofs.YtnjmhneobgmejaaDoor
open Go.RowKit

set_option maxRecDepth 100000 in
theorem tz64_16 (w : World) (h : w.cell? ⟨4, 15, none⟩ = some (.int .u8 4)) :
    Calls Tryd.prog 82 #[.int .u64 16] w fun e w' => e = .returned (.int .i64 4) ∧ w = w' := by
  have hi : IntKind.u64.wrap (bits BinOp.and IntKind.u64 16 (IntKind.u64.wrap (-16)) * 285870213051353865) / 288230376151711744 = 15 := by decide +kernel
  go_enter Tryd.func82, Tryd.ntmps82
  go_wp2
  go_ret
  exact ⟨rfl, rfl⟩
theorem isPow2_16 (w : World) :
    Calls Tryd.prog 78 #[.int .i64 16] w fun e w' => e = .returned (.bool true) ∧ w = w' := by
  have hi : bits BinOp.and IntKind.i64 16 15 = 0 := by decide +kernel
  go_enter Tryd.func78, Tryd.ntmps78
  go_wp2
  go_ret
  exact ⟨rfl, rfl⟩
theorem tz_16 (w : World) (h : w.cell? ⟨4, 15, none⟩ = some (.int .u8 4)) :
    Calls Tryd.prog 79 #[.int .u64 16] w fun e w' => e = .returned (.int .i64 4) ∧ w = w' := by
  go_enter Tryd.func79, Tryd.ntmps79
  go_wp2_with (first | (go_at_call 82; refine (tz64_16 _ h).mono ?_; rintro e w' ⟨rfl, rfl⟩) | go_in)
  go_ret
  exact ⟨rfl, rfl⟩

def bytesV (l : List UInt8) : List Value := l.map fun c => .int .u8 c.toNat
/-- The local array behind k rounds. -/
def hexCells (k u : Nat) : Array Value := (bytesV (List.replicate (65 - k) 0 ++ RqF.hexLow k u)).toArray
theorem hexCells_zero (u : Nat) : Tryd.zeroCells108 = hexCells 0 u := by kernel_rfl

theorem hexCells_size (k u : Nat) (h : k ≤ 15) : (hexCells k u).size = 65 := by
  unfold hexCells bytesV; simp [RqF.hexLow_length]; omega
theorem hexCells_get (k u m : Nat) {v : Nat} (h : k ≤ 15 ∧ v = u / 16 ^ k ∧ m + k = 65) : (hexCells k u)[m - 1]? = some (.int .u8 0) := by
  unfold hexCells bytesV
  obtain ⟨h1, h2, h3⟩ := h
  simp only [List.getElem?_toArray, List.getElem?_map]
  rw [List.getElem?_append_left (by simp; omega), List.getElem?_replicate, if_pos (by omega)]
  rfl
theorem hex_next {k u v m : Nat} (h : k ≤ 15 ∧ v = u / 16 ^ k ∧ m + k = 65) (hk : k + 1 ≤ 15) : Hid (k + 1 ≤ 15 ∧ v / 16 = u / 16 ^ (k + 1) ∧ m - 1 + (k + 1) = 65) := by
  obtain ⟨h1, h2, h3⟩ := h
  exact ⟨hk, by rw [h2, Nat.div_div_eq_div_mul, ← Nat.pow_succ], by omega⟩
theorem hex_v {k u v m : Nat} (h : k ≤ 15 ∧ v = u / 16 ^ k ∧ m + k = 65) (hu : u < 2 * RqF.sgn) : v < 18446744073709551616 := by
  rw [h.2.1]; exact Nat.lt_of_le_of_lt (Nat.div_le_self _ _) hu
theorem hex_k {k u v m : Nat} (h : k ≤ 15 ∧ v = u / 16 ^ k ∧ m + k = 65) (hu : u < 2 * RqF.sgn) (hv : 16 ≤ v) : k + 1 ≤ 15 := by
  obtain ⟨h1, h2, h3⟩ := h
  by_cases e : k = 15
  · subst e
    have : u / 16 ^ 15 < 16 := Nat.div_lt_of_lt_mul (by have : 2 * RqF.sgn = 16 ^ 15 * 16 := by decide
                                                        omega)
    omega
  · omega
theorem hexCells_step {k u v m d : Nat} (h : k ≤ 15 ∧ v = u / 16 ^ k ∧ m + k = 65) (hd : d < 16 ∧ d = v % 16) (c : UInt8) (hc : c = RqF.hexd d) : (hexCells k u).setIfInBounds (m - 1) (.int .u8 c.toNat) = hexCells (k + 1) u := by
  obtain ⟨h1, h2, h3⟩ := h
  have e : 65 - k = (m - 1) + 1 := by omega
  have e2 : 65 - (k + 1) = m - 1 := by omega
  unfold hexCells bytesV
  rw [e, e2, List.setIfInBounds_toArray, RqF.hexLow, hc, hd.2, h2, List.replicate_succ', List.append_assoc, List.map_append, List.map_append]
  congr 1
  rw [List.set_append_right _ _ (by simp)]
  simp
theorem digs_hexd (d : Nat) (h : d < 16) (h2 : d < (ByteArray.mk (48 :: 49 :: 50 :: 51 :: 52 :: 53 :: 54 :: 55 :: 56 :: 57 :: 97 :: 98 :: 99 :: 100 :: 101 :: 102 :: 103 :: 104 :: 105 :: 106 :: 107 :: 108 :: 109 :: 110 :: 111 :: 112 :: 113 :: 114 :: 115 :: 116 :: 117 :: 118 :: 119 :: 120 :: 121 :: 122 :: []).toArray).size) : (ByteArray.mk (48 :: 49 :: 50 :: 51 :: 52 :: 53 :: 54 :: 55 :: 56 :: 57 :: 97 :: 98 :: 99 :: 100 :: 101 :: 102 :: 103 :: 104 :: 105 :: 106 :: 107 :: 108 :: 109 :: 110 :: 111 :: 112 :: 113 :: 114 :: 115 :: 116 :: 117 :: 118 :: 119 :: 120 :: 121 :: 122 :: []).toArray)[d] = RqF.hexd d := by
  have key : ∀ d : Fin 16, (ByteArray.mk (48 :: 49 :: 50 :: 51 :: 52 :: 53 :: 54 :: 55 :: 56 :: 57 :: 97 :: 98 :: 99 :: 100 :: 101 :: 102 :: 103 :: 104 :: 105 :: 106 :: 107 :: 108 :: 109 :: 110 :: 111 :: 112 :: 113 :: 114 :: 115 :: 116 :: 117 :: 118 :: 119 :: 120 :: 121 :: 122 :: []).toArray)[d.val]'(Nat.lt_trans d.isLt (by decide)) = RqF.hexd d.val := by decide +kernel
  exact key ⟨d, h⟩
/-- The call hands back the digits of a word's bits, as many as it takes. -/
def HexRet (u : Nat) (f : List UInt8 → Value) (e : Ending) : Prop := ∃ n, 1 ≤ n ∧ n ≤ 16 ∧ u < 16 ^ n ∧ e = .returned (f (RqF.hexLow n u))
theorem hex_fin {k u v m : Nat} (h : k ≤ 15 ∧ v = u / 16 ^ k ∧ m + k = 65) (hv : v < 16) : 1 ≤ k + 1 ∧ k + 1 ≤ 16 ∧ u < 16 ^ (k + 1) := by
  obtain ⟨h1, h2, h3⟩ := h
  refine ⟨by omega, by omega, ?_⟩
  rw [h2] at hv
  have := (Nat.div_lt_iff_lt_mul (Nat.pow_pos (n := k) (show 0 < 16 by decide))).1 hv
  rw [Nat.pow_succ, Nat.mul_comm]; exact this
theorem hexCells_at {k u v m : Nat} (h : k ≤ 15 ∧ v = u / 16 ^ k ∧ m + k = 65) (j : Nat) (hj : j < (RqF.hexLow (k + 1) u).length) : (hexCells (k + 1) u)[m - 1 + j]? = some (.int .u8 (((RqF.hexLow (k + 1) u)[j]).toNat : Int)) := by
  obtain ⟨h1, h2, h3⟩ := h
  unfold hexCells bytesV
  simp only [List.getElem?_toArray, List.getElem?_map]
  rw [List.getElem?_append_right (by simp; omega)]
  have e : m - 1 + j - (List.replicate (65 - (k + 1)) (0 : UInt8)).length = j := by simp; omega
  rw [e, List.getElem?_eq_getElem hj]; rfl
theorem and15 (v : Nat) (hv : v < 18446744073709551616) : ∃ d : Nat, Hid (d < 16 ∧ d = v % 16) ∧ bits BinOp.and IntKind.u64 (v : Int) 15 = (d : Int) := by
  refine ⟨v % 16, ⟨Nat.mod_lt _ (by decide), rfl⟩, ?_⟩
  have := u64_and_nat v 15 hv (by decide)
  have e : v &&& 15 = v % 16 := Nat.and_two_pow_sub_one_eq_mod v 4
  rw [e] at this
  exact this

theorem hex_slice {k u v m : Nat} (h : k ≤ 15 ∧ v = u / 16 ^ k ∧ m + k = 65) (_hm : 50 ≤ m) (b : Nat) (W : World) : (Instr.sliceAt 108 (.pointer (some ⟨b, 0, none⟩)) (some (.int .i64 ((m : Int) - 1))) none none).run Tryd.prog W = .ok (.slice (some ⟨b, m - 1, none⟩) (k + 1) (k + 1)) W := by
  have hk := h.2.2
  have hal : Tryd.prog.arrayLen 108 = 65 := by kernel_rfl
  rw [run_sliceAt_array_l W 108 ⟨b, 0, none⟩ (by kernel_rfl) .i64 ((m : Int) - 1) (by omega) (by rw [hal]; omega)]
  rw [hal]
  have hsz : (sizeOf (Tryd.prog.elem 108)).run Tryd.prog W = .ok 1 W := by kernel_rfl
  rw [hsz]
  have e1 : ((m : Int) - 1).toNat = m - 1 := by omega
  simp only [Result.andThen, slicedAt, e1, Addr.add]
  have e2 : 65 - (m - 1) = k + 1 := by omega
  rw [if_neg (by omega), e2]
  simp; omega
theorem hex_conv {k u v m : Nat} (h : k ≤ 15 ∧ v = u / 16 ^ k ∧ m + k = 65) (w : World) : (convert 22 9 (.slice (some ⟨w.heap.size, m - 1, none⟩) (k + 1) (k + 1))).run Tryd.prog (w.alloc (.cells (hexCells (k + 1) u) 108)) = .ok (.string ⟨(RqF.hexLow (k + 1) u).toArray⟩) (w.alloc (.cells (hexCells (k + 1) u) 108)) := by
  have hh := run_convert_bytes_back (P := Tryd.prog) (w.alloc (.cells (hexCells (k + 1) u) 108)) 22 9 5 ⟨w.heap.size, m - 1, none⟩ (k + 1) (RqF.hexLow (k + 1) u) Tryd.underlying22 Tryd.underlying5 Tryd.underlying9 (fun j hj => by
    have e : (Addr.mk w.heap.size (m - 1) none).add j = ⟨w.heap.size, m - 1 + j, none⟩ := by simp [Addr.add]
    rw [e, World.cell?_alloc_new]
    exact hexCells_at h j hj)
  rw [RqF.hexLow_length] at hh
  exact hh

set_option maxRecDepth 100000 in
theorem formatBits_16 (u : Nat) (w : World) (hu : u < 2 * RqF.sgn) (h : w.cell? ⟨4, 15, none⟩ = some (.int .u8 4)) :
    Calls Tryd.prog 70 #[.slice none 0 0, .int .u64 u, .int .i64 16, .bool false, .bool false] w fun e w' => HexRet u (fun l => .tuple #[.slice none 0 0, .string ⟨l.toArray⟩]) e ∧ Below w.heap.size w w' := by
  go_enter Tryd.func70, Tryd.ntmps70
  go_wp2_with (first | (go_at_call 79; refine (tz_16 _ (cell_later ((Below.refl _ _).alloc (Nat.le_refl _) _) h)).mono ?_; rintro e w' ⟨rfl, rfl⟩) | (go_at_call 78; refine (isPow2_16 _).mono ?_; rintro e w' ⟨rfl, rfl⟩) | go_in)
  have hz : Tryd.zeroCells108 = hexCells 0 u := hexCells_zero u
  rw [hz]
  clear hz
  go_loopw [1, 13] (fun x i wr => ∃ k v m : Nat, Hid (k ≤ 15 ∧ v = u / 16 ^ k ∧ m + k = 65) ∧ 50 ≤ m ∧ m ≤ 65 ∧ x = .int .u64 v ∧ i = .int .i64 m ∧ wr = w.alloc (.cells (hexCells k u) 108)) (fun x _ _ => (intOf x).toNat)
  case atStart => exact ⟨0, u, 65, ⟨by decide, by simp, rfl⟩, by decide, by decide, rfl, rfl, rfl⟩
  case round =>
    obtain ⟨k, v, m, HK, hm1, hm2, rfl, rfl, rfl⟩ := hrel
    have hsz := hexCells_size k u HK.out.1
    by_cases hge : 16 ≤ v
    · obtain ⟨d, hd, he⟩ := and15 v (hex_v HK.out hu)
      have hd1 := hd.out.1
      have hget := hexCells_get k u m HK.out
      have hk1 := hex_k HK.out hu hge
      have hm3 : 51 ≤ m := by have := HK.out.2.2; omega
      go_wp2
      refine ⟨⟨k + 1, v / 16, m - 1, hex_next HK.out hk1, by omega, by omega, by go_num, by go_num, ?_⟩, by simp [intOf]; omega⟩
      rw [hexCells_step HK.out hd.out _ (digs_hexd d hd1 _)]
    · have hlt : v < 16 := by omega
      have hget := hexCells_get k u m HK.out
      have hst := hexCells_step HK.out (d := v) ⟨hlt, (Nat.mod_eq_of_lt hlt).symm⟩ _ (digs_hexd v hlt (by show v < 36; omega))
      have hsl := fun W => hex_slice HK.out hm1 w.heap.size W
      have hcv := hex_conv HK.out w
      have hfin := hex_fin HK.out hlt
      go_wp2
      go_ret2
      exact ⟨⟨k + 1, hfin.1, hfin.2.1, hfin.2.2, rfl⟩, (Below.refl _ _).alloc (Nat.le_refl _) _⟩

theorem iFormatUint_16 (u : Nat) (w : World) (hu : u < 2 * RqF.sgn) (h : w.cell? ⟨4, 15, none⟩ = some (.int .u8 4)) :
    Calls Tryd.prog 63 #[.int .u64 u, .int .i64 16] w fun e w' => HexRet u (fun l => .string ⟨l.toArray⟩) e ∧ Below w.heap.size w w' := by
  have HU := Lib.hid hu; clear hu
  go_enter Tryd.func63, Tryd.ntmps63
  go_wp2_with fail
  refine (formatBits_16 _ _ HU.out h).mono ?_
  rintro e w' ⟨⟨n, h1, h2, h3, rfl⟩, hb⟩
  have H3 := Lib.hid h3; clear h3
  go_wp2_with fail
  go_ret
  exact ⟨⟨n, h1, h2, H3.out, rfl⟩, hb⟩
theorem formatUint_16 (u : Nat) (w : World) (hu : u < 2 * RqF.sgn) (h : w.cell? ⟨4, 15, none⟩ = some (.int .u8 4)) :
    Calls Tryd.prog 54 #[.int .u64 u, .int .i64 16] w fun e w' => HexRet u (fun l => .string ⟨l.toArray⟩) e ∧ Below w.heap.size w w' := by
  have HU := Lib.hid hu; clear hu
  go_enter Tryd.func54, Tryd.ntmps54
  go_wp2_with fail
  refine (iFormatUint_16 _ _ HU.out h).mono ?_
  rintro e w' ⟨⟨n, h1, h2, h3, rfl⟩, hb⟩
  have H3 := Lib.hid h3; clear h3
  go_wp2_with fail
  go_ret
  exact ⟨⟨n, h1, h2, H3.out, rfl⟩, hb⟩
end Go.Proofs.YtnjmhneobgmejaaDoor
