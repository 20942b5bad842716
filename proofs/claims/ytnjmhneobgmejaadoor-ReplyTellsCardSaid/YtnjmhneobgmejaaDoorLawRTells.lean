/- The walk of ReplyTells. Conditions: the library's tables are as they are laid. -/
import Derived.Test.YtnjmhneobgmejaaDoorTellH
namespace Go.Proofs.YtnjmhneobgmejaaDoor
open Go.RowKit

set_option maxRecDepth 100000 in
set_option maxHeartbeats 8000000 in
theorem replyTells_any (e : Int) (Ab : Option Addr) (cb : Nat) (lb : List UInt8) (Al : Option Addr) (cl : Nat) (L : List PairV) (An : Option Addr) (cn : Nat) (N : List ByteArray) (Au : Option Addr) (cu : Nat) (U : List Nat) (Ai : Option Addr) (ci : Nat) (I : List Int) (yes : Bool) (w : World)
    (ht : Tabs w) (hb : BytesAt Ab lb w) (hL : PairsAt Al L w) (hN : StrsAt An N w) (hU : U64sAt Au U w) (hI : I64sAt Ai I w)
    (hLs : ∀ p ∈ L, p.key.size ≤ 140737488355328 ∧ p.val.length ≤ 140737488355328) (hnb : lb.length ≤ maxLen) (hnl : L.length ≤ maxLen) (hnn : N.length ≤ maxLen) (hcn : N.length ≤ cn) (hnu : U.length ≤ maxLen) (hni : I.length ≤ maxLen) :
    Calls Tryd.prog 3 #[.int .i64 e, .slice Ab lb.length cb, .slice Al L.length cl, .slice An N.length cn, .slice Au U.length cu, .slice Ai I.length ci, .bool yes] w fun r w' => r = .returned (.bool true) ∧ Below w.heap.size w w' := by
  obtain ⟨Z, hZ⟩ : ∃ Z, Z = N.zip U := ⟨_, rfl⟩
  have hz := zat_of hN hU
  have hzl : Z.length = min N.length U.length := by rw [hZ, List.length_zip]
  rw [← hZ] at hz
  have HT := Lib.hid ht; have HBy := Lib.hid hb; have HL := Lib.hid hL; have HZ := Lib.hid hz; have HI := Lib.hid hI; have HLS := Lib.hid hLs; have HZL := Lib.hid hzl
  have HNB := Lib.hid hnb; have HNL := Lib.hid hnl; have HNN := Lib.hid hnn; have HCN := Lib.hid hcn; have HNU := Lib.hid hnu; have HNI := Lib.hid hni
  clear hZ hz hzl hN hU ht hb hL hI hLs hnb hnl hnn hnu hni hcn
  obtain ⟨ip, hip, hp0, hp1, hp2⟩ := info_parts info_rpair
  obtain ⟨iz, hiz, hz0, hz1, hz2⟩ := info_parts info_scored
  obtain ⟨ix, hix, hx0, hx1, hx2⟩ := info_parts info_f64
  have HIP := Lib.hid (And.intro hip (And.intro hp0 (And.intro hp1 hp2))); have HIZ := Lib.hid (And.intro hiz (And.intro hz0 (And.intro hz1 hz2))); have HIX := Lib.hid (And.intro hix (And.intro hx0 (And.intro hx1 hx2)))
  clear hip hp0 hp1 hp2 hiz hz0 hz1 hz2 hix hx0 hx1 hx2
  by_cases hsz : lb.length ≤ 2000 ∧ L.length ≤ 40 ∧ I.length ≤ 100 ∧ N.length ≤ 40
  · obtain ⟨s1, s2, s3, s4⟩ := hsz
    go_enter Tryd.func3, Tryd.ntmps3
    go_wp2_with fail
    go_loopw [15, 16] (fun p iv wr => TlA w L p iv wr) (fun _ iv _ => L.length - (intOf iv).toNat)
    case atStart => exact ⟨0, rfl, Nat.zero_le _, World.ownsRow_nil _ _ _ _, fun v hv => by simp at hv, Below.refl _ _⟩
    case round =>
      obtain ⟨k, rfl, hk, hrow, hsm, hbr⟩ := hrel
      have HR := Lib.hid hrow; have HSM := Lib.hid hsm; have HB := Lib.hid hbr
      clear hrow hsm hbr
      by_cases hlt : k < L.length
      · obtain ⟨a, rfl, ha, hca, hcb, hby⟩ := HL.out.below HB.out k hlt
        have hls := HLS.out _ (List.getElem_mem hlt)
        obtain ⟨nm, A1, c1, vb, hp⟩ : ∃ nm A1 c1 vb, L[k] = ⟨nm, A1, c1, vb⟩ := ⟨_, _, _, _, rfl⟩
        rw [hp] at hca hcb hby hls
        simp only at hca hcb hby hls
        obtain ⟨X, hX⟩ : ∃ X : ByteArray, X = ⟨vb.toArray⟩ := ⟨_, rfl⟩
        have hcv : ∀ w', Below wr.heap.size wr w' → (convert 22 9 (.slice A1 vb.length c1)).run Tryd.prog w' = .ok (.string X) w' := fun w' hb => bytes_back X hX (hby.below hb)
        have HP := Lib.hid hp; have HX := Lib.hid hX; have HCV := Lib.hid hcv; have HLS1 := Lib.hid hls.1
        have hls2 := hls.2
        clear hp hX hby ha hcv hls
        have hi0 : (0 : Int) ≤ (k : Int) := by omega
        have hi1 : (k : Int) < (L.length : Int) := by omega
        have hw0 : IntKind.i64.wrap ((nm.size : Int) + (vb.length : Int)) = (nm.size : Int) + (vb.length : Int) := IntWalk.i64_in _ (by have := HLS1.out; omega)
        by_cases h2k : nm.size + vb.length ≤ 2000
        · have h2i : ¬ (2000 : Int) < (nm.size : Int) + (vb.length : Int) := by omega
          go_wp2_with fail
          go_quiet (fail)
          clear hw0 h2i
          obtain ⟨wq, hwq⟩ : ∃ wq, wq = wr.drewN nq := ⟨_, rfl⟩
          have HBQ : Hid (Below wr.heap.size wr wq) := by rw [hwq]; exact below_dn (Below.refl _ _) nq
          have HRQ := Lib.hid (row_dn HR.out nq)
          rw [← hwq] at HRQ
          have hca' : wq.cell? (a.add (k * 2)) = some (.string nm) := by rw [hwq]; exact hca
          have hcb' : wq.cell? ⟨(a.add (k * 2)).block, (a.add (k * 2)).off + 1, none⟩ = some (.slice A1 vb.length c1) := by rw [hwq]; exact hcb
          have hcv' : (convert 22 9 (.slice A1 vb.length c1)).run Tryd.prog wq.drew = .ok (.string X) wq.drew := HCV.out _ HBQ.out.drew
          rw [← hwq]
          clear hca hcb hwq
          go_wp2_with fail
          have HN3 : Hid (k + 1 ≤ maxLen ∧ (k + 1) * 32 ≤ 140737488355328 ∧ w.heap.size ≤ (wq.drew.alloc (.cells #[.string nm, .string X] 32)).heap.size) := by
            refine ⟨by unfold maxLen; omega, by omega, ?_⟩
            have h2 := HB.out.size; have h3 := HBQ.out.size
            show _ ≤ (wq.heap.push _).size
            simp; omega
          have HNEW : Hid (∀ j u, ([.string nm, .string X] : List Value)[j]? = some u → (wq.drew.alloc (.cells #[.string nm, .string X] 32)).cell? ((⟨wq.heap.size, 0, none⟩ : Addr).add j) = some u) := two_new2 wq.drew _ _ _
          have HOWN := Lib.hid (HRQ.out.drew.alloc (.cells #[.string nm, .string X] 32))
          go_region_law (first | (refine step_append_lies _ rfl _ _ 28 rfl w.heap.size 32 ip (.agg #[.string ⟨#[]⟩, .string ⟨#[]⟩]) 2 32 Tryd.underlying28 HIP.out.1 HIP.out.2.1 HIP.out.2.2.1 HIP.out.2.2.2 rfl (by decide) _ _ _ rfl HOWN.out ⟨wq.heap.size, 0, none⟩ 1 1 [.string nm, .string X] rfl rfl HNEW.out (one_ss _ _) (by decide) HN3.out.1 HN3.out.2.1 HN3.out.2.2 _ rfl ?_; intro g cap w3 hown3 hgrow3 hat3 hlt3))
          all_goals
            have hg3 : (wq.drew.alloc (.cells #[.string nm, .string X] 32)).grownBy w3 (Value.ownBlock _) := hgrow3
            have h1 : Below w.heap.size w (wq.drew.alloc (.cells #[.string nm, .string X] 32)) := (below_trans HB.out HBQ.out).drew.alloc (below_trans HB.out HBQ.out).size _
            have HB3 : Hid (Below w.heap.size w w3) := h1.grown hg3 h1.size (fun j hj => (HRQ.out.lt j hj).1)
            have HROW3 : Hid (w3.ownsRow w.heap.size 32 2 (.slice (some ⟨g, 0, none⟩) (k + 1) cap) (k + 1) (cells2 keyV valV (L.take (k + 1)))) := by
              show World.ownsRow _ _ _ _ _ _ _
              rw [List.take_succ_eq_append_getElem hlt, cells2_snoc, HP.out]
              rw [HX.out] at hown3
              exact hown3
            have HSM3 : Hid (∀ q ∈ L.take (k + 1), q.key.size + q.val.length ≤ 2000) := take_all HSM.out hlt (by rw [HP.out]; exact h2k)
            clear hown3 hgrow3 hat3 hg3 h1 hlt3 hca' hcb' hcv'
            go_wp2_with fail
            go_roundw
            case measure => simp [intOf]; omega
            case rel => exact ⟨k + 1, by go_num, by omega, HROW3.out, HSM3.out, HB3.out⟩
        · have h2i : (2000 : Int) < (nm.size : Int) + (vb.length : Int) := by omega
          go_wp2_with fail
          go_quiet (fail)
          clear hw0 h2i
          go_wp2_with fail
          refine (awake19_any _ (HT.out.below (below_dn HB.out _))).mono ?_
          rintro r w2 ⟨rfl, hb2⟩
          go_wp2_with fail
          go_ret
          exact ⟨rfl, below_trans (below_dn HB.out _) hb2⟩
      · obtain rfl : k = L.length := by omega
        rw [List.take_length] at HR HSM
        obtain ⟨Ap, cp, hv⟩ := row_shape HR.out
        subst hv
        obtain ⟨wa, hwa⟩ : ∃ wa, wa = wr := ⟨_, rfl⟩
        subst hwa
        have HRP : Hid (RPairsAt Ap L wa) := row2_at HR.out
        have HBA := HB
        clear HB HR hlt hk
        go_wp2_with fail
        go_loopw [17, 18, 19] (fun z x iv wr => TlB wa Z z x iv wr) (fun _ _ iv _ => Z.length - (intOf iv).toNat)
        case atStart => exact ⟨0, rfl, Nat.zero_le _, World.ownsRow_nil _ _ _ _, World.ownsRow_nil _ _ _ _, fun v hv => by simp at hv, Below.refl _ _⟩
        case round =>
          obtain ⟨k, rfl, hk, hrx, hrz, hsm, hbr⟩ := hrel
          have HRX := Lib.hid hrx; have HRZ := Lib.hid hrz; have HSN := Lib.hid hsm; have HB := Lib.hid hbr
          clear hrx hrz hsm hbr
          by_cases hlt : k < Z.length
          · have hkN : k < N.length := by have := HZL.out; omega
            have hkU : k < U.length := by have := HZL.out; omega
            obtain ⟨⟨a, rfl, ha, hca⟩, ⟨b, rfl, hb', hcb⟩, hx⟩ := HZ.out k hlt
            obtain ⟨nm, x, hp⟩ : ∃ nm x, Z[k] = (nm, x) := ⟨_, _, rfl⟩
            rw [hp] at hca hcb hx
            simp only at hca hcb hx
            have HBW := Lib.hid (below_trans HBA.out HB.out)
            have hcar : wr.cell? (a.add k) = some (.string nm) := (HBW.out.cell (by rw [add_block]; exact ha)).trans hca
            have hcbr : wr.cell? (b.add k) = some (.int .u64 x) := (HBW.out.cell (by rw [add_block]; exact hb')).trans hcb
            have HCA : Hid (w.cell? (a.add k) = some (.string nm) ∧ a.block < w.heap.size) := ⟨hca, ha⟩
            have HP := Lib.hid hp; have HXX := Lib.hid hx
            clear hca hcb ha hb' hp hx
            by_cases h200 : nm.size ≤ 200
            · have hap := rows_apart HRX.out HRZ.out (by decide)
              have hap' := rows_apart HRZ.out HRX.out (by decide)
              have HAP := Lib.hid hap; have HAP' := Lib.hid hap'
              clear hap hap'
              have HN3 : Hid (k + 1 ≤ maxLen ∧ (k + 1) * 8 ≤ 140737488355328 ∧ wa.heap.size ≤ (wr.alloc (.cells #[.float .f64 x] 35)).heap.size) := by
                refine ⟨by unfold maxLen; omega, by omega, ?_⟩
                have h2 := HB.out.size
                show _ ≤ (wr.heap.push _).size
                simp; omega
              go_wp2_with (at_builtin; refine wpList_append_own_at _ rfl _ _ 34 rfl wa.heap.size 35 ix (.float .f64 0) 1 8 Tryd.underlying34 HIX.out.1 HIX.out.2.1 HIX.out.2.2.1 HIX.out.2.2.2 rfl (by decide) _ _ _ rfl (HRX.out.alloc _) ⟨wr.heap.size, 0, none⟩ 1 1 [.float .f64 x] rfl rfl (cell_one_new _ _ _) ?c2 HN3.out.1 HN3.out.2.1 HN3.out.2.2 ?_)
              case c2 => intro u hu; simp at hu; subst hu; rfl
              intro v' w3 hown3 hgrow3 _ _
              obtain ⟨gx, cx, rfl, hgx0, hgx1⟩ := hown3.form (by omega)
              have hg3 : (wr.alloc (.cells #[.float .f64 x] 35)).grownBy w3 (Value.ownBlock _) := hgrow3
              have h1 : Below wa.heap.size wa (wr.alloc (.cells #[.float .f64 x] 35)) := HB.out.alloc HB.out.size _
              have HB3 : Hid (Below wa.heap.size wa w3) := h1.grown hg3 h1.size (fun j hj => (HRX.out.lt j hj).1)
              have HRZ3 := Lib.hid ((HRZ.out.alloc (.cells #[.float .f64 x] 35)).kept hgrow3 HAP'.out)
              have htk : (Z.take (k + 1)).map scV = (Z.take k).map scV ++ [.float .f64 x] := by rw [List.take_succ_eq_append_getElem hlt, List.map_append, HP.out]; rfl
              have HRX3 : Hid (w3.ownsRow wa.heap.size 35 1 (.slice (some ⟨gx, 0, none⟩) (k + 1) cx) (k + 1) ((Z.take (k + 1)).map scV)) := by
                show World.ownsRow _ _ _ _ _ _ _
                rw [htk]; first | exact hown3 | (rw [List.map_take]; exact hown3)
              have hcx : w3.cell? ⟨gx, k, none⟩ = some (.float .f64 x) := by
                rw [HRX3.out.cellAt k (by omega), htk, List.getElem?_append_right (by simp; omega)]
                simp [Nat.min_eq_left (Nat.le_of_lt hlt)]
              have hcn : w3.cell? (a.add k) = some (.string nm) := ((below_trans HBA.out HB3.out).cell (by rw [add_block]; exact HCA.out.2)).trans HCA.out.1
              have HAP3 := Lib.hid (rows_apart HRX3.out HRZ3.out (by decide))
              clear hown3 hgrow3 hg3 h1 htk hcar hcbr hgx0
              have hi0 : (0 : Int) ≤ (k : Int) := by omega
              have hi1 : (k : Int) < (N.length : Int) := by omega
              have hi2 : (k : Int) < ((k + 1 : Nat) : Int) := by omega
              have hi3 : (k : Int) < (k : Int) + 1 := by omega
              go_wp2_with fail
              have HN4 : Hid (k + 1 ≤ maxLen ∧ (k + 1) * 24 ≤ 140737488355328 ∧ wa.heap.size ≤ (w3.drew.alloc (.cells #[.string nm, .float .f64 x] 39)).heap.size) := by
                refine ⟨by unfold maxLen; omega, by omega, ?_⟩
                have h2 := HB3.out.size
                show _ ≤ (w3.heap.push _).size
                simp; omega
              have HNEW : Hid (∀ j u, ([.string nm, .float .f64 x] : List Value)[j]? = some u → (w3.drew.alloc (.cells #[.string nm, .float .f64 x] 39)).cell? ((⟨w3.heap.size, 0, none⟩ : Addr).add j) = some u) := two_new2 w3.drew _ _ _
              have HOWN := Lib.hid (HRZ3.out.drew.alloc (.cells #[.string nm, .float .f64 x] 39))
              go_region_law (first | (refine step_append_lies _ rfl _ _ 33 rfl wa.heap.size 39 iz (.agg #[.string ⟨#[]⟩, .float .f64 0]) 2 24 Tryd.underlying33 HIZ.out.1 HIZ.out.2.1 HIZ.out.2.2.1 HIZ.out.2.2.2 rfl (by decide) _ _ _ rfl HOWN.out ⟨w3.heap.size, 0, none⟩ 1 1 [.string nm, .float .f64 x] rfl rfl HNEW.out (one_sf _ _) (by decide) HN4.out.1 HN4.out.2.1 HN4.out.2.2 _ rfl ?_; intro g cap w4 hown4 hgrow4 hat4 hlt4))
              all_goals
                have hg4 : (w3.drew.alloc (.cells #[.string nm, .float .f64 x] 39)).grownBy w4 (Value.ownBlock _) := hgrow4
                have h1 : Below wa.heap.size wa (w3.drew.alloc (.cells #[.string nm, .float .f64 x] 39)) := HB3.out.drew.alloc HB3.out.size _
                have HB4 : Hid (Below wa.heap.size wa w4) := h1.grown hg4 h1.size (fun j hj => (HRZ3.out.lt j hj).1)
                have HRX4 := Lib.hid ((HRX3.out.drew.alloc (.cells #[.string nm, .float .f64 x] 39)).kept hgrow4 HAP3.out)
                have HRZ4 : Hid (w4.ownsRow wa.heap.size 39 2 (.slice (some ⟨g, 0, none⟩) (k + 1) cap) (k + 1) (cells2 nmV scV (Z.take (k + 1)))) := by
                  show World.ownsRow _ _ _ _ _ _ _
                  rw [List.take_succ_eq_append_getElem hlt, cells2_snoc, HP.out]
                  exact hown4
                have HSN4 : Hid (∀ q ∈ Z.take (k + 1), q.1.size ≤ 200) := take_all HSN.out hlt (by rw [HP.out]; exact h200)
                clear hown4 hgrow4 hat4 hg4 h1 hlt4 hcx hcn hi0 hi1 hi2 hi3
                go_wp2_with fail
                go_roundw
                case measure => simp [intOf]; omega
                case rel => exact ⟨k + 1, by go_num, by omega, HRX4.out, HRZ4.out, HSN4.out, HB4.out⟩
            · have h2i : (200 : Int) < (nm.size : Int) := by omega
              go_wp2_with fail
              refine (awake19_any _ (HT.out.below HBW.out)).mono ?_
              rintro r w2 ⟨rfl, hb2⟩
              go_wp2_with fail
              go_ret
              exact ⟨rfl, below_trans HBW.out hb2⟩
          · obtain rfl : k = Z.length := by omega
            rw [List.take_length] at HRX HRZ HSN
            obtain ⟨Ax, cx, hv⟩ := row_shape HRX.out
            subst hv
            obtain ⟨Az, cz, hv⟩ := row_shape HRZ.out
            subst hv
            obtain ⟨wb, hwb⟩ : ∃ wb, wb = wr := ⟨_, rfl⟩
            subst hwb
            have HX64 : Hid (F64sAt Ax (Z.map (·.2)) wb) := f64s_of (row1_at HRX.out)
            have HMZ : Hid (MembersAt Az Z wb) := row2_at HRZ.out
            have HRP2 := Lib.hid (HRP.out.below (HB.out))
            have HBB := Lib.hid (below_trans HBA.out HB.out)
            have HXL : Hid (∀ x ∈ Z.map (·.2), x < 2 * RqF.sgn) := by
              intro x hx
              obtain ⟨p, hp, rfl⟩ := List.mem_map.1 hx
              exact zat_lt HZ.out p hp
            have HXN : Hid (Z.length = (Z.map (·.2)).length) := by show _ = _; rw [List.length_map]
            have hZ40 : Z.length ≤ 40 := by have := HZL.out; omega
            have hex : ¬ Z.length < N.length ∨ (Z.length < N.length ∧ ¬ Z.length < U.length) := by have := HZL.out; omega
            clear HB HBA HRP HRX HRZ hlt hk HIP HIZ HIX
            rcases hex with hex | ⟨hex0, hex⟩
            all_goals
              go_wp2_with fail
              go_loop [20] (fun iv => TlC I iv) (fun iv => I.length - (intOf iv).toNat)
              case atStart => exact ⟨0, rfl, Nat.zero_le _, fun v hv => by simp at hv⟩
              case round =>
                obtain ⟨k, rfl, hk, hm⟩ := hrel
                have HM := Lib.hid hm
                clear hm
                by_cases hlt : k < I.length
                · obtain ⟨a, rfl, ha, hc, hx0, hx1⟩ := HI.out k hlt
                  obtain ⟨x, hx⟩ : ∃ x, x = I[k] := ⟨_, rfl⟩
                  rw [← hx] at hc hx0 hx1
                  have hcr : wb.cell? (a.add k) = some (.int .i64 x) := (HBB.out.cell (by rw [add_block]; exact ha)).trans hc
                  have HXE := Lib.hid hx
                  clear hc ha hx
                  by_cases hmin : x = -9223372036854775808
                  · go_wp2_with fail
                    refine (awake19_any _ (HT.out.below HBB.out)).mono ?_
                    rintro r w2 ⟨rfl, hb2⟩
                    go_wp2_with fail
                    go_ret
                    exact ⟨rfl, below_trans HBB.out hb2⟩
                  · go_wp2_with fail
                    go_round
                    case measure => simp [intOf]; omega
                    case rel => exact ⟨k + 1, by go_num, by omega, take_all HM.out hlt (by rw [← HXE.out]; exact hmin)⟩
                · obtain rfl : k = I.length := by omega
                  have hnum : NumsAt Ai I w := HI.out.nums (by have := HM.out; rwa [List.take_length] at this)
                  have HNU2 := Lib.hid (hnum.below HBB.out)
                  clear hnum HM hlt hk
                  go_wp2_with fail
                  refine (least_as Ax cx Z.length (Z.map (·.2)) _ HXN.out HX64.out HXL.out (by omega)).mono ?_
                  rintro r w1 ⟨⟨b1, hb1, rfl⟩, rfl⟩
                  go_wp2_with fail
                  refine (most_as Ax cx Z.length (Z.map (·.2)) _ HXN.out HX64.out HXL.out (by omega)).mono ?_
                  rintro r w1 ⟨⟨b2, hb2, rfl⟩, rfl⟩
                  go_wp2_with fail
                  refine (sum_as Ax cx Z.length (Z.map (·.2)) _ HXN.out HX64.out HXL.out (by omega)).mono ?_
                  rintro r w1 ⟨⟨b3, hb3, rfl⟩, hbl1⟩
                  have HX1 := Lib.hid (HX64.out.below hbl1)
                  have HBL1 := Lib.hid hbl1
                  clear hbl1
                  go_wp2_with fail
                  refine (sum_as Ax cx Z.length (Z.map (·.2)) _ HXN.out HX1.out HXL.out (by omega)).mono ?_
                  rintro r w2 ⟨⟨b4, hb4, rfl⟩, hbl2⟩
                  have HBL2 := Lib.hid (below_trans HBL1.out hbl2)
                  clear hbl2 HX1 HBL1
                  go_wp2_with fail
                  obtain ⟨wd, hwd⟩ : ∃ wd, wd = w2.alloc (.cells #[.int .i64 (Z.length : Int), .float .f64 b1, .float .f64 b2, .float .f64 b3, .float .f64 b4] 42) := ⟨_, rfl⟩
                  rw [← hwd]
                  have HBLK : Hid (wd.heap[w2.heap.size]? = some (.cells #[.int .i64 (Z.length : Int), .float .f64 b1, .float .f64 b2, .float .f64 b3, .float .f64 b4] 42 (0, 0))) := by rw [hwd]; exact heap_alloc_new w2 _
                  have HBD2 : Hid (Below wb.heap.size wb wd) := by rw [hwd]; exact HBL2.out.alloc HBL2.out.size _
                  have HBD := Lib.hid (below_trans HBB.out HBD2.out)
                  clear hwd
                  have HSP : Hid (SpreadOk (Z.length : Int) b1 b2 b3 b4) := ⟨by omega, by omega, hb1, hb2, hb3, hb4⟩
                  clear hb1 hb2 hb3 hb4
                  have HTd := Lib.hid (HT.out.below HBD.out)
                  have HByd := Lib.hid (HBy.out.below HBD.out)
                  have HLd := Lib.hid (HL.out.below HBD.out)
                  have HRd := Lib.hid (HRP2.out.below HBD2.out)
                  have HMd := Lib.hid (HMZ.out.below HBD2.out)
                  have HSd := Lib.hid ((zat_strs HZ.out).below HBD.out)
                  have HFd := Lib.hid (HX64.out.below HBD2.out)
                  have HNd := Lib.hid (HNU2.out.below HBD2.out)
                  obtain ⟨X, hX⟩ : ∃ X : ByteArray, X = ⟨lb.toArray⟩ := ⟨_, rfl⟩
                  have HXs : Hid (X.size ≤ 1099511627776) := by show _ ≤ _; rw [hX, size_of]; omega
                  have HCC : Hid (∀ w', Below wd.heap.size wd w' → Below wd.heap.size wd w' ∧ (convert 22 9 (.slice Ab lb.length cb)).run Tryd.prog w' = .ok (.string X) w') := fun w' hb => ⟨hb, bytes_back X hX (HByd.out.below hb)⟩
                  have HX := Lib.hid hX
                  obtain ⟨Te, hTe⟩ : ∃ T, T = errS e := ⟨_, rfl⟩
                  obtain ⟨Tv, hTv⟩ : ∃ T, T = valueS lb := ⟨_, rfl⟩
                  obtain ⟨Tp, hTp⟩ : ∃ T : ByteArray, T = ⟨(prsT L.length L).toArray⟩ := ⟨_, rfl⟩
                  obtain ⟨Tb, hTb⟩ : ∃ T, T = boolS yes := ⟨_, rfl⟩
                  obtain ⟨Ts, hTs⟩ : ∃ T : ByteArray, T = ⟨(memsT Z.length Z).toArray⟩ := ⟨_, rfl⟩
                  obtain ⟨Tn, hTn⟩ : ∃ T, T = numsS I := ⟨_, rfl⟩
                  obtain ⟨Tq, hTq⟩ : ∃ T, T = spreadS (Z.length : Int) b1 b2 b3 b4 := ⟨_, rfl⟩
                  have HTE := Lib.hid hTe; have HTV := Lib.hid hTv; have HTP := Lib.hid hTp; have HTB := Lib.hid hTb; have HTS := Lib.hid hTs; have HTN := Lib.hid hTn; have HTQ := Lib.hid hTq
                  have HPL := Lib.hid (Nat.le_trans (prsT_len L s2 HSM.out) (show 1000000 ≤ 1099511627776 by decide))
                  have HML := Lib.hid (Nat.le_trans (memsT_len Z hZ40 HSN.out) (show 1000000 ≤ 1099511627776 by decide))
                  clear hX hTe hTv hTp hTb hTs hTn hTq
                  have HL1 : Hid (L.length ≤ 1000) := by show _ ≤ _; omega
                  have HL2 : Hid (Z.length ≤ 1000) := by show _ ≤ _; omega
                  have HL3 : Hid (I.length ≤ 1000) := by show _ ≤ _; omega
                  have HL4 : Hid (lb.length ≤ 1099511627776) := by show _ ≤ _; omega
                  have q1 : (Te.toList == Te.toList) = true := beq_self_eq_true _
                  have q2 : (Tv.toList == Tv.toList) = true := beq_self_eq_true _
                  have q3 : (Tp.toList == Tp.toList) = true := beq_self_eq_true _
                  have q4 : (Tb.toList == Tb.toList) = true := beq_self_eq_true _
                  go_region_held3 (fun w' => Below wd.heap.size wd w' ∧ (convert 22 9 (.slice Ab lb.length cb)).run Tryd.prog w' = .ok (.string X) w')
                    (first | assumption | exact HCC.out _ (Below.drew (Below.refl _ _)) | exact HCC.out _ (below_trans (And.left (by assumption)) hbn))
                    (first | (go_at_call 9; refine (err_as e Te HTE.out _).mono ?_; rintro r wn ⟨rfl, hbn⟩) | (go_at_call 10; refine (r18err_as e Te HTE.out _).mono ?_; rintro r wn ⟨rfl, rfl⟩) | (go_at_call 11; refine (value_as Ab cb lb Tv _ HTV.out (HTd.out.below (And.left (by assumption))) (HByd.out.below (And.left (by assumption))) HL4.out).mono ?_; rintro r wn ⟨rfl, hbn⟩) | (go_at_call 12; refine (r18value_as X Tv lb _ HX.out HTV.out HXs.out).mono ?_; rintro r wn ⟨rfl, rfl⟩) | (go_at_call 13; refine (pairs_as Al cl L L.length Tp _ rfl HTP.out (HTd.out.below (And.left (by assumption))) (HLd.out.below (And.left (by assumption))) HL1.out HPL.out).mono ?_; rintro r wn ⟨rfl, hbn⟩) | (go_at_call 14; refine (r18pairs_as Ap cp L L.length Tp _ rfl HTP.out (HRd.out.below (And.left (by assumption))) HL1.out HPL.out).mono ?_; rintro r wn ⟨rfl, hbn⟩) | (go_at_call 15; refine (bool_as yes Tb _ HTB.out).mono ?_; rintro r wn ⟨rfl, hbn⟩) | (go_at_call 16; refine (r18bool_as yes Tb _ HTB.out).mono ?_; rintro r wn ⟨rfl, rfl⟩))
                  rename_i hHeld
                  obtain ⟨we, hwe⟩ : ∃ we, we = wn := ⟨_, rfl⟩
                  subst hwe
                  have HBE := Lib.hid hHeld.1
                  clear hHeld hbn q1 q2 q3 q4
                  have hj0 : (0 : Int) ≤ (Z.length : Int) := by omega
                  have hj1 : (Z.length : Int) ≤ (cn : Int) := by have := HCN.out; have := HZL.out; omega
                  have q5 : (Ts.toList == Ts.toList) = true := beq_self_eq_true _
                  have q6 : (Tn.toList == Tn.toList) = true := beq_self_eq_true _
                  have q7 : (Tq.toList == Tq.toList) = true := beq_self_eq_true _
                  go_wp2_with fail
                  go_region_held3 (fun w' => Below wd.heap.size wd w' ∧ w'.heap[w2.heap.size]? = some (.cells #[.int .i64 (Z.length : Int), .float .f64 b1, .float .f64 b2, .float .f64 b3, .float .f64 b4] 42 (0, 0)) ∧ w'.cell? ⟨w2.heap.size, 0, none⟩ = some (.int .i64 (Z.length : Int)) ∧ w'.cell? ⟨w2.heap.size, 1, none⟩ = some (.float .f64 b1) ∧ w'.cell? ⟨w2.heap.size, 2, none⟩ = some (.float .f64 b2) ∧ w'.cell? ⟨w2.heap.size, 3, none⟩ = some (.float .f64 b3) ∧ w'.cell? ⟨w2.heap.size, 4, none⟩ = some (.float .f64 b4))
                    (first | assumption | exact sp_keep HBLK.out HBE.out.drew | exact sp_keep HBLK.out (below_trans (And.left (by assumption)) hbn))
                    (first | (go_at_call 17; refine (scored_as Az cz Z Z.length Ts _ rfl HTS.out (HTd.out.below (And.left (by assumption))) (HMd.out.below (And.left (by assumption))) (zat_lt HZ.out) HL2.out HML.out).mono ?_; rintro r wn ⟨rfl, hbn⟩) | (go_at_call 18; refine (r18scored_as An Ax cn cx Z Z.length Ts _ rfl HTS.out (HSd.out.below (And.left (by assumption))) (HFd.out.below (And.left (by assumption))) (zat_lt HZ.out) HL2.out HML.out).mono ?_; rintro r wn ⟨rfl, hbn⟩) | (go_at_call 19; refine (numbers_as Ai ci I Tn _ HTN.out (HTd.out.below (And.left (by assumption))) (HNd.out.below (And.left (by assumption))) HL3.out).mono ?_; rintro r wn ⟨rfl, hbn⟩) | (go_at_call 20; refine (r18numbers_as Ai ci I Tn _ HTN.out (HNd.out.below (And.left (by assumption))) HL3.out).mono ?_; rintro r wn ⟨rfl, rfl⟩) | (go_at_call 21; refine (spread_as (Z.length : Int) b1 b2 b3 b4 Tq _ HTQ.out (HTd.out.below (And.left (by assumption))) HSP.out).mono ?_; rintro r wn ⟨rfl, hbn⟩) | (go_at_call 22; refine (r18spread_as (Z.length : Int) b1 b2 b3 b4 Tq _ HTQ.out HSP.out).mono ?_; rintro r wn ⟨rfl, hbn⟩))
                  rename_i hHeld
                  obtain ⟨wf, hwf⟩ : ∃ wf, wf = wn := ⟨_, rfl⟩
                  subst hwf
                  have HBF := Lib.hid (below_trans HBD.out hHeld.1)
                  have HTf := Lib.hid (HTd.out.below hHeld.1)
                  have HFf := Lib.hid (HFd.out.below hHeld.1)
                  have HNf := Lib.hid (HNd.out.below hHeld.1)
                  clear hHeld hbn q5 q6 q7 hj0 hj1 HBE HBLK HTd HByd HLd HRd HMd HSd HFd HNd HCC HX HXs HTE HTV HTP HTB HTS HTN HTQ HPL HML HL1 HL4 HSP HBD HBD2 HBL2
                  go_wp2_with fail
                  go_loopw [22] (fun iv wr => TlD wf I.length iv wr) (fun iv _ => I.length - (intOf iv).toNat)
                  case atStart => exact ⟨0, rfl, Nat.zero_le _, Below.refl _ _⟩
                  case round =>
                    obtain ⟨k, rfl, hk, hbr⟩ := hrel
                    have HBR := Lib.hid hbr
                    clear hbr
                    by_cases hlt : k < I.length
                    · obtain ⟨a, rfl, ha, hc, hx0, hx1⟩ := HNf.out.below HBR.out k hlt
                      obtain ⟨x, hx⟩ : ∃ x, x = I[k] := ⟨_, rfl⟩
                      rw [← hx] at hc hx0 hx1
                      obtain ⟨T, hT⟩ : ∃ T, T = numberS x := ⟨_, rfl⟩
                      have HTT := Lib.hid hT; have HTR := Lib.hid (HTf.out.below HBR.out)
                      clear hx hT ha
                      have q1 : (T.toList == T.toList) = true := beq_self_eq_true _
                      have hi0 : (0 : Int) ≤ (k : Int) := by omega
                      have hi1 : (k : Int) < (I.length : Int) := by omega
                      go_wp2_with fail
                      go_region_held3 (fun w' => Below wr.heap.size wr w' ∧ w'.cell? (a.add k) = some (.int .i64 x))
                        (first | assumption | exact one_keep hc (Below.drew (Below.refl _ _)) | exact one_keep hc (below_trans (And.left (by assumption)) hbn))
                        (first | (go_at_call 23; refine (number_as x T _ HTT.out (HTR.out.below (And.left (by assumption))) hx0 hx1).mono ?_; rintro r wn ⟨rfl, hbn⟩) | (go_at_call 24; refine (r18num_as x T _ HTT.out hx0 hx1).mono ?_; rintro r wn ⟨rfl, rfl⟩))
                      rename_i hHeld
                      have HB5 := Lib.hid (below_trans HBR.out hHeld.1)
                      clear hHeld hbn q1 hi0 hi1 hc hx0 hx1
                      go_wp2_with fail
                      go_roundw
                      case measure => simp [intOf]; omega
                      case rel => exact ⟨k + 1, by go_num, by omega, HB5.out⟩
                    · obtain rfl : k = I.length := by omega
                      obtain ⟨wg, hwg⟩ : ∃ wg, wg = wr := ⟨_, rfl⟩
                      subst hwg
                      have HBG := Lib.hid (below_trans HBF.out HBR.out)
                      have HTg := Lib.hid (HTf.out.below HBR.out)
                      have HFg := Lib.hid (HFf.out.below HBR.out)
                      clear HBF HTf HFf HNf HBR hlt hk
                      go_wp2_with fail
                      go_loopw [23] (fun iv wr => TlD wg Z.length iv wr) (fun iv _ => Z.length - (intOf iv).toNat)
                      case atStart => exact ⟨0, rfl, Nat.zero_le _, Below.refl _ _⟩
                      case round =>
                        obtain ⟨k, rfl, hk, hbr⟩ := hrel
                        have HBR := Lib.hid hbr
                        clear hbr
                        by_cases hlt : k < Z.length
                        · have hlt' : k < (Z.map (·.2)).length := by rw [List.length_map]; exact hlt
                          obtain ⟨a, rfl, ha, hc⟩ := HFg.out.below HBR.out k hlt'
                          have hxx := HXL.out _ (List.getElem_mem hlt')
                          obtain ⟨x, hx⟩ : ∃ x, x = (Z.map (·.2))[k] := ⟨_, rfl⟩
                          rw [← hx] at hc hxx
                          obtain ⟨T, hT⟩ : ∃ T, T = scoreS x := ⟨_, rfl⟩
                          have HTT := Lib.hid hT; have HTR := Lib.hid (HTg.out.below HBR.out); have HXX := Lib.hid hxx
                          clear hx hT ha hxx hlt'
                          have q1 : (T.toList == T.toList) = true := beq_self_eq_true _
                          have hi0 : (0 : Int) ≤ (k : Int) := by omega
                          have hi1 : (k : Int) < (Z.length : Int) := by omega
                          go_wp2_with fail
                          go_region_held3 (fun w' => Below wr.heap.size wr w' ∧ w'.cell? (a.add k) = some (.float .f64 x))
                            (first | assumption | exact one_keep hc (Below.drew (Below.refl _ _)) | exact one_keep hc (below_trans (And.left (by assumption)) hbn))
                            (first | (go_at_call 25; refine (score_as x T _ HTT.out (HTR.out.below (And.left (by assumption))) HXX.out).mono ?_; rintro r wn ⟨rfl, hbn⟩) | (go_at_call 26; refine (r18score_as x T _ HTT.out HXX.out).mono ?_; rintro r wn ⟨rfl, rfl⟩))
                          rename_i hHeld
                          have HB5 := Lib.hid (below_trans HBR.out hHeld.1)
                          clear hHeld hbn q1 hi0 hi1 hc
                          go_wp2_with fail
                          go_roundw
                          case measure => simp [intOf]; omega
                          case rel => exact ⟨k + 1, by go_num, by omega, HB5.out⟩
                        · obtain rfl : k = Z.length := by omega
                          have HB6 := Lib.hid (below_trans HBG.out HBR.out)
                          go_wp2_with fail
                          refine (awake19_any _ (HT.out.below HB6.out)).mono ?_
                          rintro r w9 ⟨rfl, hb9⟩
                          go_wp2_with fail
                          go_ret
                          exact ⟨rfl, below_trans HB6.out hb9⟩
  · have hcases : (2000 < lb.length) ∨ (lb.length ≤ 2000 ∧ 40 < L.length) ∨ (lb.length ≤ 2000 ∧ L.length ≤ 40 ∧ 100 < I.length) ∨ (lb.length ≤ 2000 ∧ L.length ≤ 40 ∧ I.length ≤ 100 ∧ 40 < N.length) := by omega
    clear hsz
    rcases hcases with h1 | ⟨h1, h2⟩ | ⟨h1, h2, h3⟩ | ⟨h1, h2, h3, h4⟩
    all_goals
      go_enter Tryd.func3, Tryd.ntmps3
      go_wp2_with fail
      refine (awake19_any _ HT.out).mono ?_
      rintro r w2 ⟨rfl, hb2⟩
      go_wp2_with fail
      go_ret
      exact ⟨rfl, hb2⟩
end Go.Proofs.YtnjmhneobgmejaaDoor
