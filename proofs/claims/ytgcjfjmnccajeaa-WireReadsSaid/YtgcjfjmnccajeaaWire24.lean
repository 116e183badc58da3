/- The reference's PrintResponse. -/
import Derived.Test.YtgcjfjmnccajeaaWire23
import Derived.Test.YtgcjfjmnccajeaaCuts25
import Derived.Test.YtgcjfjmnccajeaaExt
import Derived.Deep.RegionHeld
namespace Go.Proofs.Ytgcjfjmnccajeaa
open Go.RowKit
theorem encTs_app (l l' : List (Int × Int × Int)) : encTs (l ++ l') = encTs l ++ encTs l' := by
  induction l with
  | nil => rfl
  | cons t l ih => simp only [List.cons_append, encTs, ih, List.append_assoc]
def badR2 (r : Rp) : Bool := decide (r.err < 0) || decide (13 < r.err) || !inB r.at_ || decide ((4000 : Int) < (r.toks.length : Nat))
def badT2 (t : Int × Int × Int) : Bool := decide (t.1 < 0) || decide (255 < t.1) || !inB t.2.1 || !inB t.2.2 || decide (t.2.2 < t.2.1)
theorem inB_iff (n : Int) : inB n = true ↔ inN n := by
  unfold inB inN most
  rw [Bool.and_eq_true, decide_eq_true_eq, decide_eq_true_eq]
  omega
theorem badT2_iff (t : Int × Int × Int) : badT2 t = false ↔ okT t := by
  unfold badT2 okT
  simp only [Bool.or_eq_false_iff, decide_eq_false_iff_not, Bool.not_eq_false', inB_iff]
  constructor
  · rintro ⟨⟨⟨⟨h1, h2⟩, h3⟩, h4⟩, h5⟩; exact ⟨by omega, by omega, h3, h4, by omega⟩
  · rintro ⟨h1, h2, h3, h4, h5⟩; exact ⟨⟨⟨⟨by omega, by omega⟩, h3⟩, h4⟩, by omega⟩
theorem bu_keep {w w1 : World} {A : Obj} {c : Nat} (k : Below ((w.alloc A).alloc (.cells #[.int .u8 (c : Nat)] 5)).drew.heap.size ((w.alloc A).alloc (.cells #[.int .u8 (c : Nat)] 5)).drew w1) : w1.cell? ⟨w.heap.size + 1, 0, none⟩ = some (.int .u8 (c : Nat)) := by
  have h := Blk.made (w.alloc A) 5 #[.int .u8 (c : Nat)]
  rw [World.size_alloc] at h
  exact (h.drew.below k).cell 0
theorem bu_keep2 {w w1 w2 : World} {A : Obj} {c : Nat} (k : Below ((w.alloc A).alloc (.cells #[.int .u8 (c : Nat)] 5)).drew.heap.size ((w.alloc A).alloc (.cells #[.int .u8 (c : Nat)] 5)).drew w1) (k2 : Below w1.heap.size w1 w2) : w2.cell? ⟨w.heap.size + 1, 0, none⟩ = some (.int .u8 (c : Nat)) :=
  bu_keep (k.trans (k2.mono k.size))
theorem bu_mid {w1 w2 : World} {c : Nat} (k : Below (w1.alloc (.cells #[.int .u8 (c : Nat)] 5)).heap.size (w1.alloc (.cells #[.int .u8 (c : Nat)] 5)) w2) : w2.cell? ⟨w1.heap.size, 0, none⟩ = some (.int .u8 (c : Nat)) := ((Blk.made w1 5 #[.int .u8 (c : Nat)]).below k).cell 0
theorem bx_a {w w1 : World} {cs : Array Value} (k : Below (w.alloc (.cells cs 36)).drew.heap.size (w.alloc (.cells cs 36)).drew w1) : Blk w1 w.heap.size 36 cs := (Blk.drew (Blk.made w 36 cs)).below k
theorem bx_b {w w1 : World} {cs : Array Value} {c : Nat} (k : Below ((w.alloc (.cells cs 36)).alloc (.cells #[.int .u8 (c : Nat)] 5)).drew.heap.size ((w.alloc (.cells cs 36)).alloc (.cells #[.int .u8 (c : Nat)] 5)).drew w1) : Blk w1 w.heap.size 36 cs := (Blk.drew (Blk.alloc (Blk.made w 36 cs) _)).below k
theorem chain1 {A w1 w2 : World} {o : Obj} {B : Nat} (hB : B = A.heap.size) (k1 : Below (A.alloc o).drew.heap.size (A.alloc o).drew w1) (k2 : Below w1.heap.size w1 w2) : Below B A w2 := by
  subst hB; exact below_step (below_step (below_draws (below_alloc (Below.refl _ _) _) 1) k1) k2
theorem chain2 {A w1 w2 : World} {o : Obj} {B : Nat} (hB : B = A.heap.size) (k1 : Below A.drew.heap.size A.drew w1) (k2 : Below (w1.alloc o).heap.size (w1.alloc o) w2) : Below B A w2 := by
  subst hB; exact below_step (below_alloc (below_step (below_draws (Below.refl _ _) 1) k1) _) k2
theorem chain3 {A w1 w2 : World} {o : Obj} {B : Nat} (hB : B = A.heap.size) (k1 : Below A.drew.heap.size A.drew w1) (k2 : Below w1.heap.size w1 w2) : Below B A (w2.alloc o) := by
  subst hB; exact below_alloc (below_step (below_step (below_draws (Below.refl _ _) 1) k1) k2) _
def rprintRE (r : Rp) (e : Ending) : Prop := (okR r ∧ e = .returned (.tuple #[.string ⟨(encR r).toArray⟩, .bool true])) ∨ (¬ okR r ∧ e = .returned (.tuple #[.string { data := #[] }, .bool false]))
attribute [local irreducible] Calls
set_option maxHeartbeats 8000000 in
set_option maxRecDepth 100000 in
theorem rprintR_c (r : Rp) (v : Value) (w : World) (hv : TokS w v r.toks) : Calls Try.prog 16 #[.agg #[.int .i64 r.err, .int .i64 r.at_, v]] w fun e w' => rprintRE r e ∧ Below w.heap.size w w' := by
  obtain ⟨ao, cap, rfl, hcl⟩ := hv
  have BA := Lib.hid (badR2.eq_1 r)
  have OKD := Lib.hid (fun (h : badR2 r = false) => show 0 ≤ r.err ∧ r.err ≤ 13 ∧ inN r.at_ ∧ r.toks.length ≤ 4000 by
    unfold badR2 at h
    simp only [Bool.or_eq_false_iff, decide_eq_false_iff_not, Bool.not_eq_false', inB_iff] at h
    exact ⟨by omega, by omega, h.1.2, by omega⟩)
  have BAD := Lib.hid (fun (h : badR2 r = true) => show ¬ okR r by
    intro hk
    unfold badR2 at h
    have h3 := (inB_iff r.at_).2 hk.2.2.1
    rw [h3] at h
    simp only [Bool.or_eq_true, decide_eq_true_eq, Bool.not_true, Bool.false_eq_true, or_false] at h
    have := hk.1; have := hk.2.1; have := hk.2.2.2.1
    omega)
  have RE := Lib.hid (fun e => rprintRE.eq_1 r e)
  have OK := Lib.hid (show okR r ↔ (0 ≤ r.err ∧ r.err ≤ 13 ∧ inN r.at_ ∧ r.toks.length ≤ 4000 ∧ ∀ t ∈ r.toks, okT t) from Iff.rfl)
  have ER := Lib.hid (encR.eq_1 r)
  generalize badR2 r = ba at *
  generalize okR r = okr at *
  generalize encR r = er at *
  generalize rprintRE r = post at *
  obtain ⟨err, at_, ts⟩ := r
  simp only at hcl BA OK ER OKD ⊢
  have HCL := Lib.hid hcl
  have WC := Lib.hid (fun w1 => within_c at_ w1)
  clear hcl
  go_enter Try.func16, Try.ntmps16
  go_upto_region 1 with fail
  go_cut [26] (fun v26 wx => v26 = .bool ba ∧ wx = w.alloc (.cells #[.int .i64 err, .int .i64 at_, .slice ao ts.length cap] 36))
  case first =>
    go_wp2_with (refine (WC.out _).mono ?_; rintro e w1 ⟨rfl, rfl⟩)
    all_goals (go_meet; refine ⟨?_, rfl⟩; rw [BA.out])
    all_goals (clear BA HCL OK OKD BAD RE ER WC; go_light)
    all_goals first | (simp [*]; done) | (congr 1; simp_all <;> omega)
  case rest =>
    obtain ⟨rfl, rfl⟩ := hcut
    clear WC BA
    cases ba with
    | true =>
      have NO := BAD.out rfl
      go_wp2_with fail
      go_returns
      refine ⟨?_, below_alloc (Below.refl _ _) _⟩
      rw [RE.out]
      exact .inr ⟨NO, rfl⟩
    | false =>
      obtain ⟨he0, he13, hat, hlen⟩ := OKD.out rfl
      obtain ⟨ec, rfl⟩ : ∃ n : Nat, err = n := ⟨err.toNat, by omega⟩
      obtain ⟨an, rfl⟩ : ∃ n : Nat, at_ = n := ⟨at_.toNat, by have := hat.1; omega⟩
      have han : an ≤ 1099511627776 := by have := hat.2; unfold most at this; omega
      have HAT := Lib.hid hat
      clear OKD BAD hat
      have NA := Lib.hid (fun w1 => number_c an han w1)
      have NB := Lib.hid (fun w1 => number_c ts.length (by omega) w1)
      have U : IntKind.u8.wrap (ec : Int) = ec := IntWalk.u8_in _ (by omega)
      have hc : (ec.toUInt8).toNat = ec := u8_toNat (by omega)
      have K1 := conv_new ec.toUInt8
      have K2 := conv_newd ec.toUInt8
      have K3 := Lib.hid (fun g W h => conv_at ec.toUInt8 g W h)
      have K4 := conv_newd ec.toUInt8 (w.alloc (.cells #[.int .i64 ec, .int .i64 an, .slice ao ts.length cap] 36))
      rw [World.size_alloc] at K4
      rw [hc] at K1 K2 K3 K4
      have M1 := Lib.hid (mk_app [ec.toUInt8] (encN an))
      have M2 := Lib.hid (mk_app ([ec.toUInt8] ++ encN an) (encN ts.length))
      have l1 := mk_size [ec.toUInt8]
      have l2 := mk_size (encN an)
      have l3 := mk_size (encN ts.length)
      have l4 := encN_len an
      have l5 := encN_len ts.length
      have l6 := mk_size ([ec.toUInt8] ++ encN an)
      rw [← M1.out] at M2 l6
      generalize hs1 : (⟨[ec.toUInt8].toArray⟩ : ByteArray) = sc at *
      generalize hs2 : (⟨(encN an).toArray⟩ : ByteArray) = sa at *
      generalize hs3 : (⟨(encN ts.length).toArray⟩ : ByteArray) = sb at *
      have z1 : sc.size ≤ 20 := by rw [l1]; simp
      have z2 : sa.size ≤ 20 := by omega
      have z3 : sb.size ≤ 20 := by omega
      have z4 : (sc ++ sa).size ≤ 20 := by rw [l6]; simp; omega
      clear hs1 hs2 hs3 l1 l2 l3 l4 l5 l6 M1 hc
      have BX := Lib.hid (Blk.made w 36 #[.int .i64 ec, .int .i64 an, .slice ao ts.length cap])
      have BU := Lib.hid (Blk.made (w.alloc (.cells #[.int .i64 ec, .int .i64 an, .slice ao ts.length cap] 36)) 5 #[.int .u8 (ec : Nat)])
      go_upto_region 3 with fail
      go_cut [4] (fun v4 wx => v4 = .string ⟨(([ec.toUInt8] ++ encN an) ++ encN ts.length).toArray⟩ ∧ Below (w.heap.size + 1) (w.alloc (.cells #[.int .i64 ec, .int .i64 an, .slice ao ts.length cap] 36)) wx)
      case first =>
        go_region_held (fun w' => w'.cell? ⟨w.heap.size, 0, none⟩ = some (.int .i64 ec) ∧ w'.cell? ⟨w.heap.size, 1, none⟩ = some (.int .i64 an) ∧ w'.cell? ⟨w.heap.size, 2, none⟩ = some (.slice ao ts.length cap)) (first | go_keep | exact ⟨hx0, hx1, hx2⟩ | exact ⟨hy0, hy1, hy2⟩) (first | (go_at_call 26; (with_reducible refine (NA.out _).mono ?_); rintro e w1 ⟨rfl, k1⟩; have hk1 := k1.size; (first | (with_reducible have HX := bx_b k1) | (with_reducible have HX := bx_a k1)); have hx0 : w1.cell? ⟨w.heap.size, 0, none⟩ = some (.int .i64 ec) := HX.cell 0; have hx1 : w1.cell? ⟨w.heap.size, 1, none⟩ = some (.int .i64 an) := HX.cell 1; have hx2 : w1.cell? ⟨w.heap.size, 2, none⟩ = some (.slice ao ts.length cap) := HX.cell 2; have hlx := HX.lt; (first | (with_reducible have KB := K3.out _ w1 (bu_keep k1)) | skip)) | (go_at_call 26; (with_reducible refine (NB.out _).mono ?_); rintro e w2 ⟨rfl, k2⟩; (first | (with_reducible have HY := HX.below k2) | (with_reducible have HY := (HX.alloc _).below k2)); have hy0 : w2.cell? ⟨w.heap.size, 0, none⟩ = some (.int .i64 ec) := HY.cell 0; have hy1 : w2.cell? ⟨w.heap.size, 1, none⟩ = some (.int .i64 an) := HY.cell 1; have hy2 : w2.cell? ⟨w.heap.size, 2, none⟩ = some (.slice ao ts.length cap) := HY.cell 2; (first | (with_reducible have KC := K3.out _ w2 (bu_keep2 k1 k2)) | (with_reducible have KC := K3.out _ w2 (bu_mid k2)) | skip)))
        all_goals (go_wp2_with fail; go_meet; rw [← M2.out])
        all_goals first | exact ⟨rfl, chain1 (by simp) k1 k2⟩ | exact ⟨rfl, chain2 (by simp) k1 k2⟩ | exact ⟨rfl, chain3 (by simp) k1 k2⟩
      case rest =>
        obtain ⟨rfl, hbl⟩ := hcut
        have HB0 := Lib.hid hbl
        have HE0 := Lib.hid he13
        clear K1 K2 K3 K4 NA NB BU z1 z2 z3 z4 hbl U M2
        have hd : ([ec.toUInt8] ++ encN an ++ encN ts.length).length ≤ 23 := by
          have := encN_len an; have := encN_len ts.length; simp; omega
        generalize hhd : [ec.toUInt8] ++ encN an ++ encN ts.length = hdr at *
        have HHD := Lib.hid hhd
        clear hhd
        go_wp2_with fail
        go_loopw [4, 5, 6] (fun v4 v5 _ wr => ∃ i : Nat, i ≤ ts.length ∧ v4 = .string ⟨(hdr ++ encTs (ts.take i)).toArray⟩ ∧ v5 = .int .i64 i ∧ (∀ t ∈ ts.take i, okT t) ∧ Below (w.heap.size + 1) (w.alloc (.cells #[.int .i64 ec, .int .i64 an, .slice ao ts.length cap] 36)) wr) (fun _ v5 _ _ => ts.length - (intOf v5).toNat)
        case atStart => exact ⟨0, Nat.zero_le _, by simp [encTs], rfl, by simp, HB0.out⟩
        case round =>
          clear HB0
          obtain ⟨i, hi, rfl, rfl, hok, hbl⟩ := hrel
          have HB := Lib.hid hbl
          have HK := Lib.hid hok
          have BXr := Lib.hid ((BX.out.below (by rw [World.size_alloc]; exact hbl)))
          have x2 : wr.cell? ⟨w.heap.size, 2, none⟩ = some (.slice ao ts.length cap) := BXr.out.cell 2
          have hsr : w.heap.size + 1 ≤ wr.heap.size := by have := hbl.size; simpa using this
          have LT := encTs_len (ts.take i)
          have LT2 : (ts.take i).length ≤ i := List.length_take_le _ _
          clear hbl hok
          by_cases hlt : i < ts.length
          · have t1 : decide (i < ts.length) = true := by simp; omega
            obtain ⟨tb, off, rfl, hbb, hcs⟩ := HCL.out (by omega)
            obtain ⟨q0, q1, q2⟩ := hcs i hlt
            have kc : ∀ o, wr.cell? ⟨tb, o, none⟩ = w.cell? ⟨tb, o, none⟩ := fun o =>
              (HB.out.cell (p := ⟨tb, o, none⟩) (by show tb < w.heap.size + 1; omega)).trans ((below_alloc (Below.refl _ _) _ : Below w.heap.size w (w.alloc (.cells #[.int .i64 ec, .int .i64 an, .slice (some ⟨tb, off, none⟩) ts.length cap] 36))).cell (p := ⟨tb, o, none⟩) hbb)
            have p0 := (kc _).trans q0
            have p1 := (kc _).trans q1
            have p2 := (kc _).trans q2
            have TS := Lib.hid (show ts.take (i + 1) = ts.take i ++ [ts[i]] from List.take_succ_eq_append_getElem hlt)
            have TM := Lib.hid (List.getElem_mem hlt)
            clear q0 q1 q2 kc hcs
            generalize ts[i] = tk at *
            obtain ⟨x, y, z⟩ := tk
            simp only at p0 p1 p2
            have BT := Lib.hid (badT2.eq_1 (x, y, z))
            have BI := Lib.hid (badT2_iff (x, y, z))
            generalize badT2 (x, y, z) = bt at *
            simp only at BT
            go_upto_region 8 with fail
            go_cut [79] (fun v79 wx => v79 = .bool bt ∧ wx = wr.alloc (.cells #[.int .i64 x, .int .i64 y, .int .i64 z] 78))
            case first =>
              go_wp2_with (go_at_call 24; refine (within_c _ _).mono ?_; rintro e w1 ⟨rfl, rfl⟩)
              all_goals (go_meet; refine ⟨?_, rfl⟩; rw [BT.out])
              all_goals (clear RE HCL OK ER HHD BX BT BI TS TM HB HK BXr HE0 HAT; go_light)
              all_goals first | (simp [*]; done) | (congr 1; simp_all <;> omega)
            case rest =>
              obtain ⟨rfl, rfl⟩ := hcut
              cases bt with
              | true =>
                have NO := Lib.hid (show ¬ okr from fun h => by
                  have := (BI.out).2 ((OK.out.1 h).2.2.2.2 _ TM.out)
                  cases this)
                go_wp2_with fail
                go_returns
                refine ⟨?_, (below_alloc (Below.refl _ _) _).trans ((HB.out.alloc hsr _).mono (by omega))⟩
                rw [RE.out]
                exact .inr ⟨NO.out, rfl⟩
              | false =>
                have HT := BI.out.1 rfl
                have HTT := Lib.hid HT
                obtain ⟨h1, h2, h3, h4, h5⟩ := HT
                unfold inN most at h3 h4
                simp only at h1 h2 h3 h4 h5
                obtain ⟨xn, rfl⟩ : ∃ n : Nat, x = n := ⟨x.toNat, by omega⟩
                obtain ⟨yn, rfl⟩ : ∃ n : Nat, y = n := ⟨y.toNat, by omega⟩
                obtain ⟨m, hm⟩ : ∃ m : Nat, z = (yn : Int) + m := ⟨(z - yn).toNat, by omega⟩
                have hx9 : xn ≤ 1099511627776 := by omega
                have hy9 : yn ≤ 1099511627776 := by omega
                have hm9 : m ≤ 1099511627776 := by omega
                have D : z - (yn : Int) = (m : Nat) := by omega
                have ET := Lib.hid (show encT ((xn : Int), (yn : Int), z) = encN xn ++ encN yn ++ encN m from by unfold encT; simp only [Int.toNat_natCast, D]; simp [encNs])
                have W : IntKind.i64.wrap (z - (yn : Int)) = (m : Nat) := by rw [D]; exact IntWalk.i64_in _ (by omega)
                clear h1 h2 h3 h4 h5 hm BT BI
                try clear HB0
                have HNX := Lib.hid (fun w1 => number_c xn hx9 w1)
                have HNY := Lib.hid (fun w1 => number_c yn hy9 w1)
                have HNM := Lib.hid (fun w1 => number_c m hm9 w1)
                have MX : (ByteArray.mk (encN xn).toArray).size ≤ 20 := by rw [mk_size]; have := encN_len xn; omega
                have MY : (ByteArray.mk (encN yn).toArray).size ≤ 20 := by rw [mk_size]; have := encN_len yn; omega
                have MM : (ByteArray.mk (encN m).toArray).size ≤ 20 := by rw [mk_size]; have := encN_len m; omega
                have MA : (ByteArray.mk (hdr ++ encTs (ts.take i)).toArray).size ≤ 140000 := by rw [mk_size, List.length_append]; omega
                have EQ := Lib.hid (show (ByteArray.mk (hdr ++ encTs (ts.take i)).toArray) ++ ((ByteArray.mk (encN xn).toArray) ++ (ByteArray.mk (encN yn).toArray) ++ (ByteArray.mk (encN m).toArray)) = ⟨(hdr ++ encTs (ts.take (i + 1))).toArray⟩ from by
                  rw [mk_app, mk_app, mk_app, TS.out]
                  rw [encTs_app, List.append_assoc]
                  congr 1
                  rw [show encTs [((xn : Int), (yn : Int), z)] = encT ((xn : Int), (yn : Int), z) from by simp [encTs], ET.out]

                  )
                generalize ByteArray.mk (encN xn).toArray = sx at *
                generalize ByteArray.mk (encN yn).toArray = sy at *
                generalize ByteArray.mk (encN m).toArray = sm at *
                generalize ByteArray.mk (hdr ++ encTs (ts.take i)).toArray = sa at *
                have B9 := Blk.made wr 78 #[.int .i64 xn, .int .i64 yn, .int .i64 z]
                have c0 : ∀ y : Ext (wr.alloc (.cells #[.int .i64 (xn : Int), .int .i64 (yn : Int), .int .i64 z] 78)), y.v.cell? ⟨wr.heap.size, 0, none⟩ = some (.int .i64 xn) := fun y => y.cell (B9.cell 0)
                have c1 : ∀ y : Ext (wr.alloc (.cells #[.int .i64 (xn : Int), .int .i64 (yn : Int), .int .i64 z] 78)), y.v.cell? ⟨wr.heap.size, 1, none⟩ = some (.int .i64 yn) := fun y => y.cell (B9.cell 1)
                have c2 : ∀ y : Ext (wr.alloc (.cells #[.int .i64 (xn : Int), .int .i64 (yn : Int), .int .i64 z] 78)), y.v.cell? ⟨wr.heap.size, 2, none⟩ = some (.int .i64 z) := fun y => y.cell (B9.cell 2)
                clear B9 x2 p0 p1 p2 BXr ET TM
                go_upto_region 10 with fail
                refine wp_region_ext (by kernel_rfl) (by kernel_rfl) ?_
                repeat (go_big_quiet_step (first | (go_at_call 26; first | exact Calls.ext_of (HNX.out _) | exact Calls.ext_of (HNY.out _) | exact Calls.ext_of (HNM.out _))))
                refine wpQuiet_nil ?_
                intro _ hw'
                obtain ⟨xq, hw''⟩ := hw'
                subst hw''
                go_wp2_with fail
                go_roundw
                case rel =>
                  go_light
                  refine ⟨i + 1, by omega, congrArg Value.string EQ.out, by go_num, ?_, ((HB.out.alloc hsr _).trans (xq.h.mono (by rw [World.size_alloc]; omega)))⟩
                  rw [TS.out]
                  intro t ht
                  rcases List.mem_append.1 ht with h | h
                  · exact HK.out t h
                  · rw [List.mem_singleton.1 h]; exact HTT.out
                case measure => go_light; simp [intOf]; omega
          · have e : i = ts.length := by omega
            have t1 : decide (i < ts.length) = false := by simp; omega
            have OKR := OK.out.2 ⟨he0, HE0.out, HAT.out, hlen, by have := HK.out; rw [e, List.take_length] at this; exact this⟩
            have EQ := Lib.hid (show hdr ++ encTs (ts.take i) = er from by rw [e, List.take_length, ER.out, ← HHD.out]; simp [encNs])
            clear e
            go_wp2_with fail
            go_returns
            refine ⟨?_, (below_alloc (Below.refl _ _) _).trans (HB.out.mono (by omega))⟩
            rw [RE.out, EQ.out]
            exact .inl ⟨OKR, rfl⟩
end Go.Proofs.Ytgcjfjmnccajeaa
