/- Contracts of roads: ship. -/
import Derived.Deep.LoopGhost
import Derived.Deep.Cut
import Derived.Deep.CutRange
import Derived.Deep.DeepCutAuto
import Derived.Deep.RegionWith
import Derived.Deep.RegionHeld3
import Derived.RegionTactic
import Derived.BigRegion
import Derived.Test.YtbejgbflipoboaaP2
import Derived.Test.YtbejgbflipoboaaT9
namespace Go.Proofs.Ytbejgbflipoboaa
open Go.RowKit
attribute [local go_sem] GW.cell
theorem upon_make {P : Program} {o : Oper} {a : Act} {K : Act → World → Prop} {Q : Exit → Act → World → Prop} {w : World} {t : TypeId} {n : Nat} (base : Nat) (e : TypeId) (i : TypeInfo) (z : Value) (size : Nat) (h1 : P.underlying t = some (.slice e)) (h2 : P.info? e = some i) (h3 : i.zero = some z) (h4 : i.size = size)
    (b2 : i.bytes * n ≤ 281474976710656) (b3 : n ≤ maxLen) (b4 : base ≤ w.heap.size)
    (h : ∀ w', w'.ownsRow base e size (.slice (some ⟨w.heap.size, 0, none⟩) n n) n (madeCells z.cells (n * size)).toList → w.grownBy w' none → K (a.put o.dst (.slice (some ⟨w.heap.size, 0, none⟩) n n)) w') :
    Oper.upon P o a K Q (((Instr.makeSlice t (.int .i64 n) (.int .i64 n)).run P w).andThen fun a w' => Result.ok (Next.value a) w') := by
  obtain ⟨w', hrun, r1, r2⟩ := run_make_full (P := P) w base t e i z size h1 h2 h3 h4 .i64 .i64 n b2 b3 b4
  rw [hrun]
  exact h w' r1 r2
theorem made_own {W : World} {B g n : Nat} (h : W.ownsRow B 3 1 (.slice (some ⟨g, 0, none⟩) n n) n (madeCells (Value.int IntKind.i64 0).cells (n * 1)).toList) : OwnG W 3 B g n n (List.replicate n 0) := by
  rw [show (Value.int IntKind.i64 0).cells = #[.int .i64 0] from rfl, made_one] at h
  unfold OwnG
  rw [List.map_replicate]
  exact h
theorem gi_rep (n j : Nat) : gi (List.replicate n 0) j = 0 := by unfold gi; rw [List.getElem?_replicate]; split <;> rfl
/-- what ship hands back -/
def RetShip (n M : Nat) (fl lf : List Int) (w : World) (e : Ending) (w' : World) : Prop :=
  ∃ gf gl cl, e = .returned (.tuple #[.slice (some ⟨gf, 0, none⟩) n n, .slice (some ⟨gl, 0, none⟩) M cl]) ∧ OwnG w' 3 w.heap.size gf n n fl ∧ OwnG w' 3 w.heap.size gl M cl lf ∧ gf ≠ gl ∧ Ext w w'
set_option maxRecDepth 20000 in
set_option maxHeartbeats 16000000 in
theorem f75_c (M F : Nat) (a : Option Addr) (n c : Nat) (R : List Road) (b2 o2 c2 : Nat) (x fl lf : List Int) (w : World) (hl : Roads w a R) (hn : R.length = n) (hok : NetOk (M : Int) R) (hx : Ints w (some ⟨b2, o2, none⟩) x) (hxl : x.length = M) (hs : shipF M R F (List.replicate R.length 0) x = some (fl, lf)) (hF : F ≤ 1000) (hxb : ∀ i, -1000 ≤ gi x i ∧ gi x i ≤ 1000) :
    Calls Try.prog 75 #[.agg #[.int .i64 (M : Int), .slice a n c], .slice (some ⟨b2, o2, none⟩) M c2] w (RetShip n M fl lf w) := by
  subst hn
  obtain ⟨i0, hi0⟩ := info_parts info3
  have Hi := Lib.hid hi0
  clear hi0
  have hM := hok.n1
  have h12 := hok.r12
  have Hs := Lib.hid hs
  have hE0 := ext_alloc w (.cells #[.int .i64 (M : Int), .slice a R.length c] 24)
  have HB := Lib.hid (BlkC.new w #[.int .i64 (M : Int), .slice a R.length c] 24)
  have hz := HB.out.lt
  have C81 := Lib.hid (fun W (hW : Ext w W) => f81_c b2 o2 M c2 x W (hx.ext hW) hxl (by omega) (by omega))
  clear hs
  go_enter Try.func75, Try.ntmps75
  go_upto_region 1 with fail
  go_step3
  go_upto_region 1 with fail
  generalize (w.alloc (.cells #[.int .i64 (M : Int), .slice a R.length c] 24)) = w0 at *
  have g1 := HB.out.cellv 1 (v := .slice a R.length c) rfl
  go_cut [4, 5] from 19 to 24 (fun v4 v5 wx => ∃ gf gl cl, v4 = .slice (some ⟨gf, 0, none⟩) R.length R.length ∧ v5 = .slice (some ⟨gl, 0, none⟩) M cl ∧ Hid (OwnG wx 3 w0.heap.size gf R.length R.length (List.replicate R.length 0)) ∧ Hid (OwnG wx 3 w0.heap.size gl M cl x) ∧ gf ≠ gl ∧ Ext w0 wx)
  case first =>
    go_region_held3 (fun w' => w'.cell? ⟨w.heap.size, 1, none⟩ = some (.slice a R.length c)) (first | assumption | go_keep)
      (first
        | (go_at_call 81
           refine (C81.out _ (hE0.trans' (by first | exact hXm | exact ext_drew _))).mono ?_
           rintro e wl ⟨gl, cl, rfl, hol, hXl0⟩
           have hXl : Ext w0 wl := by first | exact hXm.trans' hXl0 | exact (ext_drew _).trans' hXl0
           have gl1 := (HB.out.ext hXl).cellv 1 (v := .slice a R.length c) rfl)
        | (refine upon_make w0.heap.size 3 i0 (.int .i64 0) 1 Try.underlying25 Hi.out.1 Hi.out.2.1 Hi.out.2.2.1 (by rw [Hi.out.2.2.2]; omega) (by unfold maxLen; omega) (by first | exact hXl.size | exact (ext_drew _).size) ?_
           intro wm hom hgrow
           have hXm : Ext w0 wm := by first | exact hXl.trans' ((Below.refl _ _).grown hgrow (Nat.le_refl _) (by simp)) | exact (ext_drew _).trans' ((Below.refl _ _).grown hgrow (Nat.le_refl _) (by simp))
           have gm1 := (HB.out.ext hXm).cellv 1 (v := .slice a R.length c) rfl))
    · have hF := made_own hom
      have hF1 := hF.slot
      have hF2 := hol.slot
      go_wp2_with fail
      go_meet
      case rel => exact ⟨_, gl, cl, rfl, rfl, Lib.hid (hF.ext hXl0), Lib.hid (hol.base hXm.size), by simp at hF1 ⊢; omega, hXl⟩
    · have hF := made_own hom
      have hF2 := hol.slot
      have hlm : Ext wl wm := (Below.refl _ _).grown hgrow (Nat.le_refl _) (by simp)
      go_wp2_with fail
      go_meet
      case rel => exact ⟨_, gl, cl, rfl, rfl, Lib.hid hF, Lib.hid ((hol.base (ext_drew _).size).ext hlm), by omega, hXm⟩
  case rest =>
    obtain ⟨gf, gl, cl, rfl, rfl, HF, HL, hne, hX⟩ := hcut
    have hsF := HF.out.slot
    have hsL := HL.out.slot
    have hxM : x.length ≤ M ∧ M ≤ x.length := by omega
    clear hx hxl g1 C81
    go_wp2_with fail
    go_step3
    go_wp2_with fail
    go_loopg [4, 5] F (fun F' v4 v5 wr => ∃ f' l', v4 = .slice (some ⟨gf, 0, none⟩) R.length R.length ∧ v5 = .slice (some ⟨gl, 0, none⟩) M cl ∧ Hid (shipF M R F' f' l' = some (fl, lf)) ∧ Hid (OwnG wr 3 w0.heap.size gf R.length R.length f') ∧ Hid (OwnG wr 3 w0.heap.size gl M cl l') ∧ Ext w0 wr ∧ F' ≤ F ∧ Hid (∀ j, -(20 * ((F : Int) - F')) ≤ gi f' j ∧ gi f' j ≤ 20 * ((F : Int) - F')) ∧ Hid (∀ j, -(1000 + ((F : Int) - F')) ≤ gi l' j ∧ gi l' j ≤ 1000 + ((F : Int) - F')))
    case atStart => exact ⟨_, _, rfl, rfl, Hs, HF, HL, hX, Nat.le_refl _, Lib.hid (fun j => by rw [gi_rep]; omega), Lib.hid (fun j => by have := hxb j; omega)⟩
    case round =>
      obtain ⟨f', l', rfl, rfl, HS, KF, KL, hXr, hFF, HbF, HbL⟩ := hrel
      have hEr := hE0.trans' hXr
      have g0 := (HB.out.ext hXr).cellv 0 (v := .int .i64 (M : Int)) rfl
      have hzr := (HB.out.ext hXr).lt
      have hlM : l'.length ≤ M ∧ M ≤ l'.length := by have := KL.out.len; omega
      have hsF := KF.out.slot
      have hsL := KL.out.slot
      obtain ⟨wo, rfl⟩ : ∃ wo : World, wo = wr := ⟨_, rfl⟩
      go_wp2_with (at_make; refine wpList_make_full _ rfl (.tmp 26) (.tmp 26) 25 rfl wo.heap.size 3 i0 (.int .i64 0) 1 Try.underlying25 Hi.out.1 Hi.out.2.1 Hi.out.2.2.1 .i64 .i64 M M M rfl rfl rfl rfl (by rw [Hi.out.2.2.2]; omega) (by unfold maxLen; omega) (Nat.le_refl _) ?_; intro w2 hrow hgrow; have hX2 : Ext wo w2 := (Below.refl _ wo).grown hgrow (Nat.le_refl _) (by simp); have HG0 := Lib.hid (made_own hrow); clear hrow hgrow)
      have HG : Hid (OwnG w2 3 wo.heap.size wo.heap.size M M (firstTo l' 0)) := Lib.hid (by rw [firstTo_zero, KL.out.len]; exact HG0.out)
      have KF2 := Lib.hid (KF.out.ext hX2)
      have KL2 := Lib.hid (KL.out.ext hX2)
      have hX2r := hXr.trans' hX2
      clear HG0 g0 hzr
      go_loopw [30] (fun i wr => ∃ q : Nat, q ≤ M ∧ i = .int .i64 q ∧ Ext w0 wr ∧ Ext wo wr ∧ Hid (OwnG wr 3 wo.heap.size wo.heap.size M M (firstTo l' q)) ∧ Hid (OwnG wr 3 w0.heap.size gf R.length R.length f') ∧ Hid (OwnG wr 3 w0.heap.size gl M cl l')) (fun i _ => M - (intOf i).toNat)
      case atStart => exact ⟨0, Nat.zero_le _, rfl, hX2r, hX2, HG, KF2, KL2⟩
      case round =>
        obtain ⟨q, hq, rfl, hX3, hY3, HG, KF, KL⟩ := hrel
        by_cases hlt : q < M
        case neg =>
          obtain rfl : q = M := by omega
          have hfl : firstTo l' q = firstL l' := by unfold firstL; rw [KL.out.len]
          rw [hfl] at HG
          clear hfl
          have hE3 := hE0.trans' hX3
          have C76 := f76_c q a R.length c R (some ⟨gf, 0, none⟩) R.length R.length f' wo.heap.size 0 q (firstL l') wr (hl.ext hE3) rfl hok KF.out.ints KF.out.len KF.out.len HG.out.ints HG.out.len (fun i hi => firstL_bd (by omega))
          have HX : Hid (reachR q R f' (firstL l') = reachR q R f' (firstL l')) := Lib.hid rfl
          have g0 := (HB.out.ext hX3).cellv 0 (v := .int .i64 (q : Int)) rfl
          have g1 := (HB.out.ext hX3).cellv 1 (v := .slice a R.length c) rfl
          have hzr := (HB.out.ext hX3).lt
          have hsS := HG.out.slot
          have hsF3 := KF.out.slot
          have hsL3 := KL.out.slot
          generalize hXX : reachR q R f' (firstL l') = X at C76
          have HXX := Lib.hid hXX
          clear hXX HX HG
          obtain ⟨wi, rfl⟩ : ∃ wi : World, wi = wr := ⟨_, rfl⟩
          go_wp2_with fail
          refine C76.mono ?_
          clear C76
          rintro e w4 ⟨gA, cA, gB, rfl, hA, hB4, hAB, hX4⟩
          have hX5 := hX3.trans' hX4
          have KF4 := Lib.hid (KF.out.ext hX4)
          have KL4 := Lib.hid (KL.out.ext hX4)
          have KA4 := Lib.hid hA
          have KB4 := Lib.hid hB4
          have hgA := hA.slot
          have hgB := hB4.slot
          have hlA : X.at_.length ≤ q ∧ q ≤ X.at_.length := by have := hA.len; omega
          clear hA hB4 g0 g1 hzr KF KL
          go_wp2_with fail
          go_loopw [12, 51] (fun v i wr => ∃ s : Nat, s ≤ q ∧ i = .int .i64 s ∧ v = .int .i64 (bestTo l' X.at_ s) ∧ Ext w0 wr ∧ Hid (OwnG wr 3 w0.heap.size gf R.length R.length f') ∧ Hid (OwnG wr 3 w0.heap.size gl q cl l') ∧ Hid (OwnG wr 3 wi.heap.size gA q cA X.at_) ∧ Hid (OwnG wr 78 wi.heap.size gB q q X.by_)) (fun _ i _ => q - (intOf i).toNat)
          case atStart => exact ⟨0, Nat.zero_le _, rfl, rfl, hX5, KF4, KL4, KA4, KB4⟩
          case round =>
            obtain ⟨s, hs, rfl, rfl, hX7, KF, KL, KA, KB⟩ := hrel
            have hbb := bestTo_bd l' X.at_ s
            by_cases hlt : s < q
            case neg =>
              obtain rfl : s = q := by omega
              obtain ⟨F2, hF2, hstep⟩ := ship_step HS.out
              rw [HXX.out] at hstep
              by_cases hb : bestTo l' X.at_ s < 0
              · have e1 : decide (bestTo l' X.at_ s < 0) = true := decide_eq_true hb
                have hfl : fl = f' ∧ lf = l' := by
                  rcases hstep with ⟨_, h⟩ | ⟨h, _⟩
                  · exact Prod.mk.inj h
                  · exact absurd hb h
                have HR : Hid (RetShip R.length s fl lf w (.returned (.tuple #[.slice (some ⟨gf, 0, none⟩) R.length R.length, .slice (some ⟨gl, 0, none⟩) s cl])) wr) := Lib.hid ⟨gf, gl, cl, rfl, by rw [hfl.1]; exact KF.out.base hE0.size, by rw [hfl.2]; exact KL.out.base hE0.size, hne, hE0.trans' hX7⟩
                clear hstep hfl hF2
                generalize bestTo l' X.at_ s = bb at *
                go_wp2_with fail
                try rw [Exit.noGoto_ret]
                go_ret2
                exact HR.out
              obtain ⟨p, hp⟩ := Int.eq_ofNat_of_zero_le (show 0 ≤ bestTo l' X.at_ s by omega)
              rw [hp] at hstep hbb ⊢
              have e1 : decide ((p : Int) < 0) = false := decide_eq_false (by omega)
              rw [Int.toNat_natCast] at hstep
              obtain ⟨f2, i2, HC0, HS2⟩ : ∃ f2 i2, Hid (chain R X.by_ 20 p f' = some (f2, i2)) ∧ Hid (shipF s R F2 f2 (addAt (addAt l' p 1) i2 (-1)) = some (fl, lf)) := by
                rcases hstep with ⟨h, _⟩ | ⟨_, f2, i2, h1, h2⟩
                · omega
                · exact ⟨f2, i2, Lib.hid h1, Lib.hid h2⟩
              have HBy : Hid (ByOk s R.length X) := Lib.hid (by rw [← HXX.out]; exact reachR_by s R f' (firstL l'))
              clear hstep hb hp
              have hpl : p < l'.length := by have := KL.out.len; omega
              have c1 := KL.out.cell hpl
              rw [gi_def] at c1
              have b1 := HbL.out p
              have hz1 := KL.out.slot.1
              have hff := KL.out.froz p
              have KL2 : Hid (OwnG _ 3 w0.heap.size gl s cl (addAt l' p 1)) := Lib.hid (KL.out.store p (gi l' p + 1))
              have KF2 := Lib.hid (KF.out.other (g' := gl) (by omega) p (.int .i64 (gi l' p + 1)))
              have KB2 := Lib.hid (KB.out.other (g' := gl) (by omega) p (.int .i64 (gi l' p + 1)))
              have hX8 : Ext w0 _ := hX7.setCell (p := ⟨gl, p, none⟩) hsL.2.2 (.int .i64 (gi l' p + 1))
              generalize gi l' p = v at *
              go_wp2_with fail
              clear c1 hff hz1 KL KF KB KA hX7
              go_loopg [15] 20 (fun m v wr => ∃ (i : Nat) (fc : List Int), v = .int .i64 i ∧ i < s ∧ m ≤ 20 ∧ Hid (chain R X.by_ m i fc = some (f2, i2)) ∧ Ext w0 wr ∧ Hid (OwnG wr 3 w0.heap.size gf R.length R.length fc) ∧ Hid (OwnG wr 3 w0.heap.size gl s cl (addAt l' p 1)) ∧ Hid (OwnG wr 78 wi.heap.size gB s s X.by_) ∧ Hid (∀ j, gi f' j - (20 - m) ≤ gi fc j ∧ gi fc j ≤ gi f' j + (20 - m)))
              case atStart => exact ⟨p, f', rfl, by omega, Nat.le_refl _, HC0, hX8, KF2, KL2, KB2, Lib.hid (fun j => by omega)⟩
              case round =>
                obtain ⟨i, fc, rfl, hi, hm, HC, hX9, KF, KL, KB, HbC⟩ := hrel
                obtain ⟨m2, hm2, hq⟩ := chain_step HC.out
                have hiB : i < X.by_.length := by have := KB.out.len; omega
                have cb := KB.out.cell hiB
                rw [gi_def] at cb
                have hzB := KB.out.slot.1
                have hzL := KL.out.slot.1
                have hsin := HBy.out i hi
                by_cases hb0 : gi X.by_ i = 0
                · have e1 : (gi X.by_ i == 0) = true := by simpa using hb0
                  have hq2 : f2 = fc ∧ i2 = i := by
                    rcases hq with ⟨_, h⟩ | ⟨h, _⟩
                    · exact Prod.mk.inj h
                    · exact absurd hb0 h
                  have hil : i < (addAt l' p 1).length := by rw [addAt_length]; have := KL.out.len; rw [addAt_length] at this; omega
                  have c1 := KL.out.cell hil
                  rw [gi_def] at c1
                  have hfi := KL.out.froz i
                  have b2 := gi_addAt' l' p i 1
                  have b3 := HbL.out i
                  have KL3 : Hid (OwnG _ 3 w0.heap.size gl s cl (addAt (addAt l' p 1) i (-1))) := Lib.hid (KL.out.store i (gi (addAt l' p 1) i - 1))
                  have KF3 := Lib.hid (KF.out.other (g' := gl) (by omega) i (.int .i64 (gi (addAt l' p 1) i - 1)))
                  have hX10 : Ext w0 _ := hX9.setCell (p := ⟨gl, i, none⟩) hsL.2.2 (.int .i64 (gi (addAt l' p 1) i - 1))
                  have HbL2 : Hid (∀ j, -(1000 + ((F : Int) - F2)) ≤ gi (addAt (addAt l' p 1) i (-1)) j ∧ gi (addAt (addAt l' p 1) i (-1)) j ≤ 1000 + ((F : Int) - F2)) := Lib.hid (fun j => by have := addAt_bd l' p i j; have := HbL.out j; omega)
                  have HbF2 : Hid (∀ j, -(20 * ((F : Int) - F2)) ≤ gi fc j ∧ gi fc j ≤ 20 * ((F : Int) - F2)) := Lib.hid (fun j => by have := HbC.out j; have := HbF.out j; omega)
                  have HS3 : Hid (shipF s R F2 fc (addAt (addAt l' p 1) i (-1)) = some (fl, lf)) := Lib.hid (by have := HS2.out; rw [hq2.1, hq2.2] at this; exact this)
                  have bu : -100000 ≤ gi (addAt l' p 1) i ∧ gi (addAt l' p 1) i ≤ 100000 := by omega
                  clear hq hq2 hb0 hsin b2 b3
                  generalize gi (addAt l' p 1) i = u at *
                  generalize gi X.by_ i = y at *
                  go_wp2_with fail
                  go_roundg F2
                  case measure => omega
                  case rel => exact ⟨_, _, rfl, rfl, HS3, KF3, KL3, hX10, by omega, HbF2, HbL2⟩
                have hs2 : StepIn R.length (gi X.by_ i) := hsin.resolve_left hb0
                have HC2 : Hid (chain R X.by_ m2 (stFr R (gi X.by_ i)).toNat (turnF fc (gi X.by_ i)) = some (f2, i2)) := Lib.hid (by
                  rcases hq with ⟨h, _⟩ | ⟨_, h⟩
                  · exact absurd h hb0
                  · exact h)
                have e1 : (gi X.by_ i == 0) = false := by simpa using hb0
                have hE9 := hE0.trans' hX9
                have C73 := Lib.hid (fun x' : GW wr => f73_c (gi X.by_ i) s a R.length c R x'.world (hl.ext (hE9.trans' x'.ext)) rfl hok hs2)
                have C82 := Lib.hid (fun W (hW : OwnG W 3 w0.heap.size gf R.length R.length fc) => f82_c (gi X.by_ i) 3 w0.heap.size gf R.length R.length fc W hW hs2 (by omega) (by have := HbC.out (stepNo (gi X.by_ i)); have := HbF.out (stepNo (gi X.by_ i)); omega))
                have hfr := stFr_bd hok hs2
                have HbT := Lib.hid (fun j => turnF_bd fc (gi X.by_ i) j)
                have g0 := (HB.out.ext hX9).cellv 0 (v := .int .i64 (s : Int)) rfl
                have g1 := (HB.out.ext hX9).cellv 1 (v := .slice a R.length c) rfl
                have hzr := (HB.out.ext hX9).lt
                clear hq hb0 hsin hs2
                generalize hy : gi X.by_ i = y at *
                have Hy := Lib.hid hy
                clear hy
                obtain ⟨r, hr⟩ := Int.eq_ofNat_of_zero_le hfr.1
                rw [hr] at HC2 hfr C73
                rw [Int.toNat_natCast] at HC2
                clear hr
                go_wp2_with fail
                refine wp_region_ext (by kernel_rfl) (by kernel_rfl) ?_
                repeat (go_big_quiet_step ((go_at_call 73; exact quiet_ext (C73.out _))))
                refine wpQuiet_nil ?_
                intro w10 hX10
                have KF10 := Lib.hid (KF.out.ext hX10)
                have KL10 := Lib.hid (KL.out.ext hX10)
                have KB10 := Lib.hid (KB.out.ext hX10)
                have cb := KB10.out.cell hiB
                rw [gi_def, Hy.out] at cb
                have hzB2 := KB10.out.slot.1
                clear g0 g1 hzr
                go_wp2_with fail
                refine (C82.out _ KF10.out).mono ?_
                rintro e w11 ⟨rfl, hT⟩
                have KF11 := Lib.hid (hT.own KF10.out)
                have KL11 := Lib.hid (hT.other KL10.out (by omega))
                have KB11 := Lib.hid (hT.other KB10.out (by omega))
                have hX11 := hT.ext (hX9.trans' hX10) hsF.2.2
                clear hT cb
                go_wp2_with fail
                go_roundg m2
                case measure => omega
                case rel => exact ⟨r, _, rfl, by omega, by omega, HC2, hX11, KF11, KL11, KB11, Lib.hid (fun j => by have := HbT.out j; have := HbC.out j; omega)⟩
            have c1 := KL.out.cell (i := s) (by omega)
            have c2 := KA.out.cell (i := s) (by omega)
            rw [gi_def] at c1 c2
            have hz1 := KL.out.slot.1
            have hz2 := KA.out.slot.1
            by_cases d1 : gi l' s < 0
            case neg =>
              have e1 : decide (gi l' s < 0) = false := decide_eq_false d1
              have Hst := Lib.hid (best_no1 (a := X.at_) d1)
              generalize gi l' s = v at *
              generalize gi X.at_ s = u at *
              generalize bestTo l' X.at_ s = bb at *
              go_wp2_with fail
              refine wp_region_ext (by kernel_rfl) (by kernel_rfl) ?_
              repeat (go_big_quiet_step (fail))
              refine wpQuiet_nil ?_
              intro w8 hX8
              go_wp2_with fail
              go_roundw
              case rel => exact ⟨s + 1, by omega, by go_num, by rw [Hst.out], hX7.trans' hX8, Lib.hid (KF.out.ext hX8), Lib.hid (KL.out.ext hX8), Lib.hid (KA.out.ext hX8), Lib.hid (KB.out.ext hX8)⟩
              case measure => simp [intOf]; omega
            have e1 : decide (gi l' s < 0) = true := decide_eq_true d1
            by_cases d2 : gi X.at_ s < 1099511627776
            case neg =>
              have e2 : decide (gi X.at_ s < 1099511627776) = false := decide_eq_false d2
              have Hst := Lib.hid (best_no2 (l := l') d2)
              generalize gi l' s = v at *
              generalize gi X.at_ s = u at *
              generalize bestTo l' X.at_ s = bb at *
              go_wp2_with fail
              refine wp_region_ext (by kernel_rfl) (by kernel_rfl) ?_
              repeat (go_big_quiet_step (fail))
              refine wpQuiet_nil ?_
              intro w8 hX8
              go_wp2_with fail
              go_roundw
              case rel => exact ⟨s + 1, by omega, by go_num, by rw [Hst.out], hX7.trans' hX8, Lib.hid (KF.out.ext hX8), Lib.hid (KL.out.ext hX8), Lib.hid (KA.out.ext hX8), Lib.hid (KB.out.ext hX8)⟩
              case measure => simp [intOf]; omega
            have e2 : decide (gi X.at_ s < 1099511627776) = true := decide_eq_true d2
            by_cases d3 : bestTo l' X.at_ s < 0
            · have e3 : decide (bestTo l' X.at_ s < 0) = true := decide_eq_true d3
              have Hst := Lib.hid (best_yes1 d1 d2 d3)
              generalize gi l' s = v at *
              generalize gi X.at_ s = u at *
              generalize bestTo l' X.at_ s = bb at *
              go_wp2_with fail
              refine wp_region_ext (by kernel_rfl) (by kernel_rfl) ?_
              repeat (go_big_quiet_step (fail))
              refine wpQuiet_nil ?_
              intro w8 hX8
              go_wp2_with fail
              go_roundw
              case rel => exact ⟨s + 1, by omega, by go_num, by rw [Hst.out], hX7.trans' hX8, Lib.hid (KF.out.ext hX8), Lib.hid (KL.out.ext hX8), Lib.hid (KA.out.ext hX8), Lib.hid (KB.out.ext hX8)⟩
              case measure => simp [intOf]; omega
            · have e3 : decide (bestTo l' X.at_ s < 0) = false := decide_eq_false d3
              obtain ⟨p, hp⟩ := Int.eq_ofNat_of_zero_le (show 0 ≤ bestTo l' X.at_ s by omega)
              have hpq : p < X.at_.length := by omega
              have c3 := KA.out.cell hpq
              rw [gi_def] at c3
              by_cases d4 : gi X.at_ s < gi X.at_ p
              · have e4 : decide (gi X.at_ s < gi X.at_ p) = true := decide_eq_true d4
                have Hst := Lib.hid (best_yes2 d1 d2 hp d4)
                rw [hp] at e3 ⊢
                clear hp d3 hbb
                generalize gi X.at_ p = z at *
                generalize gi l' s = v at *
                generalize gi X.at_ s = u at *
                go_wp2_with fail
                refine wp_region_ext (by kernel_rfl) (by kernel_rfl) ?_
                repeat (go_big_quiet_step (fail))
                refine wpQuiet_nil ?_
                intro w8 hX8
                go_wp2_with fail
                go_roundw
                case rel => exact ⟨s + 1, by omega, by go_num, by rw [Hst.out], hX7.trans' hX8, Lib.hid (KF.out.ext hX8), Lib.hid (KL.out.ext hX8), Lib.hid (KA.out.ext hX8), Lib.hid (KB.out.ext hX8)⟩
                case measure => simp [intOf]; omega
              · have e4 : decide (gi X.at_ s < gi X.at_ p) = false := decide_eq_false d4
                have Hst := Lib.hid (best_no3 hp d4)
                rw [hp] at e3 ⊢
                clear hp d3 hbb
                generalize gi X.at_ p = z at *
                generalize gi l' s = v at *
                generalize gi X.at_ s = u at *
                go_wp2_with fail
                refine wp_region_ext (by kernel_rfl) (by kernel_rfl) ?_
                repeat (go_big_quiet_step (fail))
                refine wpQuiet_nil ?_
                intro w8 hX8
                go_wp2_with fail
                go_roundw
                case rel => exact ⟨s + 1, by omega, by go_num, by rw [Hst.out], hX7.trans' hX8, Lib.hid (KF.out.ext hX8), Lib.hid (KL.out.ext hX8), Lib.hid (KA.out.ext hX8), Lib.hid (KB.out.ext hX8)⟩
                case measure => simp [intOf]; omega
        have c1 := KL.out.cell (i := q) (by omega)
        rw [gi_def] at c1
        have hz1 := KL.out.slot.1
        have hz2 := HG.out.slot.1
        have hff := HG.out.froz q
        have c2 := HG.out.cell (i := q) (by rw [firstTo_length]; omega)
        rw [gi_def] at c2
        by_cases hx0 : gi l' q ≤ 0
        · have hd : decide (gi l' q ≤ 0) = true := decide_eq_true hx0
          have HG2 := Lib.hid (HG.out.store q 1099511627776)
          rw [firstTo_far hx0] at HG2
          have KF2 := Lib.hid (KF.out.other (g' := wo.heap.size) (by omega) q (.int .i64 1099511627776))
          have KL2 := Lib.hid (KL.out.other (g' := wo.heap.size) (by omega) q (.int .i64 1099511627776))
          have hX4 : Ext w0 _ := hX3.setCell (p := ⟨wo.heap.size, q, none⟩) hXr.size (.int .i64 1099511627776)
          have hY4 : Ext wo _ := hY3.setCell (p := ⟨wo.heap.size, q, none⟩) (Nat.le_refl _) (.int .i64 1099511627776)
          generalize gi (firstTo l' q) q = y at *
          generalize gi l' q = v at *
          go_wp2_with fail
          go_roundw
          case rel => exact ⟨q + 1, by omega, by go_num, hX4, hY4, HG2, KF2, KL2⟩
          case measure => simp [intOf]; omega
        · have hd : decide (gi l' q ≤ 0) = false := decide_eq_false hx0
          rw [← firstTo_near hx0] at HG
          generalize gi (firstTo l' q) q = y at *
          generalize gi l' q = v at *
          go_wp2_with fail
          go_roundw
          case rel => exact ⟨q + 1, by omega, by go_num, hX3, hY3, HG, KF, KL⟩
          case measure => simp [intOf]; omega
end Go.Proofs.Ytbejgbflipoboaa
