/- follow, the closure of Paths. -/
import Derived.Test.YtikddknhcfhnbaaF1
import Derived.StillTailTactics
namespace Go.Proofs.Ytikddknhcfhnbaa
open Go.RowKit Go.Deep
/-- what follow asks -/
structure FolA (N B : Nat) (w : World) (n : NetD) (V : Nat) (lf : Nat → Int) (Y : Nat → Value) (bn bm bg bl bp bf bu g lk cl base : Nat) (met : Nat → Bool) (path : List Int) (v : Nat) : Prop where
  f : FFW N B w n V lf Y bn bm bg bl bp bf bu g lk cl base
  d : DFW B w V bu bp met path
  lt : v < V
  un : met v = false
  snk : met (V - 1) = false
  len : path.length + cntF met V ≤ V
def FolW (N B : Nat) (w : World) (n : NetD) (V : Nat) (lf : Nat → Int) (bu bp : Nat) (met : Nat → Bool) (path : List Int) (v : Nat) (e : Ending) (w' : World) : Prop :=
  ∃ met', KF N B bu bp w w' ∧ ((e = .returned (.bool true) ∧ ∃ p, SP n V lf met v p ∧ DFW B w' V bu bp met' (path ++ p)) ∨ (e = .returned (.bool false) ∧ FolN n V lf v met met' ∧ DFW B w' V bu bp met' path))
set_option maxRecDepth 20000 in
set_option maxHeartbeats 4000000 in
theorem fol_any (N B : Nat) (n : NetD) (V : Nat) (lf : Nat → Int) (Y : Nat → Value) (bn bm bg bl bp bf bu g lk cl base : Nat) (hn : NOk n V) (hl0 : ∀ i, i < n.arcs.length → 0 ≤ lf i) : ∀ (d : Nat) (w : World) (met : Nat → Bool) (path : List Int) (v : Nat),
    FolA N B w n V lf Y bn bm bg bl bp bf bu g lk cl base met path v → cntF met V ≤ d →
    Calls Try.prog 32 #[.int .i64 (v : Int), .pointer (some ⟨bn, 0, none⟩), .pointer (some ⟨bm, 0, none⟩), .pointer (some ⟨bg, 0, none⟩), .pointer (some ⟨bl, 0, none⟩), .pointer (some ⟨bp, 0, none⟩), .pointer (some ⟨bf, 0, none⟩)] w (FolW N B w n V lf bu bp met path v) := by
  intro d
  induction d with
  | zero =>
    intro w met path v ha hd
    have := (cntF_upd ha.un (k := V)).1 ha.lt
    exact absurd hd (by omega)
  | succ d ih =>
    intro w met path v ha hd
    have HIH := Lib.hid ih
    have HA := Lib.hid ha
    have HN := Lib.hid hn
    have HL0 := Lib.hid hl0
    have HD := Lib.hid hd
    obtain ⟨va, hnb, hva⟩ := ha.f.nb
    have n0 : w.cell? ⟨bn, 0, none⟩ = some (.int .i64 (V : Int)) := cell_of hnb rfl
    have hV := hn.lo
    have hV5 := hn.hi
    have hvV := ha.lt
    have hwV : IntKind.i64.wrap ((V : Int) - 1) = (V : Int) - 1 := IntWalk.i64_in _ (by omega)
    clear ih hn hl0 hd hnb hva
    by_cases hvs : (v : Int) = (V : Int) - 1
    · clear ha
      go_enter Try.func32, Try.ntmps32
      go_wp2_with fail
      go_ret
      obtain rfl : v = V - 1 := by omega
      exact ⟨met, KF.refl _ _ _ _ _, .inl ⟨rfl, [], .nil _, by rw [List.append_nil]; exact HA.out.d⟩⟩
    · have hve : ((v : Int) == (V : Int) - 1) = false := by simpa using hvs
      have m0 : w.cell? ⟨bm, 0, none⟩ = some (.slice (some ⟨bu, 0, none⟩) V V) := cell_of ha.f.mb rfl
      have hcm := ha.d.met.cell hvV
      have hfm := ha.d.met.frozen v
      have hvI : (v : Int) < (V : Int) := by omega
      have hv0 : (0 : Int) ≤ (v : Int) := by omega
      clear ha
      go_enter Try.func32, Try.ntmps32
      go_upto_region 4 with fail
      refine nameC fun W1 hW1 => ?_
      have HD1 : Hid (DFW B W1 V bu bp (updV met v true) path) := Lib.hid (by rw [hW1.out]; exact HA.out.d.meet HA.out.f.bb.2.2.2.2.1 HA.out.f.bb.2.2.1 v)
      have HK1 : Hid (KF N B bu bp w W1) := Lib.hid (by rw [hW1.out]; exact (KF.refl _ _ _ _ _).setCell (.inl rfl) HA.out.f.bb.1 _ _)
      have HF1 := Lib.hid (HA.out.f.kf HK1.out)
      obtain ⟨l, hl⟩ : ∃ l, l = fromT n.arcs n.arcs.length v := ⟨_, rfl⟩
      have hown := HF1.out.adj.own v hvV
      have hca := HF1.out.adj.cell (v := v) hvV
      rw [← hl] at hown
      obtain ⟨Av, dv, hxv⟩ := own_sl hown
      rw [hxv] at hown hca
      have HI := Lib.hid (IsInts.ofOwn hown)
      have HO := Lib.hid hown
      have HX := Lib.hid hxv
      have hll : l.length ≤ 4096 := by rw [hl]; have := fromT_len n.arcs n.arcs.length v; have := HN.out.len; omega
      have HLL := Lib.hid hl
      have g1 : W1.cell? ⟨bg, 0, none⟩ = some (.slice (some ⟨g, 0, none⟩) V V) := cell_of HF1.out.gb rfl
      have HLS : Hid (FolL n V lf v met (updV met v true) (fun x => x ∈ l.take 0)) := Lib.hid (FolL.start HA.out.snk (by omega) fun x hx => by simp at hx)
      clear hW1 hl hown hxv n0 m0 hcm hfm hve
      go_wp2_with fail
      clear hca g1
      go_loopg [24] l.length (fun gk q24 wr => ∃ (k : Nat) (met' : Nat → Bool), k ≤ l.length ∧ gk = l.length - k ∧ q24 = .int .i64 (k : Int) ∧ Hid (KF N B bu bp w wr) ∧ Hid (DFW B wr V bu bp met' path) ∧ Hid (FolL n V lf v met met' (fun x => x ∈ l.take k)))
      case atStart => exact ⟨0, _, Nat.zero_le _, rfl, rfl, HK1, HD1, HLS⟩
      case round =>
        obtain ⟨k, met', hk, hgk, rfl, HK, HDW, HL⟩ := hrel
        have HF := Lib.hid (HA.out.f.kf HK.out)
        by_cases hkl : k < l.length
        · have hkI : (k : Int) < (l.length : Int) := by omega
          have hk0 : (0 : Int) ≤ (k : Int) := by omega
          have hown := HF.out.adj.own v hvV
          rw [HX.out, show fromT n.arcs n.arcs.length v = l from HLL.out.symm] at hown
          obtain ⟨ba, oa, rfl, hba, hcz⟩ := (IsInts.ofOwn hown).at_ (Below.refl _ _) hkl
          have hmem : nthI l k ∈ fromT n.arcs n.arcs.length v := by rw [← HLL.out, nthI_get hkl]; exact List.getElem_mem hkl
          obtain ⟨j, hj, hjx, hjs⟩ := (fromT_mem HN.out (Nat.le_refl _)).1 hmem
          rw [hjx] at hcz
          have HT : Hid (∀ x, x ∈ l.take (k + 1) → x ∈ l.take k ∨ x = (j : Int)) := Lib.hid fun x hx => by
            rw [List.take_succ_eq_append_getElem hkl, List.mem_append, List.mem_singleton, ← nthI_get hkl, hjx] at hx
            exact hx
          obtain ⟨a, b, cp, harc, haV, hb0, hbV, hab, hcp⟩ := HN.out.arc j hj
          have HJ := Lib.hid hj
          have HJS := Lib.hid hjs
          have HARC := Lib.hid harc
          obtain ⟨va, hnb, hva⟩ := HF.out.nb
          obtain ⟨Aa, ca, rfl, -⟩ := id hva
          obtain ⟨bb, ob, rfl, hbb, e0, e1, e2⟩ := IsArcs.at_ hva (Below.refl _ _) hj
          rw [harc] at e0 e1 e2
          dsimp only at e0 e1 e2
          have n1 : wr.cell? ⟨bn, 1, none⟩ = some (.slice (some ⟨bb, ob, none⟩) n.arcs.length ca) := cell_of hnb rfl
          have l1 : wr.cell? ⟨bl, 0, none⟩ = some (.slice (some ⟨lk, 0, none⟩) n.arcs.length cl) := cell_of HF.out.lb rfl
          have m1 : wr.cell? ⟨bm, 0, none⟩ = some (.slice (some ⟨bu, 0, none⟩) V V) := cell_of HF.out.mb rfl
          have lj : wr.cell? ⟨lk, j, none⟩ = some (.int .i64 (lf j)) := by obtain ⟨cs, t, h1, h2⟩ := HF.out.lr; exact cell_of h1 (h2 j hj)
          have mt := HDW.out.met.cell hbV
          have hjI : (j : Int) < (n.arcs.length : Int) := by omega
          have hj0 : (0 : Int) ≤ (j : Int) := by omega
          have hbI : (b : Int) < (V : Int) := by omega
          have hb00 : (0 : Int) ≤ (b : Int) := by omega
          obtain ⟨x, hx⟩ : ∃ x, x = lf j := ⟨_, rfl⟩
          rw [← hx] at lj
          have HXJ := Lib.hid hx
          have hx0 : 0 ≤ x := by rw [hx]; exact HL0.out j hj
          clear hown hmem hjx hj hjs harc hva hnb hx hab hcp hb0 haV e0 e2
          by_cases hz : x = 0
          · subst hz
            have HL2 := Lib.hid (HL.out.skip (t' := fun x => x ∈ l.take (k + 1)) HT.out fun h0 => by rw [← HXJ.out] at h0; omega)
            go_upto_region 7 with fail
            go_quiet (fail)
            go_wp2_with fail
            go_roundg (l.length - (k + 1))
            case measure => omega
            case rel => exact ⟨k + 1, met', by omega, rfl, by go_num, Lib.hid (HK.out.drewN _), Lib.hid (HDW.out.below (below_drewN (Below.refl _ _) _)), HL2⟩
          have hxz : (x == 0) = false := by simpa using hz
          cases hmb : met' b
          · rw [hmb] at mt
            have hme : b ≠ V - 1 ∨ b = V - 1 := by omega
            have HMB := Lib.hid hmb
            have hcm := (cntF_upd HA.out.un (k := V)).1 hvV
            have hcm2 := cntF_mono (B := updV met v true) (B' := met') (fun u hu => by
              by_cases e : u = v
              · subst e; exact HL.out.own
              · rw [updV_other e] at hu; exact HL.out.mono u hu) V
            have hlen := HA.out.len
            have HLEN : Hid ((path ++ [(j : Int)]).length + cntF met' V ≤ V) := Lib.hid (by rw [List.length_append]; simp; omega)
            have HCNT : Hid (cntF met' V ≤ d) := Lib.hid (by have := HD.out; omega)
            have hpl : path.length < 100000 := by omega
            clear hcm hcm2 hlen hmb
            go_upto_region 7 with fail
            go_quiet (fail)
            go_upto_region 8 with fail
            refine nameC fun W5 hW5 => ?_
            have HK5 : Hid (KF N B bu bp w W5) := Lib.hid (by rw [hW5.out]; exact HK.out.drewN _)
            have HD5 : Hid (DFW B W5 V bu bp met' path) := Lib.hid (by rw [hW5.out]; exact HDW.out.below (below_drewN (Below.refl _ _) _))
            obtain ⟨pv, p1, p2⟩ := HD5.out.pth
            obtain ⟨Ap, dp, rfl⟩ := own_sl p2
            have HP2 := Lib.hid p2
            have p0 : W5.cell? ⟨bp, 0, none⟩ = some (.slice Ap path.length dp) := cell_of p1 rfl
            have hbpl := lt_heap p1
            have HBS := Lib.hid HD5.out.sz
            have HP1 := Lib.hid p1
            clear hW5 p1 p2 n1 l1 m1 lj mt e1 hcz
            go_upto_region 9 with (refine wpList_int rfl (.tmp 44) (.tmp 46) rfl B path (j : Int) (v := .slice Ap path.length dp) rfl (World.ownsRow.alloc HP2.out _) rfl (cell_new1 _ _ _) hpl (Nat.le_trans HBS.out (by simp)) ?_; intro A9 d9 w9 H9; have HB9 := Lib.hid (((Below.refl B W5).alloc HBS.out _).trans H9.out.2.1); have e9 : w9.heap[bp]? = some (.cells #[.slice Ap path.length dp] 25 (0, 0)) := (HB9.out.block bp HA.out.f.bb.2.2.2.1).trans HP1.out; have p9 : w9.cell? ⟨bp, 0, none⟩ = some (.slice Ap path.length dp) := cell_of e9 rfl; have f9 : w9.frozen? ⟨bp, 0, none⟩ = false := frz_at e9; clear e9)
            refine nameC fun W6 hW6 => ?_
            have HK6 : Hid (KF N B bu bp w W6) := Lib.hid (by rw [hW6.out]; exact ((HK5.out.trans (KF.ofB HA.out.f.bb.2.2.2.2.2 HB9.out))).setCell (.inr (.inl rfl)) HA.out.f.bb.2.1 _ _)
            have HD6 : Hid (DFW B W6 V bu bp met' (path ++ [(j : Int)])) := Lib.hid (by
              rw [hW6.out]
              refine HD5.out.setP HA.out.f.bb.2.2.2.2.1 ⟨HA.out.f.bb.2.2.1, HA.out.f.bb.2.2.2.1⟩ (fun k hk => HB9.out.block k hk) ?_ (Nat.le_trans HBS.out HB9.out.size)
              have := H9.out.1
              rw [List.length_append] at this ⊢
              exact this)
            have HF6 := Lib.hid (HA.out.f.kf HK6.out)
            have CF := Lib.hid (HIH.out W6.drew met' (path ++ [(j : Int)]) b ⟨HF6.out.kf (KF.refl _ _ _ _ _).drew, HD6.out.below (below_drewN (Below.refl _ _) 1), hbV, HMB.out, HL.out.snk, HLEN.out⟩ HCNT.out)
            obtain ⟨va6, hnb6, hva6⟩ := HF6.out.nb
            obtain ⟨Aa6, ca6, rfl, -⟩ := id hva6
            obtain ⟨b6, o6, rfl, hb6, e0, e1, e2⟩ := IsArcs.at_ hva6 (Below.refl _ _) HJ.out
            rw [HARC.out] at e1
            dsimp only at e1
            have n6 : W6.cell? ⟨bn, 1, none⟩ = some (.slice (some ⟨b6, o6, none⟩) n.arcs.length ca6) := cell_of hnb6 rfl
            have t6 : W6.cell? ⟨bf, 0, none⟩ = some (.func (.func 32) #[] #[.pointer (some ⟨bn, 0, none⟩), .pointer (some ⟨bm, 0, none⟩), .pointer (some ⟨bg, 0, none⟩), .pointer (some ⟨bl, 0, none⟩), .pointer (some ⟨bp, 0, none⟩), .pointer (some ⟨bf, 0, none⟩)]) := cell_of HF6.out.fb rfl
            clear hW6 hnb6 hva6 e0 e2 p9 f9 p0 HP1 HP2 HK5 HD5 H9 HB9
            go_still_tail 7, (by kernel_rfl)
            change wpList _ _ _ _ _ W6.drew
            go_wp2_with fail
            refine CF.out.mono ?_
            rintro e w7 ⟨met7, hk7, hor⟩
            have HK7 := Lib.hid (HK6.out.drew.trans hk7)
            have HF7 := Lib.hid (HA.out.f.kf HK7.out)
            clear hk7 CF n6 t6 e1
            rcases hor with ⟨rfl, p, hsp, hd7⟩ | ⟨rfl, hfn, hd7⟩
            · have HSP := Lib.hid hsp
              have HD7 := Lib.hid hd7
              clear hsp hd7
              go_wp2_with fail
              go_ret
              refine ⟨met7, HK7.out, .inl ⟨rfl, (j : Int) :: p, ?_, by have := HD7.out; rwa [List.append_assoc] at this⟩⟩
              refine .cons HJ.out HJS.out (by rw [HARC.out]) (by rw [← HXJ.out]; omega) ?_ ?_ (HSP.out.anti fun u hu => ?_)
              · rw [← Bool.not_eq_true]
                intro hb
                have := HL.out.mono b hb
                rw [HMB.out] at this
                cases this
              · rintro rfl
                have := HL.out.own
                rw [HMB.out] at this
                cases this
              · by_cases e : u = v
                · subst e; exact HL.out.own
                · rw [updV_other e] at hu; exact HL.out.mono u hu
            · have HFN := Lib.hid hfn
              have HD7 := Lib.hid hd7
              have HL2 := Lib.hid (HL.out.deep (t' := fun x => x ∈ l.take (k + 1)) (j := j) HT.out (by rw [HARC.out]) hfn)
              obtain ⟨pv, p1, p2⟩ := hd7.pth
              have hle : (path ++ [(j : Int)]).length = path.length + 1 := by rw [List.length_append]; rfl
              obtain ⟨A7, d7, rfl⟩ := own_sl p2
              rw [hle] at p1
              have HP2 := Lib.hid p2
              obtain ⟨g7, rfl, hcap⟩ : ∃ g, A7 = some ⟨g, 0, none⟩ ∧ path.length + 1 ≤ d7 := by
                rcases p2.2 with ⟨-, e⟩ | ⟨g, cap, cur, e, -, -, h4, -⟩
                · rw [hle] at e; omega
                · injection e with e1 e2 e3; rw [hle] at h4; exact ⟨g, e1, by omega⟩
              have hc1 : path.length ≤ d7 := by omega
              have hc2 : ¬ d7 = 0 := by omega
              have hc3 : ((path.length : Nat) : Int) ≤ (d7 : Int) := by omega
              have hc4 : (0 : Int) ≤ ((path.length : Nat) : Int) := by omega
              have p0 : w7.cell? ⟨bp, 0, none⟩ = some (.slice (some ⟨g7, 0, none⟩) (path.length + 1) d7) := cell_of p1 rfl
              have f7 : w7.frozen? ⟨bp, 0, none⟩ = false := frz_at p1
              have hwp : IntKind.i64.wrap (((path.length + 1 : Nat) : Int) - 1) = (path.length : Int) := by rw [show ((path.length + 1 : Nat) : Int) - 1 = (path.length : Int) by omega]; exact IntWalk.i64_in _ (by omega)
              clear hfn hd7 p1 p2 hle
              go_wp2_with fail
              have hP := own_pop HP2.out
              have HD8 := Lib.hid (HD7.out.setP HF7.out.bb.2.2.2.2.1 ⟨HF7.out.bb.2.2.1, HF7.out.bb.2.2.2.1⟩ (fun _ _ => rfl) hP HD7.out.sz)
              have HK8 := Lib.hid (HK7.out.setCell (b := bp) (.inr (.inl rfl)) HF7.out.bb.2.1 0 (.slice (some ⟨g7, 0, none⟩) path.length d7))
              clear hP
              go_roundg (l.length - (k + 1))
              case measure => omega
              case rel => exact ⟨k + 1, met7, by omega, rfl, by go_num, HK8, HD8, HL2⟩
          · rw [hmb] at mt
            have HL2 := Lib.hid (HL.out.skip (t' := fun x => x ∈ l.take (k + 1)) HT.out fun _ => by rw [HARC.out]; exact hmb)
            clear hmb
            go_upto_region 7 with fail
            go_quiet (fail)
            go_wp2_with fail
            go_roundg (l.length - (k + 1))
            case measure => omega
            case rel => exact ⟨k + 1, met', by omega, rfl, by go_num, Lib.hid (HK.out.drewN _), Lib.hid (HDW.out.below (below_drewN (Below.refl _ _) _)), HL2⟩
        · have hnl : ¬ (k : Int) < (l.length : Int) := by omega
          obtain rfl : k = l.length := by omega
          go_wp2_with fail
          go_ret
          have HFN := HL.out.fin fun i hi hs => by rw [List.take_length, HLL.out, fromT_mem HN.out (Nat.le_refl _)]; exact ⟨i, hi, rfl, hs⟩
          exact ⟨met', HK.out, .inr ⟨rfl, HFN, HDW.out⟩⟩
end Go.Proofs.Ytikddknhcfhnbaa
