/-
  The law ReplyServ: for every ask, chain and limit, the call returns true, and its arguments read afterwards as they read before. No condition.
-/
import Derived.Test.YtaifmmemfmapkaaGreatTm
import Derived.Test.YtaifmmemfmapkaaGreatRows
namespace Go.Proofs.YtaifmmemfmapkaaGreat
open Go.Abs Go.Abs.R Go.RowKit Go.ChangeShapes Go.WideShapes Go.ChangeAt Go.ChangeMaps
theorem p130 : PureOk Tryz.prog 130 g102 := s130.ok (EY_ok okN) Tryz.func130 ok130
theorem p107 : PureOk Tryz.prog 107 g107 := s107.ok (EY_ok okN) Tryz.func107 ok107
theorem p116 : PureOk Tryz.prog 116 g116 := s116.ok (EY_ok okN) Tryz.func116 ok116
theorem p78 : PureOk Tryz.prog 78 g78 := s78.ok (EY_ok (okC p116 okN)) Tryz.func78 ok78
theorem p126 : PureOk Tryz.prog 126 g126 := s126.ok (EY_ok (okC p125 (okC p78 (okC p130 (okC p107 okN))))) Tryz.func126 ok126
theorem p109 : PureOk Tryz.prog 109 g109 := s109.ok (EY_ok (okC p126 (okC p78 (okC p130 (okC p107 okN))))) Tryz.func109 ok109
theorem k18c : ∀ p ∈ T18c, PureOk Tryz.prog p.1 p.2 := okC p109 (okC p78 (okC p107 okN))
theorem p108 : PureOk Tryz.prog 108 g108 := s108.ok (EY_ok k18c) Tryz.func108 ok108
theorem p110 : PureOk Tryz.prog 110 g110 := s110.ok (EY_ok k18c) Tryz.func110 ok110
theorem p99r : PureOk Tryz.prog 99 g99r := s99r.ok (EY_ok (okC p108 okN)) Tryz.func99 ok99
theorem p101r : PureOk Tryz.prog 101 g101r := s101r.ok (EY_ok (okC p99r okN)) Tryz.func101 ok101
theorem p131 : PureOk Tryz.prog 131 g131 := s131.ok (EY_ok (okC p110 okN)) Tryz.func131 ok131
theorem p111 : PureOk Tryz.prog 111 g111 := s111.ok (EY_ok (okC p131 okN)) Tryz.func111 ok111
theorem p70 : PureOk Tryz.prog 70 g70 := s70.ok (EY_ok (okC p95 okN)) Tryz.func70 ok70
theorem p112 : PureOk Tryz.prog 112 g112 := s112.ok (EY_ok (okC p78 (okC p109 (okC p70 okN)))) Tryz.func112 ok112
theorem p72 : PureOk Tryz.prog 72 g72 := s72.ok (EY_ok (okC p112 (okC p109 (okC p70 okN)))) Tryz.func72 ok72
theorem k22 : ∀ p ∈ T22, PureOk Tryz.prog p.1 p.2 := okC p61 (okC p63 okN)
theorem p39 : PureOk Tryz.prog 39 g39 := s39.ok (EY_ok k22) Tryz.func39 ok39
theorem p106 : PureOk Tryz.prog 106 g106 := s106.ok (EY_ok (okC p39 okN)) Tryz.func106 ok106
theorem p32b : PureOk Tryz.prog 32 g32b := s32b.ok (EY_ok k22) Tryz.func32 ok32
theorem p67 : PureOk Tryz.prog 67 g67 := s67.ok (EY_ok (okC p106 (okC p32b okN))) Tryz.func67 ok67
theorem p68 : PureOk Tryz.prog 68 g68 := s68.ok (EY_ok (okC p102 (okC p67 okN))) Tryz.func68 ok68
theorem p37r : PureOk Tryz.prog 37 g37r := s37r.ok (EY_ok (okC p68 (okC p67 okN))) Tryz.func37 ok37
theorem p69 : PureOk Tryz.prog 69 g69 := s69.ok (EY_ok (okC p107 (okC p101r (okC p111 okN)))) Tryz.func69 ok69
theorem p40 : PureOk Tryz.prog 40 g40 := s40.ok (EY_ok (okC p69 (okC p70 (okC p72 okN)))) Tryz.func40 ok40
theorem p19 : PureOk Tryz.prog 19 g19 := s19.ok (EY_ok (okC p37r (okC p40 okN))) Tryz.func19 ok19
theorem p34 : PureOk Tryz.prog 34 g34 := s34.ok (EY_ok okN) Tryz.func34 ok34
theorem p12 : PureOk Tryz.prog 12 g12 := s12.ok (EY_ok (okC p34 okN)) Tryz.func12 ok12
theorem p15 : PureOk Tryz.prog 15 g15 := s15.ok (EY_ok okN) Tryz.func15 ok15
theorem p16 : PureOk Tryz.prog 16 g16 := s16.ok (EY_ok okN) Tryz.func16 ok16
theorem p14 : PureOk Tryz.prog 14 g14 := s14.ok (EY_ok (okC p19 okN)) Tryz.func14 ok14
theorem k31 : ∀ p ∈ T31, PureOk Tryz.prog p.1 p.2 := okC p12 (okC p15 (okC p16 (okC p14 (okC p19 (okC p9 okN)))))
theorem serv_own : ownKnob Tryz.prog.godebug = none := by kernel_rfl
theorem serv_laid : laidOutB Tryz.prog = true := by kernel_rfl
theorem serv_read : (Tryz.f6.params.toList.all fun t => Tryz.prog.readableRec t && decide (t < Tryz.prog.types.size)) = true := by kernel_rfl
set_option maxRecDepth 100000 in
theorem serv_lifted (os : Os) (started : os.Started) (H : Type) (enc : TypeId × Value → H) :
    ReturnsInHanded {} Tryz.checked os 6 .any (Rows.replyServSpec.pre6 enc Tryz.prog Tryz.f6 Rows.replyServRow.domain false) (Rows.replyServSpec.post enc Tryz.prog Tryz.f6 false true false false) := by
  refine returnsInHanded_of_change (C := Tryz.checked) serv_own started (by kernel_rfl) Tryz.func6
    (ChangeSpec.witness6 (enc := enc) (C := Tryz.checked) false ⟨#[], #[.agg #[.int .i64 0, .int .i64 0, .string ⟨#[]⟩, .int .i64 0, .int .i64 0, .bool false, .int .i64 0, .int .i64 0, .int .i64 0, .bool false], .agg #[.slice none 0 0, .int .i64 0, .string ⟨#[]⟩, .string ⟨#[]⟩, .int .i64 0, .int .i64 0, .slice none 0 0, .int .i64 0, .int .i64 0], .int .i64 0], []⟩ 8 (by kernel_rfl) (by kernel_rfl) (by kernel_rfl) (by kernel_rfl)) ?_
  intro W base args ds gs before hval0 hW hcnd _
  have hval : ∀ (j : Nat) t v, Tryz.f6.params[j]? = some t → args[j]? = some v → Value.okWide Tryz.prog W .any base t v := hval0
  have hW' := hW
  obtain ⟨p, q, hA0, hV, rfl, hfz, hnd⟩ := hW
  have hA : DataW.TrodAll enc Tryz.prog W 0 (fun _ => true) true Tryz.f6.params.toList args.toList ds p := hA0
  rw [Tryz.params6] at hA hval
  obtain ⟨v0, vs0, d0, ds0, p0, q0, hargs, rfl, rfl, h0, r0⟩ := trodAll_cons hA
  obtain ⟨v1, vs1, d1, ds1, p1, q1, rfl, rfl, rfl, h1, r1⟩ := trodAll_cons r0
  obtain ⟨v2, vs2, d2, ds2, p2, q2, rfl, rfl, rfl, h2, r2⟩ := trodAll_cons r1
  obtain ⟨rfl, rfl, rfl⟩ := trodAll_nil r2
  obtain rfl : args = #[v0, v1, v2] := by cases args; simp_all
  obtain ⟨c0, rfl⟩ := okW_struct Tryz.underlying43 (hval 0 43 v0 rfl rfl)
  obtain ⟨c1, rfl⟩ := okW_struct Tryz.underlying51 (hval 1 51 v1 rfl rfl)
  obtain ⟨lim, rfl⟩ := okWide_int Tryz.underlying3 (hval 2 3 v2 rfl rfl)
  obtain ⟨fu0, t0⟩ := h0
  obtain ⟨fu1, t1⟩ := h1
  obtain ⟨_, one0, a0, l0, Q0⟩ := o43 _ _ _ t0
  obtain ⟨_, one1, a1, l1, Q1⟩ := o51 _ _ _ t1
  obtain ⟨id, b, nm, k, c, has, s, e, ve, d, rfl⟩ := q43 Q0
  obtain ⟨lk, kd, zn, nm2, k2, c2, ds, x, y, rfl, hk, hd⟩ := q51 Q1
  have hl : LR (fun _ => none) (fun _ => False) W [.agg [.int .i64 id, .int .i64 b, .str nm, .int .i64 k, .int .i64 c, .bool has, .int .i64 s, .int .i64 e, .int .i64 ve, .bool d], .agg [lk, .int .i64 kd, .str zn, .str nm2, .int .i64 k2, .int .i64 c2, ds, .int .i64 x, .int .i64 y], .int .i64 lim] (#[Value.agg c0, Value.agg c1, Value.int .i64 lim] : Array Value).toList := by
    unfold LR
    refine ⟨_, _, rfl, ?_, ?_⟩
    · unfold VR; exact ⟨c0, rfl, l0, one0⟩
    unfold LR
    refine ⟨_, _, rfl, ?_, ?_⟩
    · unfold VR; exact ⟨c1, rfl, l1, one1⟩
    unfold LR
    exact ⟨_, _, rfl, by unfold VR; rfl, by unfold LR; rfl⟩
  refine (law_callsq (EY_ok k31) (inl_ok (EY_ok k31) 9) Tryz.func6 ok6 hl (law6 id b k c s e ve kd k2 c2 x y lim nm zn nm2 has d lk ds hk hd)).mono fun e W' ⟨he, hb⟩ => ?_
  subst he
  exact ⟨_, rfl, law_post serv_laid Tryz.underlying4 rfl rfl serv_read (fun ds hd => by
    match ds, hd with
    | [d, d', d''], _ => rfl) hW' hb⟩

theorem replyServ_holds : Rows.ReplyServSaid :=
  OpenClaim.holds_of_wide 6 Tryz.f6 rfl rfl rfl rfl rfl rfl rfl ⟨rfl, rfl, rfl, rfl, rfl⟩ rfl rfl rfl rfl rfl (by kernel_rfl) Tryz.func6 (by kernel_rfl)
    (of_decide_eq_true (by kernel_rfl)) (by unfold Func.isWrapper; first | (rw [if_pos (by decide +kernel)]; kernel_rfl) | (rw [if_neg (by decide +kernel)]; exact ⟨rfl, rfl⟩))
    (fun os started H enc _ => serv_lifted os started H enc)
end Go.Proofs.YtaifmmemfmapkaaGreat
