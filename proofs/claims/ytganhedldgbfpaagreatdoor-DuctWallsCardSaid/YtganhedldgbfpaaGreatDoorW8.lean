import Derived.Test.YtganhedldgbfpaaGreatDoorW1d
set_option linter.unusedVariables false
set_option linter.unusedSimpArgs false
noncomputable section
open Go.IntKind (i64 u32)
namespace Go.Proofs.YtganhedldgbfpaaGreatDoor
open Go.RowKit
def g15 := zQ (zV (z7 (.p .sMemMemory)) fun a0 => zP ((zuw a0), .own 0, [.arr 44 (.i .u32) (zzb a0)]))
theorem zIT : zD 15 g15 := zj (zC Tryz.func15 (by kernel_rfl) rfl) (zg fun x0 a0 h0 => zi fun hb => (zPU a0 hb).ats (.cons (zn h0) .nil))
def g29 (args : List AV) (hp : List Blk) : Option (Bool × AV × List Blk) :=
 match args, hp with
 | [.agg [.v (.int .i64 y0), .v (.int .i64 y1), .v (.int .i64 y2), .v (.int .i64 y3), .own 0, .own 1, .own 2], a1], [.row 86 (.sl .sWindow) [(0, 150)] [] y4, .row 55 .sPartition [(6, 136), (7, 57)] [] y5, .arr 108 .sChannel y6] => (rdS .sConfig a1).bind fun b1 => some ((zkR y0 y1 y2 y3 b1 y4 y5 y6), (z8 ((zm2 y0 y1 y2 y3 b1 y4 y5 y6).1)), [.row 86 (.sl .sWindow) [(0, 150)] [] ((zm2 y0 y1 y2 y3 b1 y4 y5 y6).2.1), .row 55 .sPartition [(6, 136), (7, 57)] [] ((zm2 y0 y1 y2 y3 b1 y4 y5 y6).2.2.1), .arr 108 .sChannel ((zm2 y0 y1 y2 y3 b1 y4 y5 y6).2.2.2)])
 | _, _ => none
theorem zJm : zD 29 g29 := fun args hp b r hp' h hb => by
 unfold g29 at h
 split at h
 . simp only [Option.bind_eq_some_iff] at h
   obtain ⟨b1, h1, h⟩ := h
   cases h; exact ⟨zC Tryz.func29 (by kernel_rfl) rfl, Okay.ats (zP6 _ _ _ _ b1 _ _ _ hb) (.cons (fun _ _ _ _ h => h) (.cons (zM h1) .nil))⟩
 . cases h
def g32 := zQ (zV (z7 (.p .sDuctDucts)) fun a0 => zV (z7 (.p .sMemMemory)) fun a1 => zP ((zkS a0 a1), (ze (zjH a0 a1)), []))
theorem zJp : zD 32 g32 := zj (zC Tryz.func32 (by kernel_rfl) rfl) (zg fun x0 a0 h0 => zg fun x1 a1 h1 => zi fun hb => (zP9 a0 a1 hb).ats (.cons (zn h0) (.cons (zn h1) .nil)))
def g33 := zQ (zV (z7 (.p .sMemMemory)) fun a0 => zP ((zw9 a0), .ref 0 0, [.cells 112 [.own 1], .arr 44 (.i .u32) ((zGj a0).words)]))
theorem zJq : zD 33 g33 := zj (zC Tryz.func33 (by kernel_rfl) rfl) (zg fun x0 a0 h0 => zi fun hb => (zQa a0 hb).ats (.cons (zn h0) .nil))
def g37 := zQ (zV (z7 (.p .sDuctDucts)) fun a0 => zV (z7 (.i .i64)) fun a1 => zV (z7 (.i .i64)) fun a2 => zP ((zkT a0 a1 a2), .tup [(ze ((zm3 a0 a1 a2).1)), (ze ((zm3 a0 a1 a2).2))], []))
theorem zJt : zD 37 g37 := zj (zC Tryz.func37 (by kernel_rfl) rfl) (zg fun x0 a0 h0 => zg fun x1 a1 h1 => zg fun x2 a2 h2 => zi fun hb => (zQd a0 a1 a2 hb).ats (.cons (zn h0) (.cons (zn h1) (.cons (zn h2) .nil))))
def g54 (args : List AV) (hp : List Blk) : Option (Bool × AV × List Blk) :=
 match args, hp with
 | [.ref 0 0, a1, a2], [.cells 112 [.own 1], .arr 44 (.i .u32) y0] => (z7 (.i .i64) a1).bind fun b1 => (z7 (.i .u32) a2).bind fun b2 => some ((zxb b1 b2 y0), (ze ((zBB b1 b2 y0).1)), [.cells 112 [.own 1], .arr 44 (.i .u32) ((zBB b1 b2 y0).2.words)])
 | _, _ => none
theorem zJz : zD 54 g54 := fun args hp b r hp' h hb => by
 unfold g54 at h
 split at h
 . simp only [Option.bind_eq_some_iff] at h
   obtain ⟨b1, h1, b2, h2, h⟩ := h
   cases h; exact ⟨zC Tryz.func54 (by kernel_rfl) rfl, Okay.ats (zQj b1 b2 _ hb) (.cons (fun _ _ _ _ h => h) (.cons (zn h1) (.cons (zn h2) .nil)))⟩
 . cases h
def g67 := zQ (zV (rdS .sChannel) fun a0 => zP (true, (ze (zvr a0)), []))
theorem zJJ : zD 67 g67 := zj (zC Tryz.func67 (by kernel_rfl) rfl) (zg fun x0 a0 h0 => zi fun hb => (zQt a0).ats (.cons (zM h0) .nil))
def g69 := zQ (zV (rdS .sChannel) fun a0 => zP (true, (ze (zvs a0)), []))
theorem zJL : zD 69 g69 := zj (zC Tryz.func69 (by kernel_rfl) rfl) (zg fun x0 a0 h0 => zi fun hb => (zQv a0).ats (.cons (zM h0) .nil))
def g89 := zQ (zV (rdS .sConfig) fun a0 => zP ((zxh a0), (z8 (zGn a0)), []))
theorem zJP : zD 89 g89 := zj (zC Tryz.func89 (by kernel_rfl) rfl) (zg fun x0 a0 h0 => zi fun hb => (zQz a0 hb).ats (.cons (zM h0) .nil))
def g90 := zQ (zV (z7 (.i .i64)) fun a0 => zP (true, .fn (.func 140) [] [.ref 0 0], [.cells 3 [(ze (zk4 a0))]]))
theorem zJQ : zD 90 g90 := zj (zC Tryz.func90 (by kernel_rfl) rfl) (zg fun x0 a0 h0 => zi fun hb => (zQA a0).ats (.cons (zn h0) .nil))
def g93 := zQ (zV (rdS .sChannel) fun a0 => zP (true, (ze (zzi a0)), []))
theorem zJT : zD 93 g93 := zj (zC Tryz.func93 (by kernel_rfl) rfl) (zg fun x0 a0 h0 => zi fun hb => (zQD a0).ats (.cons (zM h0) .nil))
def g95 := zQ (zV (rdS .sConfig) fun a0 => zP (true, (ze (zvt a0)), []))
theorem zJV : zD 95 g95 := zj (zC Tryz.func95 (by kernel_rfl) rfl) (zg fun x0 a0 h0 => zi fun hb => (zQF a0).ats (.cons (zM h0) .nil))
def g98 := zQ (zV (rdS .sConfig) fun a0 => zV (z7 (.i .i64)) fun a1 => zP ((zxk a0 a1), (ze (zzj a0 a1)), []))
theorem zJY : zD 98 g98 := zj (zC Tryz.func98 (by kernel_rfl) rfl) (zg fun x0 a0 h0 => zg fun x1 a1 h1 => zi fun hb => (zQI a0 a1 hb).ats (.cons (zM h0) (.cons (zn h1) .nil)))
def g100 := zQ (zV (rdS .sConfig) fun a0 => zV (z7 (.i .i64)) fun a1 => zP ((zrD a0 a1), .tup [(ze ((zmV a0 a1).1)), .agg [(ze ((zmV a0 a1).2.first)), (ze ((zmV a0 a1).2.second))]], []))
theorem zD9 : zD 100 g100 := zj (zC Tryz.func100 (by kernel_rfl) rfl) (zg fun x0 a0 h0 => zg fun x1 a1 h1 => zi fun hb => (zKR a0 a1 hb).ats (.cons (zM h0) (.cons (zn h1) .nil)))
def g124 := zQ (zV (rdP .sConfig) fun a0 => zP (true, .agg [(ze ((zpi a0).e)), (ze ((zpi a0).where_.first)), (ze ((zpi a0).where_.second))], []))
theorem zEh : zD 124 g124 := zj (zC Tryz.func124 (by kernel_rfl) rfl) (zg fun x0 a0 h0 => zi fun hb => (zA0 a0).ats (.cons (zfq h0) .nil))
def g127 := zQ (zV (rdP .sConfig) fun a0 => zP (true, .agg [(ze ((zpj a0).e)), (ze ((zpj a0).where_.first)), (ze ((zpj a0).where_.second))], []))
theorem zEk : zD 127 g127 := zj (zC Tryz.func127 (by kernel_rfl) rfl) (zg fun x0 a0 h0 => zi fun hb => (zA1 a0).ats (.cons (zfq h0) .nil))
def g128 := zQ (zV (rdP .sConfig) fun a0 => zP (true, .agg [(ze ((zpk a0).e)), (ze ((zpk a0).where_.first)), (ze ((zpk a0).where_.second))], []))
theorem zEl : zD 128 g128 := zj (zC Tryz.func128 (by kernel_rfl) rfl) (zg fun x0 a0 h0 => zi fun hb => (zA2 a0).ats (.cons (zfq h0) .nil))
def g129 := zQ (zV (rdP .sConfig) fun a0 => zP (true, .agg [(ze ((zpl a0).e)), (ze ((zpl a0).where_.first)), (ze ((zpl a0).where_.second))], []))
theorem zEm : zD 129 g129 := zj (zC Tryz.func129 (by kernel_rfl) rfl) (zg fun x0 a0 h0 => zi fun hb => (zA3 a0).ats (.cons (zfq h0) .nil))
def g130 := zQ (zV (rdP .sConfig) fun a0 => zP (true, .agg [(ze ((zpm a0).e)), (ze ((zpm a0).where_.first)), (ze ((zpm a0).where_.second))], []))
theorem zEn : zD 130 g130 := zj (zC Tryz.func130 (by kernel_rfl) rfl) (zg fun x0 a0 h0 => zi fun hb => (zA4 a0).ats (.cons (zfq h0) .nil))
def g134 := zQ (zV (rdS .sConfig) fun a0 => zV (z7 (.i .i64)) fun a1 => zP ((zrH a0 a1), .agg [(ze ((zpo a0 a1).e)), (ze ((zpo a0 a1).where_.first)), (ze ((zpo a0 a1).where_.second))], []))
theorem zEr : zD 134 g134 := zj (zC Tryz.func134 (by kernel_rfl) rfl) (zg fun x0 a0 h0 => zg fun x1 a1 h1 => zi fun hb => (zK2 a0 a1 hb).ats (.cons (zM h0) (.cons (zn h1) .nil)))
def g136 := zQ (zV (rdS .sConfig) fun a0 => zV (z7 (.i .i64)) fun a1 => zP ((zrI a0 a1), .agg [(ze ((zpp a0 a1).e)), (ze ((zpp a0 a1).where_.first)), (ze ((zpp a0 a1).where_.second))], []))
theorem zEt : zD 136 g136 := zj (zC Tryz.func136 (by kernel_rfl) rfl) (zg fun x0 a0 h0 => zg fun x1 a1 h1 => zi fun hb => (zK3 a0 a1 hb).ats (.cons (zM h0) (.cons (zn h1) .nil)))
def g142 := zQ (zV (rdS .sConfig) fun a0 => zV (z7 (.i .i64)) fun a1 => zP ((zrL a0 a1), (z8 (zww a0 a1)), []))
theorem zEz : zD 142 g142 := zj (zC Tryz.func142 (by kernel_rfl) rfl) (zg fun x0 a0 h0 => zg fun x1 a1 h1 => zi fun hb => (zK8 a0 a1 hb).ats (.cons (zM h0) (.cons (zn h1) .nil)))
def g144 := zQ (zV (rdS .sPartition) fun a0 => zP ((zrN a0), (z8 (zwx a0)), []))
theorem zEB : zD 144 g144 := zj (zC Tryz.func144 (by kernel_rfl) rfl) (zg fun x0 a0 h0 => zi fun hb => (zLa a0 hb).ats (.cons (zM h0) .nil))
def g149 := zQ (zV (z7 (.p .sMemMemory)) fun a0 => zV (z7 (.i .i64)) fun a1 => zV (z7 (.i .i64)) fun a2 => zP ((zc1 a0 a1 a2), .tup [.own 0, (ze ((zci a0 a1 a2).2))], [.arr 44 (.i .u32) ((zci a0 a1 a2).1)]))
theorem zEG : zD 149 g149 := zj (zC Tryz.func149 (by kernel_rfl) rfl) (zg fun x0 a0 h0 => zg fun x1 a1 h1 => zg fun x2 a2 h2 => zi fun hb => (zLf a0 a1 a2 hb).ats (.cons (zn h0) (.cons (zn h1) (.cons (zn h2) .nil))))
def g150 := zQ (zV (rdS .sQueueForm) fun a0 => zV (z7 (.i .i64)) fun a1 => zP (true, (ze (zbt a0 a1)), []))
theorem zEH : zD 150 g150 := zj (zC Tryz.func150 (by kernel_rfl) rfl) (zg fun x0 a0 h0 => zg fun x1 a1 h1 => zi fun hb => (zLg a0 a1).ats (.cons (zM h0) (.cons (zn h1) .nil)))
def g151 := zQ (zV (rdS .sQueueForm) fun a0 => zV (z7 (.sl (.i .u32))) fun a1 => zV (z7 (.i .u32)) fun a2 => zV (z7 (.i .u32)) fun a3 => zP ((zj1 a0 a1 a2 a3), .tup [.own 0, (z8 ((zmY a0 a1 a2 a3).2))], [.arr 45 (.sl (.i .u32)) ((zmY a0 a1 a2 a3).1)]))
theorem zEI : zD 151 g151 := zj (zC Tryz.func151 (by kernel_rfl) rfl) (zg fun x0 a0 h0 => zg fun x1 a1 h1 => zg fun x2 a2 h2 => zg fun x3 a3 h3 => zi fun hb => (zLh a0 a1 a2 a3 hb).ats (.cons (zM h0) (.cons (zn h1) (.cons (zn h2) (.cons (zn h3) .nil)))))
def zIS (args : List AV) (hp : List Blk) : Option (Bool × AV × List Blk) :=
 match args, hp with
 | [.ref 0 0, a1, a2], [.cells 112 [.own 1], .arr 44 (.i .u32) y0] => (z7 (.i .i64) a1).bind fun b1 => (z7 (.sl (.i .u32)) a2).bind fun b2 => some ((zgd b1 b2 y0), (ze ((zg3 b1 b2 y0).1)), [.cells 112 [.own 1], .arr 44 (.i .u32) ((zg3 b1 b2 y0).2.words)])
 | _, _ => none
theorem zEK : zD 153 zIS := fun args hp b r hp' h hb => by
 unfold zIS at h
 split at h
 . simp only [Option.bind_eq_some_iff] at h
   obtain ⟨b1, h1, b2, h2, h⟩ := h
   cases h; exact ⟨zC Tryz.func153 (by kernel_rfl) rfl, Okay.ats (zLj b1 b2 _ hb) (.cons (fun _ _ _ _ h => h) (.cons (zn h1) (.cons (zn h2) .nil)))⟩
 . cases h
def g157 := zQ (zV (rdS .sConfig) fun a0 => zV (z7 (.i .i64)) fun a1 => zP ((zrQ a0 a1), (z8 (zcj a0 a1)), []))
theorem zEM : zD 157 g157 := zj (zC Tryz.func157 (by kernel_rfl) rfl) (zg fun x0 a0 h0 => zg fun x1 a1 h1 => zi fun hb => (zLl a0 a1 hb).ats (.cons (zM h0) (.cons (zn h1) .nil)))
def g159 := zQ (zV (rdS .sConfig) fun a0 => zV (z7 (.i .i64)) fun a1 => zV (z7 (.i .i64)) fun a2 => zP ((zrR a0 a1 a2), .agg [(ze ((zmZ a0 a1 a2).e)), (ze ((zmZ a0 a1 a2).where_.first)), (ze ((zmZ a0 a1 a2).where_.second))], []))
theorem zEO : zD 159 g159 := zj (zC Tryz.func159 (by kernel_rfl) rfl) (zg fun x0 a0 h0 => zg fun x1 a1 h1 => zg fun x2 a2 h2 => zi fun hb => (zLn a0 a1 a2 hb).ats (.cons (zM h0) (.cons (zn h1) (.cons (zn h2) .nil))))
def g160 := zQ (zV (rdS .sPartition) fun a0 => zP ((znD a0), (z8 (zwz a0)), []))
theorem zEP : zD 160 g160 := zj (zC Tryz.func160 (by kernel_rfl) rfl) (zg fun x0 a0 h0 => zi fun hb => (zLo a0 hb).ats (.cons (zM h0) .nil))
def g167 := zQ (zV (rdS .sConfig) fun a0 => zV (rdS .sRegion) fun a1 => zP (true, (z8 (zpv a0 a1)), []))
theorem zEW : zD 167 g167 := zj (zC Tryz.func167 (by kernel_rfl) rfl) (zg fun x0 a0 h0 => zg fun x1 a1 h1 => zi fun hb => (zLv a0 a1).ats (.cons (zM h0) (.cons (zM h1) .nil)))
def g211 := zQ (zV (z7 (.p .sMemMemory)) fun a0 => zV (z7 (.i .i64)) fun a1 => zP ((znL a0 a1), .tup [(avU ((zpB a0 a1).1)), (ze ((zpB a0 a1).2))], []))
theorem zFn : zD 211 g211 := zj (zC Tryz.func211 (by kernel_rfl) rfl) (zg fun x0 a0 h0 => zg fun x1 a1 h1 => zi fun hb => (zLW a0 a1 hb).ats (.cons (zn h0) (.cons (zn h1) .nil)))
def g212 := zQ (zV (z7 (.p .sMemMemory)) fun a0 => zV (z7 (.i .i64)) fun a1 => zV (z7 (.i .i64)) fun a2 => zP ((zge a0 a1 a2), (ze (zg4 a0 a1 a2)), []))
theorem zFo : zD 212 g212 := zj (zC Tryz.func212 (by kernel_rfl) rfl) (zg fun x0 a0 h0 => zg fun x1 a1 h1 => zg fun x2 a2 h2 => zi fun hb => (zLX a0 a1 a2 hb).ats (.cons (zn h0) (.cons (zn h1) (.cons (zn h2) .nil))))
def zJf (args : List AV) (hp : List Blk) : Option (Bool × AV × List Blk) :=
 match args, hp with
 | [.ref 0 0, a1, a2, a3], [.cells 112 [.own 1], .arr 44 (.i .u32) y0] => (z7 (.i .i64) a1).bind fun b1 => (z7 (.i .i64) a2).bind fun b2 => (z7 (.i .u32) a3).bind fun b3 => some ((zr8 b1 b2 b3 y0), (ze ((zua b1 b2 b3 y0).1)), [.cells 112 [.own 1], .arr 44 (.i .u32) ((zua b1 b2 b3 y0).2.words)])
 | _, _ => none
theorem zFq : zD 214 zJf := fun args hp b r hp' h hb => by
 unfold zJf at h
 split at h
 . simp only [Option.bind_eq_some_iff] at h
   obtain ⟨b1, h1, b2, h2, b3, h3, h⟩ := h
   cases h; exact ⟨zC Tryz.func214 (by kernel_rfl) rfl, Okay.ats (zLZ b1 b2 b3 _ hb) (.cons (fun _ _ _ _ h => h) (.cons (zn h1) (.cons (zn h2) (.cons (zn h3) .nil))))⟩
 . cases h
def g215 := zQ (zV (z7 (.sl (.i .u32))) fun a0 => zV (z7 (.i .i64)) fun a1 => zP ((zhB a0 a1), .tup [.own 0, (z8 ((zf6 a0 a1).2))], [.arr 44 (.i .u32) ((zf6 a0 a1).1)]))
theorem zFr : zD 215 g215 := zj (zC Tryz.func215 (by kernel_rfl) rfl) (zg fun x0 a0 h0 => zg fun x1 a1 h1 => zi fun hb => (zL0 a0 a1 hb).ats (.cons (zn h0) (.cons (zn h1) .nil)))
noncomputable def GW1 : Gam := zmr [(15, g15), (29, g29), (32, g32), (33, g33), (37, g37), (54, g54), (67, g67), (69, g69), (89, g89), (90, g90), (93, g93), (95, g95), (98, g98), (100, g100), (124, g124), (127, g127), (128, g128), (129, g129), (130, g130), (134, g134), (136, g136), (142, g142), (144, g144), (149, g149), (150, g150), (151, g151), (153, zIS), (157, g157), (159, g159), (160, g160), (167, g167), (211, g211), (212, g212), (214, zJf), (215, g215)] GW0
theorem zd8 : GOk Pr GL GW1 := zcG ⟨zIT, zJm, zJp, zJq, zJt, zJz, zJJ, zJL, zJP, zJQ, zJT, zJV, zJY, zD9, zEh, zEk, zEl, zEm, zEn, zEr, zEt, zEz, zEB, zEG, zEH, zEI, zEK, zEM, zEO, zEP, zEW, zFn, zFo, zFq, zFr, trivial⟩ zaF
abbrev R42 := (List Bulkheadref15Piece)
def zGF (r : R42) : zY := ⟨.own 0, [.arr 134 .sBulkheadref15Piece r]⟩
inductive L42 where | l0 (x0 : Int) (x1 : Int) (x2 : List Bulkheadref15Piece) | l4 (x0 : Int) (x1 : Int) (x2 : List Bulkheadref15Piece) | l8 (x0 : Int) (x1 : Int) (x2 : Int) (x7 : Int) (x3 : List Bulkheadref15Piece) (x4 : Int) (x5 : Int) (x6 : Int) | l16 (x0 : Int) (x1 : List Bulkheadref15Piece) | l12 (x0 : Int) (x1 : Int) (x8 : Int) (x2 : Int) (x9 : Int) (x10 : Int) (x7 : Int) (x3 : List Bulkheadref15Piece) (x4 : Int) (x5 : Int) (x6 : Int) | l20 (x0 : Int) (x2 : Int) (x1 : List Bulkheadref15Piece) | l61 (x0 : Int) (x1 : Int) (x7 : Int) (x2 : Int) (x8 : Int) (x9 : Int) (x10 : Int) (x3 : List Bulkheadref15Piece) (x4 : Int) (x5 : Int) (x6 : Int) | l24 (x0 : Int) (x4 : Int) (x2 : Int) (x5 : Int) (x3 : Int) (x1 : List Bulkheadref15Piece) | l89 (x0 : Int) (x3 : Int) (x2 : Int) (x4 : Int) (x5 : Int) (x1 : List Bulkheadref15Piece) | l28 (x0 : Int) (x3 : Int) (x4 : Int) (x5 : Int) (x2 : Int) (x1 : List Bulkheadref15Piece)
def zPC : L42 -> Nat | .l0 _ _ _ => 0 | .l4 _ _ _ => 4 | .l8 _ _ _ _ _ _ _ _ => 8 | .l16 _ _ => 16 | .l12 _ _ _ _ _ _ _ _ _ _ _ => 12 | .l20 _ _ _ => 20 | .l61 _ _ _ _ _ _ _ _ _ _ _ => 61 | .l24 _ _ _ _ _ _ => 24 | .l89 _ _ _ _ _ _ => 89 | .l28 _ _ _ _ _ _ => 28
def H42 : z9 := htt [30, 44] [(0, ⟨fgt [1, 3, 4, 27, 28, 121, 122, 123] 181 0, []⟩), (4, ⟨fgt [1, 3, 4, 60, 61, 121, 122, 123] 181 0, []⟩), (8, ⟨fgt [1, 3, 4, 6, 7, 60, 61, 93, 94, 121, 122, 123] 181 0, []⟩), (12, ⟨fgt [1, 3, 4, 6, 7, 8, 60, 61, 93, 94, 103, 104, 121, 122, 123] 181 0, []⟩), (16, ⟨fgt [1, 3, 4] 181 0, []⟩), (20, ⟨fgt [1, 3, 4, 149, 150] 181 0, []⟩), (24, ⟨fgt [1, 3, 4, 11, 12, 149, 150, 153] 181 0, []⟩), (28, ⟨fgt [1, 3, 4, 11, 149, 150, 166, 167] 181 0, []⟩), (61, ⟨fgt [1, 3, 4, 6, 7, 8, 60, 61, 93, 94, 103, 104] 181 0, []⟩), (89, ⟨fgt [1, 3, 4, 11, 12, 149, 150, 153] 181 0, []⟩)] []
noncomputable def st42 (c : Config) : L42 -> St | .l0 x0 x1 x2 => stt [(1, .ref 0 0), (3, .own 1), (4, (ze x0)), (27, (ze c.partitions.length)), (28, (ze x1))] 181 [.cells 26 (Ty.enc .sConfig c), .arr 134 .sBulkheadref15Piece x2] 0 | .l4 x0 x1 x2 => stt [(1, .ref 0 0), (3, .own 1), (4, (ze x0)), (60, (ze c.channels.length)), (61, (ze x1))] 181 [.cells 26 (Ty.enc .sConfig c), .arr 134 .sBulkheadref15Piece x2] 0 | .l8 x0 x1 x2 x7 x3 x4 x5 x6 => stt [(1, .ref 0 0), (3, .own 1), (4, (ze x0)), (6, (ze x1)), (7, .ref 2 0), (60, (ze c.channels.length)), (61, (ze x2)), (93, (ze c.partitions.length)), (94, (ze x7))] 181 [.cells 26 (Ty.enc .sConfig c), .arr 134 .sBulkheadref15Piece x3, .cells 108 [(ze x4), (ze x5), (ze x6)]] 0 | .l16 x0 x1 => stt [(1, .ref 0 0), (3, .own 1), (4, (ze x0))] 181 [.cells 26 (Ty.enc .sConfig c), .arr 134 .sBulkheadref15Piece x1] 0 | .l12 x0 x1 x8 x2 x9 x10 x7 x3 x4 x5 x6 => stt [(1, .ref 0 0), (3, .own 1), (4, (ze x0)), (6, (ze x1)), (7, .ref 2 0), (8, (ze x8)), (60, (ze c.channels.length)), (61, (ze x2)), (93, (ze c.partitions.length)), (94, (ze x9)), (103, (ze x10)), (104, (ze x7))] 181 [.cells 26 (Ty.enc .sConfig c), .arr 134 .sBulkheadref15Piece x3, .cells 108 [(ze x4), (ze x5), (ze x6)]] 0 | .l20 x0 x2 x1 => stt [(1, .ref 0 0), (3, .own 1), (4, (ze x0)), (149, (ze c.partitions.length)), (150, (ze x2))] 181 [.cells 26 (Ty.enc .sConfig c), .arr 134 .sBulkheadref15Piece x1] 0 | .l61 x0 x1 x7 x2 x8 x9 x10 x3 x4 x5 x6 => stt [(1, .ref 0 0), (3, .own 1), (4, (ze x0)), (6, (ze x1)), (7, .ref 2 0), (8, (ze x7)), (60, (ze c.channels.length)), (61, (ze x2)), (93, (ze c.partitions.length)), (94, (ze x8)), (103, (ze x9)), (104, (ze x10))] 181 [.cells 26 (Ty.enc .sConfig c), .arr 134 .sBulkheadref15Piece x3, .cells 108 [(ze x4), (ze x5), (ze x6)]] 0 | .l24 x0 x4 x2 x5 x3 x1 => stt [(1, .ref 0 0), (3, .own 1), (4, (ze x0)), (11, (ze x4)), (12, (ze x2)), (149, (ze c.partitions.length)), (150, (ze x5)), (153, (ze x3))] 181 [.cells 26 (Ty.enc .sConfig c), .arr 134 .sBulkheadref15Piece x1] 0 | .l89 x0 x3 x2 x4 x5 x1 => stt [(1, .ref 0 0), (3, .own 1), (4, (ze x0)), (11, (ze x3)), (12, (ze x2)), (149, (ze c.partitions.length)), (150, (ze x4)), (153, (ze x5))] 181 [.cells 26 (Ty.enc .sConfig c), .arr 134 .sBulkheadref15Piece x1] 0 | .l28 x0 x3 x4 x5 x2 x1 => stt [(1, .ref 0 0), (3, .own 1), (4, (ze x0)), (11, (ze x3)), (149, (ze c.partitions.length)), (150, (ze x4)), (166, (ze x5)), (167, (ze x2))] 181 [.cells 26 (Ty.enc .sConfig c), .arr 134 .sBulkheadref15Piece x1] 0
noncomputable def zbo {R : Type} (ret : R42 -> R) (c : Config) (j : L42 -> Option R) : L42 -> Option R | .l0 x0 x1 x2 =>let y4 := (⟨x0, 2, (⟨3, x1, 0⟩ : Owner)⟩ : Bulkheadref15Piece); let y6 := (x2 : List Bulkheadref15Piece); let y1 := ((y6 ++ [y4]) : List Bulkheadref15Piece); let y7 := i64.wrap (x0 + 2); let y2 := (⟨y7, 17, (⟨4, x1, 0⟩ : Owner)⟩ : Bulkheadref15Piece); let y3 := (⟨(i64.wrap (y7 + 17)), 5, (⟨5, x1, 0⟩ : Owner)⟩ : Bulkheadref15Piece); let y5 := ((y1 ++ [y2]) : List Bulkheadref15Piece);  cond (decide (x1 < c.partitions.length)) (cond (leB ((y6.length + ([y4] : List Bulkheadref15Piece).length) * 40) 140737488355328) ( cond (leB ((y1.length + ([y2] : List Bulkheadref15Piece).length) * 40) 140737488355328) ( cond (leB ((y5.length + ([y3] : List Bulkheadref15Piece).length) * 40) 140737488355328) ( j (.l0 (i64.wrap (x0 + 24)) (i64.wrap (x1 + 1)) (y5 ++ [y3]))) none) none) none) (j (.l4 x0 0 x2)) | .l4 x0 x1 x2 =>let y1 := zo c.channels x1.toNat; let y3 := (⟨(i64.wrap (x0 + 2)), (zvs y1), (⟨7, x1, 0⟩ : Owner)⟩ : Bulkheadref15Piece); let y4 := (⟨x0, 2, (⟨6, x1, 0⟩ : Owner)⟩ : Bulkheadref15Piece); let y5 := (x2 : List Bulkheadref15Piece); let y2 := ((y5 ++ [y4]) : List Bulkheadref15Piece);  cond (decide (x1 < c.channels.length)) (cond (zU x1 c.channels.length) ( cond (leB ((y5.length + ([y4] : List Bulkheadref15Piece).length) * 40) 140737488355328) ( cond (leB ((y2.length + ([y3] : List Bulkheadref15Piece).length) * 40) 140737488355328) ( j (.l8 (i64.wrap (x0 + (i64.wrap (2 + (zvs y1))))) x1 x1 0 (y2 ++ [y3]) (y1.kind) (y1.words) (y1.depth))) none) none) none) (j (.l16 x0 x2)) | .l8 x0 x1 x2 x7 x3 x4 x5 x6 => cond (decide (x7 < c.partitions.length)) (cond (zU x7 c.partitions.length) (j (.l12 x0 x1 x7 x2 x7 (((za c.partitions x7.toNat).ports).length) 0 x3 x4 x5 x6)) none) (j (.l4 x0 (i64.wrap (x2 + 1)) x3)) | .l16 x0 x1 => cond (!(((bop .rem .i64 x0 16) : Int) == 0)) (j (.l16 (i64.wrap (x0 + 1)) x1)) (j (.l20 x0 0 x1)) | .l12 x0 x1 x8 x2 x9 x10 x7 x3 x4 x5 x6 =>let y2 := (za c.partitions x8.toNat).ports; let y3 := (zvr (⟨x4, x5, x6⟩ : Channel)); let y1 := (⟨x0, y3, (⟨8, x8, x7⟩ : Owner)⟩ : Bulkheadref15Piece); let y4 := (x3 : List Bulkheadref15Piece); let y5 := zaI y2 x7.toNat;  cond (decide (x7 < x10)) (cond (zU x8 c.partitions.length) ( cond (zU x7 y2.length) ( cond ((y5.channel : Int) == x1) (cond (!(y5.source)) (cond (leB ((y4.length + ([y1] : List Bulkheadref15Piece).length) * 40) 140737488355328) ( j (.l61 (i64.wrap (x0 + y3)) x1 x8 x2 x9 x10 x7 (y4 ++ [y1]) x4 x5 x6)) none) (j (.l61 x0 x1 x8 x2 x9 x10 x7 x3 x4 x5 x6))) (j (.l61 x0 x1 x8 x2 x9 x10 x7 x3 x4 x5 x6))) none) none) (j (.l8 x0 x1 x2 (i64.wrap (x9 + 1)) x3 x4 x5 x6)) | .l20 x0 x2 x1 => cond (decide (x2 < c.partitions.length)) (j (.l24 x0 x2 1 x2 0 x1)) (some (ret x1)) | .l61 x0 x1 x7 x2 x8 x9 x10 x3 x4 x5 x6 => j (.l12 x0 x1 x7 x2 x8 x9 (i64.wrap (x10 + 1)) x3 x4 x5 x6) | .l24 x0 x4 x2 x5 x3 x1 =>let y1 := za c.partitions x4.toNat;  cond (decide (x3 < 16)) (cond (zU x4 c.partitions.length) ( cond (zxf y1 x3) ( cond (zGm y1 x3) (j (.l89 x0 x4 (i64.wrap (x2 + 1)) x5 x3 x1)) (j (.l89 x0 x4 x2 x5 x3 x1))) none) none) (j (.l28 x0 x4 x5 x2 0 x1)) | .l89 x0 x3 x2 x4 x5 x1 => j (.l24 x0 x3 x2 x4 (i64.wrap (x5 + 1)) x1) | .l28 x0 x3 x4 x5 x2 x1 =>let y1 := (⟨x0, 16, (⟨9, x3, 0⟩ : Owner)⟩ : Bulkheadref15Piece); let y2 := (x1 : List Bulkheadref15Piece);  cond (decide (x2 < x5)) (cond (leB ((y2.length + ([y1] : List Bulkheadref15Piece).length) * 40) 140737488355328) ( j (.l28 (i64.wrap (x0 + 16)) x3 x4 x5 (i64.wrap (x2 + 1)) (y2 ++ [y1]))) none) (j (.l20 x0 (i64.wrap (x4 + 1)) x1))
noncomputable def zow {R : Type} (ret : R42 -> R) (c : Config) (j : L42 -> Option R) : Option R := cond (leB ((([] : List Bulkheadref15Piece).length + ([(⟨(i64.wrap (16 * c.kernel)), 2, (⟨2, 0, 0⟩ : Owner)⟩ : Bulkheadref15Piece)] : List Bulkheadref15Piece).length) * 40) 140737488355328) ( j (.l0 (i64.wrap ((i64.wrap (16 * c.kernel)) + 2)) 0 (([] : List Bulkheadref15Piece) ++ [(⟨(i64.wrap (16 * c.kernel)), 2, (⟨2, 0, 0⟩ : Owner)⟩ : Bulkheadref15Piece)]))) none
theorem ct42 (c : Config) (l : L42) : CT fun j => zbo id c j l := by cases l <;> (dsimp only [zbo]; repeat (first | exact ctJ _ | exact ctK _ | apply ctC))
def zb7 (c : Config) : L42 -> Option R42 := lfp (zbo id c)
theorem zaE (c : Config) (l : L42) : zb7 c l = zbo id c (zb7 c) l := zI (ct42 c) l
def zwR (c : Config) : Option R42 := zow id c (zb7 c)
def zf7 (c : Config) : R42 := (zwR c).getD default
def zp4 (c : Config) : Bool := (zwR c).isSome
theorem zQi (c : Config) (hc : zp4 c = true) : Okay Pr GL 42 [.agg (Ty.enc .sConfig c)] [] (zGF (zf7 c)) := zH (H := H42) (bod := zbo id c) (ent := zow id c) (bodA := zbo zGF c) (entA := zow zGF c) zd8 zy Tryz.func42 rfl (by kernel_rfl) zGF zPC (st42 c) (fun J l => by cases l <;> kernel_rfl) (fun J => by kernel_rfl) (fun s l => by cases l <;> simp only [zbo, zb, zt, zu, id]) (fun s => by simp only [zow, zb, zt, zu, id]) (ct42 c) (by dsimp only [zow]; repeat (first | exact ctJ _ | exact ctK _ | apply ctC)) hc
abbrev R41 := Bool
def zGE (r : R41) : zY := ⟨(z8 r), []⟩
inductive L41 where | l0 (x0 : Int) | l4 (x0 : Int) | l8 (x5 : Int) (x2 : Int) (x3 : Int) (x6 : Int) (x7 : Int) (x8 : Bool) (x0 : Bool) (x1 : Bool) (x4 : Int) (x9 : Int) (x10 : Int) (x11 : Int)
def zPB : L41 -> Nat | .l0 _ => 0 | .l4 _ => 4 | .l8 _ _ _ _ _ _ _ _ _ _ _ _ => 8
def H41 : z9 := htt [] [(0, ⟨fgt [1, 31, 32, 61, 62, 63, 64, 65, 66, 67, 68, 98, 99, 102, 103] 106 0, []⟩), (4, ⟨fgt [1, 48, 49, 65, 66, 67] 106 0, []⟩), (8, ⟨fgt [1, 4, 6, 7, 48, 49, 61, 62, 63, 64, 68, 72, 73, 98, 99, 102, 103] 106 0, []⟩)] []
noncomputable def st41 (c : Config) : L41 -> St | .l0 x0 => stt [(1, .ref 0 0), (31, (ze c.partitions.length)), (32, (ze x0))] 106 [.cells 26 (Ty.enc .sConfig c)] 0 | .l4 x0 => stt [(1, .ref 0 0), (48, (ze c.channels.length)), (49, (ze x0))] 106 [.cells 26 (Ty.enc .sConfig c)] 0 | .l8 x5 x2 x3 x6 x7 x8 x0 x1 x4 x9 x10 x11 => stt [(1, .ref 0 0), (4, (ze x5)), (6, (ze x2)), (7, (ze x3)), (48, (ze c.channels.length)), (49, (ze x6)), (61, .ref 1 0), (62, (ze x7)), (63, (z8 x8)), (64, (z8 x0)), (68, (z8 x1)), (72, (ze c.partitions.length)), (73, (ze x4))] 106 [.cells 26 (Ty.enc .sConfig c), .cells 108 [(ze x9), (ze x10), (ze x11)]] 0
noncomputable def zee {R : Type} (ret : R41 -> R) (c : Config) (j : L41 -> Option R) : L41 -> Option R | .l0 x0 =>let y1 := za c.partitions x0.toNat;  cond (decide (x0 < c.partitions.length)) (cond (zU x0 c.partitions.length) ( cond (zxe y1 c.channels.length) ( cond (!(zGl y1 c.channels.length)) (some (ret false)) (j (.l0 (i64.wrap (x0 + 1))))) none) none) (j (.l4 0)) | .l4 x0 =>let y1 := zo c.channels x0.toNat; let y2 := ((y1.kind : Int) == 1); let y3 := (!((y1.depth : Int) == 0)); let y4 := y1.kind;  cond (decide (x0 < c.channels.length)) (cond (zU x0 c.channels.length) ( cond (((zvr y1) : Int) == 0) (some (ret false)) (cond y2 (cond y3 (some (ret false)) (j (.l8 x0 0 0 x0 y4 y2 true y3 0 y4 (y1.words) (y1.depth)))) (j (.l8 x0 0 0 x0 y4 y2 false false 0 y4 (y1.words) (y1.depth))))) none) (some (ret true)) | .l8 x5 x2 x3 x6 x7 x8 x0 x1 x4 x9 x10 x11 =>let y1 := za c.partitions x4.toNat; let y2 := zU x4 c.partitions.length;  cond (decide (x4 < c.partitions.length)) (cond y2 ( cond (zp9 y1 x5 true) ( cond y2 ( cond (zp9 y1 x5 false) ( j (.l8 x5 (i64.wrap (x2 + (zzh y1 x5 true))) (i64.wrap (x3 + (zzh y1 x5 false))) x6 x7 x8 x0 x1 (i64.wrap (x4 + 1)) x9 x10 x11)) none) none) none) none) (cond (!(x2 == 1)) (some (ret false)) (cond (decide (x3 < 1)) (some (ret false)) (cond (decide (x3 > 4)) (some (ret false)) (j (.l4 (i64.wrap (x6 + 1)))))))
noncomputable def zov {R : Type} (ret : R41 -> R) (c : Config) (j : L41 -> Option R) : Option R := cond (decide ((c.kernel : Int) < 0)) (some (ret false)) (cond (decide ((c.kernel : Int) >= 1024)) (some (ret false)) (cond (decide ((c.partitions.length : Int) > 8)) (some (ret false)) (cond (decide ((c.channels.length : Int) > 16)) (some (ret false)) (j (.l0 0)))))
theorem ct41 (c : Config) (l : L41) : CT fun j => zee id c j l := by cases l <;> (dsimp only [zee]; repeat (first | exact ctJ _ | exact ctK _ | apply ctC))
def zkM (c : Config) : L41 -> Option R41 := lfp (zee id c)
theorem zeB (c : Config) (l : L41) : zkM c l = zee id c (zkM c) l := zI (ct41 c) l
def zwQ (c : Config) : Option R41 := zov id c (zkM c)
def zzd (c : Config) : R41 := (zwQ c).getD default
def zp3 (c : Config) : Bool := (zwQ c).isSome
theorem zQh (c : Config) (hc : zp3 c = true) : Okay Pr GL 41 [.agg (Ty.enc .sConfig c)] [] (zGE (zzd c)) := zH (H := H41) (bod := zee id c) (ent := zov id c) (bodA := zee zGE c) (entA := zov zGE c) zd8 zy Tryz.func41 rfl (by kernel_rfl) zGE zPB (st41 c) (fun J l => by cases l <;> kernel_rfl) (fun J => by kernel_rfl) (fun s l => by cases l <;> simp only [zee, zb, zt, zu, id]) (fun s => by simp only [zov, zb, zt, zu, id]) (ct41 c) (by dsimp only [zov]; repeat (first | exact ctJ _ | exact ctK _ | apply ctC)) hc
abbrev zx7 := MemMemory
def zxr (r : zx7) : zY := ⟨.tup [], [.cells 112 [.own 1], .arr 44 (.i .u32) r.words]⟩
inductive zsp where | l0 (x0 : Int) (x1 : List Int)
def zKn : zsp -> Nat | .l0 _ _ => 0
def H106 : z9 := htt [] [(0, ⟨fgt [1, 2, 4, 5, 8, 10, 23, 24, 25] 61 0, []⟩)] []
noncomputable def zQV (f : QueueForm) (pl : Int) (row : QueueRow) (hd : (List Int)) (ws : List Int) : zsp -> St | .l0 x0 x1 => stt [(1, .ref 0 0), (2, (ze pl)), (4, .sl (.i .u32) hd), (5, .ref 2 0), (8, .ref 3 0), (10, .own 4), (23, .sl (.sl (.i .u32)) row.messages), (24, (ze row.messages.length)), (25, (ze x0))] 61 [.cells 112 [.own 1], .arr 44 (.i .u32) ws, .cells 169 [(ze f.words), (ze f.depth)], .cells 171 (Ty.enc .sQueueRow row), .arr 44 (.i .u32) x1] 2
noncomputable def zeN {R : Type} (ret : zx7 -> R) (f : QueueForm) (pl : Int) (row : QueueRow) (hd : (List Int)) (ws : List Int) (j : zsp -> Option R) : zsp -> Option R | .l0 x0 x1 =>let y1 := i64.wrap (hd.length + (i64.wrap ((dv .rem .i64 (i64.wrap ((i64.wrap row.first) + x0)) f.depth) * (zig f)))); let y2 := List.set x1 (y1.toNat) (u32.wrap ((zak row.messages x0.toNat).length)); let y3 := i64.wrap (y1 + 1);  cond (decide (x0 < row.messages.length)) (cond (zU x0 row.messages.length) ( cond (decide ((f.depth : Int) = 0)) (none) (cond (zU y1 x1.length) ( cond (inS y3 (y2.length) y2.length) ( j (.l0 (i64.wrap (x0 + 1)) (zbP y2 (y3.toNat) (List.take ((y2.length : Int).toNat - y3.toNat) (zak row.messages x0.toNat : List Int))))) none) none)) none) (cond (zgd pl x1 ws) (some (ret ((zg3 pl x1 ws).2))) none)
noncomputable def ziS {R : Type} (ret : zx7 -> R) (f : QueueForm) (pl : Int) (row : QueueRow) (hd : (List Int)) (ws : List Int) (j : zsp -> Option R) : Option R := cond (decide (((zbt f hd.length) : Int) = (zbt f hd.length)) && decide (0 <= (zbt f hd.length)) && leB ((zbt f hd.length).toNat * 4) 140737488355328) ( j (.l0 0 (zbP (List.replicate (zbt f hd.length).toNat (0 : Int)) 0 (List.take ((List.replicate (zbt f hd.length).toNat (0 : Int)).length) (hd : List Int))))) none
theorem zHy (f : QueueForm) (pl : Int) (row : QueueRow) (hd : (List Int)) (ws : List Int) (l : zsp) : CT fun j => zeN id f pl row hd ws j l := by cases l <;> (dsimp only [zeN]; repeat (first | exact ctJ _ | exact ctK _ | apply ctC))
def zm5 (f : QueueForm) (pl : Int) (row : QueueRow) (hd : (List Int)) (ws : List Int) : zsp -> Option zx7 := lfp (zeN id f pl row hd ws)
theorem zpD (f : QueueForm) (pl : Int) (row : QueueRow) (hd : (List Int)) (ws : List Int) (l : zsp) : zm5 f pl row hd ws l = zeN id f pl row hd ws (zm5 f pl row hd ws) l := zI (zHy f pl row hd ws) l
def zqW (f : QueueForm) (pl : Int) (row : QueueRow) (hd : (List Int)) (ws : List Int) : Option zx7 := ziS id f pl row hd ws (zm5 f pl row hd ws)
def zib (f : QueueForm) (pl : Int) (row : QueueRow) (hd : (List Int)) (ws : List Int) : zx7 := (zqW f pl row hd ws).getD default
def zfi (f : QueueForm) (pl : Int) (row : QueueRow) (hd : (List Int)) (ws : List Int) : Bool := (zqW f pl row hd ws).isSome
theorem zKX (f : QueueForm) (pl : Int) (row : QueueRow) (hd : (List Int)) (ws : List Int) (hc : zfi f pl row hd ws = true) : Okay Pr GL 106 [.agg [(ze f.words), (ze f.depth)], .ref 0 0, (ze pl), .agg (Ty.enc .sQueueRow row), .sl (.i .u32) hd] [.cells 112 [.own 1], .arr 44 (.i .u32) ws] (zxr (zib f pl row hd ws)) := zH (H := H106) (bod := zeN id f pl row hd ws) (ent := ziS id f pl row hd ws) (bodA := zeN zxr f pl row hd ws) (entA := ziS zxr f pl row hd ws) zd8 zy Tryz.func106 rfl (by kernel_rfl) zxr zKn (zQV f pl row hd ws) (fun J l => by cases l <;> kernel_rfl) (fun J => by kernel_rfl) (fun s l => by cases l <;> simp only [zeN, zb, zt, zu, id]) (fun s => by simp only [ziS, zb, zt, zu, id]) (zHy f pl row hd ws) (by dsimp only [ziS]; repeat (first | exact ctJ _ | exact ctK _ | apply ctC)) hc
abbrev zx6 := QueueRow × Bool × MemMemory
def zxq (r : zx6) : zY := ⟨.tup [.agg [(avU r.1.first), (avU r.1.lost), .own 2], (z8 r.2.1)], [.cells 112 [.own 1], .arr 44 (.i .u32) r.2.2.words, .arr 45 (.sl (.i .u32)) r.1.messages]⟩
inductive zso where | l5
def zKm : zso -> Nat | .l5 => 5
def H105 : z9 := htt [2] [(5, ⟨fgt [3, 6, 8, 43, 44, 45, 46, 47, 48, 49, 50, 51, 52] 54 0, [(.slot 8, .sl (.i .u32))]⟩)] []
noncomputable def zQU (f : QueueForm) (pl : Int) (ws : List Int) : zso -> St | .l5 => stt [(3, .ref 2 0), (6, .ref 3 0), (8, .sl (.i .u32) ((zci (some (⟨ws⟩ : MemMemory)) pl (zbt f 3)).1))] 54 [.cells 112 [.own 1], .arr 44 (.i .u32) ws, .cells 169 [(ze f.words), (ze f.depth)], .cells 171 [(avU 0), (avU 0), .v (.slice none 0 0)]] 2
noncomputable def zfz {R : Type} (ret : zx6 -> R) (f : QueueForm) (pl : Int) (ws : List Int) (j : zso -> Option R) : zso -> Option R | .l5 =>let y1 := (⟨ws⟩ : MemMemory); let y2 := (zci (some y1) pl (zbt f 3)).1; let y4 := ((y2.take (y2.length : Int).toNat).drop 3); let y5 := zmY f y4 (zN y2 0) (zN y2 1); let y3 := (⟨zN y2 0, zN y2 2, y5.1⟩ : QueueRow); let y6 := zU 0 y2.length;  cond (inS 3 (y2.length) y2.length) ( cond y6 ( cond (zU 1 y2.length) ( cond (zj1 f y4 (zN y2 0) (zN y2 1)) ( cond y6 ( cond (zU 2 y2.length) ( cond (y5.2) (cond (zU 1 y2.length) ( cond (decide ((zN y2 1 : Int) > 0)) (some (ret (y3, true, y1))) (cond y6 ( some (ret (y3, ((zN y2 0 : Int) == 0), y1))) none)) none) (some (ret (y3, false, y1)))) none) none) none) none) none) none
noncomputable def ziR {R : Type} (ret : zx6 -> R) (f : QueueForm) (pl : Int) (ws : List Int) (j : zso -> Option R) : Option R := cond (zc1 (some (⟨ws⟩ : MemMemory)) pl (zbt f 3)) (j (.l5)) none
theorem zHx (f : QueueForm) (pl : Int) (ws : List Int) (l : zso) : CT fun j => zfz id f pl ws j l := by cases l <;> (dsimp only [zfz]; repeat (first | exact ctJ _ | exact ctK _ | apply ctC))
def zvv (f : QueueForm) (pl : Int) (ws : List Int) : zso -> Option zx6 := lfp (zfz id f pl ws)
theorem zzl (f : QueueForm) (pl : Int) (ws : List Int) (l : zso) : zvv f pl ws l = zfz id f pl ws (zvv f pl ws) l := zI (zHx f pl ws) l
def zqV (f : QueueForm) (pl : Int) (ws : List Int) : Option zx6 := ziR id f pl ws (zvv f pl ws)
def zes (f : QueueForm) (pl : Int) (ws : List Int) : zx6 := (zqV f pl ws).getD default
def zj0 (f : QueueForm) (pl : Int) (ws : List Int) : Bool := (zqV f pl ws).isSome
theorem zKW (f : QueueForm) (pl : Int) (ws : List Int) (hc : zj0 f pl ws = true) : Okay Pr GL 105 [.agg [(ze f.words), (ze f.depth)], .ref 0 0, (ze pl)] [.cells 112 [.own 1], .arr 44 (.i .u32) ws] (zxq (zes f pl ws)) := zH (H := H105) (bod := zfz id f pl ws) (ent := ziR id f pl ws) (bodA := zfz zxq f pl ws) (entA := ziR zxq f pl ws) zd8 zy Tryz.func105 rfl (by kernel_rfl) zxq zKm (zQU f pl ws) (fun J l => by cases l <;> kernel_rfl) (fun J => by kernel_rfl) (fun s l => by cases l <;> simp only [zfz, zb, zt, zu, id]) (fun s => by simp only [ziR, zb, zt, zu, id]) (zHx f pl ws) (by dsimp only [ziR]; repeat (first | exact ctJ _ | exact ctK _ | apply ctC)) hc
abbrev zC2 := Bool
def zB2 (r : zC2) : zY := ⟨(z8 r), []⟩
noncomputable def zlB {R : Type} (ret : zC2 -> R) (f : QueueForm) (m : (Option MemMemory)) (at_2 : Int) (head : Int) : Option R := cond (zc1 m at_2 (zbt f head)) (some (ret (((zci m at_2 (zbt f head)).2 : Int) == 0))) none
def zqU (f : QueueForm) (m : (Option MemMemory)) (at_2 : Int) (head : Int) : Option zC2 := zlB id f m at_2 head
def zg2 (f : QueueForm) (m : (Option MemMemory)) (at_2 : Int) (head : Int) : zC2 := (zqU f m at_2 head).getD default
def zd7 (f : QueueForm) (m : (Option MemMemory)) (at_2 : Int) (head : Int) : Bool := (zqU f m at_2 head).isSome
theorem zKV (f : QueueForm) (m : (Option MemMemory)) (at_2 : Int) (head : Int) (hc : zd7 f m at_2 head = true) : Okay Pr GL 104 [.agg [(ze f.words), (ze f.depth)], .op .sMemMemory m, (ze at_2), (ze head)] [] (zB2 (zg2 f m at_2 head)) := zw (H := zar) (ent := zlB id f m at_2 head) (entA := zlB zB2 f m at_2 head) zd8 zy Tryz.func104 rfl (by kernel_rfl) zB2 (fun J => by kernel_rfl) (by simp only [zlB, zb, zt, zu, id]) hc
abbrev zDd := AdmitFound
def zCd (r : zDd) : zY := ⟨.agg [(ze r.e), (ze r.where_.first), (ze r.where_.second)], []⟩
noncomputable def zlK {R : Type} (ret : zDd -> R) (a : Config) (a_1 : Int) : Option R := cond (zrI a a_1) (some (ret (zpp a a_1))) none
def zq1 (a : Config) (a_1 : Int) : Option zDd := zlK id a a_1
def zie (a : Config) (a_1 : Int) : zDd := (zq1 a a_1).getD default
def zvH (a : Config) (a_1 : Int) : Bool := (zq1 a a_1).isSome
theorem zA7 (a : Config) (a_1 : Int) (hc : zvH a a_1 = true) : Okay Pr GL 135 [.op .sConfig (some a), .op (.i .i64) (some a_1)] [] (zCd (zie a a_1)) := zw (H := zar) (ent := zlK id a a_1) (entA := zlK zCd a a_1) zd8 zy Tryz.func135 rfl (by kernel_rfl) zCd (fun J => by kernel_rfl) (by simp only [zlK, zb, zt, zu, id]) hc
abbrev R59 := Layout × Int
def zGI (r : R59) : zY := ⟨.tup [.agg [(ze r.1.barrier), .own 0, .own 1, (ze r.1.end_)], (ze r.2)], [.row 203 .sPartitionPlace [(4, 3)] [] r.1.partitions, .row 163 .sChannelPlace [(4, 165)] [] r.1.channels]⟩
inductive L59 where | l0 (x0 : Int) (x1 : Int) (x2 : List PartitionPlace) | l4 (x2 : Int) (x0 : Int) (x1 : List PartitionPlace) (x3 : List ChannelPlace) | l8 (x6 : Int) (x7 : Int) (x4 : Int) (x0 : Int) (x1 : List PartitionPlace) (x8 : List ChannelPlace) (x9 : Int) (x10 : Int) (x11 : Int) (x2 : Int) (x3 : Int) (x12 : Int) (x13 : Int) (x5 : List DestPlace) (x14 : List LayoutEnd) | l12 (x2 : Int) (x0 : List PartitionPlace) (x3 : List ChannelPlace) (x1 : Int) | l16 (x3 : Int) (x4 : Int) (x5 : Int) (x2 : Int) (x0 : List PartitionPlace) (x6 : List ChannelPlace) (x1 : Int)
def zPF : L59 -> Nat | .l0 _ _ _ => 0 | .l4 _ _ _ _ => 4 | .l8 _ _ _ _ _ _ _ _ _ _ _ _ _ _ _ => 8 | .l12 _ _ _ _ => 12 | .l16 _ _ _ _ _ _ _ => 16
def H59 : z9 := ⟨fun n => [].any (Nat.beq n), zqx [(0, ⟨fgt [1, 2, 4, 5, 29, 30] 148 0, [(.box 5 1, .own 203 .sPartitionPlace)]⟩), (4, ⟨fgt [1, 2, 4, 5, 46, 47, 48] 148 0, [(.box 5 2, .own 163 .sChannelPlace)]⟩), (8, ⟨fgt [1, 2, 4, 5, 7, 10, 46, 47, 48, 74, 75, 76] 148 0, [(.box 10 4, .own 165 .sDestPlace), (.box 5 2, .own 163 .sChannelPlace)]⟩), (12, ⟨fgt [2, 5, 13, 109, 110, 111] 148 0, [(.box 5 2, .own 163 .sChannelPlace)]⟩), (16, ⟨fgt [2, 5, 13, 14, 109, 110, 111, 124, 125] 148 0, []⟩)], [(.cell 0 1, .own 203 .sPartitionPlace), (.cell 0 2, .own 163 .sChannelPlace)], G0, (fun e => match e with | 163 => [(4, 165)] | 203 => [(4, 3)] | _ => [])⟩
noncomputable def st59 (c : Config) : L59 -> St | .l0 x0 x1 x2 => ⟨mkE [(1, .ref 0 0), (2, .ref 1 0), (4, .fn (.func 140) [] [.ref 2 0]), (5, .ref 3 0), (29, (ze c.partitions.length)), (30, (ze x0))] 148 0, [.cells 26 (Ty.enc .sConfig c), .cells 101 [(ze 0), .v (.slice none 0 0), .v (.slice none 0 0), (ze 0)], .cells 3 [(ze x1)], .cells 101 [(ze ((zbl 2 (zk4 (i64.wrap (c.kernel * 16)))).1)), .own 4, .v (.slice none 0 0), (ze 0)], .row 203 .sPartitionPlace [(4, 3)] [] x2], GL, 0, [], (fun e => match e with | 163 => [(4, 165)] | 203 => [(4, 3)] | _ => [])⟩ | .l4 x2 x0 x1 x3 => ⟨mkE [(1, .ref 0 0), (2, .ref 1 0), (4, .fn (.func 140) [] [.ref 2 0]), (5, .ref 3 0), (46, .sl .sChannel c.channels), (47, (ze c.channels.length)), (48, (ze x2))] 148 0, [.cells 26 (Ty.enc .sConfig c), .cells 101 [(ze 0), .v (.slice none 0 0), .v (.slice none 0 0), (ze 0)], .cells 3 [(ze x0)], .cells 101 [(ze ((zbl 2 (zk4 (i64.wrap (c.kernel * 16)))).1)), .own 4, .own 5, (ze 0)], .row 203 .sPartitionPlace [(4, 3)] [] x1, .row 163 .sChannelPlace [(4, 165)] [] x3], GL, 0, [], (fun e => match e with | 163 => [(4, 165)] | 203 => [(4, 3)] | _ => [])⟩ | .l8 x6 x7 x4 x0 x1 x8 x9 x10 x11 x2 x3 x12 x13 x5 x14 => ⟨mkE [(1, .ref 0 0), (2, .ref 1 0), (4, .fn (.func 140) [] [.ref 2 0]), (5, .ref 3 0), (7, .ref 6 0), (10, .ref 7 0), (46, .sl .sChannel c.channels), (47, (ze c.channels.length)), (48, (ze x6)), (74, .own 9), (75, (ze x7)), (76, (ze x4))] 148 0, [.cells 26 (Ty.enc .sConfig c), .cells 101 [(ze 0), .v (.slice none 0 0), .v (.slice none 0 0), (ze 0)], .cells 3 [(ze x0)], .cells 101 [(ze ((zbl 2 (zk4 (i64.wrap (c.kernel * 16)))).1)), .own 4, .own 5, (ze 0)], .row 203 .sPartitionPlace [(4, 3)] [] x1, .row 163 .sChannelPlace [(4, 165)] [] x8, .cells 108 [(ze x9), (ze x10), (ze x11)], .cells 163 [(ze x2), (ze x3), (ze x12), (ze x13), .own 8], .arr 165 .sDestPlace x5, .arr 208 .sLayoutEnd x14], GL, 0, [], (fun e => match e with | 163 => [(4, 165)] | 203 => [(4, 3)] | _ => [])⟩ | .l12 x2 x0 x3 x1 => ⟨mkE [(2, .ref 0 0), (5, .ref 1 0), (13, .fn (.func 140) [] [.ref 4 0]), (109, .sl .sPartition c.partitions), (110, (ze c.partitions.length)), (111, (ze x2))] 148 0, [.cells 101 [(ze 0), .v (.slice none 0 0), .v (.slice none 0 0), (ze 0)], .cells 101 [(ze ((zbl 2 (zk4 (i64.wrap (c.kernel * 16)))).1)), .own 2, .own 3, (ze 0)], .row 203 .sPartitionPlace [(4, 3)] [] x0, .row 163 .sChannelPlace [(4, 165)] [] x3, .cells 3 [(ze x1)]], GL, 0, [], (fun e => match e with | 163 => [(4, 165)] | 203 => [(4, 3)] | _ => [])⟩ | .l16 x3 x4 x5 x2 x0 x6 x1 => ⟨mkE [(2, .ref 0 0), (5, .ref 1 0), (13, .fn (.func 140) [] [.ref 4 0]), (14, (ze x3)), (109, .sl .sPartition c.partitions), (110, (ze c.partitions.length)), (111, (ze x4)), (124, (ze x5)), (125, (ze x2))] 148 0, [.cells 101 [(ze 0), .v (.slice none 0 0), .v (.slice none 0 0), (ze 0)], .cells 101 [(ze ((zbl 2 (zk4 (i64.wrap (c.kernel * 16)))).1)), .own 2, .own 3, (ze 0)], .row 203 .sPartitionPlace [(4, 3)] [] x0, .row 163 .sChannelPlace [(4, 165)] [] x6, .cells 3 [(ze x1)]], GL, 0, [], (fun e => match e with | 163 => [(4, 165)] | 203 => [(4, 3)] | _ => [])⟩
noncomputable def zcL {R : Type} (ret : R59 -> R) (c : Config) (j : L59 -> Option R) : L59 -> Option R | .l0 x0 x1 x2 =>let y2 := zbl 17 ((zbl 2 x1).2); let y1 := (⟨(zbl 2 x1).1, y2.1, (zbl 5 (y2.2)).1, 0, []⟩ : PartitionPlace); let y3 := (x2 : List PartitionPlace);  cond (decide (x0 < c.partitions.length)) (cond (leB ((y3.length + ([y1] : List PartitionPlace).length) * 56) 140737488355328) ( j (.l0 (i64.wrap (x0 + 1)) ((zbl 5 (y2.2)).2) (y3 ++ [y1]))) none) (j (.l4 0 x1 x2 [])) | .l4 x2 x0 x1 x3 =>let y1 := zo c.channels x2.toNat; let y2 := zud c x2; let y3 := zbl (zoe y1) ((zbl 2 x0).2); let y4 := zF (y2.1) 0; let y5 := zU 0 (y2.1).length;  cond (decide (x2 < c.channels.length)) (cond (zU x2 c.channels.length) ( cond (zqa c x2) ( cond y5 ( cond y5 ( j (.l8 x2 ((y2.2).length) 0 (y3.2) x1 x3 (y1.kind) (y1.words) (y1.depth) ((zbl 2 x0).1) (y3.1) (y4.partition) (y4.port) [] (y2.2))) none) none) none) none) (j (.l12 0 x1 x3 (zk4 (bop .quo .i64 (i64.wrap ((i64.wrap ((zbl 0 x0).1 + 16)) - 1)) 16)))) | .l8 x6 x7 x4 x0 x1 x8 x9 x10 x11 x2 x3 x12 x13 x5 x14 =>let y2 := (zbl (zzi (⟨x9, x10, x11⟩ : Channel)) x0); let y3 := (⟨x2, x3, x12, x13, x5⟩ : ChannelPlace); let y4 := zF x14 x4.toNat; let y1 := (⟨y4.partition, y4.port, y2.1⟩ : DestPlace); let y5 := (x8 : List ChannelPlace); let y6 := (x5 : List DestPlace);  cond (decide (x4 < x7)) (cond (zU x4 x14.length) ( cond (leB ((y6.length + ([y1] : List DestPlace).length) * 24) 140737488355328) ( j (.l8 x6 x7 (i64.wrap (x4 + 1)) (y2.2) x1 x8 x9 x10 x11 x2 x3 x12 x13 (y6 ++ [y1]) x14)) none) none) (cond (leB ((y5.length + ([y3] : List ChannelPlace).length) * 56) 140737488355328) (j (.l4 (i64.wrap (x6 + 1)) x0 x1 (y5 ++ [y3]))) none) | .l12 x2 x0 x3 x1 =>let y1 := zaa x0 x2.toNat; let y2 := za c.partitions x2.toNat;  cond (decide (x2 < c.partitions.length)) (cond (zU x2 c.partitions.length) ( cond (zU x2 x0.length) ( cond (zxi y2) ( j (.l16 x2 x2 (zGo y2) 0 (List.set x0 x2.toNat (⟨y1.lock, y1.save, y1.state, (zbl 1 x1).1, y1.tables⟩ : PartitionPlace)) x3 ((zbl 1 x1).2))) none) none) none) (some (ret ((⟨(zbl 2 (zk4 (i64.wrap (c.kernel * 16)))).1, x0, x3, (zbl 0 x1).1⟩ : Layout), 0))) | .l16 x3 x4 x5 x2 x0 x6 x1 =>let y1 := zaa x0 x3.toNat; let y2 := (y1.tables : List Int); let y3 := zbl 1 x1;  cond (decide (x2 < x5)) (cond (zU x3 x0.length) ( cond (leB ((y2.length + ([y3.1] : List Int).length) * 8) 140737488355328) ( cond (zU x3 x0.length) ( cond (Nat.beq x3.toNat x3.toNat) ( j (.l16 x3 x4 x5 (i64.wrap (x2 + 1)) (List.set x0 x3.toNat (⟨y1.lock, y1.save, y1.state, y1.root, (y2 ++ [y3.1])⟩ : PartitionPlace)) x6 (y3.2))) none) none) none) none) (j (.l12 (i64.wrap (x4 + 1)) x0 x6 x1))
noncomputable def zoz {R : Type} (ret : R59 -> R) (c : Config) (j : L59 -> Option R) : Option R := cond (zxh c) ( cond (!(zGn c)) (some (ret ((⟨0, [], [], 0⟩ : Layout), 150))) (j (.l0 0 ((zbl 2 (zk4 (i64.wrap (c.kernel * 16)))).2) []))) none
theorem ct59 (c : Config) (l : L59) : CT fun j => zcL id c j l := by cases l <;> (dsimp only [zcL]; repeat (first | exact ctJ _ | exact ctK _ | apply ctC))
def zb8 (c : Config) : L59 -> Option R59 := lfp (zcL id c)
theorem zbR (c : Config) (l : L59) : zb8 c l = zcL id c (zb8 c) l := zI (ct59 c) l
def zwT (c : Config) : Option R59 := zoz id c (zb8 c)
def zcZ (c : Config) : R59 := (zwT c).getD default
def znO (c : Config) : Bool := (zwT c).isSome
theorem zQl (c : Config) (hc : znO c = true) : Okay Pr GL 59 [.agg (Ty.enc .sConfig c)] [] (zGI (zcZ c)) := zH (H := H59) (bod := zcL id c) (ent := zoz id c) (bodA := zcL zGI c) (entA := zoz zGI c) zd8 zy Tryz.func59 rfl (by kernel_rfl) zGI zPF (st59 c) (fun J l => by cases l <;> kernel_rfl) (fun J => by kernel_rfl) (fun s l => by cases l <;> simp only [zcL, zb, zt, zu, id]) (fun s => by simp only [zoz, zb, zt, zu, id]) (ct59 c) (by dsimp only [zoz]; repeat (first | exact ctJ _ | exact ctK _ | apply ctC)) hc
abbrev zx8 := AdmitFound
def zxs (r : zx8) : zY := ⟨.agg [(ze r.e), (ze r.where_.first), (ze r.where_.second)], []⟩
inductive zsq where | l0 (x3 : Int) (x0 : Int) (x1 : Int) (x2 : Int) | l4 (x3 : Int) (x0 : Int) (x1 : Int) (x2 : Int)
def zKo : zsq -> Nat | .l0 _ _ _ _ => 0 | .l4 _ _ _ _ => 4
def H132 : z9 := htt [] [(0, ⟨fgt [1, 2, 4, 5, 6, 7, 75, 76, 96, 97, 98] 118 0, []⟩), (4, ⟨fgt [1, 2, 4, 5, 6, 8] 118 0, []⟩)] []
noncomputable def zQW (c : Config) (p : Int) : zsq -> St | .l0 x3 x0 x1 x2 => stt [(1, (ze p)), (2, .ref 0 0), (4, .ref 1 0), (5, .ref 2 0), (6, .ref 3 0), (7, (ze x3))] 118 [.cells 26 (Ty.enc .sConfig c), .cells 199 [(ze 0), (ze 0), (ze 0)], .cells 55 (Ty.enc .sPartition (za c.partitions p.toNat)), .cells 199 [(ze x0), (ze x1), (ze x2)]] 0 | .l4 x3 x0 x1 x2 => stt [(1, (ze p)), (2, .ref 0 0), (4, .ref 1 0), (5, .ref 2 0), (6, .ref 3 0), (8, (ze x3))] 118 [.cells 26 (Ty.enc .sConfig c), .cells 199 [(ze 0), (ze 0), (ze 0)], .cells 55 (Ty.enc .sPartition (za c.partitions p.toNat)), .cells 199 [(ze x0), (ze x1), (ze x2)]] 0
noncomputable def zcn {R : Type} (ret : zx8 -> R) (c : Config) (p : Int) (j : zsq -> Option R) : zsq -> Option R | .l0 x3 x0 x1 x2 =>let y4 := za c.partitions p.toNat; let y1 := (zp (decide (((y4.ports).length : Int) <= 8)) 413 (zA p)); let y2 := zp (zwz y4) 412 (zA p); let y5 := (x0 == fine.e) && (((x1 == fine.where_.first) && ((x2 == fine.where_.second) && true)) && true); let y6 := zaN [y2, y1]; let y7 := zp false 412 (zA p); let y3 := zaN [y7, y1]; let y8 := (⟨x0, (⟨x1, x2⟩ : Where)⟩ : AdmitFound); let y9 := zmZ c p x3; let y10 := zW (y4.entry) 0 4095;  cond (decide (x3 < (y4.regions).length)) (cond y5 (cond (zrR c p x3) (j (.l0 (i64.wrap (x3 + 1)) (y9.e) (y9.where_.first) (y9.where_.second))) none) (cond (!y5) (some (ret y8)) (cond y10 (cond (znD y4) ( cond (zaV [y2, y1]) ( j (.l4 0 (y6.e) (y6.where_.first) (y6.where_.second))) none) none) (cond (zaV [y7, y1]) ( j (.l4 0 (y3.e) (y3.where_.first) (y3.where_.second))) none)))) (cond (!y5) (some (ret y8)) (cond y10 (cond (znD y4) ( cond (zaV [y2, y1]) ( j (.l4 0 (y6.e) (y6.where_.first) (y6.where_.second))) none) none) (cond (zaV [y7, y1]) ( j (.l4 0 (y3.e) (y3.where_.first) (y3.where_.second))) none))) | .l4 x3 x0 x1 x2 =>let y2 := (za c.partitions p.toNat).ports; let y1 := zp (zW ((zaI y2 x3.toNat).channel) 0 (i64.wrap (c.channels.length - 1))) 414 (zam p x3); let y3 := (⟨x0, (⟨x1, x2⟩ : Where)⟩ : AdmitFound);  cond (decide (x3 < y2.length)) (cond ((x0 == fine.e) && (((x1 == fine.where_.first) && ((x2 == fine.where_.second) && true)) && true)) (cond (zU x3 y2.length) ( j (.l4 (i64.wrap (x3 + 1)) (y1.e) (y1.where_.first) (y1.where_.second))) none) (some (ret y3))) (some (ret y3))
noncomputable def ziV {R : Type} (ret : zx8 -> R) (c : Config) (p : Int) (j : zsq -> Option R) : Option R := cond (zU p c.partitions.length) ( cond (zrQ c p) ( cond (zW ((za c.partitions p.toNat).action) 0 2) (cond (zW ((za c.partitions p.toNat).inputs) 0 16) (cond (zaV [(zp (zcj c p) 405 (zA p)), (zp (zW ((za c.partitions p.toNat).restarts) 0 15) 406 (zA p)), (zp (zW ((za c.partitions p.toNat).outputs) 0 16) 407 (zA p)), (zp (zW (((za c.partitions p.toNat).regions).length) 1 8) 408 (zA p))]) ( j (.l0 0 ((zaN [(zp (zcj c p) 405 (zA p)), (zp (zW ((za c.partitions p.toNat).restarts) 0 15) 406 (zA p)), (zp (zW ((za c.partitions p.toNat).outputs) 0 16) 407 (zA p)), (zp (zW (((za c.partitions p.toNat).regions).length) 1 8) 408 (zA p))]).e) ((zaN [(zp (zcj c p) 405 (zA p)), (zp (zW ((za c.partitions p.toNat).restarts) 0 15) 406 (zA p)), (zp (zW ((za c.partitions p.toNat).outputs) 0 16) 407 (zA p)), (zp (zW (((za c.partitions p.toNat).regions).length) 1 8) 408 (zA p))]).where_.first) ((zaN [(zp (zcj c p) 405 (zA p)), (zp (zW ((za c.partitions p.toNat).restarts) 0 15) 406 (zA p)), (zp (zW ((za c.partitions p.toNat).outputs) 0 16) 407 (zA p)), (zp (zW (((za c.partitions p.toNat).regions).length) 1 8) 408 (zA p))]).where_.second))) none) (cond (zaV [(zp (zcj c p) 405 (zA p)), (zp (zW ((za c.partitions p.toNat).restarts) 0 15) 406 (zA p)), (zp false 407 (zA p)), (zp (zW (((za c.partitions p.toNat).regions).length) 1 8) 408 (zA p))]) ( j (.l0 0 ((zaN [(zp (zcj c p) 405 (zA p)), (zp (zW ((za c.partitions p.toNat).restarts) 0 15) 406 (zA p)), (zp false 407 (zA p)), (zp (zW (((za c.partitions p.toNat).regions).length) 1 8) 408 (zA p))]).e) ((zaN [(zp (zcj c p) 405 (zA p)), (zp (zW ((za c.partitions p.toNat).restarts) 0 15) 406 (zA p)), (zp false 407 (zA p)), (zp (zW (((za c.partitions p.toNat).regions).length) 1 8) 408 (zA p))]).where_.first) ((zaN [(zp (zcj c p) 405 (zA p)), (zp (zW ((za c.partitions p.toNat).restarts) 0 15) 406 (zA p)), (zp false 407 (zA p)), (zp (zW (((za c.partitions p.toNat).regions).length) 1 8) 408 (zA p))]).where_.second))) none)) (cond (zW ((za c.partitions p.toNat).inputs) 0 16) (cond (zaV [(zp (zcj c p) 405 (zA p)), (zp false 406 (zA p)), (zp (zW ((za c.partitions p.toNat).outputs) 0 16) 407 (zA p)), (zp (zW (((za c.partitions p.toNat).regions).length) 1 8) 408 (zA p))]) ( j (.l0 0 ((zaN [(zp (zcj c p) 405 (zA p)), (zp false 406 (zA p)), (zp (zW ((za c.partitions p.toNat).outputs) 0 16) 407 (zA p)), (zp (zW (((za c.partitions p.toNat).regions).length) 1 8) 408 (zA p))]).e) ((zaN [(zp (zcj c p) 405 (zA p)), (zp false 406 (zA p)), (zp (zW ((za c.partitions p.toNat).outputs) 0 16) 407 (zA p)), (zp (zW (((za c.partitions p.toNat).regions).length) 1 8) 408 (zA p))]).where_.first) ((zaN [(zp (zcj c p) 405 (zA p)), (zp false 406 (zA p)), (zp (zW ((za c.partitions p.toNat).outputs) 0 16) 407 (zA p)), (zp (zW (((za c.partitions p.toNat).regions).length) 1 8) 408 (zA p))]).where_.second))) none) (cond (zaV [(zp (zcj c p) 405 (zA p)), (zp false 406 (zA p)), (zp false 407 (zA p)), (zp (zW (((za c.partitions p.toNat).regions).length) 1 8) 408 (zA p))]) ( j (.l0 0 ((zaN [(zp (zcj c p) 405 (zA p)), (zp false 406 (zA p)), (zp false 407 (zA p)), (zp (zW (((za c.partitions p.toNat).regions).length) 1 8) 408 (zA p))]).e) ((zaN [(zp (zcj c p) 405 (zA p)), (zp false 406 (zA p)), (zp false 407 (zA p)), (zp (zW (((za c.partitions p.toNat).regions).length) 1 8) 408 (zA p))]).where_.first) ((zaN [(zp (zcj c p) 405 (zA p)), (zp false 406 (zA p)), (zp false 407 (zA p)), (zp (zW (((za c.partitions p.toNat).regions).length) 1 8) 408 (zA p))]).where_.second))) none))) none) none
theorem zHz (c : Config) (p : Int) (l : zsq) : CT fun j => zcn id c p j l := by cases l <;> (dsimp only [zcn]; repeat (first | exact ctJ _ | exact ctK _ | apply ctC))
def zm7 (c : Config) (p : Int) : zsq -> Option zx8 := lfp (zcn id c p)
theorem zdn (c : Config) (p : Int) (l : zsq) : zm7 c p l = zcn id c p (zm7 c p) l := zI (zHz c p) l
def zqY (c : Config) (p : Int) : Option zx8 := ziV id c p (zm7 c p)
def zpn (c : Config) (p : Int) : zx8 := (zqY c p).getD default
def zrG (c : Config) (p : Int) : Bool := (zqY c p).isSome
theorem zK1 (c : Config) (p : Int) (hc : zrG c p = true) : Okay Pr GL 132 [.agg (Ty.enc .sConfig c), (ze p)] [] (zxs (zpn c p)) := zH (H := H132) (bod := zcn id c p) (ent := ziV id c p) (bodA := zcn zxs c p) (entA := ziV zxs c p) zd8 zy Tryz.func132 rfl (by kernel_rfl) zxs zKo (zQW c p) (fun J l => by cases l <;> kernel_rfl) (fun J => by kernel_rfl) (fun s l => by cases l <;> simp only [zcn, zb, zt, zu, id]) (fun s => by simp only [ziV, zb, zt, zu, id]) (zHz c p) (by dsimp only [ziV]; repeat (first | exact ctJ _ | exact ctK _ | apply ctC)) hc
abbrev zye := Int
def zxy (r : zye) : zY := ⟨(ze r), []⟩
inductive zsw where | l0 (x0 : Int) | l4 (x0 : Int) | l8 (x0 : Int) (x1 : Int)
def zKu : zsw -> Nat | .l0 _ => 0 | .l4 _ => 4 | .l8 _ _ => 8
def H143 : z9 := htt [] [(0, ⟨fgt [1, 2, 3, 7, 8, 69, 70, 71] 91 0, []⟩), (4, ⟨fgt [1, 2, 3, 7, 10] 91 0, []⟩), (8, ⟨fgt [1, 2, 3, 7, 10, 11] 91 0, []⟩)] []
noncomputable def zQ2 (c : Config) (p : Int) (k : Int) : zsw -> St | .l0 x0 => stt [(1, (ze p)), (2, (ze k)), (3, .ref 0 0), (7, .ref 1 0), (8, (ze x0))] 91 [.cells 26 (Ty.enc .sConfig c), .cells 136 (Ty.enc .sRegion (zm ((za c.partitions p.toNat).regions) k.toNat))] 0 | .l4 x0 => stt [(1, (ze p)), (2, (ze k)), (3, .ref 0 0), (7, .ref 1 0), (10, (ze x0))] 91 [.cells 26 (Ty.enc .sConfig c), .cells 136 (Ty.enc .sRegion (zm ((za c.partitions p.toNat).regions) k.toNat))] 0 | .l8 x0 x1 => stt [(1, (ze p)), (2, (ze k)), (3, .ref 0 0), (7, .ref 1 0), (10, (ze x0)), (11, (ze x1))] 91 [.cells 26 (Ty.enc .sConfig c), .cells 136 (Ty.enc .sRegion (zm ((za c.partitions p.toNat).regions) k.toNat))] 0
noncomputable def zbV {R : Type} (ret : zye -> R) (c : Config) (p : Int) (k : Int) (j : zsw -> Option R) : zsw -> Option R | .l0 x0 =>let y1 := (za c.partitions p.toNat).regions; let y2 := zm y1 x0.toNat; let y3 := zm y1 k.toNat;  cond (decide (x0 < k)) (cond (zU p c.partitions.length) ( cond (zU x0 y1.length) ( cond (zmX (y3.page) (y3.pages) (y2.page) (y2.pages)) (some (ret 410)) (j (.l0 (i64.wrap (x0 + 1))))) none) none) (j (.l4 0)) | .l4 x0 => cond (decide (x0 <= p)) (j (.l8 x0 0)) (some (ret 0)) | .l8 x0 x1 =>let y2 := (za c.partitions x0.toNat).regions; let y3 := zm ((za c.partitions p.toNat).regions) k.toNat; let y4 := zU x0 c.partitions.length; let y5 := i64.wrap (x0 + 1); let y6 := i64.wrap (x1 + 1); let y7 := zm y2 x1.toNat; let y1 := zmX (y3.frame) (y3.pages) (y7.frame) (y7.pages);  cond y4 ( cond (decide (x1 < y2.length)) (cond (x0 == p) (cond (decide (x1 >= k)) (j (.l4 y5)) (cond y4 ( cond (zU x1 y2.length) ( cond y1 (some (ret 411)) (j (.l8 x0 y6))) none) none)) (cond y4 ( cond (zU x1 y2.length) ( cond y1 (some (ret 411)) (j (.l8 x0 y6))) none) none)) (j (.l4 y5))) none
noncomputable def zi1 {R : Type} (ret : zye -> R) (c : Config) (p : Int) (k : Int) (j : zsw -> Option R) : Option R := cond (zU p c.partitions.length) ( cond (zU k ((za c.partitions p.toNat).regions).length) ( cond (!(zpv c (zm ((za c.partitions p.toNat).regions) k.toNat))) (some (ret 409)) (j (.l0 0))) none) none
theorem zHF (c : Config) (p : Int) (k : Int) (l : zsw) : CT fun j => zbV id c p k j l := by cases l <;> (dsimp only [zbV]; repeat (first | exact ctJ _ | exact ctK _ | apply ctC))
def zbZ (c : Config) (p : Int) (k : Int) : zsw -> Option zye := lfp (zbV id c p k)
theorem zb5 (c : Config) (p : Int) (k : Int) (l : zsw) : zbZ c p k l = zbV id c p k (zbZ c p k) l := zI (zHF c p k) l
def zq5 (c : Config) (p : Int) (k : Int) : Option zye := zi1 id c p k (zbZ c p k)
def zpq (c : Config) (p : Int) (k : Int) : zye := (zq5 c p k).getD default
def zrM (c : Config) (p : Int) (k : Int) : Bool := (zq5 c p k).isSome
theorem zK9 (c : Config) (p : Int) (k : Int) (hc : zrM c p k = true) : Okay Pr GL 143 [.agg (Ty.enc .sConfig c), (ze p), (ze k)] [] (zxy (zpq c p k)) := zH (H := H143) (bod := zbV id c p k) (ent := zi1 id c p k) (bodA := zbV zxy c p k) (entA := zi1 zxy c p k) zd8 zy Tryz.func143 rfl (by kernel_rfl) zxy zKu (zQ2 c p k) (fun J l => by cases l <;> kernel_rfl) (fun J => by kernel_rfl) (fun s l => by cases l <;> simp only [zbV, zb, zt, zu, id]) (fun s => by simp only [zi1, zb, zt, zu, id]) (zHF c p k) (by dsimp only [zi1]; repeat (first | exact ctJ _ | exact ctK _ | apply ctC)) hc
abbrev zDL := (List Int) × Int
def zCL (r : zDL) : zY := ⟨.tup [.own 0, (ze r.2)], [.arr 44 (.i .u32) r.1]⟩
def H210 : z9 := ⟨fun _ => false, fun _ => ⟨[], []⟩, [(.slot 0, .own 44 (.i .u32))], G0, zfX⟩
noncomputable def zjj {R : Type} (ret : zDL -> R) (m : (Option MemMemory)) (at_1 : Int) (words : Int) (head : Int) : Option R := cond (zc1 m at_1 (i64.wrap (head + words))) ( cond (!(((zci m at_1 (i64.wrap (head + words))).2 : Int) == 0)) (some (ret ([], (zci m at_1 (i64.wrap (head + words))).2))) (cond (zhB ((zci m at_1 (i64.wrap (head + words))).1) head) ( cond (!((zf6 ((zci m at_1 (i64.wrap (head + words))).1) head).2)) (some (ret ([], 191))) (some (ret ((zf6 ((zci m at_1 (i64.wrap (head + words))).1) head).1, 0)))) none)) none
def zjX (m : (Option MemMemory)) (at_1 : Int) (words : Int) (head : Int) : Option zDL := zjj id m at_1 words head
def za4 (m : (Option MemMemory)) (at_1 : Int) (words : Int) (head : Int) : zDL := (zjX m at_1 words head).getD default
def zcA (m : (Option MemMemory)) (at_1 : Int) (words : Int) (head : Int) : Bool := (zjX m at_1 words head).isSome
theorem zLV (m : (Option MemMemory)) (at_1 : Int) (words : Int) (head : Int) (hc : zcA m at_1 words head = true) : Okay Pr GL 210 [.op .sMemMemory m, (ze at_1), (ze words), (ze head)] [] (zCL (za4 m at_1 words head)) := zw (H := H210) (ent := zjj id m at_1 words head) (entA := zjj zCL m at_1 words head) zd8 zy Tryz.func210 rfl (by kernel_rfl) zCL (fun J => by kernel_rfl) (by simp only [zjj, zb, zt, zu, id]) hc
abbrev zyu := QueueRow × Bool × MemMemory
def zxO (r : zyu) : zY := ⟨.tup [.agg [(avU r.1.first), (avU r.1.lost), .own 2], (z8 r.2.1)], [.cells 112 [.own 1], .arr 44 (.i .u32) r.2.2.words, .arr 45 (.sl (.i .u32)) r.1.messages]⟩
inductive zsM where | l5
def zKK : zsM -> Nat | .l5 => 5
def H198 : z9 := htt [2] [(5, ⟨fgt [3, 6, 8] 33 0, [(.slot 8, .sl (.i .u32))]⟩)] []
noncomputable def zRi (f : QueueForm) (pl : Int) (ws : List Int) : zsM -> St | .l5 => stt [(3, .ref 2 0), (6, .ref 3 0), (8, .sl (.i .u32) ((zci (some (⟨ws⟩ : MemMemory)) pl (zbt f 1)).1))] 33 [.cells 112 [.own 1], .arr 44 (.i .u32) ws, .cells 169 [(ze f.words), (ze f.depth)], .cells 171 [(avU 0), (avU 0), .v (.slice none 0 0)]] 2
noncomputable def zfC {R : Type} (ret : zyu -> R) (f : QueueForm) (pl : Int) (ws : List Int) (j : zsM -> Option R) : zsM -> Option R | .l5 =>let y1 := (⟨ws⟩ : MemMemory); let y2 := (zci (some y1) pl (zbt f 1)).1; let y3 := ((y2.take (y2.length : Int).toNat).drop 1); let y4 := zmY f y3 0 (zN y2 0);  cond (inS 1 (y2.length) y2.length) ( cond (zU 0 y2.length) ( cond (zj1 f y3 0 (zN y2 0)) ( some (ret ((⟨0, 0, y4.1⟩ : QueueRow), y4.2, y1))) none) none) none
noncomputable def zjd {R : Type} (ret : zyu -> R) (f : QueueForm) (pl : Int) (ws : List Int) (j : zsM -> Option R) : Option R := cond (zc1 (some (⟨ws⟩ : MemMemory)) pl (zbt f 1)) (j (.l5)) none
theorem zHV (f : QueueForm) (pl : Int) (ws : List Int) (l : zsM) : CT fun j => zfC id f pl ws j l := by cases l <;> (dsimp only [zfC]; repeat (first | exact ctJ _ | exact ctK _ | apply ctC))
def zvx (f : QueueForm) (pl : Int) (ws : List Int) : zsM -> Option zyu := lfp (zfC id f pl ws)
theorem zzo (f : QueueForm) (pl : Int) (ws : List Int) (l : zsM) : zvx f pl ws l = zfC id f pl ws (zvx f pl ws) l := zI (zHV f pl ws) l
def zrs (f : QueueForm) (pl : Int) (ws : List Int) : Option zyu := zjd id f pl ws (zvx f pl ws)
def za3 (f : QueueForm) (pl : Int) (ws : List Int) : zyu := (zrs f pl ws).getD default
def zj4 (f : QueueForm) (pl : Int) (ws : List Int) : Bool := (zrs f pl ws).isSome
theorem zLJ (f : QueueForm) (pl : Int) (ws : List Int) (hc : zj4 f pl ws = true) : Okay Pr GL 198 [.agg [(ze f.words), (ze f.depth)], .ref 0 0, (ze pl)] [.cells 112 [.own 1], .arr 44 (.i .u32) ws] (zxO (za3 f pl ws)) := zH (H := H198) (bod := zfC id f pl ws) (ent := zjd id f pl ws) (bodA := zfC zxO f pl ws) (entA := zjd zxO f pl ws) zd8 zy Tryz.func198 rfl (by kernel_rfl) zxO zKK (zRi f pl ws) (fun J l => by cases l <;> kernel_rfl) (fun J => by kernel_rfl) (fun s l => by cases l <;> simp only [zfC, zb, zt, zu, id]) (fun s => by simp only [zjd, zb, zt, zu, id]) (zHV f pl ws) (by dsimp only [zjd]; repeat (first | exact ctJ _ | exact ctK _ | apply ctC)) hc
abbrev zDc := AdmitFound
def zCc (r : zDc) : zY := ⟨.agg [(ze r.e), (ze r.where_.first), (ze r.where_.second)], []⟩
noncomputable def zlJ {R : Type} (ret : zDc -> R) (a : Config) (a_1 : Int) : Option R := cond (zrH a a_1) (some (ret (zpo a a_1))) none
def zqZ (a : Config) (a_1 : Int) : Option zDc := zlJ id a a_1
def zid (a : Config) (a_1 : Int) : zDc := (zqZ a a_1).getD default
def zvG (a : Config) (a_1 : Int) : Bool := (zqZ a a_1).isSome
theorem zA6 (a : Config) (a_1 : Int) (hc : zvG a a_1 = true) : Okay Pr GL 133 [.op .sConfig (some a), .op (.i .i64) (some a_1)] [] (zCc (zid a a_1)) := zw (H := zar) (ent := zlJ id a a_1) (entA := zlJ zCc a a_1) zd8 zy Tryz.func133 rfl (by kernel_rfl) zCc (fun J => by kernel_rfl) (by simp only [zlJ, zb, zt, zu, id]) hc
def g41 := zQ (zV (rdS .sConfig) fun a0 => zP ((zp3 a0), (z8 (zzd a0)), []))
theorem zJx : zD 41 g41 := zj (zC Tryz.func41 (by kernel_rfl) rfl) (zg fun x0 a0 h0 => zi fun hb => (zQh a0 hb).ats (.cons (zM h0) .nil))
def g42 := zQ (zV (rdS .sConfig) fun a0 => zP ((zp4 a0), .own 0, [.arr 134 .sBulkheadref15Piece (zf7 a0)]))
theorem zJy : zD 42 g42 := zj (zC Tryz.func42 (by kernel_rfl) rfl) (zg fun x0 a0 h0 => zi fun hb => (zQi a0 hb).ats (.cons (zM h0) .nil))
def g59 := zQ (zV (rdS .sConfig) fun a0 => zP ((znO a0), .tup [.agg [(ze ((zcZ a0).1.barrier)), .own 0, .own 1, (ze ((zcZ a0).1.end_))], (ze ((zcZ a0).2))], [.row 203 .sPartitionPlace [(4, 3)] [] ((zcZ a0).1.partitions), .row 163 .sChannelPlace [(4, 165)] [] ((zcZ a0).1.channels)]))
theorem zJB : zD 59 g59 := zj (zC Tryz.func59 (by kernel_rfl) rfl) (zg fun x0 a0 h0 => zi fun hb => (zQl a0 hb).ats (.cons (zM h0) .nil))
def g104 := zQ (zV (rdS .sQueueForm) fun a0 => zV (z7 (.p .sMemMemory)) fun a1 => zV (z7 (.i .i64)) fun a2 => zV (z7 (.i .i64)) fun a3 => zP ((zd7 a0 a1 a2 a3), (z8 (zg2 a0 a1 a2 a3)), []))
theorem zEd : zD 104 g104 := zj (zC Tryz.func104 (by kernel_rfl) rfl) (zg fun x0 a0 h0 => zg fun x1 a1 h1 => zg fun x2 a2 h2 => zg fun x3 a3 h3 => zi fun hb => (zKV a0 a1 a2 a3 hb).ats (.cons (zM h0) (.cons (zn h1) (.cons (zn h2) (.cons (zn h3) .nil)))))
def zIO (args : List AV) (hp : List Blk) : Option (Bool × AV × List Blk) :=
 match args, hp with
 | [a0, .ref 0 0, a2], [.cells 112 [.own 1], .arr 44 (.i .u32) y0] => (rdS .sQueueForm a0).bind fun b0 => (z7 (.i .i64) a2).bind fun b2 => some ((zj0 b0 b2 y0), .tup [.agg [(avU ((zes b0 b2 y0).1.first)), (avU ((zes b0 b2 y0).1.lost)), .own 2], (z8 ((zes b0 b2 y0).2.1))], [.cells 112 [.own 1], .arr 44 (.i .u32) ((zes b0 b2 y0).2.2.words), .arr 45 (.sl (.i .u32)) ((zes b0 b2 y0).1.messages)])
 | _, _ => none
theorem zEe : zD 105 zIO := fun args hp b r hp' h hb => by
 unfold zIO at h
 split at h
 . simp only [Option.bind_eq_some_iff] at h
   obtain ⟨b0, h0, b2, h2, h⟩ := h
   cases h; exact ⟨zC Tryz.func105 (by kernel_rfl) rfl, Okay.ats (zKW b0 b2 _ hb) (.cons (zM h0) (.cons (fun _ _ _ _ h => h) (.cons (zn h2) .nil)))⟩
 . cases h
def zIP (args : List AV) (hp : List Blk) : Option (Bool × AV × List Blk) :=
 match args, hp with
 | [a0, .ref 0 0, a2, a3, a4], [.cells 112 [.own 1], .arr 44 (.i .u32) y0] => (rdS .sQueueForm a0).bind fun b0 => (z7 (.i .i64) a2).bind fun b2 => (rdS .sQueueRow a3).bind fun b3 => (z7 (.sl (.i .u32)) a4).bind fun b4 => some ((zfi b0 b2 b3 b4 y0), .tup [], [.cells 112 [.own 1], .arr 44 (.i .u32) ((zib b0 b2 b3 b4 y0).words)])
 | _, _ => none
theorem zEf : zD 106 zIP := fun args hp b r hp' h hb => by
 unfold zIP at h
 split at h
 . simp only [Option.bind_eq_some_iff] at h
   obtain ⟨b0, h0, b2, h2, b3, h3, b4, h4, h⟩ := h
   cases h; exact ⟨zC Tryz.func106 (by kernel_rfl) rfl, Okay.ats (zKX b0 b2 b3 b4 _ hb) (.cons (zM h0) (.cons (fun _ _ _ _ h => h) (.cons (zn h2) (.cons (zM h3) (.cons (zn h4) .nil)))))⟩
 . cases h
def g132 := zQ (zV (rdS .sConfig) fun a0 => zV (z7 (.i .i64)) fun a1 => zP ((zrG a0 a1), .agg [(ze ((zpn a0 a1).e)), (ze ((zpn a0 a1).where_.first)), (ze ((zpn a0 a1).where_.second))], []))
theorem zEp : zD 132 g132 := zj (zC Tryz.func132 (by kernel_rfl) rfl) (zg fun x0 a0 h0 => zg fun x1 a1 h1 => zi fun hb => (zK1 a0 a1 hb).ats (.cons (zM h0) (.cons (zn h1) .nil)))
def g133 := zQ (zV (rdP .sConfig) fun a0 => zV (rdP (.i .i64)) fun a1 => zP ((zvG a0 a1), .agg [(ze ((zid a0 a1).e)), (ze ((zid a0 a1).where_.first)), (ze ((zid a0 a1).where_.second))], []))
theorem zEq : zD 133 g133 := zj (zC Tryz.func133 (by kernel_rfl) rfl) (zg fun x0 a0 h0 => zg fun x1 a1 h1 => zi fun hb => (zA6 a0 a1 hb).ats (.cons (zfq h0) (.cons (zfq h1) .nil)))
def g135 := zQ (zV (rdP .sConfig) fun a0 => zV (rdP (.i .i64)) fun a1 => zP ((zvH a0 a1), .agg [(ze ((zie a0 a1).e)), (ze ((zie a0 a1).where_.first)), (ze ((zie a0 a1).where_.second))], []))
theorem zEs : zD 135 g135 := zj (zC Tryz.func135 (by kernel_rfl) rfl) (zg fun x0 a0 h0 => zg fun x1 a1 h1 => zi fun hb => (zA7 a0 a1 hb).ats (.cons (zfq h0) (.cons (zfq h1) .nil)))
def g143 := zQ (zV (rdS .sConfig) fun a0 => zV (z7 (.i .i64)) fun a1 => zV (z7 (.i .i64)) fun a2 => zP ((zrM a0 a1 a2), (ze (zpq a0 a1 a2)), []))
theorem zEA : zD 143 g143 := zj (zC Tryz.func143 (by kernel_rfl) rfl) (zg fun x0 a0 h0 => zg fun x1 a1 h1 => zg fun x2 a2 h2 => zi fun hb => (zK9 a0 a1 a2 hb).ats (.cons (zM h0) (.cons (zn h1) (.cons (zn h2) .nil))))
def zI8 (args : List AV) (hp : List Blk) : Option (Bool × AV × List Blk) :=
 match args, hp with
 | [a0, .ref 0 0, a2], [.cells 112 [.own 1], .arr 44 (.i .u32) y0] => (rdS .sQueueForm a0).bind fun b0 => (z7 (.i .i64) a2).bind fun b2 => some ((zj4 b0 b2 y0), .tup [.agg [(avU ((za3 b0 b2 y0).1.first)), (avU ((za3 b0 b2 y0).1.lost)), .own 2], (z8 ((za3 b0 b2 y0).2.1))], [.cells 112 [.own 1], .arr 44 (.i .u32) ((za3 b0 b2 y0).2.2.words), .arr 45 (.sl (.i .u32)) ((za3 b0 b2 y0).1.messages)])
 | _, _ => none
theorem zFa : zD 198 zI8 := fun args hp b r hp' h hb => by
 unfold zI8 at h
 split at h
 . simp only [Option.bind_eq_some_iff] at h
   obtain ⟨b0, h0, b2, h2, h⟩ := h
   cases h; exact ⟨zC Tryz.func198 (by kernel_rfl) rfl, Okay.ats (zLJ b0 b2 _ hb) (.cons (zM h0) (.cons (fun _ _ _ _ h => h) (.cons (zn h2) .nil)))⟩
 . cases h
def g210 := zQ (zV (z7 (.p .sMemMemory)) fun a0 => zV (z7 (.i .i64)) fun a1 => zV (z7 (.i .i64)) fun a2 => zV (z7 (.i .i64)) fun a3 => zP ((zcA a0 a1 a2 a3), .tup [.own 0, (ze ((za4 a0 a1 a2 a3).2))], [.arr 44 (.i .u32) ((za4 a0 a1 a2 a3).1)]))
theorem zFm : zD 210 g210 := zj (zC Tryz.func210 (by kernel_rfl) rfl) (zg fun x0 a0 h0 => zg fun x1 a1 h1 => zg fun x2 a2 h2 => zg fun x3 a3 h3 => zi fun hb => (zLV a0 a1 a2 a3 hb).ats (.cons (zn h0) (.cons (zn h1) (.cons (zn h2) (.cons (zn h3) .nil)))))
noncomputable def GW2 : Gam := zmr [(41, g41), (42, g42), (59, g59), (104, g104), (105, zIO), (106, zIP), (132, g132), (133, g133), (135, g135), (143, g143), (198, zI8), (210, g210)] GW1
theorem zd9 : GOk Pr GL GW2 := zcG ⟨zJx, zJy, zJB, zEd, zEe, zEf, zEp, zEq, zEs, zEA, zFa, zFm, trivial⟩ zd8
abbrev R61 := Layout × Int
def zGK (r : R61) : zY := ⟨.tup [.agg [(ze r.1.barrier), .sl .sPartitionPlace r.1.partitions, .sl .sChannelPlace r.1.channels, (ze r.1.end_)], (ze r.2)], []⟩
inductive L61 where | l0 (x0 : Int) (x1 : List ChannelPlace) | l4 (x0 : Int) (x1 : Int) (x2 : Int) (x3 : Int) (x4 : List PartitionPlace) (x5 : List ChannelPlace) | l81 (x2 : Int) (x4 : Int) (x5 : Int) (x0 : Int) (x1 : List PartitionPlace) (x3 : List ChannelPlace)
def zPH : L61 -> Nat | .l0 _ _ => 0 | .l4 _ _ _ _ _ _ => 4 | .l81 _ _ _ _ _ _ => 81
def H61 : z9 := ⟨fun n => [40].any (Nat.beq n), zqx [(0, ⟨fgt [1, 2, 4, 29, 30] 190 0, []⟩), (4, ⟨fgt [2, 4, 8, 9, 10, 58, 59] 190 0, []⟩), (81, ⟨fgt [2, 4, 8, 9, 10, 58, 59] 190 0, []⟩)], [(.cell 0 1, .sl .sPartitionPlace), (.cell 0 2, .sl .sChannelPlace)], G0, (fun e => match e with | 163 => [(4, 165)] | 203 => [(4, 3)] | _ => [])⟩
noncomputable def st61 (c : Config) : L61 -> St | .l0 x0 x1 => ⟨mkE [(1, .ref 0 0), (2, .ref 1 0), (4, .ref 2 0), (29, (ze c.channels.length)), (30, (ze x0))] 190 0, [.cells 26 (Ty.enc .sConfig c), .cells 101 [(ze 0), .v (.slice none 0 0), .v (.slice none 0 0), (ze 0)], .cells 101 [(ze 0), .own 3, .own 4, (ze 0)], .row 203 .sPartitionPlace [(4, 3)] [] (List.replicate (c.partitions.length : Int).toNat (⟨0, 0, 0, 0, []⟩ : PartitionPlace)), .row 163 .sChannelPlace [(4, 165)] [] x1], GL, 0, [], (fun e => match e with | 163 => [(4, 165)] | 203 => [(4, 3)] | _ => [])⟩ | .l4 x0 x1 x2 x3 x4 x5 => ⟨mkE [(2, .ref 0 0), (4, .ref 1 0), (8, (ze x0)), (9, .own 4), (10, (ze x1)), (58, (ze ((zf7 c).length))), (59, (ze x2))] 190 0, [.cells 101 [(ze 0), .v (.slice none 0 0), .v (.slice none 0 0), (ze 0)], .cells 101 [(ze x3), .own 2, .own 3, (ze 0)], .row 203 .sPartitionPlace [(4, 3)] [] x4, .row 163 .sChannelPlace [(4, 165)] [] x5, .arr 134 .sBulkheadref15Piece (zf7 c)], GL, 0, [], (fun e => match e with | 163 => [(4, 165)] | 203 => [(4, 3)] | _ => [])⟩ | .l81 x2 x4 x5 x0 x1 x3 => ⟨mkE [(2, .ref 0 0), (4, .ref 1 0), (8, (ze x2)), (9, .own 4), (10, (ze x4)), (58, (ze ((zf7 c).length))), (59, (ze x5))] 190 0, [.cells 101 [(ze 0), .v (.slice none 0 0), .v (.slice none 0 0), (ze 0)], .cells 101 [(ze x0), .own 2, .own 3, (ze 0)], .row 203 .sPartitionPlace [(4, 3)] [] x1, .row 163 .sChannelPlace [(4, 165)] [] x3, .arr 134 .sBulkheadref15Piece (zf7 c)], GL, 0, [], (fun e => match e with | 163 => [(4, 165)] | 203 => [(4, 3)] | _ => [])⟩
noncomputable def zfl {R : Type} (ret : R61 -> R) (c : Config) (j : L61 -> Option R) : L61 -> Option R | .l0 x0 x1 =>let y3 := zx x1 x0.toNat; let y1 := (List.set x1 x0.toNat (⟨y3.lock, y3.stage, (zmW c x0).1, y3.port, y3.dests⟩ : ChannelPlace)); let y2 := zx y1 x0.toNat;  cond (decide (x0 < c.channels.length)) (cond (zrF c x0) ( cond (zU x0 x1.length) ( cond (zU x0 y1.length) ( j (.l0 (i64.wrap (x0 + 1)) (List.set y1 x0.toNat (⟨y2.lock, y2.stage, y2.partition, (zmW c x0).2, y2.dests⟩ : ChannelPlace)))) none) none) none) (cond (zp4 c) ( j (.l4 0 (i64.wrap (16 * c.kernel)) 0 0 (List.replicate (c.partitions.length : Int).toNat (⟨0, 0, 0, 0, []⟩ : PartitionPlace)) x1)) none) | .l4 x0 x1 x2 x3 x4 x5 =>let y1 := zaY (zf7 c) x2.toNat; let y3 := y1.owner.index; let y4 := i64.wrap (y1.at_ + y1.size); let y6 := (y1.owner.kind : Int); let y7 := zx x5 x0.toNat; let y8 := zU y3 x4.length; let y9 := y3.toNat; let y2 := zaa x4 y9; let y5 := zx x5 y9; let y10 := (⟨y1.owner.index, y1.owner.port, y1.at_⟩ : DestPlace); let y11 := bop .quo .i64 (y1.at_) 16; let y12 := (y7.dests : List DestPlace); let y13 := (y2.tables : List Int);  cond (decide (x2 < (zf7 c).length)) (cond (zU x2 (zf7 c).length) ( cond (y6 == 2) (j (.l81 x0 y4 x2 (y1.at_) x4 x5)) (cond (y6 == 3) (cond y8 ( j (.l81 x0 y4 x2 x3 (List.set x4 y9 (⟨y1.at_, y2.save, y2.state, y2.root, y2.tables⟩ : PartitionPlace)) x5)) none) (cond (y6 == 4) (cond y8 ( j (.l81 x0 y4 x2 x3 (List.set x4 y9 (⟨y2.lock, y1.at_, y2.state, y2.root, y2.tables⟩ : PartitionPlace)) x5)) none) (cond (y6 == 5) (cond y8 ( j (.l81 x0 y4 x2 x3 (List.set x4 y9 (⟨y2.lock, y2.save, y1.at_, y2.root, y2.tables⟩ : PartitionPlace)) x5)) none) (cond (y6 == 6) (cond (zU y3 x5.length) ( j (.l81 y3 y4 x2 x3 x4 (List.set x5 y9 (⟨y1.at_, y5.stage, y5.partition, y5.port, y5.dests⟩ : ChannelPlace)))) none) (cond (y6 == 7) (cond (zU y3 x5.length) ( j (.l81 x0 y4 x2 x3 x4 (List.set x5 y9 (⟨y5.lock, y1.at_, y5.partition, y5.port, y5.dests⟩ : ChannelPlace)))) none) (cond (y6 == 8) (cond (zU x0 x5.length) ( cond (leB ((y12.length + ([y10] : List DestPlace).length) * 24) 140737488355328) ( cond (zU x0 x5.length) ( cond (Nat.beq x0.toNat x0.toNat) ( j (.l81 x0 y4 x2 x3 x4 (List.set x5 x0.toNat (⟨y7.lock, y7.stage, y7.partition, y7.port, (y12 ++ [y10])⟩ : ChannelPlace)))) none) none) none) none) (cond (y6 == 9) (cond y8 ( cond ((y2.root : Int) == 0) (cond y8 ( j (.l81 x0 y4 x2 x3 (List.set x4 y9 (⟨y2.lock, y2.save, y2.state, y11, y2.tables⟩ : PartitionPlace)) x5)) none) (cond y8 ( cond (leB ((y13.length + ([y11] : List Int).length) * 8) 140737488355328) ( cond y8 ( cond (Nat.beq y9 y9) ( j (.l81 x0 y4 x2 x3 (List.set x4 y9 (⟨y2.lock, y2.save, y2.state, y2.root, (y13 ++ [y11])⟩ : PartitionPlace)) x5)) none) none) none) none)) none) (j (.l81 x0 y4 x2 x3 x4 x5)))))))))) none) (some (ret ((⟨x3, x4, x5, (bop .quo .i64 (i64.wrap ((i64.wrap (x1 + 16)) - 1)) 16)⟩ : Layout), 0))) | .l81 x2 x4 x5 x0 x1 x3 => j (.l4 x2 x4 (i64.wrap (x5 + 1)) x0 x1 x3)
noncomputable def zoB {R : Type} (ret : R61 -> R) (c : Config) (j : L61 -> Option R) : Option R := cond (zp3 c) ( cond (!(zzd c)) (some (ret ((⟨0, [], [], 0⟩ : Layout), 150))) (cond (decide ((c.partitions.length : Int) = c.partitions.length) && decide (0 <= c.partitions.length) && leB ((c.partitions.length : Int).toNat * 56) 140737488355328) ( cond (decide ((c.channels.length : Int) = c.channels.length) && decide (0 <= c.channels.length) && leB ((c.channels.length : Int).toNat * 56) 140737488355328) (j (.l0 0 (List.replicate (c.channels.length : Int).toNat (⟨0, 0, 0, 0, []⟩ : ChannelPlace)))) none) none)) none
theorem ct61 (c : Config) (l : L61) : CT fun j => zfl id c j l := by cases l <;> (dsimp only [zfl]; repeat (first | exact ctJ _ | exact ctK _ | apply ctC))
def ziq (c : Config) : L61 -> Option R61 := lfp (zfl id c)
theorem zgb (c : Config) (l : L61) : ziq c l = zfl id c (ziq c) l := zI (ct61 c) l
def zwU (c : Config) : Option R61 := zoB id c (ziq c)
def zhu (c : Config) : R61 := (zwU c).getD default
def zp6 (c : Config) : Bool := (zwU c).isSome
theorem zQn (c : Config) (hc : zp6 c = true) : Okay Pr GL 61 [.agg (Ty.enc .sConfig c)] [] (zGK (zhu c)) := zH (H := H61) (bod := zfl id c) (ent := zoB id c) (bodA := zfl zGK c) (entA := zoB zGK c) zd9 zy Tryz.func61 rfl (by kernel_rfl) zGK zPH (st61 c) (fun J l => by cases l <;> kernel_rfl) (fun J => by kernel_rfl) (fun s l => by cases l <;> simp only [zfl, zb, zt, zu, id]) (fun s => by simp only [zoB, zb, zt, zu, id]) (ct61 c) (by dsimp only [zoB]; repeat (first | exact ctJ _ | exact ctK _ | apply ctC)) hc
abbrev zyw := Int
def zxQ (r : zyw) : zY := ⟨(ze r), []⟩
inductive zsO where | l0 (x0 : Int) | l4 (x0 : Int)
def zKM : zsO -> Nat | .l0 _ => 0 | .l4 _ => 4
def H213 : z9 := htt [] [(0, ⟨fgt [0, 1, 2, 3, 40, 41, 42] 77 0, []⟩), (4, ⟨fgt [0, 2, 60, 61, 62] 77 0, []⟩)] []
noncomputable def zRk (m : (Option MemMemory)) (stage : Int) (words : Int) (ports : (List Int)) : zsO -> St | .l0 x0 => stt [(0, .op .sMemMemory m), (1, (ze stage)), (2, (ze words)), (3, .sl (.i .i64) ports), (40, .sl (.i .i64) ports), (41, (ze ports.length)), (42, (ze x0))] 77 [] 0 | .l4 x0 => stt [(0, .op .sMemMemory m), (2, (ze words)), (60, .sl (.i .i64) ports), (61, (ze ports.length)), (62, (ze x0))] 77 [] 0
noncomputable def zdy {R : Type} (ret : zyw -> R) (m : (Option MemMemory)) (stage : Int) (words : Int) (ports : (List Int)) (j : zsO -> Option R) : zsO -> Option R | .l0 x0 =>let y2 := i64.wrap (3 + words); let y3 := zN ports x0.toNat; let y1 := zg4 m y3 y2;  cond (decide (x0 < ports.length)) (cond (zU x0 ports.length) ( cond (zge m y3 y2) ( cond (!((y1 : Int) == 0)) (some (ret y1)) (j (.l0 (i64.wrap (x0 + 1))))) none) none) (cond (zr9 stage words ports) (cond (!(zwB stage words ports)) (some (ret 191)) (j (.l4 0))) none) | .l4 x0 =>let y1 := zN ports x0.toNat; let y2 := za4 m y1 words 3;  cond (decide (x0 < ports.length)) (cond (zU x0 ports.length) ( cond (zcA m y1 words 3) ( cond (!((y2.2 : Int) == 0)) (some (ret (y2.2))) (j (.l4 (i64.wrap (x0 + 1))))) none) none) (some (ret 0))
noncomputable def zjk {R : Type} (ret : zyw -> R) (m : (Option MemMemory)) (stage : Int) (words : Int) (ports : (List Int)) (j : zsO -> Option R) : Option R := cond (!(((zev m words) : Int) == 0)) (some (ret (zev m words))) (cond (decide ((ports.length : Int) < 1)) (some (ret 1)) (cond (decide ((ports.length : Int) > 4)) (some (ret 1)) (cond (zge m stage (i64.wrap (2 + words))) ( cond (!(((zg4 m stage (i64.wrap (2 + words))) : Int) == 0)) (some (ret (zg4 m stage (i64.wrap (2 + words))))) (j (.l0 0))) none)))
theorem zHX (m : (Option MemMemory)) (stage : Int) (words : Int) (ports : (List Int)) (l : zsO) : CT fun j => zdy id m stage words ports j l := by cases l <;> (dsimp only [zdy]; repeat (first | exact ctJ _ | exact ctK _ | apply ctC))
def zga (m : (Option MemMemory)) (stage : Int) (words : Int) (ports : (List Int)) : zsO -> Option zyw := lfp (zdy id m stage words ports)
theorem zgJ (m : (Option MemMemory)) (stage : Int) (words : Int) (ports : (List Int)) (l : zsO) : zga m stage words ports l = zdy id m stage words ports (zga m stage words ports) l := zI (zHX m stage words ports) l
def zrA (m : (Option MemMemory)) (stage : Int) (words : Int) (ports : (List Int)) : Option zyw := zjk id m stage words ports (zga m stage words ports)
def zt9 (m : (Option MemMemory)) (stage : Int) (words : Int) (ports : (List Int)) : zyw := (zrA m stage words ports).getD default
def zr7 (m : (Option MemMemory)) (stage : Int) (words : Int) (ports : (List Int)) : Bool := (zrA m stage words ports).isSome
theorem zLY (m : (Option MemMemory)) (stage : Int) (words : Int) (ports : (List Int)) (hc : zr7 m stage words ports = true) : Okay Pr GL 213 [.op .sMemMemory m, (ze stage), (ze words), .sl (.i .i64) ports] [] (zxQ (zt9 m stage words ports)) := zH (H := H213) (bod := zdy id m stage words ports) (ent := zjk id m stage words ports) (bodA := zdy zxQ m stage words ports) (entA := zjk zxQ m stage words ports) zd9 zy Tryz.func213 rfl (by kernel_rfl) zxQ zKM (zRk m stage words ports) (fun J l => by cases l <;> kernel_rfl) (fun J => by kernel_rfl) (fun s l => by cases l <;> simp only [zdy, zb, zt, zu, id]) (fun s => by simp only [zjk, zb, zt, zu, id]) (zHX m stage words ports) (by dsimp only [zjk]; repeat (first | exact ctJ _ | exact ctK _ | apply ctC)) hc
abbrev R64 := QueueForm × QueueRow × Int × MemMemory
def zMT (r : R64) : zY := ⟨.tup [.agg [(ze r.1.words), (ze r.1.depth)], .agg [(avU r.2.1.first), (avU r.2.1.lost), .own 2], (ze r.2.2.1)], [.cells 112 [.own 1], .arr 44 (.i .u32) r.2.2.2.words, .arr 45 (.sl (.i .u32)) r.2.1.messages]⟩
def H64 : z9 := ⟨fun _ => false, fun _ => ⟨[], []⟩, [(.cell 1 2, .own 45 (.sl (.i .u32)))], G0, zfX⟩
noncomputable def ztl {R : Type} (ret : R64 -> R) (pl : Int) (words : Int) (depth : Int) (ws : List Int) : Option R := cond (!(((zer (some (⟨ws⟩ : MemMemory)) (⟨words, depth⟩ : QueueForm)) : Int) == 0)) (some (ret ((⟨words, depth⟩ : QueueForm), (⟨0, 0, []⟩ : QueueRow), (zer (some (⟨ws⟩ : MemMemory)) (⟨words, depth⟩ : QueueForm)), (⟨ws⟩ : MemMemory)))) (cond (zd7 (⟨words, depth⟩ : QueueForm) (some (⟨ws⟩ : MemMemory)) pl 3) ( cond (!(zg2 (⟨words, depth⟩ : QueueForm) (some (⟨ws⟩ : MemMemory)) pl 3)) (some (ret ((⟨words, depth⟩ : QueueForm), (⟨0, 0, []⟩ : QueueRow), 51, (⟨ws⟩ : MemMemory)))) (cond (zj0 (⟨words, depth⟩ : QueueForm) pl ws) ( cond (!((zes (⟨words, depth⟩ : QueueForm) pl ws).2.1)) (some (ret ((⟨words, depth⟩ : QueueForm), (⟨0, 0, []⟩ : QueueRow), 201, (zes (⟨words, depth⟩ : QueueForm) pl ws).2.2))) (some (ret ((⟨words, depth⟩ : QueueForm), (zes (⟨words, depth⟩ : QueueForm) pl ws).1, 0, (zes (⟨words, depth⟩ : QueueForm) pl ws).2.2)))) none)) none)
def zwX (pl : Int) (words : Int) (depth : Int) (ws : List Int) : Option R64 := ztl id pl words depth ws
def za6 (pl : Int) (words : Int) (depth : Int) (ws : List Int) : R64 := (zwX pl words depth ws).getD default
def zkV (pl : Int) (words : Int) (depth : Int) (ws : List Int) : Bool := (zwX pl words depth ws).isSome
theorem zQq (pl : Int) (words : Int) (depth : Int) (ws : List Int) (hc : zkV pl words depth ws = true) : Okay Pr GL 64 [.ref 0 0, (ze pl), (ze words), (ze depth)] [.cells 112 [.own 1], .arr 44 (.i .u32) ws] (zMT (za6 pl words depth ws)) := zw (H := H64) (ent := ztl id pl words depth ws) (entA := ztl zMT pl words depth ws) zd9 zy Tryz.func64 rfl (by kernel_rfl) zMT (fun J => by kernel_rfl) (by simp only [ztl, zb, zt, zu, id]) hc
abbrev zDA := QueueRow × Int × MemMemory
def zCA (r : zDA) : zY := ⟨.tup [.agg [(avU r.1.first), (avU r.1.lost), .own 2], (ze r.2.1)], [.cells 112 [.own 1], .arr 44 (.i .u32) r.2.2.words, .arr 45 (.sl (.i .u32)) r.1.messages]⟩
def H197 : z9 := ⟨fun _ => false, fun _ => ⟨[], []⟩, [(.cell 0 2, .own 45 (.sl (.i .u32)))], G0, zfX⟩
noncomputable def zmc {R : Type} (ret : zDA -> R) (f : QueueForm) (pl : Int) (ws : List Int) : Option R := cond (zd7 f (some (⟨ws⟩ : MemMemory)) pl 1) ( cond (!(zg2 f (some (⟨ws⟩ : MemMemory)) pl 1)) (some (ret ((⟨0, 0, []⟩ : QueueRow), 51, (⟨ws⟩ : MemMemory)))) (cond (zj4 f pl ws) ( cond (!((za3 f pl ws).2.1)) (some (ret ((⟨0, 0, []⟩ : QueueRow), 201, (za3 f pl ws).2.2))) (some (ret ((za3 f pl ws).1, 0, (za3 f pl ws).2.2)))) none)) none
def zrr (f : QueueForm) (pl : Int) (ws : List Int) : Option zDA := zmc id f pl ws
def zbd (f : QueueForm) (pl : Int) (ws : List Int) : zDA := (zrr f pl ws).getD default
def zj3 (f : QueueForm) (pl : Int) (ws : List Int) : Bool := (zrr f pl ws).isSome
theorem zLI (f : QueueForm) (pl : Int) (ws : List Int) (hc : zj3 f pl ws = true) : Okay Pr GL 197 [.agg [(ze f.words), (ze f.depth)], .ref 0 0, (ze pl)] [.cells 112 [.own 1], .arr 44 (.i .u32) ws] (zCA (zbd f pl ws)) := zw (H := H197) (ent := zmc id f pl ws) (entA := zmc zCA f pl ws) zd9 zy Tryz.func197 rfl (by kernel_rfl) zCA (fun J => by kernel_rfl) (by simp only [zmc, zb, zt, zu, id]) hc
abbrev zDJ := Int × Int
def zCJ (r : zDJ) : zY := ⟨.tup [(ze r.1), (ze r.2)], []⟩
noncomputable def zmi {R : Type} (ret : zDJ -> R) (m : (Option MemMemory)) (stage : Int) (words : Int) : Option R := cond (!(((zev m words) : Int) == 0)) (some (ret (0, (zev m words)))) (cond (zcA m stage words 2) (some (ret ((mn (((za4 m stage words 2).1).length) 1), (za4 m stage words 2).2))) none)
def zrw (m : (Option MemMemory)) (stage : Int) (words : Int) : Option zDJ := zmi id m stage words
def zpz (m : (Option MemMemory)) (stage : Int) (words : Int) : zDJ := (zrw m stage words).getD default
def zr5 (m : (Option MemMemory)) (stage : Int) (words : Int) : Bool := (zrw m stage words).isSome
theorem zLS (m : (Option MemMemory)) (stage : Int) (words : Int) (hc : zr5 m stage words = true) : Okay Pr GL 207 [.op .sMemMemory m, (ze stage), (ze words)] [] (zCJ (zpz m stage words)) := zw (H := zar) (ent := zmi id m stage words) (entA := zmi zCJ m stage words) zd9 zy Tryz.func207 rfl (by kernel_rfl) zCJ (fun J => by kernel_rfl) (by simp only [zmi, zb, zt, zu, id]) hc
abbrev zDp := Int × Int
def zCp (r : zDp) : zY := ⟨.tup [(ze r.1), (ze r.2)], []⟩
noncomputable def zl2 {R : Type} (ret : zDp -> R) (c : Config) : Option R := cond (znO c) ( cond (!(((zcZ c).2 : Int) == 0)) (some (ret (0, (zcZ c).2))) (some (ret ((i64.wrap ((zcZ c).1.end_ - c.kernel)), 0)))) none
def zre (c : Config) : Option zDp := zl2 id c
def zpu (c : Config) : zDp := (zre c).getD default
def zrT (c : Config) : Bool := (zre c).isSome
theorem zLt (c : Config) (hc : zrT c = true) : Okay Pr GL 165 [.agg (Ty.enc .sConfig c)] [] (zCp (zpu c)) := zw (H := zar) (ent := zl2 id c) (entA := zl2 zCp c) zd9 zy Tryz.func165 rfl (by kernel_rfl) zCp (fun J => by kernel_rfl) (by simp only [zl2, zb, zt, zu, id]) hc
abbrev R97 := Int × Where
def zGU (r : R97) : zY := ⟨.tup [(ze r.1), .agg [(ze r.2.first), (ze r.2.second)]], []⟩
inductive L97 where | l2 (x0 : Int) | l6 (x0 : Int)
def zPR : L97 -> Nat | .l2 _ => 2 | .l6 _ => 6
def H97 : z9 := htt [] [(2, ⟨fgt [1, 2, 5, 6, 7] 107 0, []⟩), (6, ⟨fgt [1, 2, 5, 6, 9] 107 0, []⟩)] []
noncomputable def st97 (c : Config) (p : Int) : L97 -> St | .l2 x0 => stt [(1, (ze p)), (2, .ref 0 0), (5, .ref 1 0), (6, .ref 2 0), (7, (ze x0))] 107 [.cells 26 (Ty.enc .sConfig c), .cells 152 [(ze 0), (ze 0)], .cells 55 (Ty.enc .sPartition (za c.partitions p.toNat))] 0 | .l6 x0 => stt [(1, (ze p)), (2, .ref 0 0), (5, .ref 1 0), (6, .ref 2 0), (9, (ze x0))] 107 [.cells 26 (Ty.enc .sConfig c), .cells 152 [(ze 0), (ze 0)], .cells 55 (Ty.enc .sPartition (za c.partitions p.toNat))] 0
noncomputable def zfI {R : Type} (ret : R97 -> R) (c : Config) (p : Int) (j : L97 -> Option R) : L97 -> Option R | .l2 x0 =>let y1 := za c.partitions p.toNat;  cond (decide (x0 < (y1.regions).length)) (cond (zrM c p x0) ( cond (!(((zpq c p x0) : Int) == 0)) (some (ret ((zpq c p x0), (⟨p, x0⟩ : Where)))) (j (.l2 (i64.wrap (x0 + 1))))) none) (cond (zrN y1) ( cond (!(zwx y1)) (some (ret (412, (zhv p)))) (cond (decide (((y1.ports).length : Int) > 8)) (some (ret (413, (zhv p)))) (j (.l6 0)))) none) | .l6 x0 =>let y1 := (za c.partitions p.toNat).ports;  cond (decide (x0 < y1.length)) (cond (zU x0 y1.length) ( cond (!(zal ((zaI y1 x0.toNat).channel) 0 (i64.wrap (c.channels.length - 1)))) (some (ret (414, (⟨p, x0⟩ : Where)))) (j (.l6 (i64.wrap (x0 + 1))))) none) (some (ret (0, (⟨0, 0⟩ : Where))))
noncomputable def zoL {R : Type} (ret : R97 -> R) (c : Config) (p : Int) (j : L97 -> Option R) : Option R := cond (zU p c.partitions.length) ( cond (zrL c p) ( cond (!(zww c p)) (some (ret (405, (zhv p)))) (cond (!(zal ((za c.partitions p.toNat).action) 0 2)) (some (ret (406, (zhv p)))) (cond (!(zal ((za c.partitions p.toNat).restarts) 0 15)) (some (ret (406, (zhv p)))) (cond (!(zal ((za c.partitions p.toNat).inputs) 0 16)) (some (ret (407, (zhv p)))) (cond (!(zal ((za c.partitions p.toNat).outputs) 0 16)) (some (ret (407, (zhv p)))) (cond (!(zal (((za c.partitions p.toNat).regions).length) 1 8)) (some (ret (408, (zhv p)))) (j (.l2 0)))))))) none) none
theorem ct97 (c : Config) (p : Int) (l : L97) : CT fun j => zfI id c p j l := by cases l <;> (dsimp only [zfI]; repeat (first | exact ctJ _ | exact ctK _ | apply ctC))
def zpQ (c : Config) (p : Int) : L97 -> Option R97 := lfp (zfI id c p)
theorem ziu (c : Config) (p : Int) (l : L97) : zpQ c p l = zfI id c p (zpQ c p) l := zI (ct97 c p) l
def zw2 (c : Config) (p : Int) : Option R97 := zoL id c p (zpQ c p)
def zvu (c : Config) (p : Int) : R97 := (zw2 c p).getD default
def zxj (c : Config) (p : Int) : Bool := (zw2 c p).isSome
theorem zQH (c : Config) (p : Int) (hc : zxj c p = true) : Okay Pr GL 97 [.agg (Ty.enc .sConfig c), (ze p)] [] (zGU (zvu c p)) := zH (H := H97) (bod := zfI id c p) (ent := zoL id c p) (bodA := zfI zGU c p) (entA := zoL zGU c p) zd9 zy Tryz.func97 rfl (by kernel_rfl) zGU zPR (st97 c p) (fun J l => by cases l <;> kernel_rfl) (fun J => by kernel_rfl) (fun s l => by cases l <;> simp only [zfI, zb, zt, zu, id]) (fun s => by simp only [zoL, zb, zt, zu, id]) (ct97 c p) (by dsimp only [zoL]; repeat (first | exact ctJ _ | exact ctK _ | apply ctC)) hc
abbrev R20 := Owner × Int
def zGx (r : R20) : zY := ⟨.tup [.agg [(ze r.1.kind), (ze r.1.index), (ze r.1.port)], (ze r.2)], []⟩
inductive L20 where | l0 (x0 : Int) | l4 (x0 : Int) | l8 (x1 : Int) (x2 : Int) (x3 : Int) (x0 : Int)
def zPu : L20 -> Nat | .l0 _ => 0 | .l4 _ => 4 | .l8 _ _ _ _ => 8
def H20 : z9 := htt [] [(0, ⟨fgt [1, 2, 4, 6, 33, 34, 94, 95, 96, 99, 100, 101, 102, 103, 106, 107, 108, 109, 110, 111, 112, 113] 120 0, []⟩), (4, ⟨fgt [1, 2, 4, 67, 68, 94, 95, 96, 99, 100, 101, 102, 103, 106, 107, 108, 109, 110, 111, 112, 113] 120 0, []⟩), (8, ⟨fgt [1, 2, 4, 8, 67, 68, 77, 78] 120 0, []⟩)] []
noncomputable def st20 (c : Config) (at_1 : Int) : L20 -> St | .l0 x0 => stt [(1, (ze at_1)), (2, .ref 0 0), (4, .ref 1 0), (6, .own 2), (33, (ze ((zf7 c).length))), (34, (ze x0))] 120 [.cells 26 (Ty.enc .sConfig c), .cells 77 [(ze 0), (ze 0), (ze 0)], .arr 134 .sBulkheadref15Piece (zf7 c)] 0 | .l4 x0 => stt [(1, (ze at_1)), (2, .ref 0 0), (4, .ref 1 0), (67, (ze c.partitions.length)), (68, (ze x0))] 120 [.cells 26 (Ty.enc .sConfig c), .cells 77 [(ze 0), (ze 0), (ze 0)]] 0 | .l8 x1 x2 x3 x0 => stt [(1, (ze at_1)), (2, .ref 0 0), (4, .ref 1 0), (8, (ze x1)), (67, (ze c.partitions.length)), (68, (ze x2)), (77, (ze x3)), (78, (ze x0))] 120 [.cells 26 (Ty.enc .sConfig c), .cells 77 [(ze 0), (ze 0), (ze 0)]] 0
noncomputable def zed {R : Type} (ret : R20 -> R) (c : Config) (at_1 : Int) (j : L20 -> Option R) : L20 -> Option R | .l0 x0 =>let y1 := zaY (zf7 c) x0.toNat; let y2 := zU x0 (zf7 c).length; let y3 := i64.wrap (x0 + 1);  cond (decide (x0 < (zf7 c).length)) (cond y2 ( cond (decide ((y1.at_ : Int) <= at_1)) (cond y2 ( cond y2 ( cond (decide ((at_1 : Int) < (i64.wrap (y1.at_ + y1.size)))) (cond y2 (some (ret (y1.owner, 0))) none) (j (.l0 y3))) none) none) (j (.l0 y3))) none) (j (.l4 0)) | .l4 x0 => cond (decide (x0 < c.partitions.length)) (cond (zU x0 c.partitions.length) (j (.l8 x0 x0 (((za c.partitions x0.toNat).regions).length) 0)) none) (some (ret ((⟨0, 0, 0⟩ : Owner), 0))) | .l8 x1 x2 x3 x0 =>let y2 := i64.wrap (x0 + 1); let y3 := (za c.partitions x1.toNat).regions; let y1 := zm y3 x0.toNat; let y4 := (y1.frame : Int); let y5 := bop .quo .i64 at_1 16;  cond (decide (x0 < x3)) (cond (zU x1 c.partitions.length) ( cond (zU x0 y3.length) ( cond (decide (y4 >= 0)) (cond (decide (y4 <= 1024)) (cond (decide (y4 <= y5)) (cond (decide ((y5 : Int) < (i64.wrap (y1.frame + y1.pages)))) (some (ret ((⟨1, x1, 0⟩ : Owner), 0))) (j (.l8 x1 x2 x3 y2))) (j (.l8 x1 x2 x3 y2))) (j (.l8 x1 x2 x3 y2))) (j (.l8 x1 x2 x3 y2))) none) none) (j (.l4 (i64.wrap (x2 + 1))))
noncomputable def zoo {R : Type} (ret : R20 -> R) (c : Config) (at_1 : Int) (j : L20 -> Option R) : Option R := cond (zp3 c) ( cond (!(zzd c)) (some (ret ((⟨0, 0, 0⟩ : Owner), 150))) (cond (decide ((at_1 : Int) < 0)) (some (ret ((⟨0, 0, 0⟩ : Owner), 151))) (cond (decide (((bop .quo .i64 at_1 16) : Int) >= c.frames)) (some (ret ((⟨0, 0, 0⟩ : Owner), 151))) (cond (decide (((bop .quo .i64 at_1 16) : Int) >= 1024)) (some (ret ((⟨0, 0, 0⟩ : Owner), 151))) (cond (zp4 c) (j (.l0 0)) none))))) none
theorem ct20 (c : Config) (at_1 : Int) (l : L20) : CT fun j => zed id c at_1 j l := by cases l <;> (dsimp only [zed]; repeat (first | exact ctJ _ | exact ctK _ | apply ctC))
def zil (c : Config) (at_1 : Int) : L20 -> Option R20 := lfp (zed id c at_1)
theorem zeA (c : Config) (at_1 : Int) (l : L20) : zil c at_1 l = zed id c at_1 (zil c at_1) l := zI (ct20 c at_1) l
def zwG (c : Config) (at_1 : Int) : Option R20 := zoo id c at_1 (zil c at_1)
def zvp (c : Config) (at_1 : Int) : R20 := (zwG c at_1).getD default
def zw6 (c : Config) (at_1 : Int) : Bool := (zwG c at_1).isSome
theorem zPZ (c : Config) (at_1 : Int) (hc : zw6 c at_1 = true) : Okay Pr GL 20 [.agg (Ty.enc .sConfig c), (ze at_1)] [] (zGx (zvp c at_1)) := zH (H := H20) (bod := zed id c at_1) (ent := zoo id c at_1) (bodA := zed zGx c at_1) (entA := zoo zGx c at_1) zd9 zy Tryz.func20 rfl (by kernel_rfl) zGx zPu (st20 c at_1) (fun J l => by cases l <;> kernel_rfl) (fun J => by kernel_rfl) (fun s l => by cases l <;> simp only [zed, zb, zt, zu, id]) (fun s => by simp only [zoo, zb, zt, zu, id]) (ct20 c at_1) (by dsimp only [zoo]; repeat (first | exact ctJ _ | exact ctK _ | apply ctC)) hc
abbrev zDI := Int × MemMemory
def zCI (r : zDI) : zY := ⟨(ze r.1), [.cells 112 [.own 1], .arr 44 (.i .u32) r.2.words]⟩
noncomputable def zmh {R : Type} (ret : zDI -> R) (stage : Int) (words : Int) (message : (List Int)) (ws : List Int) : Option R := cond (!(((zev (some (⟨ws⟩ : MemMemory)) words) : Int) == 0)) (some (ret ((zev (some (⟨ws⟩ : MemMemory)) words), (⟨ws⟩ : MemMemory)))) (cond (zge (some (⟨ws⟩ : MemMemory)) stage (i64.wrap (2 + words))) ( cond (!(((zg4 (some (⟨ws⟩ : MemMemory)) stage (i64.wrap (2 + words))) : Int) == 0)) (some (ret ((zg4 (some (⟨ws⟩ : MemMemory)) stage (i64.wrap (2 + words))), (⟨ws⟩ : MemMemory)))) (cond (decide ((message.length : Int) < 1)) (some (ret (190, (⟨ws⟩ : MemMemory)))) (cond (decide ((message.length : Int) > words)) (some (ret (190, (⟨ws⟩ : MemMemory)))) (cond (zcA (some (⟨ws⟩ : MemMemory)) stage words 2) ( cond (!(((za4 (some (⟨ws⟩ : MemMemory)) stage words 2).2 : Int) == 0)) (some (ret ((za4 (some (⟨ws⟩ : MemMemory)) stage words 2).2, (⟨ws⟩ : MemMemory)))) (cond (decide (((i64.wrap (2 + words)) : Int) = (i64.wrap (2 + words))) && decide (0 <= (i64.wrap (2 + words))) && leB ((i64.wrap (2 + words)).toNat * 4) 140737488355328) ( cond (zU 0 (List.replicate (i64.wrap (2 + words)).toNat (0 : Int)).length) ( cond (zU 1 (List.set (List.replicate (i64.wrap (2 + words)).toNat (0 : Int)) 0 1).length) ( cond (inS 2 ((List.set (List.set (List.replicate (i64.wrap (2 + words)).toNat (0 : Int)) 0 1) 1 (u32.wrap message.length)).length) (List.set (List.set (List.replicate (i64.wrap (2 + words)).toNat (0 : Int)) 0 1) 1 (u32.wrap message.length)).length) ( cond (zgd stage (zbP (List.set (List.set (List.replicate (i64.wrap (2 + words)).toNat (0 : Int)) 0 1) 1 (u32.wrap message.length)) 2 (List.take (((List.set (List.set (List.replicate (i64.wrap (2 + words)).toNat (0 : Int)) 0 1) 1 (u32.wrap message.length)).length : Int).toNat - 2) (message : List Int))) ws) ( some (ret ((zg3 stage (zbP (List.set (List.set (List.replicate (i64.wrap (2 + words)).toNat (0 : Int)) 0 1) 1 (u32.wrap message.length)) 2 (List.take (((List.set (List.set (List.replicate (i64.wrap (2 + words)).toNat (0 : Int)) 0 1) 1 (u32.wrap message.length)).length : Int).toNat - 2) (message : List Int))) ws).1, (zg3 stage (zbP (List.set (List.set (List.replicate (i64.wrap (2 + words)).toNat (0 : Int)) 0 1) 1 (u32.wrap message.length)) 2 (List.take (((List.set (List.set (List.replicate (i64.wrap (2 + words)).toNat (0 : Int)) 0 1) 1 (u32.wrap message.length)).length : Int).toNat - 2) (message : List Int))) ws).2))) none) none) none) none) none)) none)))) none)
def zrv (stage : Int) (words : Int) (message : (List Int)) (ws : List Int) : Option zDI := zmh id stage words message ws
def zkL (stage : Int) (words : Int) (message : (List Int)) (ws : List Int) : zDI := (zrv stage words message ws).getD default
def znK (stage : Int) (words : Int) (message : (List Int)) (ws : List Int) : Bool := (zrv stage words message ws).isSome
theorem zLR (stage : Int) (words : Int) (message : (List Int)) (ws : List Int) (hc : znK stage words message ws = true) : Okay Pr GL 206 [.ref 0 0, (ze stage), (ze words), .sl (.i .u32) message] [.cells 112 [.own 1], .arr 44 (.i .u32) ws] (zCI (zkL stage words message ws)) := zw (H := zar) (ent := zmh id stage words message ws) (entA := zmh zCI stage words message ws) zd9 zy Tryz.func206 rfl (by kernel_rfl) zCI (fun J => by kernel_rfl) (by simp only [zmh, zb, zt, zu, id]) hc
abbrev zDH := (List Int) × Bool × Bool × Int
def zCH (r : zDH) : zY := ⟨.tup [.own 0, (z8 r.2.1), (z8 r.2.2.1), (ze r.2.2.2)], [.arr 44 (.i .u32) r.1]⟩
def H205 : z9 := ⟨fun _ => false, fun _ => ⟨[], []⟩, [(.slot 0, .own 44 (.i .u32))], G0, zfX⟩
noncomputable def zjg {R : Type} (ret : zDH -> R) (m : (Option MemMemory)) (port : Int) (words : Int) : Option R := cond (!(((zev m words) : Int) == 0)) (some (ret ([], false, false, (zev m words)))) (cond (zcA m port words 3) ( cond (!(((za4 m port words 3).2 : Int) == 0)) (some (ret ([], false, false, (za4 m port words 3).2))) (cond ((((za4 m port words 3).1).length : Int) == 0) (some (ret ([], false, false, (za4 m port words 3).2))) (cond (znL m (i64.wrap (port + 1))) (some (ret ((za4 m port words 3).1, (((zpB m (i64.wrap (port + 1))).1 : Int) == 1), true, 0))) none))) none)
def zjV (m : (Option MemMemory)) (port : Int) (words : Int) : Option zDH := zjg id m port words
def zf5 (m : (Option MemMemory)) (port : Int) (words : Int) : zDH := (zjV m port words).getD default
def znJ (m : (Option MemMemory)) (port : Int) (words : Int) : Bool := (zjV m port words).isSome
theorem zLQ (m : (Option MemMemory)) (port : Int) (words : Int) (hc : znJ m port words = true) : Okay Pr GL 205 [.op .sMemMemory m, (ze port), (ze words)] [] (zCH (zf5 m port words)) := zw (H := H205) (ent := zjg id m port words) (entA := zjg zCH m port words) zd9 zy Tryz.func205 rfl (by kernel_rfl) zCH (fun J => by kernel_rfl) (by simp only [zjg, zb, zt, zu, id]) hc
abbrev R65 := MemMemory
def zGM (r : R65) : zY := ⟨.tup [], [.cells 112 [.own 1], .arr 44 (.i .u32) r.words]⟩
inductive L65 where | l7 (x0 : Int)
def zPJ : L65 -> Nat | .l7 _ => 7
def H65 : z9 := htt [3] [(7, ⟨fgt [1, 2, 4, 7] 27 0, []⟩)] []
noncomputable def st65 (f : QueueForm) (pl : Int) (row : QueueRow) (ws : List Int) : L65 -> St | .l7 x0 => stt [(1, .ref 0 0), (2, (ze pl)), (4, .ref 2 0), (7, .ref 3 0)] 27 [.cells 112 [.own 1], .arr 44 (.i .u32) ws, .cells 169 [(ze f.words), (ze f.depth)], .cells 171 [(avU x0), (avU row.lost), .sl (.sl (.i .u32)) row.messages]] 2
noncomputable def zkf {R : Type} (ret : R65 -> R) (f : QueueForm) (pl : Int) (row : QueueRow) (ws : List Int) (j : L65 -> Option R) : L65 -> Option R | .l7 x0 =>let y1 := (⟨x0, row.lost, row.messages⟩ : QueueRow); let y2 := u32.wrap row.messages.length;  cond (zfi f pl y1 [x0, y2, row.lost] ws) ( some (ret (zib f pl y1 [x0, y2, row.lost] ws))) none
noncomputable def zoD {R : Type} (ret : R65 -> R) (f : QueueForm) (pl : Int) (row : QueueRow) (ws : List Int) (j : L65 -> Option R) : Option R := cond ((row.messages.length : Int) == 0) (j (.l7 0)) (j (.l7 row.first))
theorem ct65 (f : QueueForm) (pl : Int) (row : QueueRow) (ws : List Int) (l : L65) : CT fun j => zkf id f pl row ws j l := by cases l <;> (dsimp only [zkf]; repeat (first | exact ctJ _ | exact ctK _ | apply ctC))
def zpP (f : QueueForm) (pl : Int) (row : QueueRow) (ws : List Int) : L65 -> Option R65 := lfp (zkf id f pl row ws)
theorem zBF (f : QueueForm) (pl : Int) (row : QueueRow) (ws : List Int) (l : L65) : zpP f pl row ws l = zkf id f pl row ws (zpP f pl row ws) l := zI (ct65 f pl row ws) l
def zwY (f : QueueForm) (pl : Int) (row : QueueRow) (ws : List Int) : Option R65 := zoD id f pl row ws (zpP f pl row ws)
def zzg (f : QueueForm) (pl : Int) (row : QueueRow) (ws : List Int) : R65 := (zwY f pl row ws).getD default
def zp8 (f : QueueForm) (pl : Int) (row : QueueRow) (ws : List Int) : Bool := (zwY f pl row ws).isSome
theorem zQr (f : QueueForm) (pl : Int) (row : QueueRow) (ws : List Int) (hc : zp8 f pl row ws = true) : Okay Pr GL 65 [.agg [(ze f.words), (ze f.depth)], .ref 0 0, (ze pl), .agg (Ty.enc .sQueueRow row)] [.cells 112 [.own 1], .arr 44 (.i .u32) ws] (zGM (zzg f pl row ws)) := zH (H := H65) (bod := zkf id f pl row ws) (ent := zoD id f pl row ws) (bodA := zkf zGM f pl row ws) (entA := zoD zGM f pl row ws) zd9 zy Tryz.func65 rfl (by kernel_rfl) zGM zPJ (st65 f pl row ws) (fun J l => by cases l <;> kernel_rfl) (fun J => by kernel_rfl) (fun s l => by cases l <;> simp only [zkf, zb, zt, zu, id]) (fun s => by simp only [zoD, zb, zt, zu, id]) (ct65 f pl row ws) (by dsimp only [zoD]; repeat (first | exact ctJ _ | exact ctK _ | apply ctC)) hc
abbrev zDb := AdmitFound
def zCb (r : zDb) : zY := ⟨.agg [(ze r.e), (ze r.where_.first), (ze r.where_.second)], []⟩
noncomputable def zlI {R : Type} (ret : zDb -> R) (a : Config) (a_1 : Int) : Option R := cond (zrG a a_1) (some (ret (zpn a a_1))) none
def zqX (a : Config) (a_1 : Int) : Option zDb := zlI id a a_1
def zic (a : Config) (a_1 : Int) : zDb := (zqX a a_1).getD default
def zvF (a : Config) (a_1 : Int) : Bool := (zqX a a_1).isSome
theorem zA5 (a : Config) (a_1 : Int) (hc : zvF a a_1 = true) : Okay Pr GL 131 [.op .sConfig (some a), .op (.i .i64) (some a_1)] [] (zCb (zic a a_1)) := zw (H := zar) (ent := zlI id a a_1) (entA := zlI zCb a a_1) zd9 zy Tryz.func131 rfl (by kernel_rfl) zCb (fun J => by kernel_rfl) (by simp only [zlI, zb, zt, zu, id]) hc
def g20 := zQ (zV (rdS .sConfig) fun a0 => zV (z7 (.i .i64)) fun a1 => zP ((zw6 a0 a1), .tup [.agg [(ze ((zvp a0 a1).1.kind)), (ze ((zvp a0 a1).1.index)), (ze ((zvp a0 a1).1.port))], (ze ((zvp a0 a1).2))], []))
theorem zJe : zD 20 g20 := zj (zC Tryz.func20 (by kernel_rfl) rfl) (zg fun x0 a0 h0 => zg fun x1 a1 h1 => zi fun hb => (zPZ a0 a1 hb).ats (.cons (zM h0) (.cons (zn h1) .nil)))
def g61 := zQ (zV (rdS .sConfig) fun a0 => zP ((zp6 a0), .tup [.agg [(ze ((zhu a0).1.barrier)), .sl .sPartitionPlace ((zhu a0).1.partitions), .sl .sChannelPlace ((zhu a0).1.channels), (ze ((zhu a0).1.end_))], (ze ((zhu a0).2))], []))
theorem zJD : zD 61 g61 := zj (zC Tryz.func61 (by kernel_rfl) rfl) (zg fun x0 a0 h0 => zi fun hb => (zQn a0 hb).ats (.cons (zM h0) .nil))
def g64 (args : List AV) (hp : List Blk) : Option (Bool × AV × List Blk) :=
 match args, hp with
 | [.ref 0 0, a1, a2, a3], [.cells 112 [.own 1], .arr 44 (.i .u32) y0] => (z7 (.i .i64) a1).bind fun b1 => (z7 (.i .i64) a2).bind fun b2 => (z7 (.i .i64) a3).bind fun b3 => some ((zkV b1 b2 b3 y0), .tup [.agg [(ze ((za6 b1 b2 b3 y0).1.words)), (ze ((za6 b1 b2 b3 y0).1.depth))], .agg [(avU ((za6 b1 b2 b3 y0).2.1.first)), (avU ((za6 b1 b2 b3 y0).2.1.lost)), .own 2], (ze ((za6 b1 b2 b3 y0).2.2.1))], [.cells 112 [.own 1], .arr 44 (.i .u32) ((za6 b1 b2 b3 y0).2.2.2.words), .arr 45 (.sl (.i .u32)) ((za6 b1 b2 b3 y0).2.1.messages)])
 | _, _ => none
theorem zJG : zD 64 g64 := fun args hp b r hp' h hb => by
 unfold g64 at h
 split at h
 . simp only [Option.bind_eq_some_iff] at h
   obtain ⟨b1, h1, b2, h2, b3, h3, h⟩ := h
   cases h; exact ⟨zC Tryz.func64 (by kernel_rfl) rfl, Okay.ats (zQq b1 b2 b3 _ hb) (.cons (fun _ _ _ _ h => h) (.cons (zn h1) (.cons (zn h2) (.cons (zn h3) .nil))))⟩
 . cases h
def g65 (args : List AV) (hp : List Blk) : Option (Bool × AV × List Blk) :=
 match args, hp with
 | [a0, .ref 0 0, a2, a3], [.cells 112 [.own 1], .arr 44 (.i .u32) y0] => (rdS .sQueueForm a0).bind fun b0 => (z7 (.i .i64) a2).bind fun b2 => (rdS .sQueueRow a3).bind fun b3 => some ((zp8 b0 b2 b3 y0), .tup [], [.cells 112 [.own 1], .arr 44 (.i .u32) ((zzg b0 b2 b3 y0).words)])
 | _, _ => none
theorem zJH : zD 65 g65 := fun args hp b r hp' h hb => by
 unfold g65 at h
 split at h
 . simp only [Option.bind_eq_some_iff] at h
   obtain ⟨b0, h0, b2, h2, b3, h3, h⟩ := h
   cases h; exact ⟨zC Tryz.func65 (by kernel_rfl) rfl, Okay.ats (zQr b0 b2 b3 _ hb) (.cons (zM h0) (.cons (fun _ _ _ _ h => h) (.cons (zn h2) (.cons (zM h3) .nil))))⟩
 . cases h
def g97 := zQ (zV (rdS .sConfig) fun a0 => zV (z7 (.i .i64)) fun a1 => zP ((zxj a0 a1), .tup [(ze ((zvu a0 a1).1)), .agg [(ze ((zvu a0 a1).2.first)), (ze ((zvu a0 a1).2.second))]], []))
theorem zJX : zD 97 g97 := zj (zC Tryz.func97 (by kernel_rfl) rfl) (zg fun x0 a0 h0 => zg fun x1 a1 h1 => zi fun hb => (zQH a0 a1 hb).ats (.cons (zM h0) (.cons (zn h1) .nil)))
def g131 := zQ (zV (rdP .sConfig) fun a0 => zV (rdP (.i .i64)) fun a1 => zP ((zvF a0 a1), .agg [(ze ((zic a0 a1).e)), (ze ((zic a0 a1).where_.first)), (ze ((zic a0 a1).where_.second))], []))
theorem zEo : zD 131 g131 := zj (zC Tryz.func131 (by kernel_rfl) rfl) (zg fun x0 a0 h0 => zg fun x1 a1 h1 => zi fun hb => (zA5 a0 a1 hb).ats (.cons (zfq h0) (.cons (zfq h1) .nil)))
def g165 := zQ (zV (rdS .sConfig) fun a0 => zP ((zrT a0), .tup [(ze ((zpu a0).1)), (ze ((zpu a0).2))], []))
theorem zEU : zD 165 g165 := zj (zC Tryz.func165 (by kernel_rfl) rfl) (zg fun x0 a0 h0 => zi fun hb => (zLt a0 hb).ats (.cons (zM h0) .nil))
def zI7 (args : List AV) (hp : List Blk) : Option (Bool × AV × List Blk) :=
 match args, hp with
 | [a0, .ref 0 0, a2], [.cells 112 [.own 1], .arr 44 (.i .u32) y0] => (rdS .sQueueForm a0).bind fun b0 => (z7 (.i .i64) a2).bind fun b2 => some ((zj3 b0 b2 y0), .tup [.agg [(avU ((zbd b0 b2 y0).1.first)), (avU ((zbd b0 b2 y0).1.lost)), .own 2], (ze ((zbd b0 b2 y0).2.1))], [.cells 112 [.own 1], .arr 44 (.i .u32) ((zbd b0 b2 y0).2.2.words), .arr 45 (.sl (.i .u32)) ((zbd b0 b2 y0).1.messages)])
 | _, _ => none
theorem zE9 : zD 197 zI7 := fun args hp b r hp' h hb => by
 unfold zI7 at h
 split at h
 . simp only [Option.bind_eq_some_iff] at h
   obtain ⟨b0, h0, b2, h2, h⟩ := h
   cases h; exact ⟨zC Tryz.func197 (by kernel_rfl) rfl, Okay.ats (zLI b0 b2 _ hb) (.cons (zM h0) (.cons (fun _ _ _ _ h => h) (.cons (zn h2) .nil)))⟩
 . cases h
def g205 := zQ (zV (z7 (.p .sMemMemory)) fun a0 => zV (z7 (.i .i64)) fun a1 => zV (z7 (.i .i64)) fun a2 => zP ((znJ a0 a1 a2), .tup [.own 0, (z8 ((zf5 a0 a1 a2).2.1)), (z8 ((zf5 a0 a1 a2).2.2.1)), (ze ((zf5 a0 a1 a2).2.2.2))], [.arr 44 (.i .u32) ((zf5 a0 a1 a2).1)]))
theorem zFh : zD 205 g205 := zj (zC Tryz.func205 (by kernel_rfl) rfl) (zg fun x0 a0 h0 => zg fun x1 a1 h1 => zg fun x2 a2 h2 => zi fun hb => (zLQ a0 a1 a2 hb).ats (.cons (zn h0) (.cons (zn h1) (.cons (zn h2) .nil))))
def zJc (args : List AV) (hp : List Blk) : Option (Bool × AV × List Blk) :=
 match args, hp with
 | [.ref 0 0, a1, a2, a3], [.cells 112 [.own 1], .arr 44 (.i .u32) y0] => (z7 (.i .i64) a1).bind fun b1 => (z7 (.i .i64) a2).bind fun b2 => (z7 (.sl (.i .u32)) a3).bind fun b3 => some ((znK b1 b2 b3 y0), (ze ((zkL b1 b2 b3 y0).1)), [.cells 112 [.own 1], .arr 44 (.i .u32) ((zkL b1 b2 b3 y0).2.words)])
 | _, _ => none
theorem zFi : zD 206 zJc := fun args hp b r hp' h hb => by
 unfold zJc at h
 split at h
 . simp only [Option.bind_eq_some_iff] at h
   obtain ⟨b1, h1, b2, h2, b3, h3, h⟩ := h
   cases h; exact ⟨zC Tryz.func206 (by kernel_rfl) rfl, Okay.ats (zLR b1 b2 b3 _ hb) (.cons (fun _ _ _ _ h => h) (.cons (zn h1) (.cons (zn h2) (.cons (zn h3) .nil))))⟩
 . cases h
def g207 := zQ (zV (z7 (.p .sMemMemory)) fun a0 => zV (z7 (.i .i64)) fun a1 => zV (z7 (.i .i64)) fun a2 => zP ((zr5 a0 a1 a2), .tup [(ze ((zpz a0 a1 a2).1)), (ze ((zpz a0 a1 a2).2))], []))
theorem zFj : zD 207 g207 := zj (zC Tryz.func207 (by kernel_rfl) rfl) (zg fun x0 a0 h0 => zg fun x1 a1 h1 => zg fun x2 a2 h2 => zi fun hb => (zLS a0 a1 a2 hb).ats (.cons (zn h0) (.cons (zn h1) (.cons (zn h2) .nil))))
def g213 := zQ (zV (z7 (.p .sMemMemory)) fun a0 => zV (z7 (.i .i64)) fun a1 => zV (z7 (.i .i64)) fun a2 => zV (z7 (.sl (.i .i64))) fun a3 => zP ((zr7 a0 a1 a2 a3), (ze (zt9 a0 a1 a2 a3)), []))
theorem zFp : zD 213 g213 := zj (zC Tryz.func213 (by kernel_rfl) rfl) (zg fun x0 a0 h0 => zg fun x1 a1 h1 => zg fun x2 a2 h2 => zg fun x3 a3 h3 => zi fun hb => (zLY a0 a1 a2 a3 hb).ats (.cons (zn h0) (.cons (zn h1) (.cons (zn h2) (.cons (zn h3) .nil)))))
noncomputable def GW3 : Gam := zmr [(20, g20), (61, g61), (64, g64), (65, g65), (97, g97), (131, g131), (165, g165), (197, zI7), (205, g205), (206, zJc), (207, g207), (213, g213)] GW2
theorem zea : GOk Pr GL GW3 := zcG ⟨zJe, zJD, zJG, zJH, zJX, zEo, zEU, zE9, zFh, zFi, zFj, zFp, trivial⟩ zd9
abbrev zyt := Int × MemMemory
def zxN (r : zyt) : zY := ⟨(ze r.1), [.cells 112 [.own 1], .arr 44 (.i .u32) r.2.words]⟩
inductive zsL where | l0 (x0 : Bool) (x1 : Int) | l4 (x0 : Bool) (x1 : Int) (x2 : List Int) (x3 : List QueueRow) | l8 (x3 : Int) (x0 : List Int) (x2 : List QueueRow) (x1 : Nat) | l12 (x7 : Int) (x8 : Int) (x6 : Int) (x0 : List Int) (x2 : List QueueRow) (x1 : Nat) (x3 : Int) (x4 : Int) (x5 : List (List Int)) | l75 (x6 : Int) (x7 : Int) (x8 : Int) (x0 : List Int) (x2 : List QueueRow) (x1 : Nat) (x3 : Int) (x4 : Int) (x5 : List (List Int))
def zKJ : zsL -> Nat | .l0 _ _ => 0 | .l4 _ _ _ _ => 4 | .l8 _ _ _ _ => 8 | .l12 _ _ _ _ _ _ _ _ _ => 12 | .l75 _ _ _ _ _ _ _ _ _ => 75
def H196 : z9 := ⟨fun n => [37].any (Nat.beq n), zqx [(0, ⟨fgt [0, 1, 3, 4, 11, 13, 44, 45, 46, 82] 142 0, []⟩), (4, ⟨fgt [0, 1, 3, 4, 11, 16, 17, 18, 67, 68, 69] 142 0, [(.slot 18, .own 171 .sQueueRow)]⟩), (8, ⟨fgt [0, 1, 3, 11, 16, 18, 91, 92, 93] 142 0, [(.slot 18, .low 2)]⟩), (12, ⟨fgt [0, 1, 3, 11, 16, 18, 24, 25, 91, 92, 93, 103, 104, 105] 142 0, [(.slot 18, .low 2)]⟩), (75, ⟨fgt [0, 1, 3, 11, 16, 18, 24, 25, 91, 92, 93, 103, 104, 105] 142 0, []⟩)], [], G0, (fun e => match e with | 171 => [(2, 45)] | _ => [])⟩
noncomputable def zRh (stage : Int) (words : Int) (depth : Int) (ports : (List Int)) (ws : List Int) : zsL -> St | .l0 x0 x1 => ⟨mkE [(0, .ref 0 0), (1, (ze stage)), (3, (ze depth)), (4, .sl (.i .i64) ports), (11, .ref 2 0), (13, (z8 x0)), (44, .sl (.i .i64) ports), (45, (ze ports.length)), (46, (ze x1))] 142 0, [.cells 112 [.own 1], .arr 44 (.i .u32) ws, .cells 169 [(ze words), (ze depth)]], GL, 2, [], (fun e => match e with | 171 => [(2, 45)] | _ => [])⟩ | .l4 x0 x1 x2 x3 => ⟨mkE [(0, .ref 0 0), (1, (ze stage)), (3, (ze depth)), (4, .sl (.i .i64) ports), (11, .ref 2 0), (16, .ref 3 0), (17, (z8 x0)), (18, .own 5), (67, .sl (.i .i64) ports), (68, (ze ports.length)), (69, (ze x1))] 142 0, [.cells 112 [.own 1], .arr 44 (.i .u32) x2, .cells 169 [(ze words), (ze depth)], .cells 171 [(avU ((za3 (⟨words, depth⟩ : QueueForm) stage ws).1.first)), (avU ((za3 (⟨words, depth⟩ : QueueForm) stage ws).1.lost)), .own 4], .arr 45 (.sl (.i .u32)) ((za3 (⟨words, depth⟩ : QueueForm) stage ws).1.messages), .row 171 .sQueueRow [(2, 45)] [] x3], GL, 2, [], (fun e => match e with | 171 => [(2, 45)] | _ => [])⟩ | .l8 x3 x0 x2 x1 => ⟨mkE [(0, .ref 0 0), (1, (ze stage)), (3, (ze depth)), (11, .ref 2 0), (16, .ref 3 0), (18, .own 5), (91, .sl (.i .i64) ports), (92, (ze ports.length)), (93, (ze x3))] 142 0, [.cells 112 [.own 1], .arr 44 (.i .u32) x0, .cells 169 [(ze words), (ze depth)], .cells 171 [(avU ((za3 (⟨words, depth⟩ : QueueForm) stage ws).1.first)), (avU ((za3 (⟨words, depth⟩ : QueueForm) stage ws).1.lost)), .own 4], .arr 45 (.sl (.i .u32)) ((za3 (⟨words, depth⟩ : QueueForm) stage ws).1.messages), .row 171 .sQueueRow [(2, 45)] [(x1, 2, none)] x2], GL, 2, [], (fun e => match e with | 171 => [(2, 45)] | _ => [])⟩ | .l12 x7 x8 x6 x0 x2 x1 x3 x4 x5 => ⟨mkE [(0, .ref 0 0), (1, (ze stage)), (3, (ze depth)), (11, .ref 2 0), (16, .ref 3 0), (18, .own 5), (24, (ze x7)), (25, .ref 6 0), (91, .sl (.i .i64) ports), (92, (ze ports.length)), (93, (ze x8)), (103, .own 4), (104, (ze (((za3 (⟨words, depth⟩ : QueueForm) stage ws).1.messages).length))), (105, (ze x6))] 142 0, [.cells 112 [.own 1], .arr 44 (.i .u32) x0, .cells 169 [(ze words), (ze depth)], .cells 171 [(avU ((za3 (⟨words, depth⟩ : QueueForm) stage ws).1.first)), (avU ((za3 (⟨words, depth⟩ : QueueForm) stage ws).1.lost)), .own 4], .arr 45 (.sl (.i .u32)) ((za3 (⟨words, depth⟩ : QueueForm) stage ws).1.messages), .row 171 .sQueueRow [(2, 45)] [(x1, 2, none)] x2, .cells 171 [(avU x3), (avU x4), .own 7], .arr 45 (.sl (.i .u32)) x5], GL, 2, [], (fun e => match e with | 171 => [(2, 45)] | _ => [])⟩ | .l75 x6 x7 x8 x0 x2 x1 x3 x4 x5 => ⟨mkE [(0, .ref 0 0), (1, (ze stage)), (3, (ze depth)), (11, .ref 2 0), (16, .ref 3 0), (18, .own 5), (24, (ze x6)), (25, .ref 6 0), (91, .sl (.i .i64) ports), (92, (ze ports.length)), (93, (ze x7)), (103, .own 4), (104, (ze (((za3 (⟨words, depth⟩ : QueueForm) stage ws).1.messages).length))), (105, (ze x8))] 142 0, [.cells 112 [.own 1], .arr 44 (.i .u32) x0, .cells 169 [(ze words), (ze depth)], .cells 171 [(avU ((za3 (⟨words, depth⟩ : QueueForm) stage ws).1.first)), (avU ((za3 (⟨words, depth⟩ : QueueForm) stage ws).1.lost)), .own 4], .arr 45 (.sl (.i .u32)) ((za3 (⟨words, depth⟩ : QueueForm) stage ws).1.messages), .row 171 .sQueueRow [(2, 45)] [(x1, 2, none)] x2, .cells 171 [(avU x3), (avU x4), .own 7], .arr 45 (.sl (.i .u32)) x5], GL, 2, [], (fun e => match e with | 171 => [(2, 45)] | _ => [])⟩
noncomputable def zbL {R : Type} (ret : zyt -> R) (stage : Int) (words : Int) (depth : Int) (ports : (List Int)) (ws : List Int) (j : zsL -> Option R) : zsL -> Option R | .l0 x0 x1 =>let y1 := (⟨words, depth⟩ : QueueForm); let y2 := (⟨ws⟩ : MemMemory); let y3 := i64.wrap (x1 + 1); let y4 := zN ports x1.toNat;  cond (decide (x1 < ports.length)) (cond (zU x1 ports.length) ( cond x0 (cond (zd7 y1 (some y2) y4 3) ( j (.l0 (zg2 y1 (some y2) y4 3) y3)) none) (j (.l0 false y3))) none) (cond (!x0) (some (ret (51, y2))) (cond (zj4 y1 stage ws) ( j (.l4 ((za3 y1 stage ws).2.1) 0 ((za3 y1 stage ws).2.2.words) [])) none)) | .l4 x0 x1 x2 x3 =>let y3 := (x3 : List QueueRow); let y4 := (⟨words, depth⟩ : QueueForm); let y5 := i64.wrap (x1 + 1); let y6 := zN ports x1.toNat; let y1 := zes y4 y6 x2; let y2 := (leB ((y3.length + ([y1.1] : List QueueRow).length) * 32) 140737488355328);  cond (decide (x1 < ports.length)) (cond (zU x1 ports.length) ( cond (zj0 y4 y6 x2) ( cond x0 (cond y2 ( j (.l4 (y1.2.1) y5 (y1.2.2.words) (y3 ++ [y1.1]))) none) (cond y2 ( j (.l4 false y5 (y1.2.2.words) (y3 ++ [y1.1]))) none)) none) none) (cond (!x0) (some (ret (201, (⟨x2⟩ : MemMemory)))) (j (.l8 0 x2 x3 0))) | .l8 x3 x0 x2 x1 =>let y1 := zg6 x2 x3.toNat; let y2 := (⟨words, depth⟩ : QueueForm); let y3 := (⟨0, 0, []⟩ : QueueRow);  cond (decide (x3 < ports.length)) (cond (zU x3 ports.length) ( cond (zU x3 x2.length) ( cond ((Nat.ble x1 x3.toNat && true) && true) ( j (.l12 (zN ports x3.toNat) x3 0 x0 x2 (Nat.max (x3.toNat + 1) (Nat.max x1 0)) (y1.first) (y1.lost) (y1.messages))) none) none) none) (cond (zfi y2 stage y3 [0] x0) (some (ret (0, (zib y2 stage y3 [0] x0)))) none) | .l12 x7 x8 x6 x0 x2 x1 x3 x4 x5 =>let y2 := (⟨words, depth⟩ : QueueForm); let y1 := (za3 y2 stage ws).1.messages; let y3 := (⟨x3, x4, x5⟩ : QueueRow); let y4 := (x5 : List (List Int));  cond (decide (x6 < y1.length)) (cond (zU x6 y1.length) ( cond (decide ((x5.length : Int) < depth)) (cond (leB ((y4.length + ([zak y1 x6.toNat] : List (List Int)).length) * 24) 140737488355328) ( j (.l75 x7 x8 x6 x0 x2 x1 x3 x4 (y4 ++ [zak y1 x6.toNat]))) none) (cond (decide (x4 < 4294967295)) (j (.l75 x7 x8 x6 x0 x2 x1 x3 (u32.wrap (x4 + 1)) x5)) (j (.l75 x7 x8 x6 x0 x2 x1 x3 x4 x5)))) none) (cond (zp8 y2 x7 y3 x0) ( j (.l8 (i64.wrap (x8 + 1)) ((zzg y2 x7 y3 x0).words) x2 (Nat.max x1 0))) none) | .l75 x6 x7 x8 x0 x2 x1 x3 x4 x5 => j (.l12 x6 x7 (i64.wrap (x8 + 1)) x0 x2 (Nat.max x1 0) x3 x4 x5)
noncomputable def zjc {R : Type} (ret : zyt -> R) (stage : Int) (words : Int) (depth : Int) (ports : (List Int)) (ws : List Int) (j : zsL -> Option R) : Option R := cond (!(((zer (some (⟨ws⟩ : MemMemory)) (⟨words, depth⟩ : QueueForm)) : Int) == 0)) (some (ret ((zer (some (⟨ws⟩ : MemMemory)) (⟨words, depth⟩ : QueueForm)), (⟨ws⟩ : MemMemory)))) (cond (decide ((ports.length : Int) > 4)) (some (ret (2, (⟨ws⟩ : MemMemory)))) (cond (zd7 (⟨words, depth⟩ : QueueForm) (some (⟨ws⟩ : MemMemory)) stage 1) (j (.l0 (zg2 (⟨words, depth⟩ : QueueForm) (some (⟨ws⟩ : MemMemory)) stage 1) 0)) none))
theorem zHU (stage : Int) (words : Int) (depth : Int) (ports : (List Int)) (ws : List Int) (l : zsL) : CT fun j => zbL id stage words depth ports ws j l := by cases l <;> (dsimp only [zbL]; repeat (first | exact ctJ _ | exact ctK _ | apply ctC))
def zbk (stage : Int) (words : Int) (depth : Int) (ports : (List Int)) (ws : List Int) : zsL -> Option zyt := lfp (zbL id stage words depth ports ws)
theorem zbG (stage : Int) (words : Int) (depth : Int) (ports : (List Int)) (ws : List Int) (l : zsL) : zbk stage words depth ports ws l = zbL id stage words depth ports ws (zbk stage words depth ports ws) l := zI (zHU stage words depth ports ws) l
def zrq (stage : Int) (words : Int) (depth : Int) (ports : (List Int)) (ws : List Int) : Option zyt := zjc id stage words depth ports ws (zbk stage words depth ports ws)
def zpw (stage : Int) (words : Int) (depth : Int) (ports : (List Int)) (ws : List Int) : zyt := (zrq stage words depth ports ws).getD default
def zr2 (stage : Int) (words : Int) (depth : Int) (ports : (List Int)) (ws : List Int) : Bool := (zrq stage words depth ports ws).isSome
theorem zLH (stage : Int) (words : Int) (depth : Int) (ports : (List Int)) (ws : List Int) (hc : zr2 stage words depth ports ws = true) : Okay Pr GL 196 [.ref 0 0, (ze stage), (ze words), (ze depth), .sl (.i .i64) ports] [.cells 112 [.own 1], .arr 44 (.i .u32) ws] (zxN (zpw stage words depth ports ws)) := zH (H := H196) (bod := zbL id stage words depth ports ws) (ent := zjc id stage words depth ports ws) (bodA := zbL zxN stage words depth ports ws) (entA := zjc zxN stage words depth ports ws) zea zy Tryz.func196 rfl (by kernel_rfl) zxN zKJ (zRh stage words depth ports ws) (fun J l => by cases l <;> kernel_rfl) (fun J => by kernel_rfl) (fun s l => by cases l <;> simp only [zbL, zb, zt, zu, id]) (fun s => by simp only [zjc, zb, zt, zu, id]) (zHU stage words depth ports ws) (by dsimp only [zjc]; repeat (first | exact ctJ _ | exact ctK _ | apply ctC)) hc
abbrev zDy := Bool × Int × MemMemory
def zCy (r : zDy) : zY := ⟨.tup [(z8 r.1), (ze r.2.1)], [.cells 112 [.own 1], .arr 44 (.i .u32) r.2.2.words]⟩
noncomputable def zma {R : Type} (ret : zDy -> R) (stage : Int) (words : Int) (depth : Int) (message : (List Int)) (ws : List Int) : Option R := cond (!(((zer (some (⟨ws⟩ : MemMemory)) (⟨words, depth⟩ : QueueForm)) : Int) == 0)) (some (ret (false, (zer (some (⟨ws⟩ : MemMemory)) (⟨words, depth⟩ : QueueForm)), (⟨ws⟩ : MemMemory)))) (cond ((message.length : Int) == 0) (some (ret (false, 200, (⟨ws⟩ : MemMemory)))) (cond (decide ((message.length : Int) > words)) (some (ret (false, 200, (⟨ws⟩ : MemMemory)))) (cond (zj3 (⟨words, depth⟩ : QueueForm) stage ws) ( cond (!(((zbd (⟨words, depth⟩ : QueueForm) stage ws).2.1 : Int) == 0)) (some (ret (false, (zbd (⟨words, depth⟩ : QueueForm) stage ws).2.1, (zbd (⟨words, depth⟩ : QueueForm) stage ws).2.2))) (cond ((((zbd (⟨words, depth⟩ : QueueForm) stage ws).1.messages).length : Int) == depth) (some (ret (false, (zbd (⟨words, depth⟩ : QueueForm) stage ws).2.1, (zbd (⟨words, depth⟩ : QueueForm) stage ws).2.2))) (cond (leB ((((zbd (⟨words, depth⟩ : QueueForm) stage ws).1.messages : List (List Int)).length + ([message] : List (List Int)).length) * 24) 140737488355328) ( cond (zfi (⟨words, depth⟩ : QueueForm) stage (⟨(zbd (⟨words, depth⟩ : QueueForm) stage ws).1.first, (zbd (⟨words, depth⟩ : QueueForm) stage ws).1.lost, (((zbd (⟨words, depth⟩ : QueueForm) stage ws).1.messages : List (List Int)) ++ [message])⟩ : QueueRow) ([(u32.wrap ((((zbd (⟨words, depth⟩ : QueueForm) stage ws).1.messages : List (List Int)) ++ [message]).length))]) ((zbd (⟨words, depth⟩ : QueueForm) stage ws).2.2.words)) ( some (ret (true, 0, (zib (⟨words, depth⟩ : QueueForm) stage (⟨(zbd (⟨words, depth⟩ : QueueForm) stage ws).1.first, (zbd (⟨words, depth⟩ : QueueForm) stage ws).1.lost, (((zbd (⟨words, depth⟩ : QueueForm) stage ws).1.messages : List (List Int)) ++ [message])⟩ : QueueRow) ([(u32.wrap ((((zbd (⟨words, depth⟩ : QueueForm) stage ws).1.messages : List (List Int)) ++ [message]).length))]) ((zbd (⟨words, depth⟩ : QueueForm) stage ws).2.2.words))))) none) none))) none)))
def zro (stage : Int) (words : Int) (depth : Int) (message : (List Int)) (ws : List Int) : Option zDy := zma id stage words depth message ws
def zkJ (stage : Int) (words : Int) (depth : Int) (message : (List Int)) (ws : List Int) : zDy := (zro stage words depth message ws).getD default
def zr0 (stage : Int) (words : Int) (depth : Int) (message : (List Int)) (ws : List Int) : Bool := (zro stage words depth message ws).isSome
theorem zLF (stage : Int) (words : Int) (depth : Int) (message : (List Int)) (ws : List Int) (hc : zr0 stage words depth message ws = true) : Okay Pr GL 194 [.ref 0 0, (ze stage), (ze words), (ze depth), .sl (.i .u32) message] [.cells 112 [.own 1], .arr 44 (.i .u32) ws] (zCy (zkJ stage words depth message ws)) := zw (H := zar) (ent := zma id stage words depth message ws) (entA := zma zCy stage words depth message ws) zea zy Tryz.func194 rfl (by kernel_rfl) zCy (fun J => by kernel_rfl) (by simp only [zma, zb, zt, zu, id]) hc
abbrev zDx := (List Int) × Bool × Int × MemMemory
def zCx (r : zDx) : zY := ⟨.tup [.sl (.i .u32) r.1, (z8 r.2.1), (ze r.2.2.1)], [.cells 112 [.own 1], .arr 44 (.i .u32) r.2.2.2.words]⟩
def H193 : z9 := ⟨fun _ => false, fun _ => ⟨[], []⟩, [(.slot 0, .sl (.i .u32))], G0, zfX⟩
noncomputable def zl9 {R : Type} (ret : zDx -> R) (pl : Int) (words : Int) (depth : Int) (ws : List Int) : Option R := cond (zkV pl words depth ws) ( cond (!(((za6 pl words depth ws).2.2.1 : Int) == 0)) (some (ret ([], false, (za6 pl words depth ws).2.2.1, (za6 pl words depth ws).2.2.2))) (cond ((((za6 pl words depth ws).2.1.messages).length : Int) == 0) (some (ret ([], false, (za6 pl words depth ws).2.2.1, (za6 pl words depth ws).2.2.2))) (cond (zU 0 ((za6 pl words depth ws).2.1.messages).length) (some (ret (zak ((za6 pl words depth ws).2.1.messages) 0, true, 0, (za6 pl words depth ws).2.2.2))) none))) none
def zrn (pl : Int) (words : Int) (depth : Int) (ws : List Int) : Option zDx := zl9 id pl words depth ws
def zcQ (pl : Int) (words : Int) (depth : Int) (ws : List Int) : zDx := (zrn pl words depth ws).getD default
def zrZ (pl : Int) (words : Int) (depth : Int) (ws : List Int) : Bool := (zrn pl words depth ws).isSome
theorem zLE (pl : Int) (words : Int) (depth : Int) (ws : List Int) (hc : zrZ pl words depth ws = true) : Okay Pr GL 193 [.ref 0 0, (ze pl), (ze words), (ze depth)] [.cells 112 [.own 1], .arr 44 (.i .u32) ws] (zCx (zcQ pl words depth ws)) := zw (H := H193) (ent := zl9 id pl words depth ws) (entA := zl9 zCx pl words depth ws) zea zy Tryz.func193 rfl (by kernel_rfl) zCx (fun J => by kernel_rfl) (by simp only [zl9, zb, zt, zu, id]) hc
abbrev zDC := (List Int) × Int × Bool × Int
def zCC (r : zDC) : zY := ⟨.tup [.own 0, (avU r.2.1), (z8 r.2.2.1), (ze r.2.2.2)], [.arr 44 (.i .u32) r.1]⟩
noncomputable def zje {R : Type} (ret : zDC -> R) (k : DuctLast) (m : (Option MemMemory)) (port : Int) : Option R := cond (znJ m port k.ends.words) ( some (ret ((zf5 m port k.ends.words).1, (zpy ((zf5 m port k.ends.words).2.1)), (zf5 m port k.ends.words).2.2.1, (zf5 m port k.ends.words).2.2.2))) none
def zhz (k : DuctLast) (m : (Option MemMemory)) (port : Int) : Option zDC := zje id k m port
def zc5 (k : DuctLast) (m : (Option MemMemory)) (port : Int) : zDC := (zhz k m port).getD default
def zhA (k : DuctLast) (m : (Option MemMemory)) (port : Int) : Bool := (zhz k m port).isSome
theorem zLL (k : DuctLast) (m : (Option MemMemory)) (port : Int) (hc : zhA k m port = true) : Okay Pr GL 200 [.agg (Ty.enc .sDuctLast k), .op .sMemMemory m, (ze port)] [] (zCC (zc5 k m port)) := zw (H := zar) (ent := zje id k m port) (entA := zje zCC k m port) zea zy Tryz.func200 rfl (by kernel_rfl) zCC (fun J => by kernel_rfl) (by simp only [zje, zb, zt, zu, id]) hc
abbrev zDD := Bool × Int × MemMemory
def zCD (r : zDD) : zY := ⟨.tup [(z8 r.1), (ze r.2.1)], [.cells 112 [.own 1], .arr 44 (.i .u32) r.2.2.words]⟩
noncomputable def zjf {R : Type} (ret : zDD -> R) (k : DuctLast) (message : (List Int)) (ws : List Int) : Option R := cond (znK k.ends.stage k.ends.words message ws) ( some (ret ((((zkL k.ends.stage k.ends.words message ws).1 : Int) == 0), (zkL k.ends.stage k.ends.words message ws).1, (zkL k.ends.stage k.ends.words message ws).2))) none
def zjT (k : DuctLast) (message : (List Int)) (ws : List Int) : Option zDD := zjf id k message ws
def zeu (k : DuctLast) (message : (List Int)) (ws : List Int) : zDD := (zjT k message ws).getD default
def znI (k : DuctLast) (message : (List Int)) (ws : List Int) : Bool := (zjT k message ws).isSome
theorem zLM (k : DuctLast) (message : (List Int)) (ws : List Int) (hc : znI k message ws = true) : Okay Pr GL 201 [.agg (Ty.enc .sDuctLast k), .ref 0 0, .sl (.i .u32) message] [.cells 112 [.own 1], .arr 44 (.i .u32) ws] (zCD (zeu k message ws)) := zw (H := zar) (ent := zjf id k message ws) (entA := zjf zCD k message ws) zea zy Tryz.func201 rfl (by kernel_rfl) zCD (fun J => by kernel_rfl) (by simp only [zjf, zb, zt, zu, id]) hc
abbrev zDE := Int × Int
def zCE (r : zDE) : zY := ⟨.tup [(ze r.1), (ze r.2)], []⟩
noncomputable def zme {R : Type} (ret : zDE -> R) (k : DuctLast) (m : (Option MemMemory)) : Option R := cond (zr5 m k.ends.stage k.ends.words) (some (ret ((zpz m k.ends.stage k.ends.words).1, (zpz m k.ends.stage k.ends.words).2))) none
def zru (k : DuctLast) (m : (Option MemMemory)) : Option zDE := zme id k m
def zpx (k : DuctLast) (m : (Option MemMemory)) : zDE := (zru k m).getD default
def zr4 (k : DuctLast) (m : (Option MemMemory)) : Bool := (zru k m).isSome
theorem zLN (k : DuctLast) (m : (Option MemMemory)) (hc : zr4 k m = true) : Okay Pr GL 202 [.agg (Ty.enc .sDuctLast k), .op .sMemMemory m] [] (zCE (zpx k m)) := zw (H := zar) (ent := zme id k m) (entA := zme zCE k m) zea zy Tryz.func202 rfl (by kernel_rfl) zCE (fun J => by kernel_rfl) (by simp only [zme, zb, zt, zu, id]) hc
abbrev zyv := Int × MemMemory
def zxP (r : zyv) : zY := ⟨(ze r.1), [.cells 112 [.own 1], .arr 44 (.i .u32) r.2.words]⟩
inductive zsN where | l0 (x0 : Int) (x1 : List Int) | l4 (x0 : Int) (x1 : List Int)
def zKL : zsN -> Nat | .l0 _ _ => 0 | .l4 _ _ => 4
def H208 : z9 := htt [] [(0, ⟨fgt [0, 38, 39, 40] 81 0, []⟩), (4, ⟨fgt [0, 1, 2, 14, 65, 66, 67] 81 0, [(.slot 14, .sl (.i .u32))]⟩)] []
noncomputable def zRj (stage : Int) (words : Int) (ports : (List Int)) (ws : List Int) : zsN -> St | .l0 x0 x1 => stt [(0, .ref 0 0), (38, .sl (.i .i64) ports), (39, (ze ports.length)), (40, (ze x0))] 81 [.cells 112 [.own 1], .arr 44 (.i .u32) x1] 2 | .l4 x0 x1 => stt [(0, .ref 0 0), (1, (ze stage)), (2, (ze words)), (14, .sl (.i .u32) ((zbP (List.set (List.set (List.set (List.replicate (i64.wrap (3 + words)).toNat (0 : Int)) 0 1) 1 1) 2 (u32.wrap (((za4 (some (⟨ws⟩ : MemMemory)) stage words 2).1).length))) 3 (List.take (((List.set (List.set (List.set (List.replicate (i64.wrap (3 + words)).toNat (0 : Int)) 0 1) 1 1) 2 (u32.wrap (((za4 (some (⟨ws⟩ : MemMemory)) stage words 2).1).length))).length : Int).toNat - 3) ((za4 (some (⟨ws⟩ : MemMemory)) stage words 2).1 : List Int))) : List Int)), (65, .sl (.i .i64) ports), (66, (ze ports.length)), (67, (ze x0))] 81 [.cells 112 [.own 1], .arr 44 (.i .u32) x1] 2
noncomputable def zdx {R : Type} (ret : zyv -> R) (stage : Int) (words : Int) (ports : (List Int)) (ws : List Int) (j : zsN -> Option R) : zsN -> Option R | .l0 x0 x1 =>let y1 := i64.wrap (zN ports x0.toNat + 1);  cond (decide (x0 < ports.length)) (cond (zU x0 ports.length) ( cond (zxb y1 0 x1) (j (.l0 (i64.wrap (x0 + 1)) ((zBB y1 0 x1).2.words))) none) none) (some (ret (0, (⟨x1⟩ : MemMemory)))) | .l4 x0 x1 =>let y1 := (List.set (List.set (List.replicate (i64.wrap (3 + words)).toNat (0 : Int)) 0 1) 1 1); let y2 := (⟨ws⟩ : MemMemory); let y5 := i64.wrap (2 + words); let y6 := za4 (some y2) stage words 2; let y4 := List.set y1 2 (u32.wrap ((y6.1).length)); let y3 := (zbP y4 3 (List.take ((y4.length : Int).toNat - 3) (y6.1 : List Int))); let y7 := zN ports x0.toNat; let y8 := zua stage y5 0 x1;  cond (decide (x0 < ports.length)) (cond (zU x0 ports.length) ( cond (zgd y7 y3 x1) ( j (.l4 (i64.wrap (x0 + 1)) ((zg3 y7 y3 x1).2.words))) none) none) (cond (zr8 stage y5 0 x1) (some (ret (y8.1, y8.2))) none)
noncomputable def zjh {R : Type} (ret : zyv -> R) (stage : Int) (words : Int) (ports : (List Int)) (ws : List Int) (j : zsN -> Option R) : Option R := cond (zr7 (some (⟨ws⟩ : MemMemory)) stage words ports) ( cond (!(((zt9 (some (⟨ws⟩ : MemMemory)) stage words ports) : Int) == 0)) (some (ret ((zt9 (some (⟨ws⟩ : MemMemory)) stage words ports), (⟨ws⟩ : MemMemory)))) (cond (zcA (some (⟨ws⟩ : MemMemory)) stage words 2) ( cond (!(((za4 (some (⟨ws⟩ : MemMemory)) stage words 2).2 : Int) == 0)) (some (ret ((za4 (some (⟨ws⟩ : MemMemory)) stage words 2).2, (⟨ws⟩ : MemMemory)))) (cond ((((za4 (some (⟨ws⟩ : MemMemory)) stage words 2).1).length : Int) == 0) (j (.l0 0 ws)) (cond (decide (((i64.wrap (3 + words)) : Int) = (i64.wrap (3 + words))) && decide (0 <= (i64.wrap (3 + words))) && leB ((i64.wrap (3 + words)).toNat * 4) 140737488355328) ( cond (zU 0 (List.replicate (i64.wrap (3 + words)).toNat (0 : Int)).length) ( cond (zU 1 (List.set (List.replicate (i64.wrap (3 + words)).toNat (0 : Int)) 0 1).length) ( cond (zU 2 (List.set (List.set (List.replicate (i64.wrap (3 + words)).toNat (0 : Int)) 0 1) 1 1).length) ( cond (inS 3 ((List.set (List.set (List.set (List.replicate (i64.wrap (3 + words)).toNat (0 : Int)) 0 1) 1 1) 2 (u32.wrap (((za4 (some (⟨ws⟩ : MemMemory)) stage words 2).1).length))).length) (List.set (List.set (List.set (List.replicate (i64.wrap (3 + words)).toNat (0 : Int)) 0 1) 1 1) 2 (u32.wrap (((za4 (some (⟨ws⟩ : MemMemory)) stage words 2).1).length))).length) (j (.l4 0 ws)) none) none) none) none) none))) none)) none
theorem zHW (stage : Int) (words : Int) (ports : (List Int)) (ws : List Int) (l : zsN) : CT fun j => zdx id stage words ports ws j l := by cases l <;> (dsimp only [zdx]; repeat (first | exact ctJ _ | exact ctK _ | apply ctC))
def zhw (stage : Int) (words : Int) (ports : (List Int)) (ws : List Int) : zsN -> Option zyv := lfp (zdx id stage words ports ws)
theorem zgI (stage : Int) (words : Int) (ports : (List Int)) (ws : List Int) (l : zsN) : zhw stage words ports ws l = zdx id stage words ports ws (zhw stage words ports ws) l := zI (zHW stage words ports ws) l
def zrx (stage : Int) (words : Int) (ports : (List Int)) (ws : List Int) : Option zyv := zjh id stage words ports ws (zhw stage words ports ws)
def zpA (stage : Int) (words : Int) (ports : (List Int)) (ws : List Int) : zyv := (zrx stage words ports ws).getD default
def zr6 (stage : Int) (words : Int) (ports : (List Int)) (ws : List Int) : Bool := (zrx stage words ports ws).isSome
theorem zLT (stage : Int) (words : Int) (ports : (List Int)) (ws : List Int) (hc : zr6 stage words ports ws = true) : Okay Pr GL 208 [.ref 0 0, (ze stage), (ze words), .sl (.i .i64) ports] [.cells 112 [.own 1], .arr 44 (.i .u32) ws] (zxP (zpA stage words ports ws)) := zH (H := H208) (bod := zdx id stage words ports ws) (ent := zjh id stage words ports ws) (bodA := zdx zxP stage words ports ws) (entA := zjh zxP stage words ports ws) zea zy Tryz.func208 rfl (by kernel_rfl) zxP zKL (zRj stage words ports ws) (fun J l => by cases l <;> kernel_rfl) (fun J => by kernel_rfl) (fun s l => by cases l <;> simp only [zdx, zb, zt, zu, id]) (fun s => by simp only [zjh, zb, zt, zu, id]) (zHW stage words ports ws) (by dsimp only [zjh]; repeat (first | exact ctJ _ | exact ctK _ | apply ctC)) hc
abbrev zyb := Bool
def zxv (r : zyb) : zY := ⟨(z8 r), []⟩
inductive zst where | l0 (x0 : Int) | l4 (x1 : Int) (x2 : List Region) (x3 : Int) (x0 : Int)
def zKr : zst -> Nat | .l0 _ => 0 | .l4 _ _ _ _ => 4
def H138 : z9 := htt [] [(0, ⟨fgt [1, 28, 29, 30, 60, 61, 62, 63] 65 0, []⟩), (4, ⟨fgt [1, 28, 29, 30, 35, 36, 37, 60, 61, 62, 63] 65 0, []⟩)] []
noncomputable def zQZ (c : Config) : zst -> St | .l0 x0 => stt [(1, .ref 0 0), (28, .sl .sPartition c.partitions), (29, (ze c.partitions.length)), (30, (ze x0))] 65 [.cells 26 (Ty.enc .sConfig c)] 0 | .l4 x1 x2 x3 x0 => stt [(1, .ref 0 0), (28, .sl .sPartition c.partitions), (29, (ze c.partitions.length)), (30, (ze x1)), (35, .sl .sRegion x2), (36, (ze x3)), (37, (ze x0))] 65 [.cells 26 (Ty.enc .sConfig c)] 0
noncomputable def zdt {R : Type} (ret : zyb -> R) (c : Config) (j : zst -> Option R) : zst -> Option R | .l0 x0 =>let y1 := (za c.partitions x0.toNat).regions;  cond (decide (x0 < c.partitions.length)) (cond (zU x0 c.partitions.length) (j (.l4 x0 y1 (y1.length) 0)) none) (cond (zrT c) (cond (((zpu c).2 : Int) == 0) (some (ret (decide (((zpu c).1 : Int) <= c.room)))) (some (ret false))) none) | .l4 x1 x2 x3 x0 =>let y1 := zm x2 x0.toNat;  cond (decide (x0 < x3)) (cond (zU x0 x2.length) ( cond (zpt (y1.frame) (y1.pages) c.kernel c.room) (some (ret false)) (j (.l4 x1 x2 x3 (i64.wrap (x0 + 1))))) none) (j (.l0 (i64.wrap (x1 + 1))))
noncomputable def ziY {R : Type} (ret : zyb -> R) (c : Config) (j : zst -> Option R) : Option R := cond (!(zW c.kernel 0 (i64.wrap (c.frames - 1)))) (some (ret false)) (cond (!(zW c.room 1 (i64.wrap (c.frames - c.kernel)))) (some (ret false)) (j (.l0 0)))
theorem zHC (c : Config) (l : zst) : CT fun j => zdt id c j l := by cases l <;> (dsimp only [zdt]; repeat (first | exact ctJ _ | exact ctK _ | apply ctC))
def zjK (c : Config) : zst -> Option zyb := lfp (zdt id c)
theorem zgE (c : Config) (l : zst) : zjK c l = zdt id c (zjK c) l := zI (zHC c) l
def zns (c : Config) : Option zyb := ziY id c (zjK c)
def zwu (c : Config) : zyb := (zns c).getD default
def zrJ (c : Config) : Bool := (zns c).isSome
theorem zK4 (c : Config) (hc : zrJ c = true) : Okay Pr GL 138 [.agg (Ty.enc .sConfig c)] [] (zxv (zwu c)) := zH (H := H138) (bod := zdt id c) (ent := ziY id c) (bodA := zdt zxv c) (entA := ziY zxv c) zea zy Tryz.func138 rfl (by kernel_rfl) zxv zKr (zQZ c) (fun J l => by cases l <;> kernel_rfl) (fun J => by kernel_rfl) (fun s l => by cases l <;> simp only [zdt, zb, zt, zu, id]) (fun s => by simp only [ziY, zb, zt, zu, id]) (zHC c) (by dsimp only [ziY]; repeat (first | exact ctJ _ | exact ctK _ | apply ctC)) hc
abbrev R39 := Bool × Int × MemMemory
def zMR (r : R39) : zY := ⟨.tup [(z8 r.1), (ze r.2.1)], [.cells 112 [.own 1], .arr 44 (.i .u32) r.2.2.words]⟩
noncomputable def ztj {R : Type} (ret : R39 -> R) (pl : Int) (words : Int) (depth : Int) (ws : List Int) : Option R := cond (zkV pl words depth ws) ( cond (!(((za6 pl words depth ws).2.2.1 : Int) == 0)) (some (ret (false, (za6 pl words depth ws).2.2.1, (za6 pl words depth ws).2.2.2))) (cond ((((za6 pl words depth ws).2.1.messages).length : Int) == 0) (some (ret (false, (za6 pl words depth ws).2.2.1, (za6 pl words depth ws).2.2.2))) (cond (inS 1 (((za6 pl words depth ws).2.1.messages).length) ((za6 pl words depth ws).2.1.messages).length) ( cond (decide (((u32.wrap depth) : Int) = 0)) (none) (cond (zp8 ((za6 pl words depth ws).1) pl (⟨(dv .rem .u32 (u32.wrap ((za6 pl words depth ws).2.1.first + 1)) (u32.wrap depth)), (za6 pl words depth ws).2.1.lost, ((((za6 pl words depth ws).2.1.messages).take (((za6 pl words depth ws).2.1.messages).length : Int).toNat).drop 1)⟩ : QueueRow) ((za6 pl words depth ws).2.2.2.words)) ( some (ret (true, 0, (zzg ((za6 pl words depth ws).1) pl (⟨(dv .rem .u32 (u32.wrap ((za6 pl words depth ws).2.1.first + 1)) (u32.wrap depth)), (za6 pl words depth ws).2.1.lost, ((((za6 pl words depth ws).2.1.messages).take (((za6 pl words depth ws).2.1.messages).length : Int).toNat).drop 1)⟩ : QueueRow) ((za6 pl words depth ws).2.2.2.words))))) none)) none))) none
def zup (pl : Int) (words : Int) (depth : Int) (ws : List Int) : Option R39 := ztj id pl words depth ws
def zvq (pl : Int) (words : Int) (depth : Int) (ws : List Int) : R39 := (zup pl words depth ws).getD default
def zxa (pl : Int) (words : Int) (depth : Int) (ws : List Int) : Bool := (zup pl words depth ws).isSome
theorem zQf (pl : Int) (words : Int) (depth : Int) (ws : List Int) (hc : zxa pl words depth ws = true) : Okay Pr GL 39 [.ref 0 0, (ze pl), (ze words), (ze depth)] [.cells 112 [.own 1], .arr 44 (.i .u32) ws] (zMR (zvq pl words depth ws)) := zw (H := zar) (ent := ztj id pl words depth ws) (entA := ztj zMR pl words depth ws) zea zy Tryz.func39 rfl (by kernel_rfl) zMR (fun J => by kernel_rfl) (by simp only [ztj, zb, zt, zu, id]) hc
abbrev zDz := Int × Int × MemMemory
def zCz (r : zDz) : zY := ⟨.tup [(ze r.1), (ze r.2.1)], [.cells 112 [.own 1], .arr 44 (.i .u32) r.2.2.words]⟩
noncomputable def zmb {R : Type} (ret : zDz -> R) (stage : Int) (words : Int) (depth : Int) (ws : List Int) : Option R := cond (!(((zer (some (⟨ws⟩ : MemMemory)) (⟨words, depth⟩ : QueueForm)) : Int) == 0)) (some (ret (0, (zer (some (⟨ws⟩ : MemMemory)) (⟨words, depth⟩ : QueueForm)), (⟨ws⟩ : MemMemory)))) (cond (zj3 (⟨words, depth⟩ : QueueForm) stage ws) ( some (ret (((zbd (⟨words, depth⟩ : QueueForm) stage ws).1.messages).length, (zbd (⟨words, depth⟩ : QueueForm) stage ws).2.1, (zbd (⟨words, depth⟩ : QueueForm) stage ws).2.2))) none)
def zrp (stage : Int) (words : Int) (depth : Int) (ws : List Int) : Option zDz := zmb id stage words depth ws
def zkK (stage : Int) (words : Int) (depth : Int) (ws : List Int) : zDz := (zrp stage words depth ws).getD default
def zr1 (stage : Int) (words : Int) (depth : Int) (ws : List Int) : Bool := (zrp stage words depth ws).isSome
theorem zLG (stage : Int) (words : Int) (depth : Int) (ws : List Int) (hc : zr1 stage words depth ws = true) : Okay Pr GL 195 [.ref 0 0, (ze stage), (ze words), (ze depth)] [.cells 112 [.own 1], .arr 44 (.i .u32) ws] (zCz (zkK stage words depth ws)) := zw (H := zar) (ent := zmb id stage words depth ws) (entA := zmb zCz stage words depth ws) zea zy Tryz.func195 rfl (by kernel_rfl) zCz (fun J => by kernel_rfl) (by simp only [zmb, zb, zt, zu, id]) hc
abbrev zDw := Int × Int × Int × MemMemory
def zCw (r : zDw) : zY := ⟨.tup [(ze r.1), (avU r.2.1), (ze r.2.2.1)], [.cells 112 [.own 1], .arr 44 (.i .u32) r.2.2.2.words]⟩
noncomputable def zl8 {R : Type} (ret : zDw -> R) (pl : Int) (words : Int) (depth : Int) (ws : List Int) : Option R := cond (zkV pl words depth ws) ( some (ret (((za6 pl words depth ws).2.1.messages).length, (za6 pl words depth ws).2.1.lost, (za6 pl words depth ws).2.2.1, (za6 pl words depth ws).2.2.2))) none
def zrm (pl : Int) (words : Int) (depth : Int) (ws : List Int) : Option zDw := zl8 id pl words depth ws
def zet (pl : Int) (words : Int) (depth : Int) (ws : List Int) : zDw := (zrm pl words depth ws).getD default
def znH (pl : Int) (words : Int) (depth : Int) (ws : List Int) : Bool := (zrm pl words depth ws).isSome
theorem zLD (pl : Int) (words : Int) (depth : Int) (ws : List Int) (hc : znH pl words depth ws = true) : Okay Pr GL 192 [.ref 0 0, (ze pl), (ze words), (ze depth)] [.cells 112 [.own 1], .arr 44 (.i .u32) ws] (zCw (zet pl words depth ws)) := zw (H := zar) (ent := zl8 id pl words depth ws) (entA := zl8 zCw pl words depth ws) zea zy Tryz.func192 rfl (by kernel_rfl) zCw (fun J => by kernel_rfl) (by simp only [zl8, zb, zt, zu, id]) hc
abbrev zDi := Int × Int
def zCi (r : zDi) : zY := ⟨.tup [(ze r.1), (ze r.2)], []⟩
noncomputable def zlR {R : Type} (ret : zDi -> R) (c : Config) : Option R := cond (zp6 c) ( cond (!(((zhu c).2 : Int) == 0)) (some (ret (0, (zhu c).2))) (some (ret ((i64.wrap ((zhu c).1.end_ - c.kernel)), 0)))) none
def zq7 (c : Config) : Option zDi := zlR id c
def zpr (c : Config) : zDi := (zq7 c).getD default
def zrP (c : Config) : Bool := (zq7 c).isSome
theorem zLe (c : Config) (hc : zrP c = true) : Okay Pr GL 148 [.agg (Ty.enc .sConfig c)] [] (zCi (zpr c)) := zw (H := zar) (ent := zlR id c) (entA := zlR zCi c) zea zy Tryz.func148 rfl (by kernel_rfl) zCi (fun J => by kernel_rfl) (by simp only [zlR, zb, zt, zu, id]) hc
def g39 (args : List AV) (hp : List Blk) : Option (Bool × AV × List Blk) :=
 match args, hp with
 | [.ref 0 0, a1, a2, a3], [.cells 112 [.own 1], .arr 44 (.i .u32) y0] => (z7 (.i .i64) a1).bind fun b1 => (z7 (.i .i64) a2).bind fun b2 => (z7 (.i .i64) a3).bind fun b3 => some ((zxa b1 b2 b3 y0), .tup [(z8 ((zvq b1 b2 b3 y0).1)), (ze ((zvq b1 b2 b3 y0).2.1))], [.cells 112 [.own 1], .arr 44 (.i .u32) ((zvq b1 b2 b3 y0).2.2.words)])
 | _, _ => none
theorem zJv : zD 39 g39 := fun args hp b r hp' h hb => by
 unfold g39 at h
 split at h
 . simp only [Option.bind_eq_some_iff] at h
   obtain ⟨b1, h1, b2, h2, b3, h3, h⟩ := h
   cases h; exact ⟨zC Tryz.func39 (by kernel_rfl) rfl, Okay.ats (zQf b1 b2 b3 _ hb) (.cons (fun _ _ _ _ h => h) (.cons (zn h1) (.cons (zn h2) (.cons (zn h3) .nil))))⟩
 . cases h
def g138 := zQ (zV (rdS .sConfig) fun a0 => zP ((zrJ a0), (z8 (zwu a0)), []))
theorem zEv : zD 138 g138 := zj (zC Tryz.func138 (by kernel_rfl) rfl) (zg fun x0 a0 h0 => zi fun hb => (zK4 a0 hb).ats (.cons (zM h0) .nil))
def g148 := zQ (zV (rdS .sConfig) fun a0 => zP ((zrP a0), .tup [(ze ((zpr a0).1)), (ze ((zpr a0).2))], []))
theorem zEF : zD 148 g148 := zj (zC Tryz.func148 (by kernel_rfl) rfl) (zg fun x0 a0 h0 => zi fun hb => (zLe a0 hb).ats (.cons (zM h0) .nil))
def zI2 (args : List AV) (hp : List Blk) : Option (Bool × AV × List Blk) :=
 match args, hp with
 | [.ref 0 0, a1, a2, a3], [.cells 112 [.own 1], .arr 44 (.i .u32) y0] => (z7 (.i .i64) a1).bind fun b1 => (z7 (.i .i64) a2).bind fun b2 => (z7 (.i .i64) a3).bind fun b3 => some ((znH b1 b2 b3 y0), .tup [(ze ((zet b1 b2 b3 y0).1)), (avU ((zet b1 b2 b3 y0).2.1)), (ze ((zet b1 b2 b3 y0).2.2.1))], [.cells 112 [.own 1], .arr 44 (.i .u32) ((zet b1 b2 b3 y0).2.2.2.words)])
 | _, _ => none
theorem zE4 : zD 192 zI2 := fun args hp b r hp' h hb => by
 unfold zI2 at h
 split at h
 . simp only [Option.bind_eq_some_iff] at h
   obtain ⟨b1, h1, b2, h2, b3, h3, h⟩ := h
   cases h; exact ⟨zC Tryz.func192 (by kernel_rfl) rfl, Okay.ats (zLD b1 b2 b3 _ hb) (.cons (fun _ _ _ _ h => h) (.cons (zn h1) (.cons (zn h2) (.cons (zn h3) .nil))))⟩
 . cases h
def zI3 (args : List AV) (hp : List Blk) : Option (Bool × AV × List Blk) :=
 match args, hp with
 | [.ref 0 0, a1, a2, a3], [.cells 112 [.own 1], .arr 44 (.i .u32) y0] => (z7 (.i .i64) a1).bind fun b1 => (z7 (.i .i64) a2).bind fun b2 => (z7 (.i .i64) a3).bind fun b3 => some ((zrZ b1 b2 b3 y0), .tup [.sl (.i .u32) ((zcQ b1 b2 b3 y0).1), (z8 ((zcQ b1 b2 b3 y0).2.1)), (ze ((zcQ b1 b2 b3 y0).2.2.1))], [.cells 112 [.own 1], .arr 44 (.i .u32) ((zcQ b1 b2 b3 y0).2.2.2.words)])
 | _, _ => none
theorem zE5 : zD 193 zI3 := fun args hp b r hp' h hb => by
 unfold zI3 at h
 split at h
 . simp only [Option.bind_eq_some_iff] at h
   obtain ⟨b1, h1, b2, h2, b3, h3, h⟩ := h
   cases h; exact ⟨zC Tryz.func193 (by kernel_rfl) rfl, Okay.ats (zLE b1 b2 b3 _ hb) (.cons (fun _ _ _ _ h => h) (.cons (zn h1) (.cons (zn h2) (.cons (zn h3) .nil))))⟩
 . cases h
def zI4 (args : List AV) (hp : List Blk) : Option (Bool × AV × List Blk) :=
 match args, hp with
 | [.ref 0 0, a1, a2, a3, a4], [.cells 112 [.own 1], .arr 44 (.i .u32) y0] => (z7 (.i .i64) a1).bind fun b1 => (z7 (.i .i64) a2).bind fun b2 => (z7 (.i .i64) a3).bind fun b3 => (z7 (.sl (.i .u32)) a4).bind fun b4 => some ((zr0 b1 b2 b3 b4 y0), .tup [(z8 ((zkJ b1 b2 b3 b4 y0).1)), (ze ((zkJ b1 b2 b3 b4 y0).2.1))], [.cells 112 [.own 1], .arr 44 (.i .u32) ((zkJ b1 b2 b3 b4 y0).2.2.words)])
 | _, _ => none
theorem zE6 : zD 194 zI4 := fun args hp b r hp' h hb => by
 unfold zI4 at h
 split at h
 . simp only [Option.bind_eq_some_iff] at h
   obtain ⟨b1, h1, b2, h2, b3, h3, b4, h4, h⟩ := h
   cases h; exact ⟨zC Tryz.func194 (by kernel_rfl) rfl, Okay.ats (zLF b1 b2 b3 b4 _ hb) (.cons (fun _ _ _ _ h => h) (.cons (zn h1) (.cons (zn h2) (.cons (zn h3) (.cons (zn h4) .nil)))))⟩
 . cases h
def zI5 (args : List AV) (hp : List Blk) : Option (Bool × AV × List Blk) :=
 match args, hp with
 | [.ref 0 0, a1, a2, a3], [.cells 112 [.own 1], .arr 44 (.i .u32) y0] => (z7 (.i .i64) a1).bind fun b1 => (z7 (.i .i64) a2).bind fun b2 => (z7 (.i .i64) a3).bind fun b3 => some ((zr1 b1 b2 b3 y0), .tup [(ze ((zkK b1 b2 b3 y0).1)), (ze ((zkK b1 b2 b3 y0).2.1))], [.cells 112 [.own 1], .arr 44 (.i .u32) ((zkK b1 b2 b3 y0).2.2.words)])
 | _, _ => none
theorem zE7 : zD 195 zI5 := fun args hp b r hp' h hb => by
 unfold zI5 at h
 split at h
 . simp only [Option.bind_eq_some_iff] at h
   obtain ⟨b1, h1, b2, h2, b3, h3, h⟩ := h
   cases h; exact ⟨zC Tryz.func195 (by kernel_rfl) rfl, Okay.ats (zLG b1 b2 b3 _ hb) (.cons (fun _ _ _ _ h => h) (.cons (zn h1) (.cons (zn h2) (.cons (zn h3) .nil))))⟩
 . cases h
def zI6 (args : List AV) (hp : List Blk) : Option (Bool × AV × List Blk) :=
 match args, hp with
 | [.ref 0 0, a1, a2, a3, a4], [.cells 112 [.own 1], .arr 44 (.i .u32) y0] => (z7 (.i .i64) a1).bind fun b1 => (z7 (.i .i64) a2).bind fun b2 => (z7 (.i .i64) a3).bind fun b3 => (z7 (.sl (.i .i64)) a4).bind fun b4 => some ((zr2 b1 b2 b3 b4 y0), (ze ((zpw b1 b2 b3 b4 y0).1)), [.cells 112 [.own 1], .arr 44 (.i .u32) ((zpw b1 b2 b3 b4 y0).2.words)])
 | _, _ => none
theorem zE8 : zD 196 zI6 := fun args hp b r hp' h hb => by
 unfold zI6 at h
 split at h
 . simp only [Option.bind_eq_some_iff] at h
   obtain ⟨b1, h1, b2, h2, b3, h3, b4, h4, h⟩ := h
   cases h; exact ⟨zC Tryz.func196 (by kernel_rfl) rfl, Okay.ats (zLH b1 b2 b3 b4 _ hb) (.cons (fun _ _ _ _ h => h) (.cons (zn h1) (.cons (zn h2) (.cons (zn h3) (.cons (zn h4) .nil)))))⟩
 . cases h
def g200 := zQ (zV (rdS .sDuctLast) fun a0 => zV (z7 (.p .sMemMemory)) fun a1 => zV (z7 (.i .i64)) fun a2 => zP ((zhA a0 a1 a2), .tup [.own 0, (avU ((zc5 a0 a1 a2).2.1)), (z8 ((zc5 a0 a1 a2).2.2.1)), (ze ((zc5 a0 a1 a2).2.2.2))], [.arr 44 (.i .u32) ((zc5 a0 a1 a2).1)]))
theorem zFc : zD 200 g200 := zj (zC Tryz.func200 (by kernel_rfl) rfl) (zg fun x0 a0 h0 => zg fun x1 a1 h1 => zg fun x2 a2 h2 => zi fun hb => (zLL a0 a1 a2 hb).ats (.cons (zM h0) (.cons (zn h1) (.cons (zn h2) .nil))))
def zJa (args : List AV) (hp : List Blk) : Option (Bool × AV × List Blk) :=
 match args, hp with
 | [a0, .ref 0 0, a2], [.cells 112 [.own 1], .arr 44 (.i .u32) y0] => (rdS .sDuctLast a0).bind fun b0 => (z7 (.sl (.i .u32)) a2).bind fun b2 => some ((znI b0 b2 y0), .tup [(z8 ((zeu b0 b2 y0).1)), (ze ((zeu b0 b2 y0).2.1))], [.cells 112 [.own 1], .arr 44 (.i .u32) ((zeu b0 b2 y0).2.2.words)])
 | _, _ => none
theorem zFd : zD 201 zJa := fun args hp b r hp' h hb => by
 unfold zJa at h
 split at h
 . simp only [Option.bind_eq_some_iff] at h
   obtain ⟨b0, h0, b2, h2, h⟩ := h
   cases h; exact ⟨zC Tryz.func201 (by kernel_rfl) rfl, Okay.ats (zLM b0 b2 _ hb) (.cons (zM h0) (.cons (fun _ _ _ _ h => h) (.cons (zn h2) .nil)))⟩
 . cases h
def g202 := zQ (zV (rdS .sDuctLast) fun a0 => zV (z7 (.p .sMemMemory)) fun a1 => zP ((zr4 a0 a1), .tup [(ze ((zpx a0 a1).1)), (ze ((zpx a0 a1).2))], []))
theorem zFe : zD 202 g202 := zj (zC Tryz.func202 (by kernel_rfl) rfl) (zg fun x0 a0 h0 => zg fun x1 a1 h1 => zi fun hb => (zLN a0 a1 hb).ats (.cons (zM h0) (.cons (zn h1) .nil)))
def zJd (args : List AV) (hp : List Blk) : Option (Bool × AV × List Blk) :=
 match args, hp with
 | [.ref 0 0, a1, a2, a3], [.cells 112 [.own 1], .arr 44 (.i .u32) y0] => (z7 (.i .i64) a1).bind fun b1 => (z7 (.i .i64) a2).bind fun b2 => (z7 (.sl (.i .i64)) a3).bind fun b3 => some ((zr6 b1 b2 b3 y0), (ze ((zpA b1 b2 b3 y0).1)), [.cells 112 [.own 1], .arr 44 (.i .u32) ((zpA b1 b2 b3 y0).2.words)])
 | _, _ => none
theorem zFk : zD 208 zJd := fun args hp b r hp' h hb => by
 unfold zJd at h
 split at h
 . simp only [Option.bind_eq_some_iff] at h
   obtain ⟨b1, h1, b2, h2, b3, h3, h⟩ := h
   cases h; exact ⟨zC Tryz.func208 (by kernel_rfl) rfl, Okay.ats (zLT b1 b2 b3 _ hb) (.cons (fun _ _ _ _ h => h) (.cons (zn h1) (.cons (zn h2) (.cons (zn h3) .nil))))⟩
 . cases h
noncomputable def GW4 : Gam := zmr [(39, g39), (138, g138), (148, g148), (192, zI2), (193, zI3), (194, zI4), (195, zI5), (196, zI6), (200, g200), (201, zJa), (202, g202), (208, zJd)] GW3
theorem zfx : GOk Pr GL GW4 := zcG ⟨zJv, zEv, zEF, zE4, zE5, zE6, zE7, zE8, zFc, zFd, zFe, zFk, trivial⟩ zea
abbrev zx4 := Bool
def zxo (r : zx4) : zY := ⟨(z8 r), []⟩
inductive zsm where | l0 (x0 : Int) | l4 (x1 : Int) (x0 : Int)
def zKk : zsm -> Nat | .l0 _ => 0 | .l4 _ _ => 4
def H101 : z9 := htt [] [(0, ⟨fgt [1, 3, 70, 71, 72, 73] 75 0, []⟩), (4, ⟨fgt [1, 3, 4, 70, 71, 72, 73] 75 0, []⟩)] []
noncomputable def zQS (c : Config) : zsm -> St | .l0 x0 => stt [(1, .ref 0 0), (3, (ze x0))] 75 [.cells 26 (Ty.enc .sConfig c)] 0 | .l4 x1 x0 => stt [(1, .ref 0 0), (3, (ze x1)), (4, (ze x0))] 75 [.cells 26 (Ty.enc .sConfig c)] 0
noncomputable def zdr {R : Type} (ret : zx4 -> R) (c : Config) (j : zsm -> Option R) : zsm -> Option R | .l0 x0 => cond (decide (x0 < c.partitions.length)) (j (.l4 x0 0)) (cond (zrP c) (cond (((zpr c).2 : Int) == 0) (some (ret (decide (((zpr c).1 : Int) <= c.room)))) (some (ret false))) none) | .l4 x1 x0 =>let y1 := (za c.partitions x1.toNat).regions; let y2 := zU x1 c.partitions.length; let y3 := zm y1 x0.toNat;  cond y2 ( cond (decide (x0 < y1.length)) (cond y2 ( cond (zU x0 y1.length) ( cond (zmX (y3.frame) (y3.pages) c.kernel c.room) (some (ret false)) (j (.l4 x1 (i64.wrap (x0 + 1))))) none) none) (j (.l0 (i64.wrap (x1 + 1))))) none
noncomputable def ziP {R : Type} (ret : zx4 -> R) (c : Config) (j : zsm -> Option R) : Option R := cond (!(zal c.kernel 0 (i64.wrap (c.frames - 1)))) (some (ret false)) (cond (!(zal c.room 1 (i64.wrap (c.frames - c.kernel)))) (some (ret false)) (j (.l0 0)))
theorem zHv (c : Config) (l : zsm) : CT fun j => zdr id c j l := by cases l <;> (dsimp only [zdr]; repeat (first | exact ctJ _ | exact ctK _ | apply ctC))
def zjI (c : Config) : zsm -> Option zx4 := lfp (zdr id c)
theorem zgC (c : Config) (l : zsm) : zjI c l = zdr id c (zjI c) l := zI (zHv c) l
def znl (c : Config) : Option zx4 := ziP id c (zjI c)
def zwt (c : Config) : zx4 := (znl c).getD default
def zrE (c : Config) : Bool := (znl c).isSome
theorem zKS (c : Config) (hc : zrE c = true) : Okay Pr GL 101 [.agg (Ty.enc .sConfig c)] [] (zxo (zwt c)) := zH (H := H101) (bod := zdr id c) (ent := ziP id c) (bodA := zdr zxo c) (entA := ziP zxo c) zfx zy Tryz.func101 rfl (by kernel_rfl) zxo zKk (zQS c) (fun J l => by cases l <;> kernel_rfl) (fun J => by kernel_rfl) (fun s l => by cases l <;> simp only [zdr, zb, zt, zu, id]) (fun s => by simp only [ziP, zb, zt, zu, id]) (zHv c) (by dsimp only [ziP]; repeat (first | exact ctJ _ | exact ctK _ | apply ctC)) hc
abbrev zDr := Int × Int × Int × MemMemory
def zCr (r : zDr) : zY := ⟨.tup [(avU r.1), (avU r.2.1), (ze r.2.2.1)], [.cells 112 [.own 1], .arr 44 (.i .u32) r.2.2.2.words]⟩
noncomputable def zl3 {R : Type} (ret : zDr -> R) (k : DuctRow) (pl : Int) (ws : List Int) : Option R := cond (znH pl k.ends.words k.depth ws) ( some (ret ((u32.wrap ((zet pl k.ends.words k.depth ws).1)), (zet pl k.ends.words k.depth ws).2.1, (zet pl k.ends.words k.depth ws).2.2.1, (zet pl k.ends.words k.depth ws).2.2.2))) none
def zri (k : DuctRow) (pl : Int) (ws : List Int) : Option zDr := zl3 id k pl ws
def zfr (k : DuctRow) (pl : Int) (ws : List Int) : zDr := (zri k pl ws).getD default
def zrV (k : DuctRow) (pl : Int) (ws : List Int) : Bool := (zri k pl ws).isSome
theorem zLy (k : DuctRow) (pl : Int) (ws : List Int) (hc : zrV k pl ws = true) : Okay Pr GL 187 [.agg (Ty.enc .sDuctRow k), .ref 0 0, (ze pl)] [.cells 112 [.own 1], .arr 44 (.i .u32) ws] (zCr (zfr k pl ws)) := zw (H := zar) (ent := zl3 id k pl ws) (entA := zl3 zCr k pl ws) zfx zy Tryz.func187 rfl (by kernel_rfl) zCr (fun J => by kernel_rfl) (by simp only [zl3, zb, zt, zu, id]) hc
abbrev zDB := Int × Int × Int
def zCB (r : zDB) : zY := ⟨.tup [(avU r.1), (avU r.2.1), (ze r.2.2)], []⟩
noncomputable def zmd {R : Type} (ret : zDB -> R) (k : DuctLast) (m : (Option MemMemory)) (port : Int) : Option R := cond (zhA k m port) (some (ret ((zpy ((zc5 k m port).2.2.1)), (zc5 k m port).2.1, (zc5 k m port).2.2.2))) none
def zrt (k : DuctLast) (m : (Option MemMemory)) (port : Int) : Option zDB := zmd id k m port
def zih (k : DuctLast) (m : (Option MemMemory)) (port : Int) : zDB := (zrt k m port).getD default
def zr3 (k : DuctLast) (m : (Option MemMemory)) (port : Int) : Bool := (zrt k m port).isSome
theorem zLK (k : DuctLast) (m : (Option MemMemory)) (port : Int) (hc : zr3 k m port = true) : Okay Pr GL 199 [.agg (Ty.enc .sDuctLast k), .op .sMemMemory m, (ze port)] [] (zCB (zih k m port)) := zw (H := zar) (ent := zmd id k m port) (entA := zmd zCB k m port) zfx zy Tryz.func199 rfl (by kernel_rfl) zCB (fun J => by kernel_rfl) (by simp only [zmd, zb, zt, zu, id]) hc
abbrev zDv := Int × MemMemory
def zCv (r : zDv) : zY := ⟨(ze r.1), [.cells 112 [.own 1], .arr 44 (.i .u32) r.2.words]⟩
noncomputable def zl7 {R : Type} (ret : zDv -> R) (k : DuctRow) (ws : List Int) : Option R := cond (zr2 k.ends.stage k.ends.words k.depth k.ends.ports ws) ( some (ret ((zpw k.ends.stage k.ends.words k.depth k.ends.ports ws).1, (zpw k.ends.stage k.ends.words k.depth k.ends.ports ws).2))) none
def zjS (k : DuctRow) (ws : List Int) : Option zDv := zl7 id k ws
def zm0 (k : DuctRow) (ws : List Int) : zDv := (zjS k ws).getD default
def zj2 (k : DuctRow) (ws : List Int) : Bool := (zjS k ws).isSome
theorem zLC (k : DuctRow) (ws : List Int) (hc : zj2 k ws = true) : Okay Pr GL 191 [.agg (Ty.enc .sDuctRow k), .ref 0 0] [.cells 112 [.own 1], .arr 44 (.i .u32) ws] (zCv (zm0 k ws)) := zw (H := zar) (ent := zl7 id k ws) (entA := zl7 zCv k ws) zfx zy Tryz.func191 rfl (by kernel_rfl) zCv (fun J => by kernel_rfl) (by simp only [zl7, zb, zt, zu, id]) hc
abbrev zDe := AdmitFound
def zCe (r : zDe) : zY := ⟨.agg [(ze r.e), (ze r.where_.first), (ze r.where_.second)], []⟩
noncomputable def zlL {R : Type} (ret : zDe -> R) (a : Config) : Option R := cond (zrJ a) (some (ret (zp (zwu a) 423 nowhere))) none
def zq3 (a : Config) : Option zDe := zlL id a
def zif (a : Config) : zDe := (zq3 a).getD default
def zvI (a : Config) : Bool := (zq3 a).isSome
theorem zA8 (a : Config) (hc : zvI a = true) : Okay Pr GL 137 [.op .sConfig (some a)] [] (zCe (zif a)) := zw (H := zar) (ent := zlL id a) (entA := zlL zCe a) zfx zy Tryz.func137 rfl (by kernel_rfl) zCe (fun J => by kernel_rfl) (by simp only [zlL, zb, zt, zu, id]) hc
abbrev R17 := Int × MemMemory
def zME (r : R17) : zY := ⟨(ze r.1), [.cells 112 [.own 1], .arr 44 (.i .u32) r.2.words]⟩
noncomputable def ztb {R : Type} (ret : R17 -> R) (d : (Option DuctDucts)) (p : Int) (port : Int) (ws : List Int) : Option R := cond (zkS d (some (⟨ws⟩ : MemMemory))) ( cond (!(((zjH d (some (⟨ws⟩ : MemMemory))) : Int) == 0)) (some (ret ((zjH d (some (⟨ws⟩ : MemMemory))), (⟨ws⟩ : MemMemory)))) (cond (zc6 d p port) ( cond (!((zK d p port).2)) (some (ret (0, (⟨ws⟩ : MemMemory)))) (cond ((zK d p port).1.source) (some (ret (0, (⟨ws⟩ : MemMemory)))) (cond (zgh d ((zK d p port).1.channel)) (cond (zkU d p port ((zK d p port).1.channel)) ( cond (zxa (zbO d p port ((zK d p port).1.channel)) ((za5 d ((zK d p port).1.channel)).ends.words) ((za5 d ((zK d p port).1.channel)).depth) ws) ( some (ret ((zvq (zbO d p port ((zK d p port).1.channel)) ((za5 d ((zK d p port).1.channel)).ends.words) ((za5 d ((zK d p port).1.channel)).depth) ws).2.1, (zvq (zbO d p port ((zK d p port).1.channel)) ((za5 d ((zK d p port).1.channel)).ends.words) ((za5 d ((zK d p port).1.channel)).depth) ws).2.2))) none) none) (cond (zbH d ((zK d p port).1.channel)) (some (ret (0, (⟨ws⟩ : MemMemory)))) none)))) none)) none
def zwE (d : (Option DuctDucts)) (p : Int) (port : Int) (ws : List Int) : Option R17 := ztb id d p port ws
def zBA (d : (Option DuctDucts)) (p : Int) (port : Int) (ws : List Int) : R17 := (zwE d p port ws).getD default
def zw4 (d : (Option DuctDucts)) (p : Int) (port : Int) (ws : List Int) : Bool := (zwE d p port ws).isSome
theorem zPW (d : (Option DuctDucts)) (p : Int) (port : Int) (ws : List Int) (hc : zw4 d p port ws = true) : Okay Pr GL 17 [.op .sDuctDucts d, .ref 0 0, (ze p), (ze port)] [.cells 112 [.own 1], .arr 44 (.i .u32) ws] (zME (zBA d p port ws)) := zw (H := zar) (ent := ztb id d p port ws) (entA := ztb zME d p port ws) zfx zy Tryz.func17 rfl (by kernel_rfl) zME (fun J => by kernel_rfl) (by simp only [ztb, zb, zt, zu, id]) hc
abbrev zDs := (List Int) × Int × Bool × Int × MemMemory
def zCs (r : zDs) : zY := ⟨.tup [.sl (.i .u32) r.1, (avU r.2.1), (z8 r.2.2.1), (ze r.2.2.2.1)], [.cells 112 [.own 1], .arr 44 (.i .u32) r.2.2.2.2.words]⟩
def H188 : z9 := ⟨fun _ => false, fun _ => ⟨[], []⟩, [(.slot 0, .sl (.i .u32))], G0, zfX⟩
noncomputable def zl4 {R : Type} (ret : zDs -> R) (k : DuctRow) (pl : Int) (ws : List Int) : Option R := cond (zrZ pl k.ends.words k.depth ws) ( cond (!(((zcQ pl k.ends.words k.depth ws).2.2.1 : Int) == 0)) (some (ret ([], 0, false, (zcQ pl k.ends.words k.depth ws).2.2.1, (zcQ pl k.ends.words k.depth ws).2.2.2))) (cond (!((zcQ pl k.ends.words k.depth ws).2.1)) (some (ret ([], 0, false, (zcQ pl k.ends.words k.depth ws).2.2.1, (zcQ pl k.ends.words k.depth ws).2.2.2))) (cond (znH pl k.ends.words k.depth ((zcQ pl k.ends.words k.depth ws).2.2.2.words)) ( some (ret ((zcQ pl k.ends.words k.depth ws).1, (u32.wrap (i64.wrap ((zet pl k.ends.words k.depth ((zcQ pl k.ends.words k.depth ws).2.2.2.words)).1 - 1))), true, (zet pl k.ends.words k.depth ((zcQ pl k.ends.words k.depth ws).2.2.2.words)).2.2.1, (zet pl k.ends.words k.depth ((zcQ pl k.ends.words k.depth ws).2.2.2.words)).2.2.2))) none))) none
def zrj (k : DuctRow) (pl : Int) (ws : List Int) : Option zDs := zl4 id k pl ws
def zdL (k : DuctRow) (pl : Int) (ws : List Int) : zDs := (zrj k pl ws).getD default
def zrW (k : DuctRow) (pl : Int) (ws : List Int) : Bool := (zrj k pl ws).isSome
theorem zLz (k : DuctRow) (pl : Int) (ws : List Int) (hc : zrW k pl ws = true) : Okay Pr GL 188 [.agg (Ty.enc .sDuctRow k), .ref 0 0, (ze pl)] [.cells 112 [.own 1], .arr 44 (.i .u32) ws] (zCs (zdL k pl ws)) := zw (H := H188) (ent := zl4 id k pl ws) (entA := zl4 zCs k pl ws) zfx zy Tryz.func188 rfl (by kernel_rfl) zCs (fun J => by kernel_rfl) (by simp only [zl4, zb, zt, zu, id]) hc
abbrev zDt := Bool × Int × MemMemory
def zCt (r : zDt) : zY := ⟨.tup [(z8 r.1), (ze r.2.1)], [.cells 112 [.own 1], .arr 44 (.i .u32) r.2.2.words]⟩
noncomputable def zl5 {R : Type} (ret : zDt -> R) (k : DuctRow) (message : (List Int)) (ws : List Int) : Option R := cond (zr0 k.ends.stage k.ends.words k.depth message ws) ( some (ret ((zkJ k.ends.stage k.ends.words k.depth message ws).1, (zkJ k.ends.stage k.ends.words k.depth message ws).2.1, (zkJ k.ends.stage k.ends.words k.depth message ws).2.2))) none
def zrk (k : DuctRow) (message : (List Int)) (ws : List Int) : Option zDt := zl5 id k message ws
def zfs (k : DuctRow) (message : (List Int)) (ws : List Int) : zDt := (zrk k message ws).getD default
def zrX (k : DuctRow) (message : (List Int)) (ws : List Int) : Bool := (zrk k message ws).isSome
theorem zLA (k : DuctRow) (message : (List Int)) (ws : List Int) (hc : zrX k message ws = true) : Okay Pr GL 189 [.agg (Ty.enc .sDuctRow k), .ref 0 0, .sl (.i .u32) message] [.cells 112 [.own 1], .arr 44 (.i .u32) ws] (zCt (zfs k message ws)) := zw (H := zar) (ent := zl5 id k message ws) (entA := zl5 zCt k message ws) zfx zy Tryz.func189 rfl (by kernel_rfl) zCt (fun J => by kernel_rfl) (by simp only [zl5, zb, zt, zu, id]) hc
abbrev zDu := Int × Int × MemMemory
def zCu (r : zDu) : zY := ⟨.tup [(ze r.1), (ze r.2.1)], [.cells 112 [.own 1], .arr 44 (.i .u32) r.2.2.words]⟩
noncomputable def zl6 {R : Type} (ret : zDu -> R) (k : DuctRow) (ws : List Int) : Option R := cond (zr1 k.ends.stage k.ends.words k.depth ws) ( some (ret ((zkK k.ends.stage k.ends.words k.depth ws).1, (zkK k.ends.stage k.ends.words k.depth ws).2.1, (zkK k.ends.stage k.ends.words k.depth ws).2.2))) none
def zrl (k : DuctRow) (ws : List Int) : Option zDu := zl6 id k ws
def zkI (k : DuctRow) (ws : List Int) : zDu := (zrl k ws).getD default
def zrY (k : DuctRow) (ws : List Int) : Bool := (zrl k ws).isSome
theorem zLB (k : DuctRow) (ws : List Int) (hc : zrY k ws = true) : Okay Pr GL 190 [.agg (Ty.enc .sDuctRow k), .ref 0 0] [.cells 112 [.own 1], .arr 44 (.i .u32) ws] (zCu (zkI k ws)) := zw (H := zar) (ent := zl6 id k ws) (entA := zl6 zCu k ws) zfx zy Tryz.func190 rfl (by kernel_rfl) zCu (fun J => by kernel_rfl) (by simp only [zl6, zb, zt, zu, id]) hc
abbrev zDF := Int × MemMemory
def zCF (r : zDF) : zY := ⟨(ze r.1), [.cells 112 [.own 1], .arr 44 (.i .u32) r.2.words]⟩
noncomputable def zmf {R : Type} (ret : zDF -> R) (k : DuctLast) (ws : List Int) : Option R := cond (zr6 k.ends.stage k.ends.words k.ends.ports ws) (some (ret ((zpA k.ends.stage k.ends.words k.ends.ports ws).1, (zpA k.ends.stage k.ends.words k.ends.ports ws).2))) none
def zjU (k : DuctLast) (ws : List Int) : Option zDF := zmf id k ws
def zm1 (k : DuctLast) (ws : List Int) : zDF := (zjU k ws).getD default
def zj5 (k : DuctLast) (ws : List Int) : Bool := (zjU k ws).isSome
theorem zLO (k : DuctLast) (ws : List Int) (hc : zj5 k ws = true) : Okay Pr GL 203 [.agg (Ty.enc .sDuctLast k), .ref 0 0] [.cells 112 [.own 1], .arr 44 (.i .u32) ws] (zCF (zm1 k ws)) := zw (H := zar) (ent := zmf id k ws) (entA := zmf zCF k ws) zfx zy Tryz.func203 rfl (by kernel_rfl) zCF (fun J => by kernel_rfl) (by simp only [zmf, zb, zt, zu, id]) hc
def g17 (args : List AV) (hp : List Blk) : Option (Bool × AV × List Blk) :=
 match args, hp with
 | [a0, .ref 0 0, a2, a3], [.cells 112 [.own 1], .arr 44 (.i .u32) y0] => (z7 (.p .sDuctDucts) a0).bind fun b0 => (z7 (.i .i64) a2).bind fun b2 => (z7 (.i .i64) a3).bind fun b3 => some ((zw4 b0 b2 b3 y0), (ze ((zBA b0 b2 b3 y0).1)), [.cells 112 [.own 1], .arr 44 (.i .u32) ((zBA b0 b2 b3 y0).2.words)])
 | _, _ => none
theorem zIV : zD 17 g17 := fun args hp b r hp' h hb => by
 unfold g17 at h
 split at h
 . simp only [Option.bind_eq_some_iff] at h
   obtain ⟨b0, h0, b2, h2, b3, h3, h⟩ := h
   cases h; exact ⟨zC Tryz.func17 (by kernel_rfl) rfl, Okay.ats (zPW b0 b2 b3 _ hb) (.cons (zn h0) (.cons (fun _ _ _ _ h => h) (.cons (zn h2) (.cons (zn h3) .nil))))⟩
 . cases h
def g101 := zQ (zV (rdS .sConfig) fun a0 => zP ((zrE a0), (z8 (zwt a0)), []))
theorem zEa : zD 101 g101 := zj (zC Tryz.func101 (by kernel_rfl) rfl) (zg fun x0 a0 h0 => zi fun hb => (zKS a0 hb).ats (.cons (zM h0) .nil))
def g137 := zQ (zV (rdP .sConfig) fun a0 => zP ((zvI a0), .agg [(ze ((zif a0).e)), (ze ((zif a0).where_.first)), (ze ((zif a0).where_.second))], []))
theorem zEu : zD 137 g137 := zj (zC Tryz.func137 (by kernel_rfl) rfl) (zg fun x0 a0 h0 => zi fun hb => (zA8 a0 hb).ats (.cons (zfq h0) .nil))
def zIW (args : List AV) (hp : List Blk) : Option (Bool × AV × List Blk) :=
 match args, hp with
 | [a0, .ref 0 0, a2], [.cells 112 [.own 1], .arr 44 (.i .u32) y0] => (rdS .sDuctRow a0).bind fun b0 => (z7 (.i .i64) a2).bind fun b2 => some ((zrV b0 b2 y0), .tup [(avU ((zfr b0 b2 y0).1)), (avU ((zfr b0 b2 y0).2.1)), (ze ((zfr b0 b2 y0).2.2.1))], [.cells 112 [.own 1], .arr 44 (.i .u32) ((zfr b0 b2 y0).2.2.2.words)])
 | _, _ => none
theorem zEZ : zD 187 zIW := fun args hp b r hp' h hb => by
 unfold zIW at h
 split at h
 . simp only [Option.bind_eq_some_iff] at h
   obtain ⟨b0, h0, b2, h2, h⟩ := h
   cases h; exact ⟨zC Tryz.func187 (by kernel_rfl) rfl, Okay.ats (zLy b0 b2 _ hb) (.cons (zM h0) (.cons (fun _ _ _ _ h => h) (.cons (zn h2) .nil)))⟩
 . cases h
def zIX (args : List AV) (hp : List Blk) : Option (Bool × AV × List Blk) :=
 match args, hp with
 | [a0, .ref 0 0, a2], [.cells 112 [.own 1], .arr 44 (.i .u32) y0] => (rdS .sDuctRow a0).bind fun b0 => (z7 (.i .i64) a2).bind fun b2 => some ((zrW b0 b2 y0), .tup [.sl (.i .u32) ((zdL b0 b2 y0).1), (avU ((zdL b0 b2 y0).2.1)), (z8 ((zdL b0 b2 y0).2.2.1)), (ze ((zdL b0 b2 y0).2.2.2.1))], [.cells 112 [.own 1], .arr 44 (.i .u32) ((zdL b0 b2 y0).2.2.2.2.words)])
 | _, _ => none
theorem zE0 : zD 188 zIX := fun args hp b r hp' h hb => by
 unfold zIX at h
 split at h
 . simp only [Option.bind_eq_some_iff] at h
   obtain ⟨b0, h0, b2, h2, h⟩ := h
   cases h; exact ⟨zC Tryz.func188 (by kernel_rfl) rfl, Okay.ats (zLz b0 b2 _ hb) (.cons (zM h0) (.cons (fun _ _ _ _ h => h) (.cons (zn h2) .nil)))⟩
 . cases h
def zIY (args : List AV) (hp : List Blk) : Option (Bool × AV × List Blk) :=
 match args, hp with
 | [a0, .ref 0 0, a2], [.cells 112 [.own 1], .arr 44 (.i .u32) y0] => (rdS .sDuctRow a0).bind fun b0 => (z7 (.sl (.i .u32)) a2).bind fun b2 => some ((zrX b0 b2 y0), .tup [(z8 ((zfs b0 b2 y0).1)), (ze ((zfs b0 b2 y0).2.1))], [.cells 112 [.own 1], .arr 44 (.i .u32) ((zfs b0 b2 y0).2.2.words)])
 | _, _ => none
theorem zE1 : zD 189 zIY := fun args hp b r hp' h hb => by
 unfold zIY at h
 split at h
 . simp only [Option.bind_eq_some_iff] at h
   obtain ⟨b0, h0, b2, h2, h⟩ := h
   cases h; exact ⟨zC Tryz.func189 (by kernel_rfl) rfl, Okay.ats (zLA b0 b2 _ hb) (.cons (zM h0) (.cons (fun _ _ _ _ h => h) (.cons (zn h2) .nil)))⟩
 . cases h
def zI0 (args : List AV) (hp : List Blk) : Option (Bool × AV × List Blk) :=
 match args, hp with
 | [a0, .ref 0 0], [.cells 112 [.own 1], .arr 44 (.i .u32) y0] => (rdS .sDuctRow a0).bind fun b0 => some ((zrY b0 y0), .tup [(ze ((zkI b0 y0).1)), (ze ((zkI b0 y0).2.1))], [.cells 112 [.own 1], .arr 44 (.i .u32) ((zkI b0 y0).2.2.words)])
 | _, _ => none
theorem zE2 : zD 190 zI0 := fun args hp b r hp' h hb => by
 unfold zI0 at h
 split at h
 . simp only [Option.bind_eq_some_iff] at h
   obtain ⟨b0, h0, h⟩ := h
   cases h; exact ⟨zC Tryz.func190 (by kernel_rfl) rfl, Okay.ats (zLB b0 _ hb) (.cons (zM h0) (.cons (fun _ _ _ _ h => h) .nil))⟩
 . cases h
def zI1 (args : List AV) (hp : List Blk) : Option (Bool × AV × List Blk) :=
 match args, hp with
 | [a0, .ref 0 0], [.cells 112 [.own 1], .arr 44 (.i .u32) y0] => (rdS .sDuctRow a0).bind fun b0 => some ((zj2 b0 y0), (ze ((zm0 b0 y0).1)), [.cells 112 [.own 1], .arr 44 (.i .u32) ((zm0 b0 y0).2.words)])
 | _, _ => none
theorem zE3 : zD 191 zI1 := fun args hp b r hp' h hb => by
 unfold zI1 at h
 split at h
 . simp only [Option.bind_eq_some_iff] at h
   obtain ⟨b0, h0, h⟩ := h
   cases h; exact ⟨zC Tryz.func191 (by kernel_rfl) rfl, Okay.ats (zLC b0 _ hb) (.cons (zM h0) (.cons (fun _ _ _ _ h => h) .nil))⟩
 . cases h
def g199 := zQ (zV (rdS .sDuctLast) fun a0 => zV (z7 (.p .sMemMemory)) fun a1 => zV (z7 (.i .i64)) fun a2 => zP ((zr3 a0 a1 a2), .tup [(avU ((zih a0 a1 a2).1)), (avU ((zih a0 a1 a2).2.1)), (ze ((zih a0 a1 a2).2.2))], []))
theorem zFb : zD 199 g199 := zj (zC Tryz.func199 (by kernel_rfl) rfl) (zg fun x0 a0 h0 => zg fun x1 a1 h1 => zg fun x2 a2 h2 => zi fun hb => (zLK a0 a1 a2 hb).ats (.cons (zM h0) (.cons (zn h1) (.cons (zn h2) .nil))))
def zJb (args : List AV) (hp : List Blk) : Option (Bool × AV × List Blk) :=
 match args, hp with
 | [a0, .ref 0 0], [.cells 112 [.own 1], .arr 44 (.i .u32) y0] => (rdS .sDuctLast a0).bind fun b0 => some ((zj5 b0 y0), (ze ((zm1 b0 y0).1)), [.cells 112 [.own 1], .arr 44 (.i .u32) ((zm1 b0 y0).2.words)])
 | _, _ => none
theorem zFf : zD 203 zJb := fun args hp b r hp' h hb => by
 unfold zJb at h
 split at h
 . simp only [Option.bind_eq_some_iff] at h
   obtain ⟨b0, h0, h⟩ := h
   cases h; exact ⟨zC Tryz.func203 (by kernel_rfl) rfl, Okay.ats (zLO b0 _ hb) (.cons (zM h0) (.cons (fun _ _ _ _ h => h) .nil))⟩
 . cases h
noncomputable def ask (x : Clo) : AdmitFound := match x with
 | .c124 c0 => zpi c0
 | .c127 c0 => zpj c0
 | .c128 c0 => zpk c0
 | .c129 c0 => zpl c0
 | .c130 c0 => zpm c0
 | .c131 c0 c1 => zic c0 c1
 | .c133 c0 c1 => zid c0 c1
 | .c135 c0 c1 => zie c0 c1
 | .c137 c0 => zif c0
 | _ => default
noncomputable def zIA (x : Clo) : Bool := match x with
 | .c124 c0 => true
 | .c127 c0 => true
 | .c128 c0 => true
 | .c129 c0 => true
 | .c130 c0 => true
 | .c131 c0 c1 => zvF c0 c1
 | .c133 c0 c1 => zvG c0 c1
 | .c135 c0 c1 => zvH c0 c1
 | .c137 c0 => zvI c0
 | _ => false
noncomputable def zJ0 (x : Clo) (args : List AV) (hp : List Blk) : Option (Bool × AV × List Blk) :=
 match hp, args with
 | [], [] => some (zIA x, .agg [(ze ((ask x).e)), (ze ((ask x).where_.first)), (ze ((ask x).where_.second))], [])
 | _, _ => none
theorem zFx {x : Clo} {args : List AV} {hp : List Blk} {b : Bool} {r : AV} {hp' : List Blk} (h : zJ0 x args hp = some (b, r, hp')) (hb : b = true) : OkC Pr GL (.c x) args hp ⟨r, hp'⟩ := by
 unfold zJ0 at h
 split at h
 . cases h
   cases x with
   | none => cases hb
   | c124 c0 => exact ⟨124, _, by kernel_rfl, zC Tryz.func124 (by kernel_rfl) rfl, zA0 c0⟩
   | c127 c0 => exact ⟨127, _, by kernel_rfl, zC Tryz.func127 (by kernel_rfl) rfl, zA1 c0⟩
   | c128 c0 => exact ⟨128, _, by kernel_rfl, zC Tryz.func128 (by kernel_rfl) rfl, zA2 c0⟩
   | c129 c0 => exact ⟨129, _, by kernel_rfl, zC Tryz.func129 (by kernel_rfl) rfl, zA3 c0⟩
   | c130 c0 => exact ⟨130, _, by kernel_rfl, zC Tryz.func130 (by kernel_rfl) rfl, zA4 c0⟩
   | c131 c0 c1 => exact ⟨131, _, by kernel_rfl, zC Tryz.func131 (by kernel_rfl) rfl, zA5 c0 c1 hb⟩
   | c133 c0 c1 => exact ⟨133, _, by kernel_rfl, zC Tryz.func133 (by kernel_rfl) rfl, zA6 c0 c1 hb⟩
   | c135 c0 c1 => exact ⟨135, _, by kernel_rfl, zC Tryz.func135 (by kernel_rfl) rfl, zA7 c0 c1 hb⟩
   | c137 c0 => exact ⟨137, _, by kernel_rfl, zC Tryz.func137 (by kernel_rfl) rfl, zA8 c0 hb⟩
 . cases h
noncomputable def zJ1 (x : Clo) (args : List AV) (hp : List Blk) : Option (Bool × AV × List Blk) :=
 match args with
 | [] => zJ0 x [] hp
 | _ => none
theorem zFy {x : Clo} {args : List AV} {hp : List Blk} {b : Bool} {r : AV} {hp' : List Blk} (h : zJ1 x args hp = some (b, r, hp')) (hb : b = true) : OkC Pr GL (.c x) args hp ⟨r, hp'⟩ := by
 unfold zJ1 at h
 split at h
 . exact zFx h hb
 . cases h
noncomputable def GW5 : Gam := gamC [(17, g17), (101, g101), (137, g137), (187, zIW), (188, zIX), (189, zIY), (190, zI0), (191, zI1), (199, g199), (203, zJb)] zJ1 GW4
theorem zll : GOk Pr GL GW5 := zFw ⟨zIV, zEa, zEu, zEZ, zE0, zE1, zE2, zE3, zFb, zFf, trivial⟩ zFy zfx
abbrev R60 := Int × Where
def zGJ (r : R60) : zY := ⟨.tup [(ze r.1), .agg [(ze r.2.first), (ze r.2.second)]], []⟩
inductive L60 where | l0 (x0 : Int) | l4 (x0 : Int) | l8 (x0 : Int)
def zPG : L60 -> Nat | .l0 _ => 0 | .l4 _ => 4 | .l8 _ => 8
def H60 : z9 := htt [] [(0, ⟨fgt [1, 3, 5] 73 0, []⟩), (4, ⟨fgt [1, 3, 8] 73 0, []⟩), (8, ⟨fgt [1, 3, 10] 73 0, []⟩)] []
noncomputable def st60 (c : Config) : L60 -> St | .l0 x0 => stt [(1, .ref 0 0), (3, .ref 1 0), (5, (ze x0))] 73 [.cells 26 (Ty.enc .sConfig c), .cells 152 [(ze 0), (ze 0)]] 0 | .l4 x0 => stt [(1, .ref 0 0), (3, .ref 1 0), (8, (ze x0))] 73 [.cells 26 (Ty.enc .sConfig c), .cells 152 [(ze 0), (ze 0)]] 0 | .l8 x0 => stt [(1, .ref 0 0), (3, .ref 1 0), (10, (ze x0))] 73 [.cells 26 (Ty.enc .sConfig c), .cells 152 [(ze 0), (ze 0)]] 0
noncomputable def zef {R : Type} (ret : R60 -> R) (c : Config) (j : L60 -> Option R) : L60 -> Option R | .l0 x0 =>let y1 := zvu c x0;  cond (decide (x0 < c.partitions.length)) (cond (zxj c x0) ( cond (!((y1.1 : Int) == 0)) (some (ret (y1.1, y1.2))) (j (.l0 (i64.wrap (x0 + 1))))) none) (j (.l4 0)) | .l4 x0 => cond (decide (x0 < c.channels.length)) (cond (zxk c x0) ( cond (!(((zzj c x0) : Int) == 0)) (some (ret ((zzj c x0), (zhv x0)))) (j (.l4 (i64.wrap (x0 + 1))))) none) (j (.l8 0)) | .l8 x0 =>let y1 := zmV c x0;  cond (decide (x0 < c.cores.length)) (cond (zrD c x0) ( cond (!((y1.1 : Int) == 0)) (some (ret (y1.1, y1.2))) (j (.l8 (i64.wrap (x0 + 1))))) none) (cond (zrE c) (cond (!(zwt c)) (some (ret (423, sp96))) (some (ret (0, (⟨0, 0⟩ : Where))))) none)
noncomputable def zoA {R : Type} (ret : R60 -> R) (c : Config) (j : L60 -> Option R) : Option R := cond (!(((zvt c) : Int) == 0)) (some (ret ((zvt c), sp96))) (j (.l0 0))
theorem ct60 (c : Config) (l : L60) : CT fun j => zef id c j l := by cases l <;> (dsimp only [zef]; repeat (first | exact ctJ _ | exact ctK _ | apply ctC))
def zip (c : Config) : L60 -> Option R60 := lfp (zef id c)
theorem zeC (c : Config) (l : L60) : zip c l = zef id c (zip c) l := zI (ct60 c) l
def zur (c : Config) : Option R60 := zoA id c (zip c)
def zze (c : Config) : R60 := (zur c).getD default
def zxc (c : Config) : Bool := (zur c).isSome
theorem zQm (c : Config) (hc : zxc c = true) : Okay Pr GL 60 [.agg (Ty.enc .sConfig c)] [] (zGJ (zze c)) := zH (H := H60) (bod := zef id c) (ent := zoA id c) (bodA := zef zGJ c) (entA := zoA zGJ c) zll zy Tryz.func60 rfl (by kernel_rfl) zGJ zPG (st60 c) (fun J l => by cases l <;> kernel_rfl) (fun J => by kernel_rfl) (fun s l => by cases l <;> simp only [zef, zb, zt, zu, id]) (fun s => by simp only [zoA, zb, zt, zu, id]) (ct60 c) (by dsimp only [zoA]; repeat (first | exact ctJ _ | exact ctK _ | apply ctC)) hc
abbrev R18 := Int × (List Int) × Int × Int × MemMemory
def zMF (r : R18) : zY := ⟨.tup [(ze r.1), .sl (.i .u32) r.2.1, (avU r.2.2.1), (ze r.2.2.2.1)], [.cells 112 [.own 1], .arr 44 (.i .u32) r.2.2.2.2.words]⟩
def H18 : z9 := ⟨fun _ => false, fun _ => ⟨[], []⟩, [(.slot 1, .sl (.i .u32))], G0, zfX⟩
noncomputable def zon {R : Type} (ret : R18 -> R) (d : (Option DuctDucts)) (p : Int) (port : Int) (ws : List Int) : Option R := cond (zkS d (some (⟨ws⟩ : MemMemory))) ( cond (!(((zjH d (some (⟨ws⟩ : MemMemory))) : Int) == 0)) (some (ret (0, [], 0, (zjH d (some (⟨ws⟩ : MemMemory))), (⟨ws⟩ : MemMemory)))) (cond (zc6 d p port) ( cond (!((zK d p port).2)) (some (ret (1, [], 0, 0, (⟨ws⟩ : MemMemory)))) (cond ((zK d p port).1.source) (some (ret (2, [], 0, 0, (⟨ws⟩ : MemMemory)))) (cond (zgh d ((zK d p port).1.channel)) (cond (zkU d p port ((zK d p port).1.channel)) ( cond (zrW (za5 d ((zK d p port).1.channel)) (zbO d p port ((zK d p port).1.channel)) ws) ( cond (!(((zdL (za5 d ((zK d p port).1.channel)) (zbO d p port ((zK d p port).1.channel)) ws).2.2.2.1 : Int) == 0)) (some (ret (0, [], 0, (zdL (za5 d ((zK d p port).1.channel)) (zbO d p port ((zK d p port).1.channel)) ws).2.2.2.1, (zdL (za5 d ((zK d p port).1.channel)) (zbO d p port ((zK d p port).1.channel)) ws).2.2.2.2))) (cond (!((zdL (za5 d ((zK d p port).1.channel)) (zbO d p port ((zK d p port).1.channel)) ws).2.2.1)) (some (ret (6, [], 0, 0, (zdL (za5 d ((zK d p port).1.channel)) (zbO d p port ((zK d p port).1.channel)) ws).2.2.2.2))) (some (ret (0, (zdL (za5 d ((zK d p port).1.channel)) (zbO d p port ((zK d p port).1.channel)) ws).1, (zdL (za5 d ((zK d p port).1.channel)) (zbO d p port ((zK d p port).1.channel)) ws).2.1, 0, (zdL (za5 d ((zK d p port).1.channel)) (zbO d p port ((zK d p port).1.channel)) ws).2.2.2.2))))) none) none) (cond (zbH d ((zK d p port).1.channel)) ( cond (zkU d p port ((zK d p port).1.channel)) ( cond (zhA (z6 d ((zK d p port).1.channel)) (some (⟨ws⟩ : MemMemory)) (zbO d p port ((zK d p port).1.channel))) ( cond (!(((zc5 (z6 d ((zK d p port).1.channel)) (some (⟨ws⟩ : MemMemory)) (zbO d p port ((zK d p port).1.channel))).2.2.2 : Int) == 0)) (some (ret (0, [], 0, (zc5 (z6 d ((zK d p port).1.channel)) (some (⟨ws⟩ : MemMemory)) (zbO d p port ((zK d p port).1.channel))).2.2.2, (⟨ws⟩ : MemMemory)))) (cond (!((zc5 (z6 d ((zK d p port).1.channel)) (some (⟨ws⟩ : MemMemory)) (zbO d p port ((zK d p port).1.channel))).2.2.1)) (some (ret (6, [], 0, 0, (⟨ws⟩ : MemMemory)))) (some (ret (0, (zc5 (z6 d ((zK d p port).1.channel)) (some (⟨ws⟩ : MemMemory)) (zbO d p port ((zK d p port).1.channel))).1, (zc5 (z6 d ((zK d p port).1.channel)) (some (⟨ws⟩ : MemMemory)) (zbO d p port ((zK d p port).1.channel))).2.1, 0, (⟨ws⟩ : MemMemory)))))) none) none) none)))) none)) none
def zpR (d : (Option DuctDucts)) (p : Int) (port : Int) (ws : List Int) : Option R18 := zon id d p port ws
def zgT (d : (Option DuctDucts)) (p : Int) (port : Int) (ws : List Int) : R18 := (zpR d p port ws).getD default
def zp0 (d : (Option DuctDucts)) (p : Int) (port : Int) (ws : List Int) : Bool := (zpR d p port ws).isSome
theorem zPX (d : (Option DuctDucts)) (p : Int) (port : Int) (ws : List Int) (hc : zp0 d p port ws = true) : Okay Pr GL 18 [.op .sDuctDucts d, .ref 0 0, (ze p), (ze port)] [.cells 112 [.own 1], .arr 44 (.i .u32) ws] (zMF (zgT d p port ws)) := zw (H := H18) (ent := zon id d p port ws) (entA := zon zMF d p port ws) zll zy Tryz.func18 rfl (by kernel_rfl) zMF (fun J => by kernel_rfl) (by simp only [zon, zb, zt, zu, id]) hc
abbrev R19 := Int × Int × Int × Int × MemMemory
def zMG (r : R19) : zY := ⟨.tup [(ze r.1), (avU r.2.1), (avU r.2.2.1), (ze r.2.2.2.1)], [.cells 112 [.own 1], .arr 44 (.i .u32) r.2.2.2.2.words]⟩
noncomputable def ztc {R : Type} (ret : R19 -> R) (d : (Option DuctDucts)) (p : Int) (port : Int) (ws : List Int) : Option R := cond (zkS d (some (⟨ws⟩ : MemMemory))) ( cond (!(((zjH d (some (⟨ws⟩ : MemMemory))) : Int) == 0)) (some (ret (0, 0, 0, (zjH d (some (⟨ws⟩ : MemMemory))), (⟨ws⟩ : MemMemory)))) (cond (zc6 d p port) ( cond (!((zK d p port).2)) (some (ret (1, 0, 0, 0, (⟨ws⟩ : MemMemory)))) (cond (zgh d ((zK d p port).1.channel)) (cond ((zK d p port).1.source) (cond (zrY (za5 d ((zK d p port).1.channel)) ws) ( some (ret (0, (u32.wrap ((zkI (za5 d ((zK d p port).1.channel)) ws).1)), 0, (zkI (za5 d ((zK d p port).1.channel)) ws).2.1, (zkI (za5 d ((zK d p port).1.channel)) ws).2.2))) none) (cond (zkU d p port ((zK d p port).1.channel)) ( cond (zrV (za5 d ((zK d p port).1.channel)) (zbO d p port ((zK d p port).1.channel)) ws) ( cond (!(((zfr (za5 d ((zK d p port).1.channel)) (zbO d p port ((zK d p port).1.channel)) ws).2.2.1 : Int) == 0)) (some (ret (0, 0, 0, (zfr (za5 d ((zK d p port).1.channel)) (zbO d p port ((zK d p port).1.channel)) ws).2.2.1, (zfr (za5 d ((zK d p port).1.channel)) (zbO d p port ((zK d p port).1.channel)) ws).2.2.2))) (some (ret (0, (zfr (za5 d ((zK d p port).1.channel)) (zbO d p port ((zK d p port).1.channel)) ws).1, (zfr (za5 d ((zK d p port).1.channel)) (zbO d p port ((zK d p port).1.channel)) ws).2.1, 0, (zfr (za5 d ((zK d p port).1.channel)) (zbO d p port ((zK d p port).1.channel)) ws).2.2.2)))) none) none)) (cond (zbH d ((zK d p port).1.channel)) ( cond ((zK d p port).1.source) (cond (zr4 (z6 d ((zK d p port).1.channel)) (some (⟨ws⟩ : MemMemory))) ( some (ret (0, (u32.wrap ((zpx (z6 d ((zK d p port).1.channel)) (some (⟨ws⟩ : MemMemory))).1)), 0, (zpx (z6 d ((zK d p port).1.channel)) (some (⟨ws⟩ : MemMemory))).2, (⟨ws⟩ : MemMemory)))) none) (cond (zkU d p port ((zK d p port).1.channel)) ( cond (zr3 (z6 d ((zK d p port).1.channel)) (some (⟨ws⟩ : MemMemory)) (zbO d p port ((zK d p port).1.channel))) ( cond (!(((zih (z6 d ((zK d p port).1.channel)) (some (⟨ws⟩ : MemMemory)) (zbO d p port ((zK d p port).1.channel))).2.2 : Int) == 0)) (some (ret (0, 0, 0, (zih (z6 d ((zK d p port).1.channel)) (some (⟨ws⟩ : MemMemory)) (zbO d p port ((zK d p port).1.channel))).2.2, (⟨ws⟩ : MemMemory)))) (some (ret (0, (zih (z6 d ((zK d p port).1.channel)) (some (⟨ws⟩ : MemMemory)) (zbO d p port ((zK d p port).1.channel))).1, (zih (z6 d ((zK d p port).1.channel)) (some (⟨ws⟩ : MemMemory)) (zbO d p port ((zK d p port).1.channel))).2.1, 0, (⟨ws⟩ : MemMemory))))) none) none)) none))) none)) none
def zwF (d : (Option DuctDucts)) (p : Int) (port : Int) (ws : List Int) : Option R19 := ztc id d p port ws
def zt8 (d : (Option DuctDucts)) (p : Int) (port : Int) (ws : List Int) : R19 := (zwF d p port ws).getD default
def zw5 (d : (Option DuctDucts)) (p : Int) (port : Int) (ws : List Int) : Bool := (zwF d p port ws).isSome
theorem zPY (d : (Option DuctDucts)) (p : Int) (port : Int) (ws : List Int) (hc : zw5 d p port ws = true) : Okay Pr GL 19 [.op .sDuctDucts d, .ref 0 0, (ze p), (ze port)] [.cells 112 [.own 1], .arr 44 (.i .u32) ws] (zMG (zt8 d p port ws)) := zw (H := zar) (ent := ztc id d p port ws) (entA := ztc zMG d p port ws) zll zy Tryz.func19 rfl (by kernel_rfl) zMG (fun J => by kernel_rfl) (by simp only [ztc, zb, zt, zu, id]) hc
abbrev R88 := (List Clo)
def zGQ (r : R88) : zY := ⟨.own 0, [.arr 197 .f r]⟩
inductive L88 where | l0 (x0 : Int) (x1 : List Clo) | l4 (x0 : Int) (x1 : List Clo) | l8 (x0 : Int) (x1 : List Clo)
def zPN : L88 -> Nat | .l0 _ _ => 0 | .l4 _ _ => 4 | .l8 _ _ => 8
def H88 : z9 := htt [] [(0, ⟨fgt [1, 3, 15, 16] 50 0, []⟩), (4, ⟨fgt [1, 3, 26, 27] 50 0, []⟩), (8, ⟨fgt [1, 3, 37, 38] 50 0, []⟩)] []
noncomputable def st88 (c : Config) : L88 -> St | .l0 x0 x1 => stt [(1, .ref 0 0), (3, .own 1), (15, (ze c.partitions.length)), (16, (ze x0))] 50 [.rob .sConfig c, .arr 197 .f x1] 0 | .l4 x0 x1 => stt [(1, .ref 0 0), (3, .own 1), (26, (ze c.channels.length)), (27, (ze x0))] 50 [.rob .sConfig c, .arr 197 .f x1] 0 | .l8 x0 x1 => stt [(1, .ref 0 0), (3, .own 1), (37, (ze c.cores.length)), (38, (ze x0))] 50 [.rob .sConfig c, .arr 197 .f x1] 0
noncomputable def zeg {R : Type} (ret : R88 -> R) (c : Config) (j : L88 -> Option R) : L88 -> Option R | .l0 x0 x1 => cond (decide (x0 < c.partitions.length)) (cond (leB (((x1 : List Clo).length + ([(Clo.c131 c x0)] : List Clo).length) * 8) 140737488355328) (j (.l0 (i64.wrap (x0 + 1)) ((x1 : List Clo) ++ [(Clo.c131 c x0)]))) none) (j (.l4 0 x1)) | .l4 x0 x1 => cond (decide (x0 < c.channels.length)) (cond (leB (((x1 : List Clo).length + ([(Clo.c133 c x0)] : List Clo).length) * 8) 140737488355328) (j (.l4 (i64.wrap (x0 + 1)) ((x1 : List Clo) ++ [(Clo.c133 c x0)]))) none) (j (.l8 0 x1)) | .l8 x0 x1 =>let y1 := (x1 : List Clo);  cond (decide (x0 < c.cores.length)) (cond (leB ((y1.length + ([(Clo.c135 c x0)] : List Clo).length) * 8) 140737488355328) (j (.l8 (i64.wrap (x0 + 1)) (y1 ++ [(Clo.c135 c x0)]))) none) (cond (leB ((y1.length + ([(Clo.c137 c)] : List Clo).length) * 8) 140737488355328) (some (ret (y1 ++ [(Clo.c137 c)]))) none)
noncomputable def ztp {R : Type} (ret : R88 -> R) (c : Config) (j : L88 -> Option R) : Option R := j (.l0 0 [(Clo.c124 c), (Clo.c127 c), (Clo.c128 c), (Clo.c129 c), (Clo.c130 c)])
theorem ct88 (c : Config) (l : L88) : CT fun j => zeg id c j l := by cases l <;> (dsimp only [zeg]; repeat (first | exact ctJ _ | exact ctK _ | apply ctC))
def znk (c : Config) : L88 -> Option R88 := lfp (zeg id c)
theorem zeD (c : Config) (l : L88) : znk c l = zeg id c (znk c) l := zI (ct88 c) l
def zBJ (c : Config) : Option R88 := ztp id c (znk c)
def zqL (c : Config) : R88 := (zBJ c).getD default
def zxg (c : Config) : Bool := (zBJ c).isSome
theorem zQy (c : Config) (hc : zxg c = true) : Okay Pr GL 88 [.agg (Ty.enc .sConfig c)] [] (zGQ (zqL c)) := zH (H := H88) (bod := zeg id c) (ent := ztp id c) (bodA := zeg zGQ c) (entA := ztp zGQ c) zll zy Tryz.func88 rfl (by kernel_rfl) zGQ zPN (st88 c) (fun J l => by cases l <;> kernel_rfl) (fun J => by kernel_rfl) (fun s l => by cases l <;> simp only [zeg, zb, zt, zu, id]) (fun s => by simp only [ztp, zb, zt, zu, id]) (ct88 c) (by dsimp only [ztp]; repeat (first | exact ctJ _ | exact ctK _ | apply ctC)) hc
abbrev R16 := Int × Int × MemMemory
def zMD (r : R16) : zY := ⟨.tup [(ze r.1), (ze r.2.1)], [.cells 112 [.own 1], .arr 44 (.i .u32) r.2.2.words]⟩
noncomputable def zlX {R : Type} (ret : R16 -> R) (d : (Option DuctDucts)) (p : Int) (port : Int) (message : (List Int)) (ws : List Int) : Option R := cond (zkS d (some (⟨ws⟩ : MemMemory))) ( cond (!(((zjH d (some (⟨ws⟩ : MemMemory))) : Int) == 0)) (some (ret (0, (zjH d (some (⟨ws⟩ : MemMemory))), (⟨ws⟩ : MemMemory)))) (cond (zkT d p port) ( cond (!(((zm3 d p port).2 : Int) == 0)) (some (ret ((zm3 d p port).2, 0, (⟨ws⟩ : MemMemory)))) (cond ((message.length : Int) == 0) (some (ret (3, 0, (⟨ws⟩ : MemMemory)))) (cond (decide ((message.length : Int) > (zm3 d p port).1)) (some (ret (3, 0, (⟨ws⟩ : MemMemory)))) (cond (zc6 d p port) ( cond (zgh d ((zK d p port).1.channel)) (cond (zrX (za5 d ((zK d p port).1.channel)) message ws) ( cond (((zfs (za5 d ((zK d p port).1.channel)) message ws).2.1 : Int) == 0) (cond (!((zfs (za5 d ((zK d p port).1.channel)) message ws).1)) (some (ret (5, 0, (zfs (za5 d ((zK d p port).1.channel)) message ws).2.2))) (some (ret (0, (zfs (za5 d ((zK d p port).1.channel)) message ws).2.1, (zfs (za5 d ((zK d p port).1.channel)) message ws).2.2)))) (some (ret (0, (zfs (za5 d ((zK d p port).1.channel)) message ws).2.1, (zfs (za5 d ((zK d p port).1.channel)) message ws).2.2)))) none) (cond (zbH d ((zK d p port).1.channel)) ( cond (znI (z6 d ((zK d p port).1.channel)) message ws) ( cond (((zeu (z6 d ((zK d p port).1.channel)) message ws).2.1 : Int) == 0) (cond (!((zeu (z6 d ((zK d p port).1.channel)) message ws).1)) (some (ret (5, 0, (zeu (z6 d ((zK d p port).1.channel)) message ws).2.2))) (some (ret (0, (zeu (z6 d ((zK d p port).1.channel)) message ws).2.1, (zeu (z6 d ((zK d p port).1.channel)) message ws).2.2)))) (some (ret (0, (zeu (z6 d ((zK d p port).1.channel)) message ws).2.1, (zeu (z6 d ((zK d p port).1.channel)) message ws).2.2)))) none) none)) none)))) none)) none
def zkO (d : (Option DuctDucts)) (p : Int) (port : Int) (message : (List Int)) (ws : List Int) : Option R16 := zlX id d p port message ws
def zd5 (d : (Option DuctDucts)) (p : Int) (port : Int) (message : (List Int)) (ws : List Int) : R16 := (zkO d p port message ws).getD default
def zkP (d : (Option DuctDucts)) (p : Int) (port : Int) (message : (List Int)) (ws : List Int) : Bool := (zkO d p port message ws).isSome
theorem zPV (d : (Option DuctDucts)) (p : Int) (port : Int) (message : (List Int)) (ws : List Int) (hc : zkP d p port message ws = true) : Okay Pr GL 16 [.op .sDuctDucts d, .ref 0 0, (ze p), (ze port), .sl (.i .u32) message] [.cells 112 [.own 1], .arr 44 (.i .u32) ws] (zMD (zd5 d p port message ws)) := zw (H := zar) (ent := zlX id d p port message ws) (entA := zlX zMD d p port message ws) zll zy Tryz.func16 rfl (by kernel_rfl) zMD (fun J => by kernel_rfl) (by simp only [zlX, zb, zt, zu, id]) hc
abbrev R11 := Int × MemMemory
def zGw (r : R11) : zY := ⟨(ze r.1), [.cells 112 [.own 1], .arr 44 (.i .u32) r.2.words]⟩
inductive L11 where | l0 (x0 : Int) (x1 : List Int) | l4 (x0 : Int) (x1 : List Int)
def zPt : L11 -> Nat | .l0 _ _ => 0 | .l4 _ _ => 4
def H11 : z9 := htt [] [(0, ⟨fgt [0, 1, 6, 23, 24] 51 0, []⟩), (4, ⟨fgt [0, 1, 41, 42] 51 0, []⟩)] []
noncomputable def st11 (d : (Option DuctDucts)) (ws : List Int) : L11 -> St | .l0 x0 x1 => stt [(0, .op .sDuctDucts d), (1, .ref 0 0), (6, .ref 2 0), (23, (ze (((d.getD default).c.channels).length))), (24, (ze x0))] 51 [.cells 112 [.own 1], .arr 44 (.i .u32) ws, .cells 112 [.own 3], .arr 44 (.i .u32) x1] 2 | .l4 x0 x1 => stt [(0, .op .sDuctDucts d), (1, .ref 0 0), (41, (ze (((d.getD default).c.channels).length))), (42, (ze x0))] 51 [.cells 112 [.own 1], .arr 44 (.i .u32) x1] 2
noncomputable def zec {R : Type} (ret : R11 -> R) (d : (Option DuctDucts)) (ws : List Int) (j : L11 -> Option R) : L11 -> Option R | .l0 x0 x1 =>let y1 := zm1 (z6 d x0) x1; let y2 := zm0 (za5 d x0) x1; let y3 := i64.wrap (x0 + 1); let y4 := (⟨ws⟩ : MemMemory);  cond (decide (x0 < ((d.getD default).c.channels).length)) (cond (zgh d x0) (cond (zj2 (za5 d x0) x1) ( cond (!((y2.1 : Int) == 0)) (some (ret (y2.1, y4))) (j (.l0 y3 (y2.2.words)))) none) (cond (zbH d x0) ( cond (zj5 (z6 d x0) x1) ( cond (!((y1.1 : Int) == 0)) (some (ret (y1.1, y4))) (j (.l0 y3 (y1.2.words)))) none) none)) (cond d.isSome (j (.l4 0 ws)) none) | .l4 x0 x1 =>let y1 := i64.wrap (x0 + 1);  cond (decide (x0 < ((d.getD default).c.channels).length)) (cond (zgh d x0) (cond (zj2 (za5 d x0) x1) (j (.l4 y1 ((zm0 (za5 d x0) x1).2.words))) none) (cond (zbH d x0) (cond (zj5 (z6 d x0) x1) (j (.l4 y1 ((zm1 (z6 d x0) x1).2.words))) none) none)) (some (ret (0, (⟨x1⟩ : MemMemory))))
noncomputable def zom {R : Type} (ret : R11 -> R) (d : (Option DuctDucts)) (ws : List Int) (j : L11 -> Option R) : Option R := cond (zkS d (some (⟨ws⟩ : MemMemory))) ( cond (!(((zjH d (some (⟨ws⟩ : MemMemory))) : Int) == 0)) (some (ret ((zjH d (some (⟨ws⟩ : MemMemory))), (⟨ws⟩ : MemMemory)))) (cond (zw9 (some (⟨ws⟩ : MemMemory))) (cond d.isSome (j (.l0 0 ((zGj (some (⟨ws⟩ : MemMemory))).words))) none) none)) none
theorem ct11 (d : (Option DuctDucts)) (ws : List Int) (l : L11) : CT fun j => zec id d ws j l := by cases l <;> (dsimp only [zec]; repeat (first | exact ctJ _ | exact ctK _ | apply ctC))
def zm6 (d : (Option DuctDucts)) (ws : List Int) : L11 -> Option R11 := lfp (zec id d ws)
theorem zik (d : (Option DuctDucts)) (ws : List Int) (l : L11) : zm6 d ws l = zec id d ws (zm6 d ws) l := zI (ct11 d ws) l
def zwC (d : (Option DuctDucts)) (ws : List Int) : Option R11 := zom id d ws (zm6 d ws)
def zgS (d : (Option DuctDucts)) (ws : List Int) : R11 := (zwC d ws).getD default
def zpZ (d : (Option DuctDucts)) (ws : List Int) : Bool := (zwC d ws).isSome
theorem zPT (d : (Option DuctDucts)) (ws : List Int) (hc : zpZ d ws = true) : Okay Pr GL 11 [.op .sDuctDucts d, .ref 0 0] [.cells 112 [.own 1], .arr 44 (.i .u32) ws] (zGw (zgS d ws)) := zH (H := H11) (bod := zec id d ws) (ent := zom id d ws) (bodA := zec zGw d ws) (entA := zom zGw d ws) zll zy Tryz.func11 rfl (by kernel_rfl) zGw zPt (st11 d ws) (fun J l => by cases l <;> kernel_rfl) (fun J => by kernel_rfl) (fun s l => by cases l <;> simp only [zec, zb, zt, zu, id]) (fun s => by simp only [zom, zb, zt, zu, id]) (ct11 d ws) (by dsimp only [zom]; repeat (first | exact ctJ _ | exact ctK _ | apply ctC)) hc
def g11 (args : List AV) (hp : List Blk) : Option (Bool × AV × List Blk) :=
 match args, hp with
 | [a0, .ref 0 0], [.cells 112 [.own 1], .arr 44 (.i .u32) y0] => (z7 (.p .sDuctDucts) a0).bind fun b0 => some ((zpZ b0 y0), (ze ((zgS b0 y0).1)), [.cells 112 [.own 1], .arr 44 (.i .u32) ((zgS b0 y0).2.words)])
 | _, _ => none
theorem zIQ : zD 11 g11 := fun args hp b r hp' h hb => by
 unfold g11 at h
 split at h
 . simp only [Option.bind_eq_some_iff] at h
   obtain ⟨b0, h0, h⟩ := h
   cases h; exact ⟨zC Tryz.func11 (by kernel_rfl) rfl, Okay.ats (zPT b0 _ hb) (.cons (zn h0) (.cons (fun _ _ _ _ h => h) .nil))⟩
 . cases h
def g16 (args : List AV) (hp : List Blk) : Option (Bool × AV × List Blk) :=
 match args, hp with
 | [a0, .ref 0 0, a2, a3, a4], [.cells 112 [.own 1], .arr 44 (.i .u32) y0] => (z7 (.p .sDuctDucts) a0).bind fun b0 => (z7 (.i .i64) a2).bind fun b2 => (z7 (.i .i64) a3).bind fun b3 => (z7 (.sl (.i .u32)) a4).bind fun b4 => some ((zkP b0 b2 b3 b4 y0), .tup [(ze ((zd5 b0 b2 b3 b4 y0).1)), (ze ((zd5 b0 b2 b3 b4 y0).2.1))], [.cells 112 [.own 1], .arr 44 (.i .u32) ((zd5 b0 b2 b3 b4 y0).2.2.words)])
 | _, _ => none
theorem zIU : zD 16 g16 := fun args hp b r hp' h hb => by
 unfold g16 at h
 split at h
 . simp only [Option.bind_eq_some_iff] at h
   obtain ⟨b0, h0, b2, h2, b3, h3, b4, h4, h⟩ := h
   cases h; exact ⟨zC Tryz.func16 (by kernel_rfl) rfl, Okay.ats (zPV b0 b2 b3 b4 _ hb) (.cons (zn h0) (.cons (fun _ _ _ _ h => h) (.cons (zn h2) (.cons (zn h3) (.cons (zn h4) .nil)))))⟩
 . cases h
def g18 (args : List AV) (hp : List Blk) : Option (Bool × AV × List Blk) :=
 match args, hp with
 | [a0, .ref 0 0, a2, a3], [.cells 112 [.own 1], .arr 44 (.i .u32) y0] => (z7 (.p .sDuctDucts) a0).bind fun b0 => (z7 (.i .i64) a2).bind fun b2 => (z7 (.i .i64) a3).bind fun b3 => some ((zp0 b0 b2 b3 y0), .tup [(ze ((zgT b0 b2 b3 y0).1)), .sl (.i .u32) ((zgT b0 b2 b3 y0).2.1), (avU ((zgT b0 b2 b3 y0).2.2.1)), (ze ((zgT b0 b2 b3 y0).2.2.2.1))], [.cells 112 [.own 1], .arr 44 (.i .u32) ((zgT b0 b2 b3 y0).2.2.2.2.words)])
 | _, _ => none
theorem zIZ : zD 18 g18 := fun args hp b r hp' h hb => by
 unfold g18 at h
 split at h
 . simp only [Option.bind_eq_some_iff] at h
   obtain ⟨b0, h0, b2, h2, b3, h3, h⟩ := h
   cases h; exact ⟨zC Tryz.func18 (by kernel_rfl) rfl, Okay.ats (zPX b0 b2 b3 _ hb) (.cons (zn h0) (.cons (fun _ _ _ _ h => h) (.cons (zn h2) (.cons (zn h3) .nil))))⟩
 . cases h
def g19 (args : List AV) (hp : List Blk) : Option (Bool × AV × List Blk) :=
 match args, hp with
 | [a0, .ref 0 0, a2, a3], [.cells 112 [.own 1], .arr 44 (.i .u32) y0] => (z7 (.p .sDuctDucts) a0).bind fun b0 => (z7 (.i .i64) a2).bind fun b2 => (z7 (.i .i64) a3).bind fun b3 => some ((zw5 b0 b2 b3 y0), .tup [(ze ((zt8 b0 b2 b3 y0).1)), (avU ((zt8 b0 b2 b3 y0).2.1)), (avU ((zt8 b0 b2 b3 y0).2.2.1)), (ze ((zt8 b0 b2 b3 y0).2.2.2.1))], [.cells 112 [.own 1], .arr 44 (.i .u32) ((zt8 b0 b2 b3 y0).2.2.2.2.words)])
 | _, _ => none
theorem zI9 : zD 19 g19 := fun args hp b r hp' h hb => by
 unfold g19 at h
 split at h
 . simp only [Option.bind_eq_some_iff] at h
   obtain ⟨b0, h0, b2, h2, b3, h3, h⟩ := h
   cases h; exact ⟨zC Tryz.func19 (by kernel_rfl) rfl, Okay.ats (zPY b0 b2 b3 _ hb) (.cons (zn h0) (.cons (fun _ _ _ _ h => h) (.cons (zn h2) (.cons (zn h3) .nil))))⟩
 . cases h
def g60 := zQ (zV (rdS .sConfig) fun a0 => zP ((zxc a0), .tup [(ze ((zze a0).1)), .agg [(ze ((zze a0).2.first)), (ze ((zze a0).2.second))]], []))
theorem zJC : zD 60 g60 := zj (zC Tryz.func60 (by kernel_rfl) rfl) (zg fun x0 a0 h0 => zi fun hb => (zQm a0 hb).ats (.cons (zM h0) .nil))
def g88 := zQ (zV (rdS .sConfig) fun a0 => zP ((zxg a0), .own 0, [.arr 197 .f (zqL a0)]))
theorem zJO : zD 88 g88 := zj (zC Tryz.func88 (by kernel_rfl) rfl) (zg fun x0 a0 h0 => zi fun hb => (zQy a0 hb).ats (.cons (zM h0) .nil))
noncomputable def GW6 : Gam := zmr [(11, g11), (16, g16), (18, g18), (19, g19), (60, g60), (88, g88)] GW5
theorem zzE : GOk Pr GL GW6 := zcG ⟨zIQ, zIU, zIZ, zI9, zJC, zJO, trivial⟩ zll
abbrev R58 := Int × Where
def zGH (r : R58) : zY := ⟨.tup [(ze r.1), .agg [(ze r.2.first), (ze r.2.second)]], []⟩
inductive L58 where | l0 (x0 : Int)
def zPE : L58 -> Nat | .l0 _ => 0
def H58 : z9 := htt [] [(0, ⟨fgt [3, 8, 9, 10] 25 0, []⟩)] []
noncomputable def st58 (c : Config) : L58 -> St | .l0 x0 => stt [(3, .ref 0 0), (8, .own 1), (9, (ze ((zqL c).length))), (10, (ze x0))] 25 [.cells 152 [(ze 0), (ze 0)], .arr 197 .f (zqL c)] 0
noncomputable def zhI {R : Type} (ret : R58 -> R) (c : Config) (j : L58 -> Option R) : L58 -> Option R | .l0 x0 =>let y2 := zfk (zqL c) x0.toNat; let y1 := ask y2;  cond (decide (x0 < (zqL c).length)) (cond (zU x0 (zqL c).length) ( cond (zIA y2) ( cond (!(((y1.e : Int) == fine.e) && ((((y1.where_.first : Int) == fine.where_.first) && (((y1.where_.second : Int) == fine.where_.second) && true)) && true))) (some (ret (y1.e, y1.where_))) (j (.l0 (i64.wrap (x0 + 1))))) none) none) (some (ret (0, (⟨0, 0⟩ : Where))))
noncomputable def zoy {R : Type} (ret : R58 -> R) (c : Config) (j : L58 -> Option R) : Option R := cond (zxg c) (j (.l0 0)) none
theorem ct58 (c : Config) (l : L58) : CT fun j => zhI id c j l := by cases l <;> (dsimp only [zhI]; repeat (first | exact ctJ _ | exact ctK _ | apply ctC))
def zui (c : Config) : L58 -> Option R58 := lfp (zhI id c)
theorem zuj (c : Config) (l : L58) : zui c l = zhI id c (zui c) l := zI (ct58 c) l
def zuq (c : Config) : Option R58 := zoy id c (zui c)
def zuc (c : Config) : R58 := (zuq c).getD default
def zp5 (c : Config) : Bool := (zuq c).isSome
theorem zQk (c : Config) (hc : zp5 c = true) : Okay Pr GL 58 [.agg (Ty.enc .sConfig c)] [] (zGH (zuc c)) := zH (H := H58) (bod := zhI id c) (ent := zoy id c) (bodA := zhI zGH c) (entA := zoy zGH c) zzE zy Tryz.func58 rfl (by kernel_rfl) zGH zPE (st58 c) (fun J l => by cases l <;> kernel_rfl) (fun J => by kernel_rfl) (fun s l => by cases l <;> simp only [zhI, zb, zt, zu, id]) (fun s => by simp only [zoy, zb, zt, zu, id]) (ct58 c) (by dsimp only [zoy]; repeat (first | exact ctJ _ | exact ctK _ | apply ctC)) hc
abbrev R28 := (Option Bulkheadref21Ducts) × Int
def zMJ (r : R28) : zY := ⟨.tup [.op .sBulkheadref21Ducts r.1, (ze r.2)], []⟩
def H28 : z9 := ⟨fun _ => false, fun _ => ⟨[], []⟩, [(.slot 0, .op .sBulkheadref21Ducts)], G0, zfX⟩
noncomputable def zte {R : Type} (ret : R28 -> R) (c : Config) : Option R := cond (zxc c) ( cond (!(((zze c).1 : Int) == 0)) (some (ret (none, 210))) (cond (zp6 c) ( some (ret ((some (⟨(⟨c.frames, c.major, c.kernel, c.room, c.cores, c.partitions, c.channels⟩ : Config), (⟨(zhu c).1.barrier, (zhu c).1.partitions, (zhu c).1.channels, (zhu c).1.end_⟩ : Layout)⟩ : Bulkheadref21Ducts)), 0))) none)) none
def zwJ (c : Config) : Option R28 := zte id c
def zcy (c : Config) : R28 := (zwJ c).getD default
def zkQ (c : Config) : Bool := (zwJ c).isSome
theorem zP5 (c : Config) (hc : zkQ c = true) : Okay Pr GL 28 [.agg (Ty.enc .sConfig c)] [] (zMJ (zcy c)) := zw (H := H28) (ent := zte id c) (entA := zte zMJ c) zzE zy Tryz.func28 rfl (by kernel_rfl) zMJ (fun J => by kernel_rfl) (by simp only [zte, zb, zt, zu, id]) hc
def g28 := zQ (zV (rdS .sConfig) fun a0 => zP ((zkQ a0), .tup [.op .sBulkheadref21Ducts ((zcy a0).1), (ze ((zcy a0).2))], []))
theorem zJl : zD 28 g28 := zj (zC Tryz.func28 (by kernel_rfl) rfl) (zg fun x0 a0 h0 => zi fun hb => (zP5 a0 hb).ats (.cons (zM h0) .nil))
def g58 := zQ (zV (rdS .sConfig) fun a0 => zP ((zp5 a0), .tup [(ze ((zuc a0).1)), .agg [(ze ((zuc a0).2.first)), (ze ((zuc a0).2.second))]], []))
theorem zJA : zD 58 g58 := zj (zC Tryz.func58 (by kernel_rfl) rfl) (zg fun x0 a0 h0 => zi fun hb => (zQk a0 hb).ats (.cons (zM h0) .nil))
noncomputable def GW7 : Gam := zmr [(28, g28), (58, g58)] GW6
theorem zzF : GOk Pr GL GW7 := zcG ⟨zJl, zJA, trivial⟩ zzE
abbrev R27 := DuctDucts × Int
def zGA (r : R27) : zY := ⟨.tup [.ref 0 0, (ze r.2)], [.cells 103 [(ze r.1.c.frames), (ze r.1.c.major), (ze r.1.c.kernel), (ze r.1.c.room), .own 1, .own 2, .own 3, (ze r.1.lay.barrier), .own 4, .own 5, (ze r.1.lay.end_)], .row 86 (.sl .sWindow) [(0, 150)] [] r.1.c.cores, .row 55 .sPartition [(6, 136), (7, 57)] [] r.1.c.partitions, .arr 108 .sChannel r.1.c.channels, .row 203 .sPartitionPlace [(4, 3)] [] r.1.lay.partitions, .row 163 .sChannelPlace [(4, 165)] [] r.1.lay.channels]⟩
inductive L27 where | l0 (x0 : Int) (x1 : List Partition)
def zPx : L27 -> Nat | .l0 _ _ => 0
def H27 : z9 := ⟨fun n => [].any (Nat.beq n), zqx [(0, ⟨fgt [6, 8, 35, 36, 37] 55 0, [(.box 8 5, .own 55 .sPartition)]⟩)], [(.slot 0, .fnc), (.box 0 4, .own 86 (.sl .sWindow))], G0, (fun e => match e with | 55 => [(6, 136), (7, 57)] | 86 => [(0, 150)] | 163 => [(4, 165)] | 203 => [(4, 3)] | _ => [])⟩
noncomputable def st27 (c : Config) : L27 -> St | .l0 x0 x1 => ⟨mkE [(6, .ref 0 0), (8, .ref 3 0), (35, .sl .sPartition c.partitions), (36, (ze c.partitions.length)), (37, (ze x0))] 55 0, [.cells 101 [(ze ((zcZ c).1.barrier)), .own 1, .own 2, (ze ((zcZ c).1.end_))], .row 203 .sPartitionPlace [(4, 3)] [] ((zcZ c).1.partitions), .row 163 .sChannelPlace [(4, 165)] [] ((zcZ c).1.channels), .cells 26 [(ze c.frames), (ze 0), (ze 0), (ze 0), .v (.slice none 0 0), .own 4, .own 5], .row 55 .sPartition [(6, 136), (7, 57)] [] x1, .arr 108 .sChannel (([] : List Channel) ++ c.channels)], GL, 0, [], (fun e => match e with | 55 => [(6, 136), (7, 57)] | 86 => [(0, 150)] | 163 => [(4, 165)] | 203 => [(4, 3)] | _ => [])⟩
noncomputable def zhH {R : Type} (ret : R27 -> R) (c : Config) (j : L27 -> Option R) : L27 -> Option R | .l0 x0 x1 =>let y2 := za c.partitions x0.toNat; let y1 := (⟨(ByteArray.mk #[]), 0, 0, 0, 0, 0, [], (([] : List Port) ++ y2.ports)⟩ : Partition); let y3 := (x1 : List Partition);  cond (decide (x0 < c.partitions.length)) (cond (zU x0 c.partitions.length) ( cond (leB ((([] : List Port).length + (y2.ports : List Port).length) * 16) 140737488355328) ( cond (leB ((y3.length + ([y1] : List Partition).length) * 104) 140737488355328) ( j (.l0 (i64.wrap (x0 + 1)) (y3 ++ [y1]))) none) none) none) (some (ret ((⟨(⟨c.frames, 0, 0, 0, [], x1, (([] : List Channel) ++ c.channels)⟩ : Config), (⟨(zcZ c).1.barrier, (zcZ c).1.partitions, (zcZ c).1.channels, (zcZ c).1.end_⟩ : Layout)⟩ : DuctDucts), 0)))
noncomputable def zmn {R : Type} (ret : R27 -> R) (c : Config) (j : L27 -> Option R) : Option R := cond (zp5 c) ( cond (!(((zuc c).1 : Int) == 0)) (none) (cond (znO c) ( cond (!(((zcZ c).2 : Int) == 0)) (none) (cond (leB ((([] : List Channel).length + (c.channels : List Channel).length) * 24) 140737488355328) (j (.l0 0 [])) none)) none)) none
theorem ct27 (c : Config) (l : L27) : CT fun j => zhH id c j l := by cases l <;> (dsimp only [zhH]; repeat (first | exact ctJ _ | exact ctK _ | apply ctC))
def zug (c : Config) : L27 -> Option R27 := lfp (zhH id c)
theorem zuh (c : Config) (l : L27) : zug c l = zhH id c (zug c) l := zI (ct27 c) l
def zpS (c : Config) : Option R27 := zmn id c (zug c)
def zff (c : Config) : R27 := (zpS c).getD default
def znN (c : Config) : Bool := (zpS c).isSome
theorem zP4 (c : Config) (hc : znN c = true) : Okay Pr GL 27 [.agg (Ty.enc .sConfig c)] [] (zGA (zff c)) := zH (H := H27) (bod := zhH id c) (ent := zmn id c) (bodA := zhH zGA c) (entA := zmn zGA c) zzF zy Tryz.func27 rfl (by kernel_rfl) zGA zPx (st27 c) (fun J l => by cases l <;> kernel_rfl) (fun J => by kernel_rfl) (fun s l => by cases l <;> simp only [zhH, zb, zt, zu, id]) (fun s => by simp only [zmn, zb, zt, zu, id]) (ct27 c) (by dsimp only [zmn]; repeat (first | exact ctJ _ | exact ctK _ | apply ctC)) hc
abbrev zgn := (Option DuctDucts) × Int
def ziz (r : zgn) : zY := ⟨.tup [.v (.pointer none), (ze r.2)], []⟩
inductive zeK where | l0 (x0 : Int) (x1 : List Partition)
def zyW : zeK -> Nat | .l0 _ _ => 0
def zCY : z9 := ⟨fun n => [].any (Nat.beq n), zqx [(0, ⟨fgt [6, 8, 35, 36, 37] 55 0, [(.box 8 5, .own 55 .sPartition)]⟩)], [(.slot 0, .nilp)], G0, (fun e => match e with | 55 => [(6, 136), (7, 57)] | 86 => [(0, 150)] | 163 => [(4, 165)] | 203 => [(4, 3)] | _ => [])⟩
noncomputable def zBR (c : Config) : zeK -> St | .l0 x0 x1 => ⟨mkE [(6, .ref 0 0), (8, .ref 3 0), (35, .sl .sPartition c.partitions), (36, (ze c.partitions.length)), (37, (ze x0))] 55 0, [.cells 101 [(ze ((zcZ c).1.barrier)), .own 1, .own 2, (ze ((zcZ c).1.end_))], .row 203 .sPartitionPlace [(4, 3)] [] ((zcZ c).1.partitions), .row 163 .sChannelPlace [(4, 165)] [] ((zcZ c).1.channels), .cells 26 [(ze c.frames), (ze 0), (ze 0), (ze 0), .v (.slice none 0 0), .own 4, .own 5], .row 55 .sPartition [(6, 136), (7, 57)] [] x1, .arr 108 .sChannel (([] : List Channel) ++ c.channels)], GL, 0, [], (fun e => match e with | 55 => [(6, 136), (7, 57)] | 86 => [(0, 150)] | 163 => [(4, 165)] | 203 => [(4, 3)] | _ => [])⟩
noncomputable def zdi {R : Type} (ret : zgn -> R) (c : Config) (j : zeK -> Option R) : zeK -> Option R | .l0 x0 x1 =>let y2 := za c.partitions x0.toNat; let y1 := (⟨(ByteArray.mk #[]), 0, 0, 0, 0, 0, [], (([] : List Port) ++ y2.ports)⟩ : Partition); let y3 := (x1 : List Partition);  cond (decide (x0 < c.partitions.length)) ( cond (zU x0 c.partitions.length) ( cond (leB ((([] : List Port).length + (y2.ports : List Port).length) * 16) 140737488355328) ( cond (leB ((y3.length + ([y1] : List Partition).length) * 104) 140737488355328) ( j (.l0 (i64.wrap (x0 + 1)) (y3 ++ [y1]))) none) none) none) none
noncomputable def zdk {R : Type} (ret : zgn -> R) (c : Config) (j : zeK -> Option R) : Option R := cond (zp5 c) ( cond (!(((zuc c).1 : Int) == 0)) (some (ret (none, 210))) (cond (znO c) ( cond (!(((zcZ c).2 : Int) == 0)) (some (ret (none, 210))) (cond (leB ((([] : List Channel).length + (c.channels : List Channel).length) * 24) 140737488355328) (j (.l0 0 [])) none)) none)) none
theorem zAe (c : Config) (l : zeK) : CT fun j => zdi id c j l := by cases l <;> (dsimp only [zdi]; repeat (first | exact ctJ _ | exact ctK _ | apply ctC))
def zzk (c : Config) : zeK -> Option zgn := lfp (zdi id c)
def zgN (c : Config) : Option zgn := zdk id c (zzk c)
def zf4 (c : Config) : zgn := (zgN c).getD default
def zeF (c : Config) : Bool := (zgN c).isSome
theorem zy0 (c : Config) (hc : zeF c = true) : Okay Pr GL 27 [.agg (Ty.enc .sConfig c)] [] (ziz (zf4 c)) := zH (H := zCY) (bod := zdi id c) (ent := zdk id c) (bodA := zdi ziz c) (entA := zdk ziz c) zzF zy Tryz.func27 rfl (by kernel_rfl) ziz zyW (zBR c) (fun J l => by cases l <;> kernel_rfl) (fun J => by kernel_rfl) (fun s l => by cases l <;> simp only [zdi, zb, zt, zu, id]) (fun s => by simp only [zdk, zb, zt, zu, id]) (zAe c) (by dsimp only [zdk]; repeat (first | exact ctJ _ | exact ctK _ | apply ctC)) hc
def g27 := zQ (zV (rdS .sConfig) fun a0 => zP ((znN a0), .tup [.ref 0 0, (ze ((zff a0).2))], [.cells 103 [(ze ((zff a0).1.c.frames)), (ze ((zff a0).1.c.major)), (ze ((zff a0).1.c.kernel)), (ze ((zff a0).1.c.room)), .own 1, .own 2, .own 3, (ze ((zff a0).1.lay.barrier)), .own 4, .own 5, (ze ((zff a0).1.lay.end_))], .row 86 (.sl .sWindow) [(0, 150)] [] ((zff a0).1.c.cores), .row 55 .sPartition [(6, 136), (7, 57)] [] ((zff a0).1.c.partitions), .arr 108 .sChannel ((zff a0).1.c.channels), .row 203 .sPartitionPlace [(4, 3)] [] ((zff a0).1.lay.partitions), .row 163 .sChannelPlace [(4, 165)] [] ((zff a0).1.lay.channels)]))
theorem zJk : zD 27 g27 := zj (zC Tryz.func27 (by kernel_rfl) rfl) (zg fun x0 a0 h0 => zi fun hb => (zP4 a0 hb).ats (.cons (zM h0) .nil))
def zv6 := zQ (zV (rdS .sConfig) fun a0 => zP ((zeF a0), .tup [.v (.pointer none), (ze ((zf4 a0).2))], []))
theorem zu9 : zD 27 zv6 := zj (zC Tryz.func27 (by kernel_rfl) rfl) (zg fun x0 a0 h0 => zi fun hb => (zy0 a0 hb).ats (.cons (zM h0) .nil))
noncomputable def GW8_ : Gam := zmr [(27, g27)] GW7
theorem zIk : GOk Pr GL GW8_ := zcG ⟨zJk, trivial⟩ zzF
noncomputable def GW8 : Gam := zFv [(27, zv6)] GW8_
theorem zzG : GOk Pr GL GW8 := zqu ⟨zu9, trivial⟩ zIk
end Go.Proofs.YtganhedldgbfpaaGreatDoor
end
