import Derived.Test.YtgfifnadfmaolaaGreatDoorP4
set_option linter.unusedVariables false
set_option linter.unusedSimpArgs false
noncomputable section
open Go.IntKind (i64 u32)
namespace Go.Proofs.YtgfifnadfmaolaaGreatDoor
open Go.RowKit
abbrev R73 := Int
def zIg (r : R73) : zT := ⟨(zf r), []⟩
inductive L73 where | l0 (x0 : Int) (x1 : Bool) (x2 : Bool) (x3 : Bool) (x4 : Bool) (x5 : Bool) (x6 : Bool) (x7 : Bool) (x8 : Bool) (x9 : Bool) (x10 : Bool) (x11 : Bool) (x12 : Bool) (x13 : Bool) (x14 : Bool) (x15 : Bool) (x16 : Bool) | l4 (x17 : Int) (x18 : Int) (x0 : Int) (x1 : Bool) (x2 : Bool) (x3 : Bool) (x4 : Bool) (x5 : Bool) (x6 : Bool) (x7 : Bool) (x8 : Bool) (x9 : Bool) (x10 : Bool) (x11 : Bool) (x12 : Bool) (x13 : Bool) (x14 : Bool) (x15 : Bool) (x16 : Bool) (x19 : Int) (x20 : Int) (x21 : Int) (x22 : Int) | l8 (x0 : Int) (x2 : Bool) (x3 : Bool) (x4 : Bool) (x5 : Bool) (x6 : Bool) (x7 : Bool) (x8 : Bool) (x9 : Bool) (x10 : Bool) (x11 : Bool) (x12 : Bool) (x13 : Bool) (x14 : Bool) (x15 : Bool) (x16 : Bool) (x17 : Bool) (x1 : Int) | l35 (x0 : Int) (x2 : Bool) (x3 : Bool) (x4 : Bool) (x5 : Bool) (x6 : Bool) (x7 : Bool) (x8 : Bool) (x9 : Bool) (x10 : Bool) (x11 : Bool) (x12 : Bool) (x13 : Bool) (x14 : Bool) (x15 : Bool) (x16 : Bool) (x17 : Bool) (x1 : Int)
def zS7 : L73 -> Nat | .l0 _ _ _ _ _ _ _ _ _ _ _ _ _ _ _ _ _ => 0 | .l4 _ _ _ _ _ _ _ _ _ _ _ _ _ _ _ _ _ _ _ _ _ _ _ => 4 | .l8 _ _ _ _ _ _ _ _ _ _ _ _ _ _ _ _ _ _ => 8 | .l35 _ _ _ _ _ _ _ _ _ _ _ _ _ _ _ _ _ _ => 35
def H73 : zS := htt [17] [(0, ⟨z7 [3, 11, 12, 13] 39 0, []⟩), (4, ⟨z7 [3, 5, 11, 12, 13, 18, 19] 39 0, []⟩), (8, ⟨z7 [7, 30, 31] 39 0, []⟩), (35, ⟨z7 [7, 30, 31] 39 0, []⟩)] []
noncomputable def st73 (x : Partition) : L73 -> St | .l0 x0 x1 x2 x3 x4 x5 x6 x7 x8 x9 x10 x11 x12 x13 x14 x15 x16 => stt [(3, .ref 0 0), (11, .sl .sRegion x.regions), (12, (zf x.regions.length)), (13, (zf x0))] 39 [.cells 209 [(zX x1), (zX x2), (zX x3), (zX x4), (zX x5), (zX x6), (zX x7), (zX x8), (zX x9), (zX x10), (zX x11), (zX x12), (zX x13), (zX x14), (zX x15), (zX x16)]] 0 | .l4 x17 x18 x0 x1 x2 x3 x4 x5 x6 x7 x8 x9 x10 x11 x12 x13 x14 x15 x16 x19 x20 x21 x22 => stt [(3, .ref 0 0), (5, .ref 1 0), (11, .sl .sRegion x.regions), (12, (zf x.regions.length)), (13, (zf x17)), (18, (zf x18)), (19, (zf x0))] 39 [.cells 209 [(zX x1), (zX x2), (zX x3), (zX x4), (zX x5), (zX x6), (zX x7), (zX x8), (zX x9), (zX x10), (zX x11), (zX x12), (zX x13), (zX x14), (zX x15), (zX x16)], .cells 118 [(zf x19), (zf x20), (zf x21), (zf x22)]] 0 | .l8 x0 x2 x3 x4 x5 x6 x7 x8 x9 x10 x11 x12 x13 x14 x15 x16 x17 x1 => stt [(7, (zf x0)), (30, .agg [(zX x2), (zX x3), (zX x4), (zX x5), (zX x6), (zX x7), (zX x8), (zX x9), (zX x10), (zX x11), (zX x12), (zX x13), (zX x14), (zX x15), (zX x16), (zX x17)]), (31, (zf x1))] 39 [] 0 | .l35 x0 x2 x3 x4 x5 x6 x7 x8 x9 x10 x11 x12 x13 x14 x15 x16 x17 x1 => stt [(7, (zf x0)), (30, .agg [(zX x2), (zX x3), (zX x4), (zX x5), (zX x6), (zX x7), (zX x8), (zX x9), (zX x10), (zX x11), (zX x12), (zX x13), (zX x14), (zX x15), (zX x16), (zX x17)]), (31, (zf x1))] 39 [] 0
noncomputable def zdP {R : Type} (ret : R73 -> R) (x : Partition) (j : L73 -> Option R) : L73 -> Option R | .l0 x0 x1 x2 x3 x4 x5 x6 x7 x8 x9 x10 x11 x12 x13 x14 x15 x16 =>let y1 := zh x.regions x0.toNat;  cond (decide (x0 < x.regions.length)) (cond (zN x0 x.regions.length) ( j (.l4 x0 (y1.pages) 0 x1 x2 x3 x4 x5 x6 x7 x8 x9 x10 x11 x12 x13 x14 x15 x16 (y1.page) (y1.pages) (y1.frame) (y1.rights))) none) (j (.l8 0 x1 x2 x3 x4 x5 x6 x7 x8 x9 x10 x11 x12 x13 x14 x15 x16 0)) | .l4 x17 x18 x0 x1 x2 x3 x4 x5 x6 x7 x8 x9 x10 x11 x12 x13 x14 x15 x16 x19 x20 x21 x22 =>let y2 := bop .quo .i64 (i64.wrap (x19 + x0)) 16; let y1 := (List.set ([x1, x2, x3, x4, x5, x6, x7, x8, x9, x10, x11, x12, x13, x14, x15, x16] : List Bool) (y2.toNat) true);  cond (decide (x0 < x18)) (cond (zN y2 16) ( j (.l4 x17 x18 (i64.wrap (x0 + 1)) (za6 y1 0) (za6 y1 1) (za6 y1 2) (za6 y1 3) (za6 y1 4) (za6 y1 5) (za6 y1 6) (za6 y1 7) (za6 y1 8) (za6 y1 9) (za6 y1 10) (za6 y1 11) (za6 y1 12) (za6 y1 13) (za6 y1 14) (za6 y1 15) x19 x20 x21 x22)) none) (j (.l0 (i64.wrap (x17 + 1)) x1 x2 x3 x4 x5 x6 x7 x8 x9 x10 x11 x12 x13 x14 x15 x16)) | .l8 x0 x2 x3 x4 x5 x6 x7 x8 x9 x10 x11 x12 x13 x14 x15 x16 x17 x1 => cond (decide (x1 < 16)) (cond (zN x1 16) ( cond (za6 ([x2, x3, x4, x5, x6, x7, x8, x9, x10, x11, x12, x13, x14, x15, x16, x17] : List Bool) x1.toNat) (j (.l35 (i64.wrap (x0 + 1)) x2 x3 x4 x5 x6 x7 x8 x9 x10 x11 x12 x13 x14 x15 x16 x17 x1)) (j (.l35 x0 x2 x3 x4 x5 x6 x7 x8 x9 x10 x11 x12 x13 x14 x15 x16 x17 x1))) none) (some (ret x0)) | .l35 x0 x2 x3 x4 x5 x6 x7 x8 x9 x10 x11 x12 x13 x14 x15 x16 x17 x1 => j (.l8 x0 x2 x3 x4 x5 x6 x7 x8 x9 x10 x11 x12 x13 x14 x15 x16 x17 (i64.wrap (x1 + 1)))
noncomputable def zsS {R : Type} (ret : R73 -> R) (x : Partition) (j : L73 -> Option R) : Option R := j (.l0 0 false false false false false false false false false false false false false false false false)
theorem ct73 (x : Partition) (l : L73) : CT fun j => zdP id x j l := by cases l <;> (dsimp only [zdP]; repeat (first | exact ctJ _ | exact ctK _ | apply ctC))
def zkA (x : Partition) : L73 -> Option R73 := lfp (zdP id x)
theorem zdG (x : Partition) (l : L73) : zkA x l = zdP id x (zkA x) l := zL (ct73 x) l
def zCx (x : Partition) : Option R73 := zsS id x (zkA x)
def zHc (x : Partition) : R73 := (zCx x).getD default
def zx0 (x : Partition) : Bool := (zCx x).isSome
theorem zUh (x : Partition) (hc : zx0 x = true) : Okay Pr GL 73 [.agg (Ty.enc .sPartition x)] [] (zIg (zHc x)) := zG (H := H73) (bod := zdP id x) (ent := zsS id x) (bodA := zdP zIg x) (entA := zsS zIg x) zDP zA Tryz.func73 rfl (by kernel_rfl) zIg zS7 (st73 x) (fun J l => by cases l <;> kernel_rfl) (fun J => by kernel_rfl) (fun s l => by cases l <;> simp only [zdP, zc, zt, zu, id]) (fun s => by simp only [zsS, zc, zt, zu, id]) (ct73 x) (by dsimp only [zsS]; repeat (first | exact ctJ _ | exact ctK _ | apply ctC)) hc
abbrev R69 := Int
def zPe (r : R69) : zT := ⟨.fn (.func 115) [] [.ref 0 0], [.cells 3 [(zf r)]]⟩
noncomputable def zsQ {R : Type} (ret : R69 -> R) (at_0 : Int) : Option R := some (ret at_0)
def zul (at_0 : Int) : Option R69 := zsQ id at_0
def zkN (at_0 : Int) : R69 := (zul at_0).getD default
theorem zOD (at_0 : Int) : zul at_0 = some (zkN at_0) := zC (show (zul at_0).isSome = true by simp only [zul, zsQ, zF, Option.isSome_some, zO])
theorem zUd (at_0 : Int) : Okay Pr GL 69 [(zf at_0)] [] (zPe (zkN at_0)) := zy (H := H57) (ent := zsQ id at_0) (entA := zsQ zPe at_0) zDP zA Tryz.func69 rfl (by kernel_rfl) zPe (fun J => by kernel_rfl) (by simp only [zsQ, zc, zt, zu, id]) (show (zul at_0).isSome = true by rw [zOD]; rfl)
abbrev R50 := Int
def zO4 (r : R50) : zT := ⟨(zf r), []⟩
noncomputable def zoq {R : Type} (ret : R50 -> R) (m : (Option MemMemory)) : Option R := cond m.isNone (some (ret 0)) (cond m.isSome (some (ret (bop .quo .i64 (((m.getD default).words).length) 16))) none)
def zpy (m : (Option MemMemory)) : Option R50 := zoq id m
def zvp (m : (Option MemMemory)) : R50 := (zpy m).getD default
def zgg (m : (Option MemMemory)) : Bool := (zpy m).isSome
theorem zTV (m : (Option MemMemory)) (hc : zgg m = true) : Okay Pr GL 50 [.op .sMemMemory m] [] (zO4 (zvp m)) := zy (H := H57) (ent := zoq id m) (entA := zoq zO4 m) zDP zA Tryz.func50 rfl (by kernel_rfl) zO4 (fun J => by kernel_rfl) (by simp only [zoq, zc, zt, zu, id]) hc
def g73 := zJ (zH (rdS .sPartition) fun a0 => zI ((zx0 a0), (zf (zHc a0)), []))
theorem zL3 : zD 73 g73 := zk (zB Tryz.func73 (by kernel_rfl) rfl) (zg fun x0 a0 h0 => zj fun hb => (zUh a0 hb).ats (.cons (zP h0) .nil))
def g69 := zJ (zH (zZ (.i .i64)) fun a0 => zI (true, .fn (.func 115) [] [.ref 0 0], [.cells 3 [(zf (zkN a0))]]))
theorem zLZ : zD 69 g69 := zk (zB Tryz.func69 (by kernel_rfl) rfl) (zg fun x0 a0 h0 => zj fun hb => (zUd a0).ats (.cons (zp h0) .nil))
def g50 := zJ (zH (zZ (.p .sMemMemory)) fun a0 => zI ((zgg a0), (zf (zvp a0)), []))
theorem zLH : zD 50 g50 := zk (zB Tryz.func50 (by kernel_rfl) rfl) (zg fun x0 a0 h0 => zj fun hb => (zTV a0 hb).ats (.cons (zp h0) .nil))
noncomputable def ztK (x : Clo) : Int := match x with
 | .c145 c0 => zwD c0
 | .c146 c0 => zwE c0
 | _ => default
noncomputable def zvj (x : Clo) : Bool := match x with
 | .c145 c0 => true
 | .c146 c0 => true
 | _ => false
noncomputable def zu6 (x : Clo) (args : List AV) (hp : List Blk) : Option (Bool × AV × List Blk) :=
 match hp, args with
 | [], [] => some (zvj x, (zf (ztK x)), [])
 | _, _ => none
theorem zzM {x : Clo} {args : List AV} {hp : List Blk} {b : Bool} {r : AV} {hp' : List Blk} (h : zu6 x args hp = some (b, r, hp')) (hb : b = true) : OkC Pr GL (.c x) args hp ⟨r, hp'⟩ := by
 unfold zu6 at h
 split at h
 . cases h
   cases x with
   | none => cases hb
   | c130 c0 => cases hb
   | c133 c0 => cases hb
   | c134 c0 => cases hb
   | c135 c0 => cases hb
   | c136 c0 => cases hb
   | c137 c0 c1 => cases hb
   | c139 c0 c1 => cases hb
   | c141 c0 c1 => cases hb
   | c143 c0 => cases hb
   | c145 c0 => exact ⟨145, _, by kernel_rfl, zB Tryz.func145 (by kernel_rfl) rfl, zBU c0⟩
   | c146 c0 => exact ⟨146, _, by kernel_rfl, zB Tryz.func146 (by kernel_rfl) rfl, zBV c0⟩
 . cases h
noncomputable def zjo (x : Clo) (args : List AV) (hp : List Blk) : Option (Bool × AV × List Blk) :=
 match args with
 | [] => zu6 x [] hp
 | _ => none
theorem zp9 {x : Clo} {args : List AV} {hp : List Blk} {b : Bool} {r : AV} {hp' : List Blk} (h : zjo x args hp = some (b, r, hp')) (hb : b = true) : OkC Pr GL (.c x) args hp ⟨r, hp'⟩ := by
 unfold zjo at h
 split at h
 . exact zzM h hb
 . cases h
noncomputable def GF : Gam := zMu [(73, g73), (69, g69), (50, g50)] zjo GE
theorem zDQ : GOk Pr GL GF := zwe ⟨zL3, zLZ, zLH, trivial⟩ zp9 zDP
abbrev R36 := Layout × Int
def zHW (r : R36) : zT := ⟨.tup [.agg [(zf r.1.barrier), .sl .sPartitionPlace r.1.partitions, .sl .sChannelPlace r.1.channels, (zf r.1.end_)], (zf r.2)], []⟩
inductive L36 where | l0 (x0 : Int) (x1 : Int) (x2 : List PartitionPlace) | l4 (x2 : Int) (x0 : Int) (x1 : List PartitionPlace) (x3 : List ChannelPlace) | l8 (x6 : Int) (x7 : Int) (x4 : Int) (x0 : Int) (x1 : List PartitionPlace) (x8 : List ChannelPlace) (x9 : Int) (x10 : Int) (x11 : Int) (x2 : Int) (x3 : Int) (x12 : Int) (x13 : Int) (x5 : List DestPlace) (x14 : List LayoutEnd) | l12 (x2 : Int) (x0 : List PartitionPlace) (x3 : List ChannelPlace) (x1 : Int) | l16 (x3 : Int) (x4 : Int) (x5 : Int) (x2 : Int) (x0 : List PartitionPlace) (x6 : List ChannelPlace) (x1 : Int)
def zSN : L36 -> Nat | .l0 _ _ _ => 0 | .l4 _ _ _ _ => 4 | .l8 _ _ _ _ _ _ _ _ _ _ _ _ _ _ _ => 8 | .l12 _ _ _ _ => 12 | .l16 _ _ _ _ _ _ _ => 16
def H36 : zS := ⟨fun n => [].any (Nat.beq n), zGf [(0, ⟨z7 [1, 2, 4, 5, 29, 30] 148 0, [(.box 5 1, .own 89 .sPartitionPlace)]⟩), (4, ⟨z7 [1, 2, 4, 5, 46, 47, 48] 148 0, [(.box 5 2, .own 94 .sChannelPlace)]⟩), (8, ⟨z7 [1, 2, 4, 5, 7, 10, 46, 47, 48, 74, 75, 76] 148 0, [(.box 10 4, .own 99 .sDestPlace), (.box 5 2, .own 94 .sChannelPlace)]⟩), (12, ⟨z7 [2, 5, 13, 109, 110, 111] 148 0, [(.box 5 2, .own 94 .sChannelPlace)]⟩), (16, ⟨z7 [2, 5, 13, 14, 109, 110, 111, 124, 125] 148 0, []⟩)], [(.cell 0 1, .sl .sPartitionPlace), (.cell 0 2, .sl .sChannelPlace)], G0, (fun e => match e with | 89 => [(4, 3)] | _ => [])⟩
noncomputable def st36 (c : Config) : L36 -> St | .l0 x0 x1 x2 => ⟨mkE [(1, .ref 0 0), (2, .ref 1 0), (4, .fn (.func 115) [] [.ref 2 0]), (5, .ref 3 0), (29, (zf c.partitions.length)), (30, (zf x0))] 148 0, [.cells 26 (Ty.enc .sConfig c), .cells 82 [(zf 0), .v (.slice none 0 0), .v (.slice none 0 0), (zf 0)], .cells 3 [(zf x1)], .cells 82 [(zf ((zbh 2 (zkN (i64.wrap (c.kernel * 16)))).1)), .own 4, .v (.slice none 0 0), (zf 0)], .row 89 .sPartitionPlace [(4, 3)] none x2], GL, 0, [], (fun e => match e with | 89 => [(4, 3)] | _ => [])⟩ | .l4 x2 x0 x1 x3 => ⟨mkE [(1, .ref 0 0), (2, .ref 1 0), (4, .fn (.func 115) [] [.ref 2 0]), (5, .ref 3 0), (46, .sl .sChannel c.channels), (47, (zf c.channels.length)), (48, (zf x2))] 148 0, [.cells 26 (Ty.enc .sConfig c), .cells 82 [(zf 0), .v (.slice none 0 0), .v (.slice none 0 0), (zf 0)], .cells 3 [(zf x0)], .cells 82 [(zf ((zbh 2 (zkN (i64.wrap (c.kernel * 16)))).1)), .own 4, .own 5, (zf 0)], .row 89 .sPartitionPlace [(4, 3)] none x1, .arr 94 .sChannelPlace x3], GL, 0, [], (fun e => match e with | 89 => [(4, 3)] | _ => [])⟩ | .l8 x6 x7 x4 x0 x1 x8 x9 x10 x11 x2 x3 x12 x13 x5 x14 => ⟨mkE [(1, .ref 0 0), (2, .ref 1 0), (4, .fn (.func 115) [] [.ref 2 0]), (5, .ref 3 0), (7, .ref 6 0), (10, .ref 7 0), (46, .sl .sChannel c.channels), (47, (zf c.channels.length)), (48, (zf x6)), (74, .own 9), (75, (zf x7)), (76, (zf x4))] 148 0, [.cells 26 (Ty.enc .sConfig c), .cells 82 [(zf 0), .v (.slice none 0 0), .v (.slice none 0 0), (zf 0)], .cells 3 [(zf x0)], .cells 82 [(zf ((zbh 2 (zkN (i64.wrap (c.kernel * 16)))).1)), .own 4, .own 5, (zf 0)], .row 89 .sPartitionPlace [(4, 3)] none x1, .arr 94 .sChannelPlace x8, .cells 97 [(zf x9), (zf x10), (zf x11)], .cells 94 [(zf x2), (zf x3), (zf x12), (zf x13), .own 8], .arr 99 .sDestPlace x5, .arr 157 .sLayoutEnd x14], GL, 0, [], (fun e => match e with | 89 => [(4, 3)] | _ => [])⟩ | .l12 x2 x0 x3 x1 => ⟨mkE [(2, .ref 0 0), (5, .ref 1 0), (13, .fn (.func 115) [] [.ref 4 0]), (109, .sl .sPartition c.partitions), (110, (zf c.partitions.length)), (111, (zf x2))] 148 0, [.cells 82 [(zf 0), .v (.slice none 0 0), .v (.slice none 0 0), (zf 0)], .cells 82 [(zf ((zbh 2 (zkN (i64.wrap (c.kernel * 16)))).1)), .own 2, .own 3, (zf 0)], .row 89 .sPartitionPlace [(4, 3)] none x0, .arr 94 .sChannelPlace x3, .cells 3 [(zf x1)]], GL, 0, [], (fun e => match e with | 89 => [(4, 3)] | _ => [])⟩ | .l16 x3 x4 x5 x2 x0 x6 x1 => ⟨mkE [(2, .ref 0 0), (5, .ref 1 0), (13, .fn (.func 115) [] [.ref 4 0]), (14, (zf x3)), (109, .sl .sPartition c.partitions), (110, (zf c.partitions.length)), (111, (zf x4)), (124, (zf x5)), (125, (zf x2))] 148 0, [.cells 82 [(zf 0), .v (.slice none 0 0), .v (.slice none 0 0), (zf 0)], .cells 82 [(zf ((zbh 2 (zkN (i64.wrap (c.kernel * 16)))).1)), .own 2, .own 3, (zf 0)], .row 89 .sPartitionPlace [(4, 3)] none x0, .arr 94 .sChannelPlace x6, .cells 3 [(zf x1)]], GL, 0, [], (fun e => match e with | 89 => [(4, 3)] | _ => [])⟩
noncomputable def zcL {R : Type} (ret : R36 -> R) (c : Config) (j : L36 -> Option R) : L36 -> Option R | .l0 x0 x1 x2 =>let y2 := zbh 17 ((zbh 2 x1).2); let y1 := (⟨(zbh 2 x1).1, y2.1, (zbh 5 (y2.2)).1, 0, []⟩ : PartitionPlace); let y3 := (x2 : List PartitionPlace);  cond (decide (x0 < c.partitions.length)) (cond (leB ((y3.length + ([y1] : List PartitionPlace).length) * 56) 140737488355328) ( j (.l0 (i64.wrap (x0 + 1)) ((zbh 5 (y2.2)).2) (y3 ++ [y1]))) none) (j (.l4 0 x1 x2 [])) | .l4 x2 x0 x1 x3 =>let y1 := zn c.channels x2.toNat; let y2 := ztT c x2; let y3 := zbh (zmF y1) ((zbh 2 x0).2); let y4 := zbf (y2.1) 0; let y5 := zN 0 (y2.1).length;  cond (decide (x2 < c.channels.length)) (cond (zN x2 c.channels.length) ( cond (zpI c x2) ( cond y5 ( cond y5 ( j (.l8 x2 ((y2.2).length) 0 (y3.2) x1 x3 (y1.kind) (y1.words) (y1.depth) ((zbh 2 x0).1) (y3.1) (y4.partition) (y4.port) [] (y2.2))) none) none) none) none) (j (.l12 0 x1 x3 (zkN (bop .quo .i64 (i64.wrap ((i64.wrap ((zbh 0 x0).1 + 16)) - 1)) 16)))) | .l8 x6 x7 x4 x0 x1 x8 x9 x10 x11 x2 x3 x12 x13 x5 x14 =>let y2 := (zbh (zvv (⟨x9, x10, x11⟩ : Channel)) x0); let y3 := (⟨x2, x3, x12, x13, x5⟩ : ChannelPlace); let y4 := zbf x14 x4.toNat; let y1 := (⟨y4.partition, y4.port, y2.1⟩ : DestPlace); let y5 := (x8 : List ChannelPlace); let y6 := (x5 : List DestPlace);  cond (decide (x4 < x7)) (cond (zN x4 x14.length) ( cond (leB ((y6.length + ([y1] : List DestPlace).length) * 24) 140737488355328) ( j (.l8 x6 x7 (i64.wrap (x4 + 1)) (y2.2) x1 x8 x9 x10 x11 x2 x3 x12 x13 (y6 ++ [y1]) x14)) none) none) (cond (leB ((y5.length + ([y3] : List ChannelPlace).length) * 56) 140737488355328) (j (.l4 (i64.wrap (x6 + 1)) x0 x1 (y5 ++ [y3]))) none) | .l12 x2 x0 x3 x1 =>let y1 := zb x0 x2.toNat; let y2 := za c.partitions x2.toNat;  cond (decide (x2 < c.partitions.length)) (cond (zN x2 c.partitions.length) ( cond (zN x2 x0.length) ( cond (zx0 y2) ( j (.l16 x2 x2 (zHc y2) 0 (List.set x0 x2.toNat (⟨y1.lock, y1.save, y1.state, (zbh 1 x1).1, y1.tables⟩ : PartitionPlace)) x3 ((zbh 1 x1).2))) none) none) none) (some (ret ((⟨(zbh 2 (zkN (i64.wrap (c.kernel * 16)))).1, x0, x3, (zbh 0 x1).1⟩ : Layout), 0))) | .l16 x3 x4 x5 x2 x0 x6 x1 =>let y1 := zb x0 x3.toNat; let y2 := (y1.tables : List Int); let y3 := zbh 1 x1;  cond (decide (x2 < x5)) (cond (zN x3 x0.length) ( cond (leB ((y2.length + ([y3.1] : List Int).length) * 8) 140737488355328) ( cond (zN x3 x0.length) ( cond (Nat.beq x3.toNat x3.toNat) ( j (.l16 x3 x4 x5 (i64.wrap (x2 + 1)) (List.set x0 x3.toNat (⟨y1.lock, y1.save, y1.state, y1.root, (y2 ++ [y3.1])⟩ : PartitionPlace)) x6 (y3.2))) none) none) none) none) (j (.l12 (i64.wrap (x4 + 1)) x0 x6 x1))
noncomputable def zog {R : Type} (ret : R36 -> R) (c : Config) (j : L36 -> Option R) : Option R := cond (zxZ c) ( cond (!(zHb c)) (some (ret ((⟨0, [], [], 0⟩ : Layout), 150))) (j (.l0 0 ((zbh 2 (zkN (i64.wrap (c.kernel * 16)))).2) []))) none
theorem ct36 (c : Config) (l : L36) : CT fun j => zcL id c j l := by cases l <;> (dsimp only [zcL]; repeat (first | exact ctJ _ | exact ctK _ | apply ctC))
def zb4 (c : Config) : L36 -> Option R36 := lfp (zcL id c)
theorem zbN (c : Config) (l : L36) : zb4 c l = zcL id c (zb4 c) l := zL (ct36 c) l
def zw4 (c : Config) : Option R36 := zog id c (zb4 c)
def zdB (c : Config) : R36 := (zw4 c).getD default
def znm (c : Config) : Bool := (zw4 c).isSome
theorem zTH (c : Config) (hc : znm c = true) : Okay Pr GL 36 [.agg (Ty.enc .sConfig c)] [] (zHW (zdB c)) := zG (H := H36) (bod := zcL id c) (ent := zog id c) (bodA := zcL zHW c) (entA := zog zHW c) zDQ zA Tryz.func36 rfl (by kernel_rfl) zHW zSN (st36 c) (fun J l => by cases l <;> kernel_rfl) (fun J => by kernel_rfl) (fun s l => by cases l <;> simp only [zcL, zc, zt, zu, id]) (fun s => by simp only [zog, zc, zt, zu, id]) (ct36 c) (by dsimp only [zog]; repeat (first | exact ctJ _ | exact ctK _ | apply ctC)) hc
abbrev R30 := Layout × Int
def zHT (r : R30) : zT := ⟨.tup [.agg [(zf r.1.barrier), .sl .sPartitionPlace r.1.partitions, .sl .sChannelPlace r.1.channels, (zf r.1.end_)], (zf r.2)], []⟩
inductive L30 where | l0 (x0 : Int) (x1 : List ChannelPlace) | l4 (x0 : Int) (x1 : Int) (x2 : Int) (x3 : Int) (x4 : List PartitionPlace) (x5 : List ChannelPlace) | l81 (x2 : Int) (x4 : Int) (x5 : Int) (x0 : Int) (x1 : List PartitionPlace) (x3 : List ChannelPlace)
def zSK : L30 -> Nat | .l0 _ _ => 0 | .l4 _ _ _ _ _ _ => 4 | .l81 _ _ _ _ _ _ => 81
def H30 : zS := ⟨fun n => [40].any (Nat.beq n), zGf [(0, ⟨z7 [1, 2, 4, 29, 30] 190 0, []⟩), (4, ⟨z7 [2, 4, 8, 9, 10, 58, 59] 190 0, []⟩), (81, ⟨z7 [2, 4, 8, 9, 10, 58, 59] 190 0, []⟩)], [(.cell 0 1, .sl .sPartitionPlace), (.cell 0 2, .sl .sChannelPlace)], G0, (fun e => match e with | 89 => [(4, 3)] | 94 => [(4, 99)] | _ => [])⟩
noncomputable def st30 (c : Config) : L30 -> St | .l0 x0 x1 => ⟨mkE [(1, .ref 0 0), (2, .ref 1 0), (4, .ref 2 0), (29, (zf c.channels.length)), (30, (zf x0))] 190 0, [.cells 26 (Ty.enc .sConfig c), .cells 82 [(zf 0), .v (.slice none 0 0), .v (.slice none 0 0), (zf 0)], .cells 82 [(zf 0), .own 3, .own 4, (zf 0)], .row 89 .sPartitionPlace [(4, 3)] none (List.replicate (c.partitions.length : Int).toNat (⟨0, 0, 0, 0, []⟩ : PartitionPlace)), .row 94 .sChannelPlace [(4, 99)] none x1], GL, 0, [], (fun e => match e with | 89 => [(4, 3)] | 94 => [(4, 99)] | _ => [])⟩ | .l4 x0 x1 x2 x3 x4 x5 => ⟨mkE [(2, .ref 0 0), (4, .ref 1 0), (8, (zf x0)), (9, .own 4), (10, (zf x1)), (58, (zf ((zer c).length))), (59, (zf x2))] 190 0, [.cells 82 [(zf 0), .v (.slice none 0 0), .v (.slice none 0 0), (zf 0)], .cells 82 [(zf x3), .own 2, .own 3, (zf 0)], .row 89 .sPartitionPlace [(4, 3)] none x4, .row 94 .sChannelPlace [(4, 99)] none x5, .arr 116 .sBulkheadref15Piece (zer c)], GL, 0, [], (fun e => match e with | 89 => [(4, 3)] | 94 => [(4, 99)] | _ => [])⟩ | .l81 x2 x4 x5 x0 x1 x3 => ⟨mkE [(2, .ref 0 0), (4, .ref 1 0), (8, (zf x2)), (9, .own 4), (10, (zf x4)), (58, (zf ((zer c).length))), (59, (zf x5))] 190 0, [.cells 82 [(zf 0), .v (.slice none 0 0), .v (.slice none 0 0), (zf 0)], .cells 82 [(zf x0), .own 2, .own 3, (zf 0)], .row 89 .sPartitionPlace [(4, 3)] none x1, .row 94 .sChannelPlace [(4, 99)] none x3, .arr 116 .sBulkheadref15Piece (zer c)], GL, 0, [], (fun e => match e with | 89 => [(4, 3)] | 94 => [(4, 99)] | _ => [])⟩
noncomputable def zbC {R : Type} (ret : R30 -> R) (c : Config) (j : L30 -> Option R) : L30 -> Option R | .l0 x0 x1 =>let y3 := ze x1 x0.toNat; let y1 := (List.set x1 x0.toNat (⟨y3.lock, y3.stage, (zmD c x0).1, y3.port, y3.dests⟩ : ChannelPlace)); let y2 := ze y1 x0.toNat;  cond (decide (x0 < c.channels.length)) (cond (zpH c x0) ( cond (zN x0 x1.length) ( cond (zN x0 y1.length) ( j (.l0 (i64.wrap (x0 + 1)) (List.set y1 x0.toNat (⟨y2.lock, y2.stage, y2.partition, (zmD c x0).2, y2.dests⟩ : ChannelPlace)))) none) none) none) (cond (zno c) ( j (.l4 0 (i64.wrap (16 * c.kernel)) 0 0 (List.replicate (c.partitions.length : Int).toNat (⟨0, 0, 0, 0, []⟩ : PartitionPlace)) x1)) none) | .l4 x0 x1 x2 x3 x4 x5 =>let y1 := za0 (zer c) x2.toNat; let y3 := y1.owner.index; let y4 := i64.wrap (y1.at_ + y1.size); let y6 := (y1.owner.kind : Int); let y7 := ze x5 x0.toNat; let y8 := zN y3 x4.length; let y9 := y3.toNat; let y2 := zb x4 y9; let y5 := ze x5 y9; let y10 := (⟨y1.owner.index, y1.owner.port, y1.at_⟩ : DestPlace); let y11 := bop .quo .i64 (y1.at_) 16; let y12 := (y7.dests : List DestPlace); let y13 := (y2.tables : List Int);  cond (decide (x2 < (zer c).length)) (cond (zN x2 (zer c).length) ( cond (y6 == 2) (j (.l81 x0 y4 x2 (y1.at_) x4 x5)) (cond (y6 == 3) (cond y8 ( j (.l81 x0 y4 x2 x3 (List.set x4 y9 (⟨y1.at_, y2.save, y2.state, y2.root, y2.tables⟩ : PartitionPlace)) x5)) none) (cond (y6 == 4) (cond y8 ( j (.l81 x0 y4 x2 x3 (List.set x4 y9 (⟨y2.lock, y1.at_, y2.state, y2.root, y2.tables⟩ : PartitionPlace)) x5)) none) (cond (y6 == 5) (cond y8 ( j (.l81 x0 y4 x2 x3 (List.set x4 y9 (⟨y2.lock, y2.save, y1.at_, y2.root, y2.tables⟩ : PartitionPlace)) x5)) none) (cond (y6 == 6) (cond (zN y3 x5.length) ( j (.l81 y3 y4 x2 x3 x4 (List.set x5 y9 (⟨y1.at_, y5.stage, y5.partition, y5.port, y5.dests⟩ : ChannelPlace)))) none) (cond (y6 == 7) (cond (zN y3 x5.length) ( j (.l81 x0 y4 x2 x3 x4 (List.set x5 y9 (⟨y5.lock, y1.at_, y5.partition, y5.port, y5.dests⟩ : ChannelPlace)))) none) (cond (y6 == 8) (cond (zN x0 x5.length) ( cond (leB ((y12.length + ([y10] : List DestPlace).length) * 24) 140737488355328) ( cond (zN x0 x5.length) ( cond (Nat.beq x0.toNat x0.toNat) ( j (.l81 x0 y4 x2 x3 x4 (List.set x5 x0.toNat (⟨y7.lock, y7.stage, y7.partition, y7.port, (y12 ++ [y10])⟩ : ChannelPlace)))) none) none) none) none) (cond (y6 == 9) (cond y8 ( cond ((y2.root : Int) == 0) (cond y8 ( j (.l81 x0 y4 x2 x3 (List.set x4 y9 (⟨y2.lock, y2.save, y2.state, y11, y2.tables⟩ : PartitionPlace)) x5)) none) (cond y8 ( cond (leB ((y13.length + ([y11] : List Int).length) * 8) 140737488355328) ( cond y8 ( cond (Nat.beq y9 y9) ( j (.l81 x0 y4 x2 x3 (List.set x4 y9 (⟨y2.lock, y2.save, y2.state, y2.root, (y13 ++ [y11])⟩ : PartitionPlace)) x5)) none) none) none) none)) none) (j (.l81 x0 y4 x2 x3 x4 x5)))))))))) none) (some (ret ((⟨x3, x4, x5, (bop .quo .i64 (i64.wrap ((i64.wrap (x1 + 16)) - 1)) 16)⟩ : Layout), 0))) | .l81 x2 x4 x5 x0 x1 x3 => j (.l4 x2 x4 (i64.wrap (x5 + 1)) x0 x1 x3)
noncomputable def zkf {R : Type} (ret : R30 -> R) (c : Config) (j : L30 -> Option R) : Option R := cond (znn c) ( cond (!(zvo c)) (some (ret ((⟨0, [], [], 0⟩ : Layout), 150))) (cond (decide ((c.partitions.length : Int) = c.partitions.length) && decide (0 <= c.partitions.length) && leB ((c.partitions.length : Int).toNat * 56) 140737488355328) ( cond (decide ((c.channels.length : Int) = c.channels.length) && decide (0 <= c.channels.length) && leB ((c.channels.length : Int).toNat * 56) 140737488355328) (j (.l0 0 (List.replicate (c.channels.length : Int).toNat (⟨0, 0, 0, 0, []⟩ : ChannelPlace)))) none) none)) none
theorem ct30 (c : Config) (l : L30) : CT fun j => zbC id c j l := by cases l <;> (dsimp only [zbC]; repeat (first | exact ctJ _ | exact ctK _ | apply ctC))
def zbL (c : Config) : L30 -> Option R30 := lfp (zbC id c)
theorem zaT (c : Config) (l : L30) : zbL c l = zbC id c (zbL c) l := zL (ct30 c) l
def zkC (c : Config) : Option R30 := zkf id c (zbL c)
def zal (c : Config) : R30 := (zkC c).getD default
def zkF (c : Config) : Bool := (zkC c).isSome
theorem zTB (c : Config) (hc : zkF c = true) : Okay Pr GL 30 [.agg (Ty.enc .sConfig c)] [] (zHT (zal c)) := zG (H := H30) (bod := zbC id c) (ent := zkf id c) (bodA := zbC zHT c) (entA := zkf zHT c) zDQ zA Tryz.func30 rfl (by kernel_rfl) zHT zSK (st30 c) (fun J l => by cases l <;> kernel_rfl) (fun J => by kernel_rfl) (fun s l => by cases l <;> simp only [zbC, zc, zt, zu, id]) (fun s => by simp only [zkf, zc, zt, zu, id]) (ct30 c) (by dsimp only [zkf]; repeat (first | exact ctJ _ | exact ctK _ | apply ctC)) hc
abbrev R95 := Int
def zIn (r : R95) : zT := ⟨(zf r), []⟩
inductive L95 where | l0 (x0 : Int)
def zTe : L95 -> Nat | .l0 _ => 0
def H95 : zS := htt [] [(0, ⟨z7 [0, 1, 7, 8] 19 0, []⟩)] []
noncomputable def st95 (ms : (List (Option MemMemory))) : L95 -> St | .l0 x0 => stt [(0, .sl (.p .sMemMemory) ms), (1, .v (.pointer none)), (7, (zf ms.length)), (8, (zf x0))] 19 [] 0
noncomputable def zk9 {R : Type} (ret : R95 -> R) (ms : (List (Option MemMemory))) (j : L95 -> Option R) : L95 -> Option R | .l0 x0 => cond (decide (x0 < ms.length)) (cond (zN x0 ms.length) (cond ((zhA ms x0.toNat).isNone) (some (ret x0)) (j (.l0 (i64.wrap (x0 + 1))))) none) (some (ret (-1)))
noncomputable def zta {R : Type} (ret : R95 -> R) (ms : (List (Option MemMemory))) (j : L95 -> Option R) : Option R := j (.l0 0)
theorem ct95 (ms : (List (Option MemMemory))) (l : L95) : CT fun j => zk9 id ms j l := by cases l <;> (dsimp only [zk9]; repeat (first | exact ctJ _ | exact ctK _ | apply ctC))
def zpt (ms : (List (Option MemMemory))) : L95 -> Option R95 := lfp (zk9 id ms)
theorem zmQ (ms : (List (Option MemMemory))) (l : L95) : zpt ms l = zk9 id ms (zpt ms) l := zL (ct95 ms) l
def zxA (ms : (List (Option MemMemory))) : Option R95 := zta id ms (zpt ms)
def zCs (ms : (List (Option MemMemory))) : R95 := (zxA ms).getD default
def zuu (ms : (List (Option MemMemory))) : Bool := (zxA ms).isSome
theorem zUD (ms : (List (Option MemMemory))) (hc : zuu ms = true) : Okay Pr GL 95 [.sl (.p .sMemMemory) ms, .v (.pointer none)] [] (zIn (zCs ms)) := zG (H := H95) (bod := zk9 id ms) (ent := zta id ms) (bodA := zk9 zIn ms) (entA := zta zIn ms) zDQ zA Tryz.func95 rfl (by kernel_rfl) zIn zTe (st95 ms) (fun J l => by cases l <;> kernel_rfl) (fun J => by kernel_rfl) (fun s l => by cases l <;> simp only [zk9, zc, zt, zu, id]) (fun s => by simp only [zta, zc, zt, zu, id]) (ct95 ms) (by dsimp only [zta]; repeat (first | exact ctJ _ | exact ctK _ | apply ctC)) hc
def g36 := zJ (zH (rdS .sConfig) fun a0 => zI ((znm a0), .tup [.agg [(zf ((zdB a0).1.barrier)), .sl .sPartitionPlace ((zdB a0).1.partitions), .sl .sChannelPlace ((zdB a0).1.channels), (zf ((zdB a0).1.end_))], (zf ((zdB a0).2))], []))
theorem zLt : zD 36 g36 := zk (zB Tryz.func36 (by kernel_rfl) rfl) (zg fun x0 a0 h0 => zj fun hb => (zTH a0 hb).ats (.cons (zP h0) .nil))
def g30 := zJ (zH (rdS .sConfig) fun a0 => zI ((zkF a0), .tup [.agg [(zf ((zal a0).1.barrier)), .sl .sPartitionPlace ((zal a0).1.partitions), .sl .sChannelPlace ((zal a0).1.channels), (zf ((zal a0).1.end_))], (zf ((zal a0).2))], []))
theorem zLn : zD 30 g30 := zk (zB Tryz.func30 (by kernel_rfl) rfl) (zg fun x0 a0 h0 => zj fun hb => (zTB a0 hb).ats (.cons (zP h0) .nil))
def g95 (args : List AV) (hp : List Blk) : Option (Bool × AV × List Blk) :=
 match args, hp with
 | [.sl (.p .sMemMemory) y0, .v (.pointer none)], [] => some ((zuu y0), (zf (zCs y0)), [])
 | _, _ => none
theorem zMp : zD 95 g95 := fun args hp b r hp' h hb => by
 unfold g95 at h
 split at h
 . cases h; exact ⟨zB Tryz.func95 (by kernel_rfl) rfl, zUD _ hb⟩
 . cases h
noncomputable def GG : Gam := zd2 [(36, g36), (30, g30), (95, g95)] GF
theorem zAq : GOk Pr GL GG := zaH ⟨zLt, zLn, zMp, trivial⟩ zDQ
abbrev zEz := Int × Int
def zDD (r : zEz) : zT := ⟨.tup [(zf r.1), (zf r.2)], []⟩
noncomputable def zlW {R : Type} (ret : zEz -> R) (c : Config) : Option R := cond (znm c) ( cond (!(((zdB c).2 : Int) == 0)) (some (ret (0, (zdB c).2))) (some (ret ((i64.wrap ((zdB c).1.end_ - c.kernel)), 0)))) none
def zq3 (c : Config) : Option zEz := zlW id c
def zpd (c : Config) : zEz := (zq3 c).getD default
def zru (c : Config) : Bool := (zq3 c).isSome
theorem zOb (c : Config) (hc : zru c = true) : Okay Pr GL 168 [.agg (Ty.enc .sConfig c)] [] (zDD (zpd c)) := zy (H := H57) (ent := zlW id c) (entA := zlW zDD c) zAq zA Tryz.func168 rfl (by kernel_rfl) zDD (fun J => by kernel_rfl) (by simp only [zlW, zc, zt, zu, id]) hc
abbrev zDV := Int × Int
def zCZ (r : zDV) : zT := ⟨.tup [(zf r.1), (zf r.2)], []⟩
noncomputable def zlp {R : Type} (ret : zDV -> R) (c : Config) : Option R := cond (zkF c) ( cond (!(((zal c).2 : Int) == 0)) (some (ret (0, (zal c).2))) (some (ret ((i64.wrap ((zal c).1.end_ - c.kernel)), 0)))) none
def zqy (c : Config) : Option zDV := zlp id c
def zoZ (c : Config) : zDV := (zqy c).getD default
def zrb (c : Config) : Bool := (zqy c).isSome
theorem zNn (c : Config) (hc : zrb c = true) : Okay Pr GL 106 [.agg (Ty.enc .sConfig c)] [] (zCZ (zoZ c)) := zy (H := H57) (ent := zlp id c) (entA := zlp zCZ c) zAq zA Tryz.func106 rfl (by kernel_rfl) zCZ (fun J => by kernel_rfl) (by simp only [zlp, zc, zt, zu, id]) hc
abbrev R53 := (List LayoutPiece)
def zH7 (r : R53) : zT := ⟨.own 0, [.arr 127 .sLayoutPiece r]⟩
inductive L53 where | l0 (x0 : Int) (x1 : List LayoutPiece) | l4 (x2 : Int) (x3 : Int) (x4 : List Int) (x5 : Int) (x0 : Int) (x1 : List LayoutPiece) | l8 (x0 : Int) (x1 : List LayoutPiece) | l12 (x2 : Int) (x3 : Int) (x4 : List DestPlace) (x5 : Int) (x0 : Int) (x1 : List LayoutPiece)
def zSY : L53 -> Nat | .l0 _ _ => 0 | .l4 _ _ _ _ _ _ => 4 | .l8 _ _ => 8 | .l12 _ _ _ _ _ _ => 12
def H53 : zS := htt [] [(0, ⟨z7 [2, 3, 5, 6, 23, 24, 25] 115 0, []⟩), (4, ⟨z7 [2, 3, 5, 6, 7, 23, 24, 25, 52, 53, 54] 115 0, []⟩), (8, ⟨z7 [5, 6, 11, 68, 69, 70] 115 0, []⟩), (12, ⟨z7 [5, 6, 11, 12, 68, 69, 70, 92, 93, 94] 115 0, []⟩)] []
noncomputable def st53 (c : Config) (l_1 : Layout) : L53 -> St | .l0 x0 x1 => stt [(2, .ref 0 0), (3, .ref 1 0), (5, .ref 2 0), (6, .fn (.func 97) [] [.ref 2 0]), (23, .sl .sPartitionPlace l_1.partitions), (24, (zf l_1.partitions.length)), (25, (zf x0))] 115 [.cells 26 (Ty.enc .sConfig c), .cells 82 (Ty.enc .sLayout l_1), .cells 124 [.own 3], .arr 127 .sLayoutPiece x1] 0 | .l4 x2 x3 x4 x5 x0 x1 => stt [(2, .ref 0 0), (3, .ref 1 0), (5, .ref 2 0), (6, .fn (.func 97) [] [.ref 2 0]), (7, (zf x2)), (23, .sl .sPartitionPlace l_1.partitions), (24, (zf l_1.partitions.length)), (25, (zf x3)), (52, .sl (.i .i64) x4), (53, (zf x5)), (54, (zf x0))] 115 [.cells 26 (Ty.enc .sConfig c), .cells 82 (Ty.enc .sLayout l_1), .cells 124 [.own 3], .arr 127 .sLayoutPiece x1] 0 | .l8 x0 x1 => stt [(5, .ref 0 0), (6, .fn (.func 97) [] [.ref 0 0]), (11, .own 2), (68, .sl .sChannelPlace l_1.channels), (69, (zf l_1.channels.length)), (70, (zf x0))] 115 [.cells 124 [.own 1], .arr 127 .sLayoutPiece x1, .arr 189 .sLayoutAsked (ztY c)] 0 | .l12 x2 x3 x4 x5 x0 x1 => stt [(5, .ref 0 0), (6, .fn (.func 97) [] [.ref 0 0]), (11, .own 2), (12, (zf x2)), (68, .sl .sChannelPlace l_1.channels), (69, (zf l_1.channels.length)), (70, (zf x3)), (92, .sl .sDestPlace x4), (93, (zf x5)), (94, (zf x0))] 115 [.cells 124 [.own 1], .arr 127 .sLayoutPiece x1, .arr 189 .sLayoutAsked (ztY c)] 0
noncomputable def zn3 {R : Type} (ret : R53 -> R) (c : Config) (l_1 : Layout) (j : L53 -> Option R) : L53 -> Option R | .l0 x0 x1 =>let y1 := zb l_1.partitions x0.toNat; let y3 := i64.wrap (y1.root * 16); let y5 := znP (y1.lock) 2 3 x0 0 x1; let y2 := znP (y1.save) 17 4 x0 0 y5; let y4 := znP (y1.state) 5 5 x0 0 y2;  cond (decide (x0 < l_1.partitions.length)) (cond (zN x0 l_1.partitions.length) ( cond (zgV (y1.lock) 2 3 x0 0 x1) ( cond (zgV (y1.save) 17 4 x0 0 y5) ( cond (zgV (y1.state) 5 5 x0 0 y2) ( cond (zgV y3 16 9 x0 0 y4) ( j (.l4 x0 x0 (y1.tables) ((y1.tables).length) 0 (znP y3 16 9 x0 0 y4))) none) none) none) none) none) (cond (zCJ c) (j (.l8 0 x1)) none) | .l4 x2 x3 x4 x5 x0 x1 =>let y1 := i64.wrap (zx x4 x0.toNat * 16);  cond (decide (x0 < x5)) (cond (zN x0 x4.length) ( cond (zgV y1 16 9 x2 0 x1) (j (.l4 x2 x3 x4 x5 (i64.wrap (x0 + 1)) (znP y1 16 9 x2 0 x1))) none) none) (j (.l0 (i64.wrap (x3 + 1)) x1)) | .l8 x0 x1 =>let y1 := ze l_1.channels x0.toNat; let y2 := (zgP (ztY c) x0.toNat).stage; let y3 := znP (y1.lock) 2 6 x0 0 x1;  cond (decide (x0 < l_1.channels.length)) (cond (zN x0 l_1.channels.length) ( cond (zgV (y1.lock) 2 6 x0 0 x1) ( cond (zN x0 (ztY c).length) ( cond (zvj y2) ( cond (zgV (y1.stage) (ztK y2) 7 x0 0 y3) ( j (.l12 x0 x0 (y1.dests) ((y1.dests).length) 0 (znP (y1.stage) (ztK y2) 7 x0 0 y3))) none) none) none) none) none) (some (ret x1)) | .l12 x2 x3 x4 x5 x0 x1 =>let y1 := zbe x4 x0.toNat; let y2 := (zgP (ztY c) x2.toNat).port;  cond (decide (x0 < x5)) (cond (zN x0 x4.length) ( cond (zN x2 (ztY c).length) ( cond (zvj y2) ( cond (zgV (y1.at_) (ztK y2) 8 (y1.partition) (y1.port) x1) ( j (.l12 x2 x3 x4 x5 (i64.wrap (x0 + 1)) (znP (y1.at_) (ztK y2) 8 (y1.partition) (y1.port) x1))) none) none) none) none) (j (.l8 (i64.wrap (x3 + 1)) x1))
noncomputable def zsF {R : Type} (ret : R53 -> R) (c : Config) (l_1 : Layout) (j : L53 -> Option R) : Option R := j (.l0 0 [(⟨l_1.barrier, 2, (⟨2, 0, 0⟩ : Owner)⟩ : LayoutPiece)])
theorem ct53 (c : Config) (l_1 : Layout) (l : L53) : CT fun j => zn3 id c l_1 j l := by cases l <;> (dsimp only [zn3]; repeat (first | exact ctJ _ | exact ctK _ | apply ctC))
def zU1 (c : Config) (l_1 : Layout) : L53 -> Option R53 := lfp (zn3 id c l_1)
def zJ3 (c : Config) (l_1 : Layout) : Option R53 := zsF id c l_1 (zU1 c l_1)
def zCl (c : Config) (l_1 : Layout) : R53 := (zJ3 c l_1).getD default
def zCG (c : Config) (l_1 : Layout) : Bool := (zJ3 c l_1).isSome
theorem zTX (c : Config) (l_1 : Layout) (hc : zCG c l_1 = true) : Okay Pr GL 53 [.agg (Ty.enc .sConfig c), .agg (Ty.enc .sLayout l_1)] [] (zH7 (zCl c l_1)) := zG (H := H53) (bod := zn3 id c l_1) (ent := zsF id c l_1) (bodA := zn3 zH7 c l_1) (entA := zsF zH7 c l_1) zAq zA Tryz.func53 rfl (by kernel_rfl) zH7 zSY (st53 c l_1) (fun J l => by cases l <;> kernel_rfl) (fun J => by kernel_rfl) (fun s l => by cases l <;> simp only [zn3, zc, zt, zu, id]) (fun s => by simp only [zsF, zc, zt, zu, id]) (ct53 c l_1) (by dsimp only [zsF]; repeat (first | exact ctJ _ | exact ctK _ | apply ctC)) hc
abbrev R48 := Bool
def zO3 (r : R48) : zT := ⟨(zX r), []⟩
noncomputable def zoo {R : Type} (ret : R48 -> R) (ms : (List (Option MemMemory))) : Option R := cond (zuu ms) (some (ret (decide (((zCs ms) : Int) >= 0)))) none
def zpx (ms : (List (Option MemMemory))) : Option R48 := zoo id ms
def zCk (ms : (List (Option MemMemory))) : R48 := (zpx ms).getD default
def zup (ms : (List (Option MemMemory))) : Bool := (zpx ms).isSome
theorem zTT (ms : (List (Option MemMemory))) (hc : zup ms = true) : Okay Pr GL 48 [.sl (.p .sMemMemory) ms, .v (.pointer none)] [] (zO3 (zCk ms)) := zy (H := H57) (ent := zoo id ms) (entA := zoo zO3 ms) zAq zA Tryz.func48 rfl (by kernel_rfl) zO3 (fun J => by kernel_rfl) (by simp only [zoo, zc, zt, zu, id]) hc
def g168 := zJ (zH (rdS .sConfig) fun a0 => zI ((zru a0), .tup [(zf ((zpd a0).1)), (zf ((zpd a0).2))], []))
theorem zF6 : zD 168 g168 := zk (zB Tryz.func168 (by kernel_rfl) rfl) (zg fun x0 a0 h0 => zj fun hb => (zOb a0 hb).ats (.cons (zP h0) .nil))
def g106 := zJ (zH (rdS .sConfig) fun a0 => zI ((zrb a0), .tup [(zf ((zoZ a0).1)), (zf ((zoZ a0).2))], []))
theorem zE6 : zD 106 g106 := zk (zB Tryz.func106 (by kernel_rfl) rfl) (zg fun x0 a0 h0 => zj fun hb => (zNn a0 hb).ats (.cons (zP h0) .nil))
def g53 := zJ (zH (rdS .sConfig) fun a0 => zH (rdS .sLayout) fun a1 => zI ((zCG a0 a1), .own 0, [.arr 127 .sLayoutPiece (zCl a0 a1)]))
theorem zLJ : zD 53 g53 := zk (zB Tryz.func53 (by kernel_rfl) rfl) (zg fun x0 a0 h0 => zg fun x1 a1 h1 => zj fun hb => (zTX a0 a1 hb).ats (.cons (zP h0) (.cons (zP h1) .nil)))
def g48 (args : List AV) (hp : List Blk) : Option (Bool × AV × List Blk) :=
 match args, hp with
 | [.sl (.p .sMemMemory) y0, .v (.pointer none)], [] => some ((zup y0), (zX (zCk y0)), [])
 | _, _ => none
theorem zLF : zD 48 g48 := fun args hp b r hp' h hb => by
 unfold g48 at h
 split at h
 . cases h; exact ⟨zB Tryz.func48 (by kernel_rfl) rfl, zTT _ hb⟩
 . cases h
noncomputable def GH : Gam := zd2 [(168, g168), (106, g106), (53, g53), (48, g48)] GG
theorem zDR : GOk Pr GL GH := zaH ⟨zF6, zE6, zLJ, zLF, trivial⟩ zAq
abbrev R62 := Bool
def zIc (r : R62) : zT := ⟨(zX r), []⟩
inductive L62 where | l0 (x0 : Int) | l4 (x1 : Int) (x0 : Int)
def zS3 : L62 -> Nat | .l0 _ => 0 | .l4 _ _ => 4
def H62 : zS := htt [] [(0, ⟨z7 [1, 3, 70, 71, 72, 73] 75 0, []⟩), (4, ⟨z7 [1, 3, 4, 70, 71, 72, 73] 75 0, []⟩)] []
noncomputable def st62 (c : Config) : L62 -> St | .l0 x0 => stt [(1, .ref 0 0), (3, (zf x0))] 75 [.cells 26 (Ty.enc .sConfig c)] 0 | .l4 x1 x0 => stt [(1, .ref 0 0), (3, (zf x1)), (4, (zf x0))] 75 [.cells 26 (Ty.enc .sConfig c)] 0
noncomputable def zfC {R : Type} (ret : R62 -> R) (c : Config) (j : L62 -> Option R) : L62 -> Option R | .l0 x0 => cond (decide (x0 < c.partitions.length)) (j (.l4 x0 0)) (cond (zrb c) (cond (((zoZ c).2 : Int) == 0) (some (ret (decide (((zoZ c).1 : Int) <= c.room)))) (some (ret false))) none) | .l4 x1 x0 =>let y1 := (za c.partitions x1.toNat).regions; let y2 := zN x1 c.partitions.length; let y3 := zh y1 x0.toNat;  cond y2 ( cond (decide (x0 < y1.length)) (cond y2 ( cond (zN x0 y1.length) ( cond (zmy (y3.frame) (y3.pages) c.kernel c.room) (some (ret false)) (j (.l4 x1 (i64.wrap (x0 + 1))))) none) none) (j (.l0 (i64.wrap (x1 + 1))))) none
noncomputable def zou {R : Type} (ret : R62 -> R) (c : Config) (j : L62 -> Option R) : Option R := cond (!(zaZ c.kernel 0 (i64.wrap (c.frames - 1)))) (some (ret false)) (cond (!(zaZ c.room 1 (i64.wrap (c.frames - c.kernel)))) (some (ret false)) (j (.l0 0)))
theorem ct62 (c : Config) (l : L62) : CT fun j => zfC id c j l := by cases l <;> (dsimp only [zfC]; repeat (first | exact ctJ _ | exact ctK _ | apply ctC))
def zps (c : Config) : L62 -> Option R62 := lfp (zfC id c)
theorem zip (c : Config) (l : L62) : zps c l = zfC id c (zps c) l := zL (ct62 c) l
def zuk (c : Config) : Option R62 := zou id c (zps c)
def zHa (c : Config) : R62 := (zuk c).getD default
def zxU (c : Config) : Bool := (zuk c).isSome
theorem zT6 (c : Config) (hc : zxU c = true) : Okay Pr GL 62 [.agg (Ty.enc .sConfig c)] [] (zIc (zHa c)) := zG (H := H62) (bod := zfC id c) (ent := zou id c) (bodA := zfC zIc c) (entA := zou zIc c) zDR zA Tryz.func62 rfl (by kernel_rfl) zIc zS3 (st62 c) (fun J l => by cases l <;> kernel_rfl) (fun J => by kernel_rfl) (fun s l => by cases l <;> simp only [zfC, zc, zt, zu, id]) (fun s => by simp only [zou, zc, zt, zu, id]) (ct62 c) (by dsimp only [zou]; repeat (first | exact ctJ _ | exact ctK _ | apply ctC)) hc
abbrev R27 := Owner × Int
def zHR (r : R27) : zT := ⟨.tup [.agg [(zf r.1.kind), (zf r.1.index), (zf r.1.port)], (zf r.2)], []⟩
inductive L27 where | l0 (x0 : Int)
def zSI : L27 -> Nat | .l0 _ => 0
def H27 : zS := htt [] [(0, ⟨z7 [1, 2, 4, 35, 36, 37] 68 0, []⟩)] []
noncomputable def st27 (c : Config) (at_1 : Int) : L27 -> St | .l0 x0 => stt [(1, (zf at_1)), (2, .ref 0 0), (4, .ref 1 0), (35, .own 2), (36, (zf ((zCl c ((zdB c).1)).length))), (37, (zf x0))] 68 [.cells 26 (Ty.enc .sConfig c), .cells 42 [(zf 0), (zf 0), (zf 0)], .arr 127 .sLayoutPiece (zCl c ((zdB c).1))] 0
noncomputable def zn0 {R : Type} (ret : R27 -> R) (c : Config) (at_1 : Int) (j : L27 -> Option R) : L27 -> Option R | .l0 x0 =>let y2 := bop .quo .i64 at_1 16; let y3 := zCl c ((zdB c).1); let y1 := znH y3 x0.toNat; let y4 := i64.wrap (x0 + 1);  cond (decide (x0 < y3.length)) (cond (zN x0 y3.length) ( cond (decide ((at_1 : Int) >= y1.at_)) (cond (decide ((at_1 : Int) < (i64.wrap (y1.at_ + y1.many)))) (some (ret (y1.owner, 0))) (j (.l0 y4))) (j (.l0 y4))) none) (cond (zCH c y2) ( cond ((zCm c y2).2) (some (ret ((⟨1, (zCm c y2).1, 0⟩ : Owner), 0))) (some (ret ((⟨0, 0, 0⟩ : Owner), 0)))) none)
noncomputable def zsx {R : Type} (ret : R27 -> R) (c : Config) (at_1 : Int) (j : L27 -> Option R) : Option R := cond (znm c) ( cond (!(((zdB c).2 : Int) == 0)) (some (ret ((⟨0, 0, 0⟩ : Owner), (zdB c).2))) (cond (decide ((at_1 : Int) < 0)) (some (ret ((⟨0, 0, 0⟩ : Owner), 151))) (cond (decide ((at_1 : Int) >= (i64.wrap (16 * (mn (mx c.frames 0) 1024))))) (some (ret ((⟨0, 0, 0⟩ : Owner), 151))) (cond (zCG c ((zdB c).1)) (j (.l0 0)) none)))) none
theorem ct27 (c : Config) (at_1 : Int) (l : L27) : CT fun j => zn0 id c at_1 j l := by cases l <;> (dsimp only [zn0]; repeat (first | exact ctJ _ | exact ctK _ | apply ctC))
def zUY (c : Config) (at_1 : Int) : L27 -> Option R27 := lfp (zn0 id c at_1)
def zJY (c : Config) (at_1 : Int) : Option R27 := zsx id c at_1 (zUY c at_1)
def zCg (c : Config) (at_1 : Int) : R27 := (zJY c at_1).getD default
def zKa (c : Config) (at_1 : Int) : Bool := (zJY c at_1).isSome
theorem zTy (c : Config) (at_1 : Int) (hc : zKa c at_1 = true) : Okay Pr GL 27 [.agg (Ty.enc .sConfig c), (zf at_1)] [] (zHR (zCg c at_1)) := zG (H := H27) (bod := zn0 id c at_1) (ent := zsx id c at_1) (bodA := zn0 zHR c at_1) (entA := zsx zHR c at_1) zDR zA Tryz.func27 rfl (by kernel_rfl) zHR zSI (st27 c at_1) (fun J l => by cases l <;> kernel_rfl) (fun J => by kernel_rfl) (fun s l => by cases l <;> simp only [zn0, zc, zt, zu, id]) (fun s => by simp only [zsx, zc, zt, zu, id]) (ct27 c at_1) (by dsimp only [zsx]; repeat (first | exact ctJ _ | exact ctK _ | apply ctC)) hc
abbrev zzf := Bool
def zyy (r : zzf) : zT := ⟨(zX r), []⟩
inductive zr0 where | l0 (x0 : Int) | l4 (x1 : Int) (x2 : List Region) (x3 : Int) (x0 : Int)
def zM1 : zr0 -> Nat | .l0 _ => 0 | .l4 _ _ _ _ => 4
def H144 : zS := htt [] [(0, ⟨z7 [1, 28, 29, 30, 60, 61, 62, 63] 65 0, []⟩), (4, ⟨z7 [1, 28, 29, 30, 35, 36, 37, 60, 61, 62, 63] 65 0, []⟩)] []
noncomputable def zVn (c : Config) : zr0 -> St | .l0 x0 => stt [(1, .ref 0 0), (28, .sl .sPartition c.partitions), (29, (zf c.partitions.length)), (30, (zf x0))] 65 [.cells 26 (Ty.enc .sConfig c)] 0 | .l4 x1 x2 x3 x0 => stt [(1, .ref 0 0), (28, .sl .sPartition c.partitions), (29, (zf c.partitions.length)), (30, (zf x1)), (35, .sl .sRegion x2), (36, (zf x3)), (37, (zf x0))] 65 [.cells 26 (Ty.enc .sConfig c)] 0
noncomputable def zdm {R : Type} (ret : zzf -> R) (c : Config) (j : zr0 -> Option R) : zr0 -> Option R | .l0 x0 =>let y1 := (za c.partitions x0.toNat).regions;  cond (decide (x0 < c.partitions.length)) (cond (zN x0 c.partitions.length) (j (.l4 x0 y1 (y1.length) 0)) none) (cond (zru c) (cond (((zpd c).2 : Int) == 0) (some (ret (decide (((zpd c).1 : Int) <= c.room)))) (some (ret false))) none) | .l4 x1 x2 x3 x0 =>let y1 := zh x2 x0.toNat;  cond (decide (x0 < x3)) (cond (zN x0 x2.length) ( cond (zpc (y1.frame) (y1.pages) c.kernel c.room) (some (ret false)) (j (.l4 x1 x2 x3 (i64.wrap (x0 + 1))))) none) (j (.l0 (i64.wrap (x1 + 1))))
noncomputable def zi5 {R : Type} (ret : zzf -> R) (c : Config) (j : zr0 -> Option R) : Option R := cond (!(zY c.kernel 0 (i64.wrap (c.frames - 1)))) (some (ret false)) (cond (!(zY c.room 1 (i64.wrap (c.frames - c.kernel)))) (some (ret false)) (j (.l0 0)))
theorem zJr (c : Config) (l : zr0) : CT fun j => zdm id c j l := by cases l <;> (dsimp only [zdm]; repeat (first | exact ctJ _ | exact ctK _ | apply ctC))
def zjH (c : Config) : zr0 -> Option zzf := lfp (zdm id c)
theorem zgB (c : Config) (l : zr0) : zjH c l = zdm id c (zjH c) l := zL (zJr c) l
def zm2 (c : Config) : Option zzf := zi5 id c (zjH c)
def zwC (c : Config) : zzf := (zm2 c).getD default
def zrl (c : Config) : Bool := (zm2 c).isSome
theorem zNP (c : Config) (hc : zrl c = true) : Okay Pr GL 144 [.agg (Ty.enc .sConfig c)] [] (zyy (zwC c)) := zG (H := H144) (bod := zdm id c) (ent := zi5 id c) (bodA := zdm zyy c) (entA := zi5 zyy c) zDR zA Tryz.func144 rfl (by kernel_rfl) zyy zM1 (zVn c) (fun J l => by cases l <;> kernel_rfl) (fun J => by kernel_rfl) (fun s l => by cases l <;> simp only [zdm, zc, zt, zu, id]) (fun s => by simp only [zi5, zc, zt, zu, id]) (zJr c) (by dsimp only [zi5]; repeat (first | exact ctJ _ | exact ctK _ | apply ctC)) hc
def g62 := zJ (zH (rdS .sConfig) fun a0 => zI ((zxU a0), (zX (zHa a0)), []))
theorem zLS : zD 62 g62 := zk (zB Tryz.func62 (by kernel_rfl) rfl) (zg fun x0 a0 h0 => zj fun hb => (zT6 a0 hb).ats (.cons (zP h0) .nil))
def g27 := zJ (zH (rdS .sConfig) fun a0 => zH (zZ (.i .i64)) fun a1 => zI ((zKa a0 a1), .tup [.agg [(zf ((zCg a0 a1).1.kind)), (zf ((zCg a0 a1).1.index)), (zf ((zCg a0 a1).1.port))], (zf ((zCg a0 a1).2))], []))
theorem zLk : zD 27 g27 := zk (zB Tryz.func27 (by kernel_rfl) rfl) (zg fun x0 a0 h0 => zg fun x1 a1 h1 => zj fun hb => (zTy a0 a1 hb).ats (.cons (zP h0) (.cons (zp h1) .nil)))
def g144 := zJ (zH (rdS .sConfig) fun a0 => zI ((zrl a0), (zX (zwC a0)), []))
theorem zFI : zD 144 g144 := zk (zB Tryz.func144 (by kernel_rfl) rfl) (zg fun x0 a0 h0 => zj fun hb => (zNP a0 hb).ats (.cons (zP h0) .nil))
noncomputable def GI : Gam := zd2 [(62, g62), (27, g27), (144, g144)] GH
theorem zKl : GOk Pr GL GI := zaH ⟨zLS, zLk, zFI, trivial⟩ zDR
abbrev zEk := AdmitFound
def zDo (r : zEk) : zT := ⟨.agg [(zf r.e), (zf r.where_.first), (zf r.where_.second)], []⟩
noncomputable def zlG {R : Type} (ret : zEk -> R) (a : Config) : Option R := cond (zrl a) (some (ret (zr (zwC a) 423 nowhere))) none
def zqQ (a : Config) : Option zEk := zlG id a
def zih (a : Config) : zEk := (zqQ a).getD default
def zvJ (a : Config) : Bool := (zqQ a).isSome
theorem zBT (a : Config) (hc : zvJ a = true) : Okay Pr GL 143 [.op .sConfig (some a)] [] (zDo (zih a)) := zy (H := H57) (ent := zlG id a) (entA := zlG zDo a) zKl zA Tryz.func143 rfl (by kernel_rfl) zDo (fun J => by kernel_rfl) (by simp only [zlG, zc, zt, zu, id]) hc
abbrev R29 := Int × Where
def zHS (r : R29) : zT := ⟨.tup [(zf r.1), .agg [(zf r.2.first), (zf r.2.second)]], []⟩
inductive L29 where | l0 (x0 : Int) | l4 (x0 : Int) | l8 (x0 : Int)
def zSJ : L29 -> Nat | .l0 _ => 0 | .l4 _ => 4 | .l8 _ => 8
def H29 : zS := htt [] [(0, ⟨z7 [1, 3, 5] 73 0, []⟩), (4, ⟨z7 [1, 3, 8] 73 0, []⟩), (8, ⟨z7 [1, 3, 10] 73 0, []⟩)] []
noncomputable def st29 (c : Config) : L29 -> St | .l0 x0 => stt [(1, .ref 0 0), (3, .ref 1 0), (5, (zf x0))] 73 [.cells 26 (Ty.enc .sConfig c), .cells 76 [(zf 0), (zf 0)]] 0 | .l4 x0 => stt [(1, .ref 0 0), (3, .ref 1 0), (8, (zf x0))] 73 [.cells 26 (Ty.enc .sConfig c), .cells 76 [(zf 0), (zf 0)]] 0 | .l8 x0 => stt [(1, .ref 0 0), (3, .ref 1 0), (10, (zf x0))] 73 [.cells 26 (Ty.enc .sConfig c), .cells 76 [(zf 0), (zf 0)]] 0
noncomputable def zec {R : Type} (ret : R29 -> R) (c : Config) (j : L29 -> Option R) : L29 -> Option R | .l0 x0 =>let y1 := zvr c x0;  cond (decide (x0 < c.partitions.length)) (cond (zxR c x0) ( cond (!((y1.1 : Int) == 0)) (some (ret (y1.1, y1.2))) (j (.l0 (i64.wrap (x0 + 1))))) none) (j (.l4 0)) | .l4 x0 => cond (decide (x0 < c.channels.length)) (cond (zxS c x0) ( cond (!(((zz7 c x0) : Int) == 0)) (some (ret ((zz7 c x0), (zhp x0)))) (j (.l4 (i64.wrap (x0 + 1))))) none) (j (.l8 0)) | .l8 x0 =>let y1 := zvs c x0;  cond (decide (x0 < c.cores.length)) (cond (zxT c x0) ( cond (!((y1.1 : Int) == 0)) (some (ret (y1.1, y1.2))) (j (.l8 (i64.wrap (x0 + 1))))) none) (cond (zxU c) (cond (!(zHa c)) (some (ret (423, sp57))) (some (ret (0, (⟨0, 0⟩ : Where))))) none)
noncomputable def zod {R : Type} (ret : R29 -> R) (c : Config) (j : L29 -> Option R) : Option R := cond (!(((zvq c) : Int) == 0)) (some (ret ((zvq c), sp57))) (j (.l0 0))
theorem ct29 (c : Config) (l : L29) : CT fun j => zec id c j l := by cases l <;> (dsimp only [zec]; repeat (first | exact ctJ _ | exact ctK _ | apply ctC))
def zil (c : Config) : L29 -> Option R29 := lfp (zec id c)
theorem zeu (c : Config) (l : L29) : zil c l = zec id c (zil c) l := zL (ct29 c) l
def zug (c : Config) : Option R29 := zod id c (zil c)
def znO (c : Config) : R29 := (zug c).getD default
def zkE (c : Config) : Bool := (zug c).isSome
theorem zTA (c : Config) (hc : zkE c = true) : Okay Pr GL 29 [.agg (Ty.enc .sConfig c)] [] (zHS (znO c)) := zG (H := H29) (bod := zec id c) (ent := zod id c) (bodA := zec zHS c) (entA := zod zHS c) zKl zA Tryz.func29 rfl (by kernel_rfl) zHS zSJ (st29 c) (fun J l => by cases l <;> kernel_rfl) (fun J => by kernel_rfl) (fun s l => by cases l <;> simp only [zec, zc, zt, zu, id]) (fun s => by simp only [zod, zc, zt, zu, id]) (ct29 c) (by dsimp only [zod]; repeat (first | exact ctJ _ | exact ctK _ | apply ctC)) hc
def g143 := zJ (zH (rdP .sConfig) fun a0 => zI ((zvJ a0), .agg [(zf ((zih a0).e)), (zf ((zih a0).where_.first)), (zf ((zih a0).where_.second))], []))
theorem zFH : zD 143 g143 := zk (zB Tryz.func143 (by kernel_rfl) rfl) (zg fun x0 a0 h0 => zj fun hb => (zBT a0 hb).ats (.cons (zbE h0) .nil))
def g29 := zJ (zH (rdS .sConfig) fun a0 => zI ((zkE a0), .tup [(zf ((znO a0).1)), .agg [(zf ((znO a0).2.first)), (zf ((znO a0).2.second))]], []))
theorem zLm : zD 29 g29 := zk (zB Tryz.func29 (by kernel_rfl) rfl) (zg fun x0 a0 h0 => zj fun hb => (zTA a0 hb).ats (.cons (zP h0) .nil))
noncomputable def ask (x : Clo) : AdmitFound := match x with
 | .c130 c0 => zo0 c0
 | .c133 c0 => zo1 c0
 | .c134 c0 => zo2 c0
 | .c135 c0 => zo3 c0
 | .c136 c0 => zo4 c0
 | .c137 c0 c1 => zie c0 c1
 | .c139 c0 c1 => zif c0 c1
 | .c141 c0 c1 => zig c0 c1
 | .c143 c0 => zih c0
 | _ => default
noncomputable def zKM (x : Clo) : Bool := match x with
 | .c130 c0 => true
 | .c133 c0 => true
 | .c134 c0 => true
 | .c135 c0 => true
 | .c136 c0 => true
 | .c137 c0 c1 => zvG c0 c1
 | .c139 c0 c1 => zvH c0 c1
 | .c141 c0 c1 => zvI c0 c1
 | .c143 c0 => zvJ c0
 | _ => false
noncomputable def zMv (x : Clo) (args : List AV) (hp : List Blk) : Option (Bool × AV × List Blk) :=
 match hp, args with
 | [], [] => some (zKM x, .agg [(zf ((ask x).e)), (zf ((ask x).where_.first)), (zf ((ask x).where_.second))], [])
 | _, _ => none
theorem zGe {x : Clo} {args : List AV} {hp : List Blk} {b : Bool} {r : AV} {hp' : List Blk} (h : zMv x args hp = some (b, r, hp')) (hb : b = true) : OkC Pr GL (.c x) args hp ⟨r, hp'⟩ := by
 unfold zMv at h
 split at h
 . cases h
   cases x with
   | none => cases hb
   | c130 c0 => exact ⟨130, _, by kernel_rfl, zB Tryz.func130 (by kernel_rfl) rfl, zBL c0⟩
   | c133 c0 => exact ⟨133, _, by kernel_rfl, zB Tryz.func133 (by kernel_rfl) rfl, zBM c0⟩
   | c134 c0 => exact ⟨134, _, by kernel_rfl, zB Tryz.func134 (by kernel_rfl) rfl, zBN c0⟩
   | c135 c0 => exact ⟨135, _, by kernel_rfl, zB Tryz.func135 (by kernel_rfl) rfl, zBO c0⟩
   | c136 c0 => exact ⟨136, _, by kernel_rfl, zB Tryz.func136 (by kernel_rfl) rfl, zBP c0⟩
   | c137 c0 c1 => exact ⟨137, _, by kernel_rfl, zB Tryz.func137 (by kernel_rfl) rfl, zBQ c0 c1 hb⟩
   | c139 c0 c1 => exact ⟨139, _, by kernel_rfl, zB Tryz.func139 (by kernel_rfl) rfl, zBR c0 c1 hb⟩
   | c141 c0 c1 => exact ⟨141, _, by kernel_rfl, zB Tryz.func141 (by kernel_rfl) rfl, zBS c0 c1 hb⟩
   | c143 c0 => exact ⟨143, _, by kernel_rfl, zB Tryz.func143 (by kernel_rfl) rfl, zBT c0 hb⟩
   | c145 c0 => cases hb
   | c146 c0 => cases hb
 . cases h
noncomputable def zp8 (x : Clo) (args : List AV) (hp : List Blk) : Option (Bool × AV × List Blk) :=
 match args with
 | [] => zMv x [] hp
 | _ => none
theorem zu3 {x : Clo} {args : List AV} {hp : List Blk} {b : Bool} {r : AV} {hp' : List Blk} (h : zp8 x args hp = some (b, r, hp')) (hb : b = true) : OkC Pr GL (.c x) args hp ⟨r, hp'⟩ := by
 unfold zp8 at h
 split at h
 . exact zGe h hb
 . cases h
noncomputable def GJ : Gam := zMu [(143, g143), (29, g29)] zp8 GI
theorem zAr : GOk Pr GL GJ := zwe ⟨zFH, zLm, trivial⟩ zu3 zKl
abbrev R96 := (List Clo)
def zIo (r : R96) : zT := ⟨.own 0, [.arr 182 .f r]⟩
inductive L96 where | l0 (x0 : Int) (x1 : List Clo) | l4 (x0 : Int) (x1 : List Clo) | l8 (x0 : Int) (x1 : List Clo)
def zTf : L96 -> Nat | .l0 _ _ => 0 | .l4 _ _ => 4 | .l8 _ _ => 8
def H96 : zS := htt [] [(0, ⟨z7 [1, 3, 15, 16] 50 0, []⟩), (4, ⟨z7 [1, 3, 26, 27] 50 0, []⟩), (8, ⟨z7 [1, 3, 37, 38] 50 0, []⟩)] []
noncomputable def st96 (c : Config) : L96 -> St | .l0 x0 x1 => stt [(1, .ref 0 0), (3, .own 1), (15, (zf c.partitions.length)), (16, (zf x0))] 50 [.rob .sConfig c, .arr 182 .f x1] 0 | .l4 x0 x1 => stt [(1, .ref 0 0), (3, .own 1), (26, (zf c.channels.length)), (27, (zf x0))] 50 [.rob .sConfig c, .arr 182 .f x1] 0 | .l8 x0 x1 => stt [(1, .ref 0 0), (3, .own 1), (37, (zf c.cores.length)), (38, (zf x0))] 50 [.rob .sConfig c, .arr 182 .f x1] 0
noncomputable def zef {R : Type} (ret : R96 -> R) (c : Config) (j : L96 -> Option R) : L96 -> Option R | .l0 x0 x1 => cond (decide (x0 < c.partitions.length)) (cond (leB (((x1 : List Clo).length + ([(Clo.c137 c x0)] : List Clo).length) * 8) 140737488355328) (j (.l0 (i64.wrap (x0 + 1)) ((x1 : List Clo) ++ [(Clo.c137 c x0)]))) none) (j (.l4 0 x1)) | .l4 x0 x1 => cond (decide (x0 < c.channels.length)) (cond (leB (((x1 : List Clo).length + ([(Clo.c139 c x0)] : List Clo).length) * 8) 140737488355328) (j (.l4 (i64.wrap (x0 + 1)) ((x1 : List Clo) ++ [(Clo.c139 c x0)]))) none) (j (.l8 0 x1)) | .l8 x0 x1 =>let y1 := (x1 : List Clo);  cond (decide (x0 < c.cores.length)) (cond (leB ((y1.length + ([(Clo.c141 c x0)] : List Clo).length) * 8) 140737488355328) (j (.l8 (i64.wrap (x0 + 1)) (y1 ++ [(Clo.c141 c x0)]))) none) (cond (leB ((y1.length + ([(Clo.c143 c)] : List Clo).length) * 8) 140737488355328) (some (ret (y1 ++ [(Clo.c143 c)]))) none)
noncomputable def ztb {R : Type} (ret : R96 -> R) (c : Config) (j : L96 -> Option R) : Option R := j (.l0 0 [(Clo.c130 c), (Clo.c133 c), (Clo.c134 c), (Clo.c135 c), (Clo.c136 c)])
theorem ct96 (c : Config) (l : L96) : CT fun j => zef id c j l := by cases l <;> (dsimp only [zef]; repeat (first | exact ctJ _ | exact ctK _ | apply ctC))
def zmR (c : Config) : L96 -> Option R96 := lfp (zef id c)
theorem zex (c : Config) (l : L96) : zmR c l = zef id c (zmR c) l := zL (ct96 c) l
def zCB (c : Config) : Option R96 := ztb id c (zmR c)
def zqn (c : Config) : R96 := (zCB c).getD default
def zya (c : Config) : Bool := (zCB c).isSome
theorem zUE (c : Config) (hc : zya c = true) : Okay Pr GL 96 [.agg (Ty.enc .sConfig c)] [] (zIo (zqn c)) := zG (H := H96) (bod := zef id c) (ent := ztb id c) (bodA := zef zIo c) (entA := ztb zIo c) zAr zA Tryz.func96 rfl (by kernel_rfl) zIo zTf (st96 c) (fun J l => by cases l <;> kernel_rfl) (fun J => by kernel_rfl) (fun s l => by cases l <;> simp only [zef, zc, zt, zu, id]) (fun s => by simp only [ztb, zc, zt, zu, id]) (ct96 c) (by dsimp only [ztb]; repeat (first | exact ctJ _ | exact ctK _ | apply ctC)) hc
abbrev R12 := Bool
def zOT (r : R12) : zT := ⟨(zX r), []⟩
noncomputable def zv8 {R : Type} (ret : R12 -> R) (c : Config) : Option R := cond (zkE c) (some (ret (!(((znO c).1 : Int) == 0)))) none
def zJV (c : Config) : Option R12 := zv8 id c
def sp12 (c : Config) : R12 := (zJV c).getD default
def zJ9 (c : Config) : Bool := (zJV c).isSome
theorem zTk (c : Config) (hc : zJ9 c = true) : Okay Pr GL 12 [.agg (Ty.enc .sConfig c)] [] (zOT (sp12 c)) := zy (H := H57) (ent := zv8 id c) (entA := zv8 zOT c) zAr zA Tryz.func12 rfl (by kernel_rfl) zOT (fun J => by kernel_rfl) (by simp only [zv8, zc, zt, zu, id]) hc
abbrev R21 := Bool
def zOV (r : R21) : zT := ⟨(zX r), []⟩
noncomputable def zst {R : Type} (ret : R21 -> R) (c : Config) (m : (List Int)) : Option R := cond (zkE c) ( cond (((znO c).1 : Int) == 0) (some (ret ((m.length : Int) == (i64.wrap (c.frames * 16))))) (some (ret false))) none
def zwX (c : Config) (m : (List Int)) : Option R21 := zst id c m
def zvl (c : Config) (m : (List Int)) : R21 := (zwX c m).getD default
def znk (c : Config) (m : (List Int)) : Bool := (zwX c m).isSome
theorem zTt (c : Config) (m : (List Int)) (hc : znk c m = true) : Okay Pr GL 21 [.agg (Ty.enc .sConfig c), .sl (.i .u32) m] [] (zOV (zvl c m)) := zy (H := H57) (ent := zst id c m) (entA := zst zOV c m) zAr zA Tryz.func21 rfl (by kernel_rfl) zOV (fun J => by kernel_rfl) (by simp only [zst, zc, zt, zu, id]) hc
abbrev R20 := (List Int) × Int × Int
def zHN (r : R20) : zT := ⟨.tup [.own 0, (zf r.2.1), (zf r.2.2)], [.arr 57 (.i .u32) r.1]⟩
inductive L20 where | l0 (x0 : Int) | l4 (x0 : Int) (x1 : List Int) | l31 (x1 : Int) (x0 : List Int)
def zSE : L20 -> Nat | .l0 _ => 0 | .l4 _ _ => 4 | .l31 _ _ => 31
def H20 : zS := htt [15] [(0, ⟨z7 [1, 2, 9] 102 0, []⟩), (4, ⟨z7 [1, 2, 10, 12, 13] 102 0, []⟩), (31, ⟨z7 [1, 2, 10, 12, 13] 102 0, []⟩)] [(.slot 0, .own 57 (.i .u32))]
noncomputable def st20 (c : Config) (programs : (List (List Int))) : L20 -> St | .l0 x0 => stt [(1, .sl (.sl (.i .u32)) programs), (2, .ref 0 0), (9, (zf x0))] 102 [.cells 26 (Ty.enc .sConfig c)] 0 | .l4 x0 x1 => stt [(1, .sl (.sl (.i .u32)) programs), (2, .ref 0 0), (10, .ref 1 0), (12, .own 2), (13, (zf x0))] 102 [.cells 26 (Ty.enc .sConfig c), .cells 82 [(zf ((zal c).1.barrier)), .sl .sPartitionPlace ((zal c).1.partitions), .sl .sChannelPlace ((zal c).1.channels), (zf ((zal c).1.end_))], .arr 57 (.i .u32) x1] 0 | .l31 x1 x0 => stt [(1, .sl (.sl (.i .u32)) programs), (2, .ref 0 0), (10, .ref 1 0), (12, .own 2), (13, (zf x1))] 102 [.cells 26 (Ty.enc .sConfig c), .cells 82 [(zf ((zal c).1.barrier)), .sl .sPartitionPlace ((zal c).1.partitions), .sl .sChannelPlace ((zal c).1.channels), (zf ((zal c).1.end_))], .arr 57 (.i .u32) x0] 0
noncomputable def zfz {R : Type} (ret : R20 -> R) (c : Config) (programs : (List (List Int))) (j : L20 -> Option R) : L20 -> Option R | .l0 x0 =>let y1 := i64.wrap (c.frames * 16); let y2 := za c.partitions x0.toNat; let y3 := zAF programs x0.toNat;  cond (decide (x0 < programs.length)) (cond (zN x0 c.partitions.length) ( cond (zN x0 programs.length) ( cond (zCE y2 y3) ( cond (!(zOL y2 y3)) (some (ret ([], 241, x0))) (j (.l0 (i64.wrap (x0 + 1))))) none) none) none) (cond (zkF c) ( cond (decide ((y1 : Int) = y1) && decide (0 <= y1) && leB (y1.toNat * 4) 140737488355328) (j (.l4 0 (List.replicate y1.toNat (0 : Int)))) none) none) | .l4 x0 x1 =>let y3 := za c.partitions x0.toNat; let y4 := (zal c).1.partitions; let y2 := zb y4 x0.toNat; let y5 := i64.wrap (y2.save + 16); let y1 := List.set (zCj y3 y2 x1) (y5.toNat) (u32.wrap (y3.entry)); let y6 := zAF programs x0.toNat;  cond (decide (x0 < c.partitions.length)) (cond (zN x0 c.partitions.length) ( cond (zN x0 y4.length) ( cond (zxP y3 y2 x1) ( cond (zN x0 y4.length) ( cond (zN y5 (zCj y3 y2 x1).length) ( cond (decide (x0 < programs.length)) (cond (zN x0 programs.length) ( cond (zCF y3 y6 y1) ( j (.l31 x0 (zOM y3 y6 y1))) none) none) (j (.l31 x0 y1))) none) none) none) none) none) (some (ret (x1, 0, (-1)))) | .l31 x1 x0 => j (.l4 (i64.wrap (x1 + 1)) x0)
noncomputable def zl0 {R : Type} (ret : R20 -> R) (c : Config) (programs : (List (List Int))) (j : L20 -> Option R) : Option R := cond (zkE c) ( cond (!(((znO c).1 : Int) == 0)) (some (ret ([], 240, (-1)))) (cond (decide ((programs.length : Int) > c.partitions.length)) (some (ret ([], 241, c.partitions.length))) (j (.l0 0)))) none
theorem ct20 (c : Config) (programs : (List (List Int))) (l : L20) : CT fun j => zfz id c programs j l := by cases l <;> (dsimp only [zfz]; repeat (first | exact ctJ _ | exact ctK _ | apply ctC))
def zpq (c : Config) (programs : (List (List Int))) : L20 -> Option R20 := lfp (zfz id c programs)
theorem zik (c : Config) (programs : (List (List Int))) (l : L20) : zpq c programs l = zfz id c programs (zpq c programs) l := zL (ct20 c programs) l
def zpv (c : Config) (programs : (List (List Int))) : Option R20 := zl0 id c programs (zpq c programs)
def zho (c : Config) (programs : (List (List Int))) : R20 := (zpv c programs).getD default
def znj (c : Config) (programs : (List (List Int))) : Bool := (zpv c programs).isSome
theorem zTs (c : Config) (programs : (List (List Int))) (hc : znj c programs = true) : Okay Pr GL 20 [.agg (Ty.enc .sConfig c), .sl (.sl (.i .u32)) programs] [] (zHN (zho c programs)) := zG (H := H20) (bod := zfz id c programs) (ent := zl0 id c programs) (bodA := zfz zHN c programs) (entA := zl0 zHN c programs) zAr zA Tryz.func20 rfl (by kernel_rfl) zHN zSE (st20 c programs) (fun J l => by cases l <;> kernel_rfl) (fun J => by kernel_rfl) (fun s l => by cases l <;> simp only [zfz, zc, zt, zu, id]) (fun s => by simp only [zl0, zc, zt, zu, id]) (ct20 c programs) (by dsimp only [zl0]; repeat (first | exact ctJ _ | exact ctK _ | apply ctC)) hc
def g96 := zJ (zH (rdS .sConfig) fun a0 => zI ((zya a0), .own 0, [.arr 182 .f (zqn a0)]))
theorem zMq : zD 96 g96 := zk (zB Tryz.func96 (by kernel_rfl) rfl) (zg fun x0 a0 h0 => zj fun hb => (zUE a0 hb).ats (.cons (zP h0) .nil))
def g12 := zJ (zH (rdS .sConfig) fun a0 => zI ((zJ9 a0), (zX (sp12 a0)), []))
theorem zK5 : zD 12 g12 := zk (zB Tryz.func12 (by kernel_rfl) rfl) (zg fun x0 a0 h0 => zj fun hb => (zTk a0 hb).ats (.cons (zP h0) .nil))
def g21 := zJ (zH (rdS .sConfig) fun a0 => zH (zZ (.sl (.i .u32))) fun a1 => zI ((znk a0 a1), (zX (zvl a0 a1)), []))
theorem zLf : zD 21 g21 := zk (zB Tryz.func21 (by kernel_rfl) rfl) (zg fun x0 a0 h0 => zg fun x1 a1 h1 => zj fun hb => (zTt a0 a1 hb).ats (.cons (zP h0) (.cons (zp h1) .nil)))
def g20 := zJ (zH (rdS .sConfig) fun a0 => zH (zZ (.sl (.sl (.i .u32)))) fun a1 => zI ((znj a0 a1), .tup [.own 0, (zf ((zho a0 a1).2.1)), (zf ((zho a0 a1).2.2))], [.arr 57 (.i .u32) ((zho a0 a1).1)]))
theorem zLe : zD 20 g20 := zk (zB Tryz.func20 (by kernel_rfl) rfl) (zg fun x0 a0 h0 => zg fun x1 a1 h1 => zj fun hb => (zTs a0 a1 hb).ats (.cons (zP h0) (.cons (zp h1) .nil)))
noncomputable def GK : Gam := zd2 [(96, g96), (12, g12), (21, g21), (20, g20)] GJ
theorem zDS : GOk Pr GL GK := zaH ⟨zMq, zK5, zLf, zLe, trivial⟩ zAr
abbrev R49 := Int × Where
def zH6 (r : R49) : zT := ⟨.tup [(zf r.1), .agg [(zf r.2.first), (zf r.2.second)]], []⟩
inductive L49 where | l0 (x0 : Int)
def zSX : L49 -> Nat | .l0 _ => 0
def H49 : zS := htt [] [(0, ⟨z7 [3, 8, 9, 10] 25 0, []⟩)] []
noncomputable def st49 (c : Config) : L49 -> St | .l0 x0 => stt [(3, .ref 0 0), (8, .own 1), (9, (zf ((zqn c).length))), (10, (zf x0))] 25 [.cells 76 [(zf 0), (zf 0)], .arr 182 .f (zqn c)] 0
noncomputable def zhF {R : Type} (ret : R49 -> R) (c : Config) (j : L49 -> Option R) : L49 -> Option R | .l0 x0 =>let y2 := zfh (zqn c) x0.toNat; let y1 := ask y2;  cond (decide (x0 < (zqn c).length)) (cond (zN x0 (zqn c).length) ( cond (zKM y2) ( cond (!(((y1.e : Int) == fine.e) && ((((y1.where_.first : Int) == fine.where_.first) && (((y1.where_.second : Int) == fine.where_.second) && true)) && true))) (some (ret (y1.e, y1.where_))) (j (.l0 (i64.wrap (x0 + 1))))) none) none) (some (ret (0, (⟨0, 0⟩ : Where))))
noncomputable def zop {R : Type} (ret : R49 -> R) (c : Config) (j : L49 -> Option R) : Option R := cond (zya c) (j (.l0 0)) none
theorem ct49 (c : Config) (l : L49) : CT fun j => zhF id c j l := by cases l <;> (dsimp only [zhF]; repeat (first | exact ctJ _ | exact ctK _ | apply ctC))
def zt6 (c : Config) : L49 -> Option R49 := lfp (zhF id c)
theorem zt7 (c : Config) (l : L49) : zt6 c l = zhF id c (zt6 c) l := zL (ct49 c) l
def zuh (c : Config) : Option R49 := zop id c (zt6 c)
def zz6 (c : Config) : R49 := (zuh c).getD default
def zxQ (c : Config) : Bool := (zuh c).isSome
theorem zTU (c : Config) (hc : zxQ c = true) : Okay Pr GL 49 [.agg (Ty.enc .sConfig c)] [] (zH6 (zz6 c)) := zG (H := H49) (bod := zhF id c) (ent := zop id c) (bodA := zhF zH6 c) (entA := zop zH6 c) zDS zA Tryz.func49 rfl (by kernel_rfl) zH6 zSX (st49 c) (fun J l => by cases l <;> kernel_rfl) (fun J => by kernel_rfl) (fun s l => by cases l <;> simp only [zhF, zc, zt, zu, id]) (fun s => by simp only [zop, zc, zt, zu, id]) (ct49 c) (by dsimp only [zop]; repeat (first | exact ctJ _ | exact ctK _ | apply ctC)) hc
abbrev R6 := (List Owner) × Int
def to6 (r : R6) : zT := ⟨.tup [.sl .sOwner r.1, (zf r.2)], []⟩
inductive L6 where | l0 (x0 : Int) (x1 : List Owner) | l13 (x1 : Int) (x0 : List Owner)
def num6 : L6 -> Nat | .l0 _ _ => 0 | .l13 _ _ => 13
def H6 : zS := htt [6] [(0, ⟨z7 [1, 2, 3, 8, 9] 52 0, [(.slot 8, .own 42 .sOwner)]⟩), (13, ⟨z7 [1, 2, 3, 8, 9] 52 0, [(.slot 8, .own 42 .sOwner)]⟩)] [(.slot 0, .sl .sOwner)]
noncomputable def st6 (c : Config) (a : (List Int)) (b : (List Int)) : L6 -> St | .l0 x0 x1 => stt [(1, .sl (.i .u32) a), (2, .sl (.i .u32) b), (3, .ref 0 0), (8, .own 1), (9, (zf x0))] 52 [.cells 26 (Ty.enc .sConfig c), .arr 42 .sOwner x1] 0 | .l13 x1 x0 => stt [(1, .sl (.i .u32) a), (2, .sl (.i .u32) b), (3, .ref 0 0), (8, .own 1), (9, (zf x1))] 52 [.cells 26 (Ty.enc .sConfig c), .arr 42 .sOwner x0] 0
noncomputable def zzx {R : Type} (ret : R6 -> R) (c : Config) (a : (List Int)) (b : (List Int)) (j : L6 -> Option R) : L6 -> Option R | .l0 x0 x1 =>let y1 := zz5 c x0;  cond (decide (x0 < a.length)) (cond (zN x0 a.length) ( cond (zN x0 b.length) ( cond ((zx a x0.toNat : Int) == zx b x0.toNat) (j (.l13 x0 x1)) (cond (zCC c x0) ( cond (zCD x1 (y1.1)) ( cond (!(zOK x1 (y1.1))) (cond (leB (((x1 : List Owner).length + ([y1.1] : List Owner).length) * 24) 140737488355328) (j (.l13 x0 ((x1 : List Owner) ++ [y1.1]))) none) (j (.l13 x0 x1))) none) none)) none) none) (some (ret (x1, 0))) | .l13 x1 x0 => j (.l0 (i64.wrap (x1 + 1)) x0)
noncomputable def zA8 {R : Type} (ret : R6 -> R) (c : Config) (a : (List Int)) (b : (List Int)) (j : L6 -> Option R) : Option R := cond (znk c a) ( cond (!(zvl c a)) (some (ret ([], 1))) (cond (znk c b) (cond (!(zvl c b)) (some (ret ([], 1))) (j (.l0 0 []))) none)) none
theorem ct6 (c : Config) (a : (List Int)) (b : (List Int)) (l : L6) : CT fun j => zzx id c a b j l := by cases l <;> (dsimp only [zzx]; repeat (first | exact ctJ _ | exact ctK _ | apply ctC))
def spL6 (c : Config) (a : (List Int)) (b : (List Int)) : L6 -> Option R6 := lfp (zzx id c a b)
def spO6 (c : Config) (a : (List Int)) (b : (List Int)) : Option R6 := zA8 id c a b (spL6 c a b)
def sp6 (c : Config) (a : (List Int)) (b : (List Int)) : R6 := (spO6 c a b).getD default
def spc6 (c : Config) (a : (List Int)) (b : (List Int)) : Bool := (spO6 c a b).isSome
theorem oks6 (c : Config) (a : (List Int)) (b : (List Int)) (hc : spc6 c a b = true) : Okay Pr GL 6 [.agg (Ty.enc .sConfig c), .sl (.i .u32) a, .sl (.i .u32) b] [] (to6 (sp6 c a b)) := zG (H := H6) (bod := zzx id c a b) (ent := zA8 id c a b) (bodA := zzx to6 c a b) (entA := zA8 to6 c a b) zDS zA Tryz.func6 rfl (by kernel_rfl) to6 num6 (st6 c a b) (fun J l => by cases l <;> kernel_rfl) (fun J => by kernel_rfl) (fun s l => by cases l <;> simp only [zzx, zc, zt, zu, id]) (fun s => by simp only [zA8, zc, zt, zu, id]) (ct6 c a b) (by dsimp only [zA8]; repeat (first | exact ctJ _ | exact ctK _ | apply ctC)) hc
abbrev R5 := (List Int)
def to5 (r : R5) : zT := ⟨.own 0, [.arr 57 (.i .u32) r]⟩
inductive L5 where | l9 (x0 : List Int) | l0 (x1 : Int) (x0 : List Int) | l13 (x1 : Int) (x0 : List Int)
def num5 : L5 -> Nat | .l9 _ => 9 | .l0 _ _ => 0 | .l13 _ _ => 13
def H5 : zS := htt [4, 6] [(0, ⟨z7 [1, 5, 8, 32, 33, 34, 35, 36, 37, 38, 39] 54 0, []⟩), (9, ⟨z7 [1, 5, 32, 33, 34, 35, 36, 37, 38, 39] 54 0, []⟩), (13, ⟨z7 [1, 5, 8] 54 0, []⟩)] []
noncomputable def st5 (c : Config) (turns : (List Bulkheadlaw28Turn)) : L5 -> St | .l9 x0 => stt [(1, .sl .sBulkheadlaw28Turn turns), (5, .own 0)] 54 [.arr 57 (.i .u32) x0] 0 | .l0 x1 x0 => stt [(1, .sl .sBulkheadlaw28Turn turns), (5, .own 0), (8, (zf x1))] 54 [.arr 57 (.i .u32) x0] 0 | .l13 x1 x0 => stt [(1, .sl .sBulkheadlaw28Turn turns), (5, .own 0), (8, (zf x1))] 54 [.arr 57 (.i .u32) x0] 0
noncomputable def znI {R : Type} (ret : R5 -> R) (c : Config) (turns : (List Bulkheadlaw28Turn)) (j : L5 -> Option R) : L5 -> Option R | .l9 x0 => j (.l0 0 x0) | .l0 x1 x0 =>let y1 := zad turns x1.toNat; let y2 := zN x1 turns.length;  cond (decide (x1 < turns.length)) (cond y2 ( cond (decide ((y1.at_ : Int) >= 0)) (cond y2 ( cond (decide ((y1.at_ : Int) < x0.length)) (cond y2 ( cond y2 ( cond (zN (y1.at_) x0.length) ( j (.l13 x1 (List.set x0 ((y1.at_).toNat) (y1.word)))) none) none) none) (j (.l13 x1 x0))) none) (j (.l13 x1 x0))) none) (some (ret x0)) | .l13 x1 x0 => j (.l0 (i64.wrap (x1 + 1)) x0)
noncomputable def zzF {R : Type} (ret : R5 -> R) (c : Config) (turns : (List Bulkheadlaw28Turn)) (j : L5 -> Option R) : Option R := cond (znj c []) ( cond ((((zho c []).1).length : Int) == 0) (cond (decide ((16 : Int) = 16) && decide (0 <= 16) && leB (16 * 4) 140737488355328) (j (.l9 (List.replicate 16 (0 : Int)))) none) (j (.l9 ((zho c []).1)))) none
theorem ct5 (c : Config) (turns : (List Bulkheadlaw28Turn)) (l : L5) : CT fun j => znI id c turns j l := by cases l <;> (dsimp only [znI]; repeat (first | exact ctJ _ | exact ctK _ | apply ctC))
def zqv (c : Config) (turns : (List Bulkheadlaw28Turn)) : L5 -> Option R5 := lfp (znI id c turns)
theorem zk0 (c : Config) (turns : (List Bulkheadlaw28Turn)) (l : L5) : zqv c turns l = znI id c turns (zqv c turns) l := zL (ct5 c turns) l
def zHi (c : Config) (turns : (List Bulkheadlaw28Turn)) : Option R5 := zzF id c turns (zqv c turns)
def sp5 (c : Config) (turns : (List Bulkheadlaw28Turn)) : R5 := (zHi c turns).getD default
def zHm (c : Config) (turns : (List Bulkheadlaw28Turn)) : Bool := (zHi c turns).isSome
theorem oks5 (c : Config) (turns : (List Bulkheadlaw28Turn)) (hc : zHm c turns = true) : Okay Pr GL 5 [.agg (Ty.enc .sConfig c), .sl .sBulkheadlaw28Turn turns] [] (to5 (sp5 c turns)) := zG (H := H5) (bod := znI id c turns) (ent := zzF id c turns) (bodA := znI to5 c turns) (entA := zzF to5 c turns) zDS zA Tryz.func5 rfl (by kernel_rfl) to5 num5 (st5 c turns) (fun J l => by cases l <;> kernel_rfl) (fun J => by kernel_rfl) (fun s l => by cases l <;> simp only [znI, zc, zt, zu, id]) (fun s => by simp only [zzF, zc, zt, zu, id]) (ct5 c turns) (by dsimp only [zzF]; repeat (first | exact ctJ _ | exact ctK _ | apply ctC)) hc
def g49 := zJ (zH (rdS .sConfig) fun a0 => zI ((zxQ a0), .tup [(zf ((zz6 a0).1)), .agg [(zf ((zz6 a0).2.first)), (zf ((zz6 a0).2.second))]], []))
theorem zLG : zD 49 g49 := zk (zB Tryz.func49 (by kernel_rfl) rfl) (zg fun x0 a0 h0 => zj fun hb => (zTU a0 hb).ats (.cons (zP h0) .nil))
def g6 := zJ (zH (rdS .sConfig) fun a0 => zH (zZ (.sl (.i .u32))) fun a1 => zH (zZ (.sl (.i .u32))) fun a2 => zI ((spc6 a0 a1 a2), .tup [.sl .sOwner ((sp6 a0 a1 a2).1), (zf ((sp6 a0 a1 a2).2))], []))
theorem zSl : zD 6 g6 := zk (zB Tryz.func6 (by kernel_rfl) rfl) (zg fun x0 a0 h0 => zg fun x1 a1 h1 => zg fun x2 a2 h2 => zj fun hb => (oks6 a0 a1 a2 hb).ats (.cons (zP h0) (.cons (zp h1) (.cons (zp h2) .nil))))
def g5 := zJ (zH (rdS .sConfig) fun a0 => zH (zZ (.sl .sBulkheadlaw28Turn)) fun a1 => zI ((zHm a0 a1), .own 0, [.arr 57 (.i .u32) (sp5 a0 a1)]))
theorem zSk : zD 5 g5 := zk (zB Tryz.func5 (by kernel_rfl) rfl) (zg fun x0 a0 h0 => zg fun x1 a1 h1 => zj fun hb => (oks5 a0 a1 hb).ats (.cons (zP h0) (.cons (zp h1) .nil)))
noncomputable def GAL : Gam := zd2 [(49, g49), (6, g6), (5, g5)] GK
theorem zIt : GOk Pr GL GAL := zaH ⟨zLG, zSl, zSk, trivial⟩ zDS
abbrev R25 := Int
def zHQ (r : R25) : zT := ⟨(zf r), []⟩
inductive L25 where | l0 (x0 : Int)
def zSH : L25 -> Nat | .l0 _ => 0
def H25 : zS := htt [] [(0, ⟨z7 [2, 18, 19, 20] 30 0, []⟩)] []
noncomputable def st25 (c : Config) (l_1 : (List (Option MemMemory))) : L25 -> St | .l0 x0 => stt [(2, .ref 0 0), (18, .sl (.p .sMemMemory) l_1), (19, (zf l_1.length)), (20, (zf x0))] 30 [.cells 26 (Ty.enc .sConfig c)] 0
noncomputable def zk7 {R : Type} (ret : R25 -> R) (c : Config) (l_1 : (List (Option MemMemory))) (j : L25 -> Option R) : L25 -> Option R | .l0 x0 =>let y1 := zhA l_1 x0.toNat;  cond (decide (x0 < l_1.length)) (cond (zN x0 l_1.length) ( cond (zgg y1) ( cond (!(((zvp y1) : Int) == c.frames)) (some (ret 1)) (j (.l0 (i64.wrap (x0 + 1))))) none) none) (some (ret 0))
noncomputable def zl1 {R : Type} (ret : R25 -> R) (c : Config) (l_1 : (List (Option MemMemory))) (j : L25 -> Option R) : Option R := cond (zup l_1) ( cond (zCk l_1) (some (ret 3)) (cond (zxQ c) (cond (!(((zz6 c).1 : Int) == 0)) (some (ret 1)) (j (.l0 0))) none)) none
theorem ct25 (c : Config) (l_1 : (List (Option MemMemory))) (l : L25) : CT fun j => zk7 id c l_1 j l := by cases l <;> (dsimp only [zk7]; repeat (first | exact ctJ _ | exact ctK _ | apply ctC))
def zwM (c : Config) (l_1 : (List (Option MemMemory))) : L25 -> Option R25 := lfp (zk7 id c l_1)
theorem zt2 (c : Config) (l_1 : (List (Option MemMemory))) (l : L25) : zwM c l_1 l = zk7 id c l_1 (zwM c l_1) l := zL (ct25 c l_1) l
def zpw (c : Config) (l_1 : (List (Option MemMemory))) : Option R25 := zl1 id c l_1 (zwM c l_1)
def zvn (c : Config) (l_1 : (List (Option MemMemory))) : R25 := (zpw c l_1).getD default
def zpF (c : Config) (l_1 : (List (Option MemMemory))) : Bool := (zpw c l_1).isSome
theorem zTx (c : Config) (l_1 : (List (Option MemMemory))) (hc : zpF c l_1 = true) : Okay Pr GL 25 [.agg (Ty.enc .sConfig c), .sl (.p .sMemMemory) l_1] [] (zHQ (zvn c l_1)) := zG (H := H25) (bod := zk7 id c l_1) (ent := zl1 id c l_1) (bodA := zk7 zHQ c l_1) (entA := zl1 zHQ c l_1) zIt zA Tryz.func25 rfl (by kernel_rfl) zHQ zSH (st25 c l_1) (fun J l => by cases l <;> kernel_rfl) (fun J => by kernel_rfl) (fun s l => by cases l <;> simp only [zk7, zc, zt, zu, id]) (fun s => by simp only [zl1, zc, zt, zu, id]) (ct25 c l_1) (by dsimp only [zl1]; repeat (first | exact ctJ _ | exact ctK _ | apply ctC)) hc
def g25 := zJ (zH (rdS .sConfig) fun a0 => zH (zZ (.sl (.p .sMemMemory))) fun a1 => zI ((zpF a0 a1), (zf (zvn a0 a1)), []))
theorem zLj : zD 25 g25 := zk (zB Tryz.func25 (by kernel_rfl) rfl) (zg fun x0 a0 h0 => zg fun x1 a1 h1 => zj fun hb => (zTx a0 a1 hb).ats (.cons (zP h0) (.cons (zp h1) .nil)))
noncomputable def GM : Gam := zd2 [(25, g25)] GAL
theorem zb6 : GOk Pr GL GM := zaH ⟨zLj, trivial⟩ zIt
theorem Okay.vec {f : FuncId} {args : List AV} {hp' : List Blk} {r : zT} (h : Okay Pr GL f args hp' r) (b : Nat) {e : TypeId} {t : Ty} {m : Nat} {xs : List t.T} {cs : List AV} (hd : zbv t m cs = some xs) {hp : List Blk} (he : hp' = hp.set b (.cells e (zav t m xs))) (hb : hp[b]? = some (.cells e cs)) : Okay Pr GL f args hp r := by
 subst he
 intro F w β vs hh hg hl hv
 have hN : (hp.set b (.cells e (zav t m xs))).length = hp.length := List.length_set
 have := h F w β vs ⟨hh.fb, fun c k hk => ?_, hh.lt, hh.sep, fun c hc => by rw [hN]; exact hh.live c hc⟩ hg hl hv
 . rw [hN] at this; exact this
 . rw [List.getElem?_set] at hk
   split at hk
   . rename_i hbc
     subst hbc
     split at hk
     . cases hk
       obtain ⟨ys, T, h1, h2, h3, h4⟩ := hh.blk b _ hb
       obtain ⟨f1, f2, f3⟩ := zb1 (F := F) (w := w) (β := β) hd
       refine ⟨ys, T, h1, by rw [h2, zg2, f2], h3, fun j hj => ?_⟩
       rw [zg2] at hj
       have hsp := zaV t
       have hq : j / t.sz < m := Nat.div_lt_of_lt_mul (by rw [Nat.mul_comm]; exact hj)
       have hr := Nat.mod_lt j hsp
       have e1 : j / t.sz * t.sz + j % t.sz = j := by rw [Nat.mul_comm]; exact Nat.div_add_mod j t.sz
       have h5 := f3 (j / t.sz) (j % t.sz) hq hr (ys.getD j undef) (by rw [e1]; exact h4 j (by omega))
       rw [← zlk t m xs hq hr, e1] at h5
       exact h5
     . cases hk
   . exact hh.blk c k hk
def nrm (t : Ty) (m : Nat) (xs : List t.T) : List t.T := (List.range m).map (nth xs)
abbrev R15 := Bool
def zHJ (r : R15) : zT := ⟨(zX r), []⟩
inductive L15 where | l0 (x0 : Int)
def zSA : L15 -> Nat | .l0 _ => 0
def H15 : zS := htt [] [(0, ⟨z7 [0, 1, 5] 26 0, []⟩)] []
noncomputable def st15 (a : (List Problem)) (b : (List Problem)) : L15 -> St | .l0 x0 => stt [(0, .sl .sProblem a), (1, .sl .sProblem b), (5, (zf x0))] 26 [] 0
noncomputable def zhB {R : Type} (ret : R15 -> R) (a : (List Problem)) (b : (List Problem)) (j : L15 -> Option R) : L15 -> Option R | .l0 x0 =>let y1 := znV a x0.toNat; let y2 := znV b x0.toNat;  cond (decide (x0 < a.length)) (cond (zN x0 a.length) ( cond (zN x0 b.length) ( cond (!(((y1.kind : Int) == (y2.kind)) && (((y1.index : Int) == (y2.index)) && (((y1.at_ : Int) == (y2.at_)) && true)))) (some (ret false)) (j (.l0 (i64.wrap (x0 + 1))))) none) none) (some (ret true))
noncomputable def zoa {R : Type} (ret : R15 -> R) (a : (List Problem)) (b : (List Problem)) (j : L15 -> Option R) : Option R := cond (!((a.length : Int) == b.length)) (some (ret false)) (j (.l0 0))
theorem ct15 (a : (List Problem)) (b : (List Problem)) (l : L15) : CT fun j => zhB id a b j l := by cases l <;> (dsimp only [zhB]; repeat (first | exact ctJ _ | exact ctK _ | apply ctC))
def zwK (a : (List Problem)) (b : (List Problem)) : L15 -> Option R15 := lfp (zhB id a b)
theorem ztZ (a : (List Problem)) (b : (List Problem)) (l : L15) : zwK a b l = zhB id a b (zwK a b) l := zL (ct15 a b) l
def zwT (a : (List Problem)) (b : (List Problem)) : Option R15 := zoa id a b (zwK a b)
def zvk (a : (List Problem)) (b : (List Problem)) : R15 := (zwT a b).getD default
def znc (a : (List Problem)) (b : (List Problem)) : Bool := (zwT a b).isSome
theorem zTn (a : (List Problem)) (b : (List Problem)) (hc : znc a b = true) : Okay Pr GL 15 [.sl .sProblem a, .sl .sProblem b] [] (zHJ (zvk a b)) := zG (H := H15) (bod := zhB id a b) (ent := zoa id a b) (bodA := zhB zHJ a b) (entA := zoa zHJ a b) zb6 zA Tryz.func15 rfl (by kernel_rfl) zHJ zSA (st15 a b) (fun J l => by cases l <;> kernel_rfl) (fun J => by kernel_rfl) (fun s l => by cases l <;> simp only [zhB, zc, zt, zu, id]) (fun s => by simp only [zoa, zc, zt, zu, id]) (ct15 a b) (by dsimp only [zoa]; repeat (first | exact ctJ _ | exact ctK _ | apply ctC)) hc
abbrev R16 := Unit
def zHK (r : R16) : zT := ⟨.tup [], [.dead]⟩
inductive L16 where | l0 (x0 : Int) (x1 : List Problem) | l4 (x1 : Int) (x0 : List Problem)
def zSB : L16 -> Nat | .l0 _ _ => 0 | .l4 _ _ => 4
def H16 : zS := htt [] [(0, ⟨z7 [0, 2] 25 0, []⟩), (4, ⟨z7 [0, 3] 25 0, [(.slot 0, .mv 86 .sProblem)]⟩)] []
noncomputable def st16 (ls : List Problem) : L16 -> St | .l0 x0 x1 => stt [(0, .own 0), (2, (zf x0))] 25 [.arr 86 .sProblem x1] 1 | .l4 x1 x0 => stt [(0, .own 1), (3, (zf x1))] 25 [.dead, .arr 86 .sProblem x0] 1
noncomputable def zfy {R : Type} (ret : R16 -> R) (ls : List Problem) (j : L16 -> Option R) : L16 -> Option R | .l0 x0 x1 => cond (decide (x0 < x1.length)) (cond (zN x0 x1.length) (j (.l0 (i64.wrap (x0 + 1)) (List.set x1 x0.toNat (⟨(-7), x0, (-7)⟩ : Problem)))) none) (j (.l4 0 x1)) | .l4 x1 x0 =>let y1 := (⟨(i64.wrap (900 + x1)), 0, 0⟩ : Problem);  cond (decide (x1 < 40)) (cond (leB (((x0 : List Problem).length + ([y1] : List Problem).length) * 24) 140737488355328) (j (.l4 (i64.wrap (x1 + 1)) ((x0 : List Problem) ++ [y1]))) none) (some (ret ()))
noncomputable def zsr {R : Type} (ret : R16 -> R) (ls : List Problem) (j : L16 -> Option R) : Option R := j (.l0 0 ls)
theorem ct16 (ls : List Problem) (l : L16) : CT fun j => zfy id ls j l := by cases l <;> (dsimp only [zfy]; repeat (first | exact ctJ _ | exact ctK _ | apply ctC))
def zt0 (ls : List Problem) : L16 -> Option R16 := lfp (zfy id ls)
theorem zij (ls : List Problem) (l : L16) : zt0 ls l = zfy id ls (zt0 ls) l := zL (ct16 ls) l
def zCu (ls : List Problem) : Option R16 := zsr id ls (zt0 ls)
def sp16 (ls : List Problem) : R16 := (zCu ls).getD default
def zxC (ls : List Problem) : Bool := (zCu ls).isSome
theorem zTo (ls : List Problem) (hc : zxC ls = true) : Okay Pr GL 16 [.own 0] [.arr 86 .sProblem ls] (zHK (sp16 ls)) := zG (H := H16) (bod := zfy id ls) (ent := zsr id ls) (bodA := zfy zHK ls) (entA := zsr zHK ls) zb6 zA Tryz.func16 rfl (by kernel_rfl) zHK zSB (st16 ls) (fun J l => by cases l <;> kernel_rfl) (fun J => by kernel_rfl) (fun s l => by cases l <;> simp only [zfy, zc, zt, zu, id]) (fun s => by simp only [zsr, zc, zt, zu, id]) (ct16 ls) (by dsimp only [zsr]; repeat (first | exact ctJ _ | exact ctK _ | apply ctC)) hc
abbrev R18 := Bool
def zHM (r : R18) : zT := ⟨(zX r), []⟩
inductive L18 where | l0 (x0 : Int)
def zSD : L18 -> Nat | .l0 _ => 0
def H18 : zS := htt [] [(0, ⟨z7 [0, 1, 5] 26 0, []⟩)] []
noncomputable def st18 (a : (List Int)) (b : (List Int)) : L18 -> St | .l0 x0 => stt [(0, .sl (.i .u32) a), (1, .sl (.i .u32) b), (5, (zf x0))] 26 [] 0
noncomputable def zhC {R : Type} (ret : R18 -> R) (a : (List Int)) (b : (List Int)) (j : L18 -> Option R) : L18 -> Option R | .l0 x0 => cond (decide (x0 < a.length)) (cond (zN x0 a.length) ( cond (zN x0 b.length) ( cond (!((zx a x0.toNat : Int) == zx b x0.toNat)) (some (ret false)) (j (.l0 (i64.wrap (x0 + 1))))) none) none) (some (ret true))
noncomputable def zoc {R : Type} (ret : R18 -> R) (a : (List Int)) (b : (List Int)) (j : L18 -> Option R) : Option R := cond (!((a.length : Int) == b.length)) (some (ret false)) (j (.l0 0))
theorem ct18 (a : (List Int)) (b : (List Int)) (l : L18) : CT fun j => zhC id a b j l := by cases l <;> (dsimp only [zhC]; repeat (first | exact ctJ _ | exact ctK _ | apply ctC))
def zwL (a : (List Int)) (b : (List Int)) : L18 -> Option R18 := lfp (zhC id a b)
theorem zt1 (a : (List Int)) (b : (List Int)) (l : L18) : zwL a b l = zhC id a b (zwL a b) l := zL (ct18 a b) l
def zwV (a : (List Int)) (b : (List Int)) : Option R18 := zoc id a b (zwL a b)
def zG5 (a : (List Int)) (b : (List Int)) : R18 := (zwV a b).getD default
def zxE (a : (List Int)) (b : (List Int)) : Bool := (zwV a b).isSome
theorem zTq (a : (List Int)) (b : (List Int)) (hc : zxE a b = true) : Okay Pr GL 18 [.sl (.i .u32) a, .sl (.i .u32) b] [] (zHM (zG5 a b)) := zG (H := H18) (bod := zhC id a b) (ent := zoc id a b) (bodA := zhC zHM a b) (entA := zoc zHM a b) zb6 zA Tryz.func18 rfl (by kernel_rfl) zHM zSD (st18 a b) (fun J l => by cases l <;> kernel_rfl) (fun J => by kernel_rfl) (fun s l => by cases l <;> simp only [zhC, zc, zt, zu, id]) (fun s => by simp only [zoc, zc, zt, zu, id]) (ct18 a b) (by dsimp only [zoc]; repeat (first | exact ctJ _ | exact ctK _ | apply ctC)) hc
abbrev R19 := (List Int)
def zOU (r : R19) : zT := ⟨.sl (.i .u32) r, []⟩
def H19 : zS := ⟨fun _ => false, fun _ => ⟨[], []⟩, [(.slot 0, .sl (.i .u32))], G0, zc7⟩
noncomputable def zss {R : Type} (ret : R19 -> R) (m : (Option MemMemory)) : Option R := cond m.isNone (some (ret [])) (cond m.isSome (cond (znl ((m.getD default).words)) (some (ret (zvm ((m.getD default).words)))) none) none)
def zwW (m : (Option MemMemory)) : Option R19 := zss id m
def zCf (m : (Option MemMemory)) : R19 := (zwW m).getD default
def zxF (m : (Option MemMemory)) : Bool := (zwW m).isSome
theorem zTr (m : (Option MemMemory)) (hc : zxF m = true) : Okay Pr GL 19 [.op .sMemMemory m] [] (zOU (zCf m)) := zy (H := H19) (ent := zss id m) (entA := zss zOU m) zb6 zA Tryz.func19 rfl (by kernel_rfl) zOU (fun J => by kernel_rfl) (by simp only [zss, zc, zt, zu, id]) hc
abbrev R31 := Int
def zOY (r : R31) : zT := ⟨(avU r), []⟩
noncomputable def zsy {R : Type} (ret : R31 -> R) (m : (List Int)) (at_1 : Int) : Option R := cond (zN at_1 m.length) ( cond (zN (i64.wrap (at_1 + 1)) m.length) (some (ret (u32.wrap (zx m at_1.toNat - zx m ((i64.wrap (at_1 + 1)).toNat))))) none) none
def zwZ (m : (List Int)) (at_1 : Int) : Option R31 := zsy id m at_1
def zCh (m : (List Int)) (at_1 : Int) : R31 := (zwZ m at_1).getD default
def zuo (m : (List Int)) (at_1 : Int) : Bool := (zwZ m at_1).isSome
theorem zTC (m : (List Int)) (at_1 : Int) (hc : zuo m at_1 = true) : Okay Pr GL 31 [.sl (.i .u32) m, (zf at_1)] [] (zOY (zCh m at_1)) := zy (H := H57) (ent := zsy id m at_1) (entA := zsy zOY m at_1) zb6 zA Tryz.func31 rfl (by kernel_rfl) zOY (fun J => by kernel_rfl) (by simp only [zsy, zc, zt, zu, id]) hc
abbrev R32 := Int
def zHU (r : R32) : zT := ⟨(zf r), []⟩
inductive L32 where | l0 (x0 : Int)
def zSL : L32 -> Nat | .l0 _ => 0
def H32 : zS := htt [] [(0, ⟨z7 [2, 3, 10, 11] 40 0, []⟩)] []
noncomputable def st32 (c : Config) (p : Int) (at_2 : Int) (m : (List Int)) : L32 -> St | .l0 x0 => stt [(2, (zf at_2)), (3, .sl (.i .u32) m), (10, .ref 0 0), (11, (zf x0))] 40 [.cells 138 [(zf 3), (zf ((za c.partitions p.toNat).restarts)), (zf 6), (zf 4294967295), (zf ((za c.partitions p.toNat).outputs))]] 0
noncomputable def zhD {R : Type} (ret : R32 -> R) (c : Config) (p : Int) (at_2 : Int) (m : (List Int)) (j : L32 -> Option R) : L32 -> Option R | .l0 x0 =>let y1 := i64.wrap (at_2 + x0); let y2 := za c.partitions p.toNat;  cond (decide (x0 < 5)) (cond (zN y1 m.length) ( cond (zN x0 5) ( cond (decide (((i64.wrap (zx m (y1.toNat))) : Int) > zx ([3, y2.restarts, 6, 4294967295, y2.outputs] : List Int) x0.toNat)) (some (ret y1)) (j (.l0 (i64.wrap (x0 + 1))))) none) none) (some (ret (-1)))
noncomputable def zoe {R : Type} (ret : R32 -> R) (c : Config) (p : Int) (at_2 : Int) (m : (List Int)) (j : L32 -> Option R) : Option R := cond (zN p c.partitions.length) (j (.l0 0)) none
theorem ct32 (c : Config) (p : Int) (at_2 : Int) (m : (List Int)) (l : L32) : CT fun j => zhD id c p at_2 m j l := by cases l <;> (dsimp only [zhD]; repeat (first | exact ctJ _ | exact ctK _ | apply ctC))
def zwN (c : Config) (p : Int) (at_2 : Int) (m : (List Int)) : L32 -> Option R32 := lfp (zhD id c p at_2 m)
theorem zt3 (c : Config) (p : Int) (at_2 : Int) (m : (List Int)) (l : L32) : zwN c p at_2 m l = zhD id c p at_2 m (zwN c p at_2 m) l := zL (ct32 c p at_2 m) l
def zw0 (c : Config) (p : Int) (at_2 : Int) (m : (List Int)) : Option R32 := zoe id c p at_2 m (zwN c p at_2 m)
def zCi (c : Config) (p : Int) (at_2 : Int) (m : (List Int)) : R32 := (zw0 c p at_2 m).getD default
def zxG (c : Config) (p : Int) (at_2 : Int) (m : (List Int)) : Bool := (zw0 c p at_2 m).isSome
theorem zTD (c : Config) (p : Int) (at_2 : Int) (m : (List Int)) (hc : zxG c p at_2 m = true) : Okay Pr GL 32 [.agg (Ty.enc .sConfig c), (zf p), (zf at_2), .sl (.i .u32) m] [] (zHU (zCi c p at_2 m)) := zG (H := H32) (bod := zhD id c p at_2 m) (ent := zoe id c p at_2 m) (bodA := zhD zHU c p at_2 m) (entA := zoe zHU c p at_2 m) zb6 zA Tryz.func32 rfl (by kernel_rfl) zHU zSL (st32 c p at_2 m) (fun J l => by cases l <;> kernel_rfl) (fun J => by kernel_rfl) (fun s l => by cases l <;> simp only [zhD, zc, zt, zu, id]) (fun s => by simp only [zoe, zc, zt, zu, id]) (ct32 c p at_2 m) (by dsimp only [zoe]; repeat (first | exact ctJ _ | exact ctK _ | apply ctC)) hc
abbrev R35 := (List Problem)
def zHV (r : R35) : zT := ⟨.own 1, [.dead, .arr 86 .sProblem r]⟩
inductive L35 where | l0 (x0 : Int) (x1 : List Problem) | l4 (x0 : Int) (x2 : Int) (x3 : List Problem) (x1 : List Int) | l8 (x0 : Int) (x1 : Int) (x3 : Int) (x4 : List Problem) (x2 : List Int) | l25 (x0 : Int) (x3 : Int) (x4 : Int) (x1 : List Problem) (x2 : List Int)
def zSM : L35 -> Nat | .l0 _ _ => 0 | .l4 _ _ _ _ => 4 | .l8 _ _ _ _ _ => 8 | .l25 _ _ _ _ _ => 25
def H35 : zS := htt [12] [(0, ⟨z7 [2, 3, 5, 9, 12] 78 0, [(.slot 3, .mv 86 .sProblem)]⟩), (4, ⟨z7 [2, 3, 5, 9, 12, 13, 14] 78 0, [(.slot 3, .mv 86 .sProblem)]⟩), (8, ⟨z7 [2, 3, 5, 9, 12, 13, 14, 15] 78 0, [(.slot 3, .mv 86 .sProblem)]⟩), (25, ⟨z7 [2, 3, 5, 9, 12, 13, 14, 15] 78 0, [(.slot 3, .mv 86 .sProblem)]⟩)] []
noncomputable def st35 (c : Config) (lay : Layout) (m : (List Int)) (out : List Problem) : L35 -> St | .l0 x0 x1 => stt [(2, .sl (.i .u32) m), (3, .own 1), (5, .ref 2 0), (9, .own 3), (12, (zf x0))] 78 [.dead, .arr 86 .sProblem x1, .cells 82 (Ty.enc .sLayout lay), .arr 57 (.i .u32) ((zho c []).1)] 1 | .l4 x0 x2 x3 x1 => stt [(2, .sl (.i .u32) m), (3, .own 1), (5, .ref 2 0), (9, .own 3), (12, (zf x0)), (13, .own 4), (14, (zf x2))] 78 [.dead, .arr 86 .sProblem x3, .cells 82 (Ty.enc .sLayout lay), .arr 57 (.i .u32) ((zho c []).1), .arr 3 (.i .i64) x1] 1 | .l8 x0 x1 x3 x4 x2 => stt [(2, .sl (.i .u32) m), (3, .own 1), (5, .ref 2 0), (9, .own 3), (12, (zf x0)), (13, .own 4), (14, (zf x1)), (15, (zf x3))] 78 [.dead, .arr 86 .sProblem x4, .cells 82 (Ty.enc .sLayout lay), .arr 57 (.i .u32) ((zho c []).1), .arr 3 (.i .i64) x2] 1 | .l25 x0 x3 x4 x1 x2 => stt [(2, .sl (.i .u32) m), (3, .own 1), (5, .ref 2 0), (9, .own 3), (12, (zf x0)), (13, .own 4), (14, (zf x3)), (15, (zf x4))] 78 [.dead, .arr 86 .sProblem x1, .cells 82 (Ty.enc .sLayout lay), .arr 57 (.i .u32) ((zho c []).1), .arr 3 (.i .i64) x2] 1
noncomputable def zdO {R : Type} (ret : R35 -> R) (c : Config) (lay : Layout) (m : (List Int)) (out : List Problem) (j : L35 -> Option R) : L35 -> Option R | .l0 x0 x1 =>let y1 := zb lay.partitions x0.toNat; let y2 := zN x0 lay.partitions.length; let y3 := ([y1.root] : List Int);  cond (decide (x0 < lay.partitions.length)) (cond y2 ( cond y2 ( cond (leB ((y3.length + (y1.tables : List Int).length) * 8) 140737488355328) ( j (.l4 x0 0 x1 (y3 ++ y1.tables))) none) none) none) (some (ret x1)) | .l4 x0 x2 x3 x1 => cond (decide (x2 < x1.length)) (j (.l8 x0 x2 0 x3 x1)) (j (.l0 (i64.wrap (x0 + 1)) x3)) | .l8 x0 x1 x3 x4 x2 =>let y1 := i64.wrap ((i64.wrap (zx x2 x1.toNat * 16)) + x3); let y2 := (⟨1, x0, y1⟩ : Problem);  cond (decide (x3 < 16)) (cond (zN x1 x2.length) ( cond (zN y1 m.length) ( cond (zN y1 ((zho c []).1).length) ( cond (!((zx m (y1.toNat) : Int) == zx ((zho c []).1) (y1.toNat))) (cond (leB (((x4 : List Problem).length + ([y2] : List Problem).length) * 24) 140737488355328) ( j (.l25 x0 x1 x3 ((x4 : List Problem) ++ [y2]) x2)) none) (j (.l25 x0 x1 x3 x4 x2))) none) none) none) (j (.l4 x0 (i64.wrap (x1 + 1)) x4 x2)) | .l25 x0 x3 x4 x1 x2 => j (.l8 x0 x3 (i64.wrap (x4 + 1)) x1 x2)
noncomputable def zof {R : Type} (ret : R35 -> R) (c : Config) (lay : Layout) (m : (List Int)) (out : List Problem) (j : L35 -> Option R) : Option R := cond (znj c []) (j (.l0 0 out)) none
theorem ct35 (c : Config) (lay : Layout) (m : (List Int)) (out : List Problem) (l : L35) : CT fun j => zdO id c lay m out j l := by cases l <;> (dsimp only [zdO]; repeat (first | exact ctJ _ | exact ctK _ | apply ctC))
def zbM (c : Config) (lay : Layout) (m : (List Int)) (out : List Problem) : L35 -> Option R35 := lfp (zdO id c lay m out)
theorem zdE (c : Config) (lay : Layout) (m : (List Int)) (out : List Problem) (l : L35) : zbM c lay m out l = zdO id c lay m out (zbM c lay m out) l := zL (ct35 c lay m out) l
def zw3 (c : Config) (lay : Layout) (m : (List Int)) (out : List Problem) : Option R35 := zof id c lay m out (zbM c lay m out)
def zG8 (c : Config) (lay : Layout) (m : (List Int)) (out : List Problem) : R35 := (zw3 c lay m out).getD default
def zxJ (c : Config) (lay : Layout) (m : (List Int)) (out : List Problem) : Bool := (zw3 c lay m out).isSome
theorem zTG (c : Config) (lay : Layout) (m : (List Int)) (out : List Problem) (hc : zxJ c lay m out = true) : Okay Pr GL 35 [.agg (Ty.enc .sConfig c), .agg (Ty.enc .sLayout lay), .sl (.i .u32) m, .own 0] [.arr 86 .sProblem out] (zHV (zG8 c lay m out)) := zG (H := H35) (bod := zdO id c lay m out) (ent := zof id c lay m out) (bodA := zdO zHV c lay m out) (entA := zof zHV c lay m out) zb6 zA Tryz.func35 rfl (by kernel_rfl) zHV zSM (st35 c lay m out) (fun J l => by cases l <;> kernel_rfl) (fun J => by kernel_rfl) (fun s l => by cases l <;> simp only [zdO, zc, zt, zu, id]) (fun s => by simp only [zof, zc, zt, zu, id]) (ct35 c lay m out) (by dsimp only [zof]; repeat (first | exact ctJ _ | exact ctK _ | apply ctC)) hc
abbrev R74 := Int
def zPh (r : R74) : zT := ⟨(avU r), []⟩
noncomputable def zsT {R : Type} (ret : R74 -> R) (f : (Option AuditFinder)) (at_1 : Int) : Option R := cond f.isSome (cond (zgh ((f.getD default).m) at_1) (some (ret ((zjA ((f.getD default).m) at_1).1))) none) none
def zxm (f : (Option AuditFinder)) (at_1 : Int) : Option R74 := zsT id f at_1
def zii (f : (Option AuditFinder)) (at_1 : Int) : R74 := (zxm f at_1).getD default
def zdT (f : (Option AuditFinder)) (at_1 : Int) : Bool := (zxm f at_1).isSome
theorem zUi (f : (Option AuditFinder)) (at_1 : Int) (hc : zdT f at_1 = true) : Okay Pr GL 74 [.op .sAuditFinder f, (zf at_1)] [] (zPh (zii f at_1)) := zy (H := H57) (ent := zsT id f at_1) (entA := zsT zPh f at_1) zb6 zA Tryz.func74 rfl (by kernel_rfl) zPh (fun J => by kernel_rfl) (by simp only [zsT, zc, zt, zu, id]) hc
abbrev R75 := AuditFinder
def zPi (r : R75) : zT := ⟨.tup [], [.cells 103 [(zf r.c.frames), (zf r.c.major), (zf r.c.kernel), (zf r.c.room), .sl (.sl .sWindow) r.c.cores, .sl .sPartition r.c.partitions, .sl .sChannel r.c.channels, (zf r.l.barrier), .sl .sPartitionPlace r.l.partitions, .sl .sChannelPlace r.l.channels, (zf r.l.end_), .op .sMemMemory r.m, .own 2], .dead, .arr 86 .sProblem r.out]⟩
def H75 : zS := ⟨fun _ => false, fun _ => ⟨[], []⟩, [(.box 0 12, .mv 86 .sProblem)], G0, zc7⟩
noncomputable def zsU {R : Type} (ret : R75 -> R) (ls : (List Problem)) (c : Config) (lay : Layout) (m : (Option MemMemory)) (out : List Problem) : Option R := cond (leB (((out : List Problem).length + (ls : List Problem).length) * 24) 140737488355328) ( some (ret (⟨(⟨c.frames, c.major, c.kernel, c.room, c.cores, c.partitions, c.channels⟩ : Config), (⟨lay.barrier, lay.partitions, lay.channels, lay.end_⟩ : Layout), m, ((out : List Problem) ++ ls)⟩ : AuditFinder))) none
def zxn (ls : (List Problem)) (c : Config) (lay : Layout) (m : (Option MemMemory)) (out : List Problem) : Option R75 := zsU id ls c lay m out
def zcP (ls : (List Problem)) (c : Config) (lay : Layout) (m : (Option MemMemory)) (out : List Problem) : R75 := (zxn ls c lay m out).getD default
def zey (ls : (List Problem)) (c : Config) (lay : Layout) (m : (Option MemMemory)) (out : List Problem) : Bool := (zxn ls c lay m out).isSome
theorem zUj (ls : (List Problem)) (c : Config) (lay : Layout) (m : (Option MemMemory)) (out : List Problem) (hc : zey ls c lay m out = true) : Okay Pr GL 75 [.ref 0 0, .sl .sProblem ls] [.cells 103 (avF c lay m 1), .arr 86 .sProblem out] (zPi (zcP ls c lay m out)) := zy (H := H75) (ent := zsU id ls c lay m out) (entA := zsU zPi ls c lay m out) zb6 zA Tryz.func75 rfl (by kernel_rfl) zPi (fun J => by kernel_rfl) (by simp only [zsU, zc, zt, zu, id]) hc
abbrev R84 := MemMemory × Int
def zPr (r : R84) : zT := ⟨.tup [.ref 0 0, (zf r.2)], [.cells 65 [.own 1], .arr 57 (.i .u32) r.1.words]⟩
def H84 : zS := ⟨fun _ => false, fun _ => ⟨[], []⟩, [(.slot 0, .fnc)], G0, zc7⟩
noncomputable def zs3 {R : Type} (ret : R84 -> R) (frames : Int) : Option R := cond (decide ((frames : Int) < 1)) (none) (cond (decide ((frames : Int) > 1024)) (none) (cond (decide (((i64.wrap (frames * 16)) : Int) = (i64.wrap (frames * 16))) && decide (0 <= (i64.wrap (frames * 16))) && leB ((i64.wrap (frames * 16)).toNat * 4) 140737488355328) ( some (ret ((⟨(List.replicate (List.replicate (i64.wrap (frames * 16)).toNat (0 : Int)).length (0 : Int))⟩ : MemMemory), 0))) none))
def zxw (frames : Int) : Option R84 := zs3 id frames
def zqm (frames : Int) : R84 := (zxw frames).getD default
def zx5 (frames : Int) : Bool := (zxw frames).isSome
theorem zUs (frames : Int) (hc : zx5 frames = true) : Okay Pr GL 84 [(zf frames)] [] (zPr (zqm frames)) := zy (H := H84) (ent := zs3 id frames) (entA := zs3 zPr frames) zb6 zA Tryz.func84 rfl (by kernel_rfl) zPr (fun J => by kernel_rfl) (by simp only [zs3, zc, zt, zu, id]) hc
abbrev zDW := Bool
def zC0 (r : zDW) : zT := ⟨(zX r), []⟩
noncomputable def ziL {R : Type} (ret : zDW -> R) (m : (List Int)) (at_1 : Int) (n_2 : Int) : Option R := cond (decide ((at_1 : Int) >= 0)) (cond (decide ((at_1 : Int) <= m.length)) (some (ret (decide ((n_2 : Int) <= (i64.wrap (m.length - at_1)))))) (some (ret false))) (some (ret false))
def zjM (m : (List Int)) (at_1 : Int) (n_2 : Int) : Option zDW := ziL id m at_1 n_2
def zmz (m : (List Int)) (at_1 : Int) (n_2 : Int) : zDW := (zjM m at_1 n_2).getD default
theorem zGF (m : (List Int)) (at_1 : Int) (n_2 : Int) : zjM m at_1 n_2 = some (zmz m at_1 n_2) := zC (show (zjM m at_1 n_2).isSome = true by simp only [zjM, ziL, zF, Option.isSome_some, zO])
theorem zNo (m : (List Int)) (at_1 : Int) (n_2 : Int) : Okay Pr GL 107 [.sl (.i .u32) m, (zf at_1), (zf n_2)] [] (zC0 (zmz m at_1 n_2)) := zy (H := H57) (ent := ziL id m at_1 n_2) (entA := ziL zC0 m at_1 n_2) zb6 zA Tryz.func107 rfl (by kernel_rfl) zC0 (fun J => by kernel_rfl) (by simp only [ziL, zc, zt, zu, id]) (show (zjM m at_1 n_2).isSome = true by rw [zGF]; rfl)
abbrev zDX := Int
def zC1 (r : zDX) : zT := ⟨(zf r), []⟩
noncomputable def zlq {R : Type} (ret : zDX -> R) (words : Int) (depth : Int) : Option R := some (ret (i64.wrap (1 + (i64.wrap (depth * (i64.wrap (1 + words)))))))
def zmS (words : Int) (depth : Int) : Option zDX := zlq id words depth
def ztL (words : Int) (depth : Int) : zDX := (zmS words depth).getD default
theorem zGG (words : Int) (depth : Int) : zmS words depth = some (ztL words depth) := zC (show (zmS words depth).isSome = true by simp only [zmS, zlq, zF, Option.isSome_some, zO])
theorem zNp (words : Int) (depth : Int) : Okay Pr GL 108 [(zf words), (zf depth)] [] (zC1 (ztL words depth)) := zy (H := H57) (ent := zlq id words depth) (entA := zlq zC1 words depth) zb6 zA Tryz.func108 rfl (by kernel_rfl) zC1 (fun J => by kernel_rfl) (by simp only [zlq, zc, zt, zu, id]) (show (zmS words depth).isSome = true by rw [zGG]; rfl)
abbrev zDY := Int
def zC2 (r : zDY) : zT := ⟨(zf r), []⟩
noncomputable def ziN {R : Type} (ret : zDY -> R) (m : (Option Bulkheadref05Memory)) (words : Int) : Option R := cond m.isNone (some (ret 3)) (cond (decide ((words : Int) < 1)) (some (ret 1)) (cond (decide ((words : Int) > 16)) (some (ret 1)) (some (ret 0))))
def zjN (m : (Option Bulkheadref05Memory)) (words : Int) : Option zDY := ziN id m words
def zib (m : (Option Bulkheadref05Memory)) (words : Int) : zDY := (zjN m words).getD default
theorem zGH (m : (Option Bulkheadref05Memory)) (words : Int) : zjN m words = some (zib m words) := zC (show (zjN m words).isSome = true by simp only [zjN, ziN, zF, Option.isSome_some, zO])
theorem zNr (m : (Option Bulkheadref05Memory)) (words : Int) : Okay Pr GL 110 [.op .sBulkheadref05Memory m, (zf words)] [] (zC2 (zib m words)) := zy (H := H57) (ent := ziN id m words) (entA := ziN zC2 m words) zb6 zA Tryz.func110 rfl (by kernel_rfl) zC2 (fun J => by kernel_rfl) (by simp only [ziN, zc, zt, zu, id]) (show (zjN m words).isSome = true by rw [zGH]; rfl)
abbrev zDZ := Int
def zC3 (r : zDZ) : zT := ⟨(zf r), []⟩
noncomputable def zlr {R : Type} (ret : zDZ -> R) (words : Int) (depth : Int) : Option R := some (ret (i64.wrap (3 + (i64.wrap (depth * (i64.wrap (1 + words)))))))
def zmT (words : Int) (depth : Int) : Option zDZ := zlr id words depth
def ztM (words : Int) (depth : Int) : zDZ := (zmT words depth).getD default
theorem zGI (words : Int) (depth : Int) : zmT words depth = some (ztM words depth) := zC (show (zmT words depth).isSome = true by simp only [zmT, zlr, zF, Option.isSome_some, zO])
theorem zNu (words : Int) (depth : Int) : Okay Pr GL 113 [(zf words), (zf depth)] [] (zC3 (ztM words depth)) := zy (H := H57) (ent := zlr id words depth) (entA := zlr zC3 words depth) zb6 zA Tryz.func113 rfl (by kernel_rfl) zC3 (fun J => by kernel_rfl) (by simp only [zlr, zc, zt, zu, id]) (show (zmT words depth).isSome = true by rw [zGI]; rfl)
abbrev zD1 := Int
def zC5 (r : zD1) : zT := ⟨(zf r), []⟩
noncomputable def ziR {R : Type} (ret : zD1 -> R) (m : (Option MemMemory)) (f : QueueForm) : Option R := cond m.isNone (some (ret 3)) (cond (decide ((f.words : Int) < 1)) (some (ret 1)) (cond (decide ((f.words : Int) > 16)) (some (ret 1)) (cond (decide ((f.depth : Int) < 1)) (some (ret 1)) (cond (decide ((f.depth : Int) > 8)) (some (ret 1)) (some (ret 0))))))
def zjO (m : (Option MemMemory)) (f : QueueForm) : Option zD1 := ziR id m f
def zic (m : (Option MemMemory)) (f : QueueForm) : zD1 := (zjO m f).getD default
theorem zGK (m : (Option MemMemory)) (f : QueueForm) : zjO m f = some (zic m f) := zC (show (zjO m f).isSome = true by simp only [zjO, ziR, zF, Option.isSome_some, zO])
theorem zNx (m : (Option MemMemory)) (f : QueueForm) : Okay Pr GL 116 [.op .sMemMemory m, .agg [(zf f.words), (zf f.depth)]] [] (zC5 (zic m f)) := zy (H := H57) (ent := ziR id m f) (entA := ziR zC5 m f) zb6 zA Tryz.func116 rfl (by kernel_rfl) zC5 (fun J => by kernel_rfl) (by simp only [ziR, zc, zt, zu, id]) (show (zjO m f).isSome = true by rw [zGK]; rfl)
abbrev zD4 := Int
def zC8 (r : zD4) : zT := ⟨(zf r), []⟩
noncomputable def ziS {R : Type} (ret : zD4 -> R) (m : (Option MemMemory)) (words : Int) : Option R := cond m.isNone (some (ret 3)) (cond (decide ((words : Int) < 1)) (some (ret 1)) (cond (decide ((words : Int) > 16)) (some (ret 1)) (some (ret 0))))
def zjP (m : (Option MemMemory)) (words : Int) : Option zD4 := ziS id m words
def zid (m : (Option MemMemory)) (words : Int) : zD4 := (zjP m words).getD default
theorem zGL (m : (Option MemMemory)) (words : Int) : zjP m words = some (zid m words) := zC (show (zjP m words).isSome = true by simp only [zjP, ziS, zF, Option.isSome_some, zO])
theorem zNA (m : (Option MemMemory)) (words : Int) : Okay Pr GL 119 [.op .sMemMemory m, (zf words)] [] (zC8 (zid m words)) := zy (H := H57) (ent := ziS id m words) (entA := ziS zC8 m words) zb6 zA Tryz.func119 rfl (by kernel_rfl) zC8 (fun J => by kernel_rfl) (by simp only [ziS, zc, zt, zu, id]) (show (zjP m words).isSome = true by rw [zGL]; rfl)
abbrev zD6 := Bool
def zDa (r : zD6) : zT := ⟨(zX r), []⟩
noncomputable def ziU {R : Type} (ret : zD6 -> R) (m : (Option MemMemory)) (frame : Int) : Option R := cond (decide ((frame : Int) >= 0)) (cond (zgg m) (some (ret (decide ((frame : Int) < (zvp m))))) none) (some (ret false))
def zmV (m : (Option MemMemory)) (frame : Int) : Option zD6 := ziU id m frame
def zdA (m : (Option MemMemory)) (frame : Int) : zD6 := (zmV m frame).getD default
def zge (m : (Option MemMemory)) (frame : Int) : Bool := (zmV m frame).isSome
theorem zND (m : (Option MemMemory)) (frame : Int) (hc : zge m frame = true) : Okay Pr GL 122 [.op .sMemMemory m, (zf frame)] [] (zDa (zdA m frame)) := zy (H := H57) (ent := ziU id m frame) (entA := ziU zDa m frame) zb6 zA Tryz.func122 rfl (by kernel_rfl) zDa (fun J => by kernel_rfl) (by simp only [ziU, zc, zt, zu, id]) hc
abbrev zD7 := Int × Int
def zDb (r : zD7) : zT := ⟨.tup [(avU r.1), (zf r.2)], []⟩
noncomputable def ziW {R : Type} (ret : zD7 -> R) (frame : Int) (rights : Int) : Option R := cond (decide ((frame : Int) < 0)) (some (ret (0, 90))) (cond (decide ((frame : Int) >= 1024)) (some (ret (0, 90))) (cond (decide ((rights : Int) < 0)) (some (ret (0, 90))) (cond (decide ((rights : Int) > 7)) (some (ret (0, 90))) (some (ret ((bop .or .u32 (bop .or .u32 2147483648 (bop .shl .u32 (u32.wrap frame) 3)) (u32.wrap rights)), 0))))))
def zjQ (frame : Int) (rights : Int) : Option zD7 := ziW id frame rights
def zks (frame : Int) (rights : Int) : zD7 := (zjQ frame rights).getD default
theorem zGM (frame : Int) (rights : Int) : zjQ frame rights = some (zks frame rights) := zC (show (zjQ frame rights).isSome = true by simp only [zjQ, ziW, zF, Option.isSome_some, zO])
theorem zNF (frame : Int) (rights : Int) : Okay Pr GL 125 [(zf frame), (zf rights)] [] (zDb (zks frame rights)) := zy (H := H57) (ent := ziW id frame rights) (entA := ziW zDb frame rights) zb6 zA Tryz.func125 rfl (by kernel_rfl) zDb (fun J => by kernel_rfl) (by simp only [ziW, zc, zt, zu, id]) (show (zjQ frame rights).isSome = true by rw [zGM]; rfl)
abbrev zza := Int × MemMemory
def zyt (r : zza) : zT := ⟨(zf r.1), [.cells 65 [.own 1], .arr 57 (.i .u32) r.2.words]⟩
inductive zrV where | l9 (x0 : List Int)
def zMW : zrV -> Nat | .l9 _ => 9
def H126 : zS := htt [4] [(9, ⟨z7 [7] 24 0, []⟩)] []
noncomputable def zVi (pl : Int) (words : (List Int)) (ws : List Int) : zrV -> St | .l9 x0 => stt [(7, (zf (zfp (some (⟨ws⟩ : MemMemory)) pl words.length)))] 24 [.cells 65 [.own 1], .arr 57 (.i .u32) x0] 2
noncomputable def zfw {R : Type} (ret : zza -> R) (pl : Int) (words : (List Int)) (ws : List Int) (j : zrV -> Option R) : zrV -> Option R | .l9 x0 => some (ret ((zfp (some (⟨ws⟩ : MemMemory)) pl words.length), (⟨x0⟩ : MemMemory)))
noncomputable def ziX {R : Type} (ret : zza -> R) (pl : Int) (words : (List Int)) (ws : List Int) (j : zrV -> Option R) : Option R := cond (zgf (some (⟨ws⟩ : MemMemory)) pl words.length) ( cond (((zfp (some (⟨ws⟩ : MemMemory)) pl words.length) : Int) == 0) (cond (inS pl ws.length ws.length) (j (.l9 (zfd ws pl.toNat (List.take ((ws.length : Int).toNat - pl.toNat) (words : List Int))))) none) (j (.l9 ws))) none
theorem zJm (pl : Int) (words : (List Int)) (ws : List Int) (l : zrV) : CT fun j => zfw id pl words ws j l := by cases l <;> (dsimp only [zfw]; repeat (first | exact ctJ _ | exact ctK _ | apply ctC))
def zvz (pl : Int) (words : (List Int)) (ws : List Int) : zrV -> Option zza := lfp (zfw id pl words ws)
theorem zAb (pl : Int) (words : (List Int)) (ws : List Int) (l : zrV) : zvz pl words ws l = zfw id pl words ws (zvz pl words ws) l := zL (zJm pl words ws) l
def zqI (pl : Int) (words : (List Int)) (ws : List Int) : Option zza := ziX id pl words ws (zvz pl words ws)
def zkt (pl : Int) (words : (List Int)) (ws : List Int) : zza := (zqI pl words ws).getD default
def zjZ (pl : Int) (words : (List Int)) (ws : List Int) : Bool := (zqI pl words ws).isSome
theorem zNG (pl : Int) (words : (List Int)) (ws : List Int) (hc : zjZ pl words ws = true) : Okay Pr GL 126 [.ref 0 0, (zf pl), .sl (.i .u32) words] [.cells 65 [.own 1], .arr 57 (.i .u32) ws] (zyt (zkt pl words ws)) := zG (H := H126) (bod := zfw id pl words ws) (ent := ziX id pl words ws) (bodA := zfw zyt pl words ws) (entA := ziX zyt pl words ws) zb6 zA Tryz.func126 rfl (by kernel_rfl) zyt zMW (zVi pl words ws) (fun J l => by cases l <;> kernel_rfl) (fun J => by kernel_rfl) (fun s l => by cases l <;> simp only [zfw, zc, zt, zu, id]) (fun s => by simp only [ziX, zc, zt, zu, id]) (zJm pl words ws) (by dsimp only [ziX]; repeat (first | exact ctJ _ | exact ctK _ | apply ctC)) hc
abbrev zzh := (List Int) × Int
def zyA (r : zzh) : zT := ⟨.tup [.sl (.i .u32) r.1, (zf r.2)], []⟩
inductive zr2 where | l0 (x0 : Int) | l4 (x0 : Int) (x1 : List Int)
def zM3 : zr2 -> Nat | .l0 _ => 0 | .l4 _ _ => 4
def H149 : zS := htt [] [(0, ⟨z7 [0, 1, 2, 8, 9] 53 0, []⟩), (4, ⟨z7 [0, 1, 8, 10, 11] 53 0, []⟩)] [(.slot 0, .sl (.i .u32))]
noncomputable def zVp (m : (List Int)) (at_1 : Int) (words : Int) : zr2 -> St | .l0 x0 => stt [(0, .sl (.i .u32) m), (1, (zf at_1)), (2, (zf words)), (8, (zf (i64.wrap (zx m at_1.toNat)))), (9, (zf x0))] 53 [] 0 | .l4 x0 x1 => stt [(0, .sl (.i .u32) m), (1, (zf at_1)), (8, (zf (i64.wrap (zx m at_1.toNat)))), (10, .own 0), (11, (zf x0))] 53 [.arr 57 (.i .u32) x1] 0
noncomputable def zdn {R : Type} (ret : zzh -> R) (m : (List Int)) (at_1 : Int) (words : Int) (j : zr2 -> Option R) : zr2 -> Option R | .l0 x0 =>let y1 := i64.wrap (zx m at_1.toNat); let y2 := i64.wrap ((i64.wrap (at_1 + 1)) + x0);  cond (decide (x0 < words)) (cond (zN y2 m.length) ( cond (!((zx m (y2.toNat) : Int) == 0)) (some (ret ([], (-1)))) (j (.l0 (i64.wrap (x0 + 1))))) none) (cond (decide ((y1 : Int) = y1) && decide (0 <= y1) && leB (y1.toNat * 4) 140737488355328) (j (.l4 0 (List.replicate y1.toNat (0 : Int)))) none) | .l4 x0 x1 =>let y1 := i64.wrap ((i64.wrap (at_1 + 1)) + x0); let y2 := i64.wrap (zx m at_1.toNat);  cond (decide (x0 < y2)) (cond (zN y1 m.length) ( cond (zN x0 x1.length) ( j (.l4 (i64.wrap (x0 + 1)) (List.set x1 x0.toNat (zx m (y1.toNat))))) none) none) (some (ret (x1, y2)))
noncomputable def zi8 {R : Type} (ret : zzh -> R) (m : (List Int)) (at_1 : Int) (words : Int) (j : zr2 -> Option R) : Option R := cond (zN at_1 m.length) ( cond (decide (((i64.wrap (zx m at_1.toNat)) : Int) > words)) (some (ret ([], (-1)))) (j (.l0 (i64.wrap (zx m at_1.toNat))))) none
theorem zJt (m : (List Int)) (at_1 : Int) (words : Int) (l : zr2) : CT fun j => zdn id m at_1 words j l := by cases l <;> (dsimp only [zdn]; repeat (first | exact ctJ _ | exact ctK _ | apply ctC))
def zf8 (m : (List Int)) (at_1 : Int) (words : Int) : zr2 -> Option zzh := lfp (zdn id m at_1 words)
theorem zgC (m : (List Int)) (at_1 : Int) (words : Int) (l : zr2) : zf8 m at_1 words l = zdn id m at_1 words (zf8 m at_1 words) l := zL (zJt m at_1 words) l
def zqS (m : (List Int)) (at_1 : Int) (words : Int) : Option zzh := zi8 id m at_1 words (zf8 m at_1 words)
def ztP (m : (List Int)) (at_1 : Int) (words : Int) : zzh := (zqS m at_1 words).getD default
def zrm (m : (List Int)) (at_1 : Int) (words : Int) : Bool := (zqS m at_1 words).isSome
theorem zNS (m : (List Int)) (at_1 : Int) (words : Int) (hc : zrm m at_1 words = true) : Okay Pr GL 149 [.sl (.i .u32) m, (zf at_1), (zf words)] [] (zyA (ztP m at_1 words)) := zG (H := H149) (bod := zdn id m at_1 words) (ent := zi8 id m at_1 words) (bodA := zdn zyA m at_1 words) (entA := zi8 zyA m at_1 words) zb6 zA Tryz.func149 rfl (by kernel_rfl) zyA zM3 (zVp m at_1 words) (fun J l => by cases l <;> kernel_rfl) (fun J => by kernel_rfl) (fun s l => by cases l <;> simp only [zdn, zc, zt, zu, id]) (fun s => by simp only [zi8, zc, zt, zu, id]) (zJt m at_1 words) (by dsimp only [zi8]; repeat (first | exact ctJ _ | exact ctK _ | apply ctC)) hc
abbrev zEo := Bool
def zDs (r : zEo) : zT := ⟨(zX r), []⟩
noncomputable def zlJ {R : Type} (ret : zEo -> R) (m : (Option Bulkheadref05Memory)) (at_1 : Int) (n_2 : Int) : Option R := cond (decide ((at_1 : Int) >= 0)) (cond (decide ((n_2 : Int) >= 0)) (cond m.isSome ( cond (decide ((at_1 : Int) <= ((m.getD default).w).length)) (cond m.isSome (some (ret (decide ((n_2 : Int) <= (i64.wrap (((m.getD default).w).length - at_1)))))) none) (some (ret false))) none) (some (ret false))) (some (ret false))
def zqT (m : (Option Bulkheadref05Memory)) (at_1 : Int) (n_2 : Int) : Option zEo := zlJ id m at_1 n_2
def zwF (m : (Option Bulkheadref05Memory)) (at_1 : Int) (n_2 : Int) : zEo := (zqT m at_1 n_2).getD default
def zrn (m : (Option Bulkheadref05Memory)) (at_1 : Int) (n_2 : Int) : Bool := (zqT m at_1 n_2).isSome
theorem zNT (m : (Option Bulkheadref05Memory)) (at_1 : Int) (n_2 : Int) (hc : zrn m at_1 n_2 = true) : Okay Pr GL 150 [.op .sBulkheadref05Memory m, (zf at_1), (zf n_2)] [] (zDs (zwF m at_1 n_2)) := zy (H := H57) (ent := zlJ id m at_1 n_2) (entA := zlJ zDs m at_1 n_2) zb6 zA Tryz.func150 rfl (by kernel_rfl) zDs (fun J => by kernel_rfl) (by simp only [zlJ, zc, zt, zu, id]) hc
abbrev zzi := (List Int)
def zyB (r : zzi) : zT := ⟨.own 0, [.arr 57 (.i .u32) r]⟩
inductive zr3 where | l15 (x0 : List Int) | l0 (x1 : Int) (x0 : List Int)
def zM4 : zr3 -> Nat | .l15 _ => 15 | .l0 _ _ => 0
def H151 : zS := htt [7] [(0, ⟨z7 [1, 3, 7, 37, 38] 53 0, []⟩), (15, ⟨z7 [1, 3, 7] 53 0, []⟩)] []
noncomputable def zVq (h_0 : Bulkheadref19Held) (head : Int) (words : Int) : zr3 -> St | .l15 x0 => stt [(1, (zf head)), (3, .ref 0 0), (7, .own 1)] 53 [.cells 205 (Ty.enc .sBulkheadref19Held h_0), .arr 57 (.i .u32) x0] 0 | .l0 x1 x0 => stt [(1, (zf head)), (3, .ref 0 0), (7, .own 1), (37, (zf h_0.message.length)), (38, (zf x1))] 53 [.cells 205 (Ty.enc .sBulkheadref19Held h_0), .arr 57 (.i .u32) x0] 0
noncomputable def zd0 {R : Type} (ret : zzi -> R) (h_0 : Bulkheadref19Held) (head : Int) (words : Int) (j : zr3 -> Option R) : zr3 -> Option R | .l15 x0 =>let y1 := i64.wrap (head - 1);  cond (zN y1 x0.length) (j (.l0 0 (List.set x0 (y1.toNat) (u32.wrap h_0.message.length)))) none | .l0 x1 x0 =>let y1 := i64.wrap (head + x1);  cond (decide (x1 < h_0.message.length)) (cond (zN x1 h_0.message.length) ( cond (zN y1 x0.length) (j (.l0 (i64.wrap (x1 + 1)) (List.set x0 (y1.toNat) (zx h_0.message x1.toNat)))) none) none) (some (ret x0))
noncomputable def zg3 {R : Type} (ret : zzi -> R) (h_0 : Bulkheadref19Held) (head : Int) (words : Int) (j : zr3 -> Option R) : Option R := cond (decide (((i64.wrap (head + words)) : Int) = (i64.wrap (head + words))) && decide (0 <= (i64.wrap (head + words))) && leB ((i64.wrap (head + words)).toNat * 4) 140737488355328) ( cond (!h_0.there) (some (ret (List.replicate (i64.wrap (head + words)).toNat (0 : Int)))) (cond (zN 0 (List.replicate (i64.wrap (head + words)).toNat (0 : Int)).length) ( cond ((head : Int) == 3) (cond h_0.fresh (cond (zN 1 (List.set (List.replicate (i64.wrap (head + words)).toNat (0 : Int)) 0 1).length) (j (.l15 (List.set (List.set (List.replicate (i64.wrap (head + words)).toNat (0 : Int)) 0 1) 1 1))) none) (j (.l15 (List.set (List.replicate (i64.wrap (head + words)).toNat (0 : Int)) 0 1)))) (j (.l15 (List.set (List.replicate (i64.wrap (head + words)).toNat (0 : Int)) 0 1)))) none)) none
theorem zJu (h_0 : Bulkheadref19Held) (head : Int) (words : Int) (l : zr3) : CT fun j => zd0 id h_0 head words j l := by cases l <;> (dsimp only [zd0]; repeat (first | exact ctJ _ | exact ctK _ | apply ctC))
def zhq (h_0 : Bulkheadref19Held) (head : Int) (words : Int) : zr3 -> Option zzi := lfp (zd0 id h_0 head words)
theorem zjI (h_0 : Bulkheadref19Held) (head : Int) (words : Int) (l : zr3) : zhq h_0 head words l = zd0 id h_0 head words (zhq h_0 head words) l := zL (zJu h_0 head words) l
def zhr (h_0 : Bulkheadref19Held) (head : Int) (words : Int) : Option zzi := zg3 id h_0 head words (zhq h_0 head words)
def zwG (h_0 : Bulkheadref19Held) (head : Int) (words : Int) : zzi := (zhr h_0 head words).getD default
def zro (h_0 : Bulkheadref19Held) (head : Int) (words : Int) : Bool := (zhr h_0 head words).isSome
theorem zNU (h_0 : Bulkheadref19Held) (head : Int) (words : Int) (hc : zro h_0 head words = true) : Okay Pr GL 151 [.agg (Ty.enc .sBulkheadref19Held h_0), (zf head), (zf words)] [] (zyB (zwG h_0 head words)) := zG (H := H151) (bod := zd0 id h_0 head words) (ent := zg3 id h_0 head words) (bodA := zd0 zyB h_0 head words) (entA := zg3 zyB h_0 head words) zb6 zA Tryz.func151 rfl (by kernel_rfl) zyB zM4 (zVq h_0 head words) (fun J l => by cases l <;> kernel_rfl) (fun J => by kernel_rfl) (fun s l => by cases l <;> simp only [zd0, zc, zt, zu, id]) (fun s => by simp only [zg3, zc, zt, zu, id]) (zJu h_0 head words) (by dsimp only [zg3]; repeat (first | exact ctJ _ | exact ctK _ | apply ctC)) hc
abbrev zEs := (List Int) × Int
def zDw (r : zEs) : zT := ⟨.tup [.sl (.i .u32) r.1, (zf r.2)], []⟩
def H155 : zS := ⟨fun _ => false, fun _ => ⟨[], []⟩, [(.slot 0, .sl (.i .u32))], G0, zc7⟩
noncomputable def zlN {R : Type} (ret : zEs -> R) (m : (Option MemMemory)) (at_1 : Int) (n_2 : Int) : Option R := cond (zgf m at_1 n_2) ( cond (!(((zfp m at_1 n_2) : Int) == 0)) (some (ret ([], (zfp m at_1 n_2)))) (cond (decide ((n_2 : Int) = n_2) && decide (0 <= n_2) && leB (n_2.toNat * 4) 140737488355328) ( cond m.isSome ( cond (inS at_1 (((m.getD default).words).length) ((m.getD default).words).length) ( some (ret ((zfd (List.replicate n_2.toNat (0 : Int)) 0 (List.take ((List.replicate n_2.toNat (0 : Int)).length) (((((m.getD default).words).take (((m.getD default).words).length : Int).toNat).drop at_1.toNat) : List Int))), 0))) none) none) none)) none
def zqX (m : (Option MemMemory)) (at_1 : Int) (n_2 : Int) : Option zEs := zlN id m at_1 n_2
def z6 (m : (Option MemMemory)) (at_1 : Int) (n_2 : Int) : zEs := (zqX m at_1 n_2).getD default
def zd8 (m : (Option MemMemory)) (at_1 : Int) (n_2 : Int) : Bool := (zqX m at_1 n_2).isSome
theorem zNY (m : (Option MemMemory)) (at_1 : Int) (n_2 : Int) (hc : zd8 m at_1 n_2 = true) : Okay Pr GL 155 [.op .sMemMemory m, (zf at_1), (zf n_2)] [] (zDw (z6 m at_1 n_2)) := zy (H := H155) (ent := zlN id m at_1 n_2) (entA := zlN zDw m at_1 n_2) zb6 zA Tryz.func155 rfl (by kernel_rfl) zDw (fun J => by kernel_rfl) (by simp only [zlN, zc, zt, zu, id]) hc
abbrev zEu := Bool
def zDy (r : zEu) : zT := ⟨(zX r), []⟩
noncomputable def zi9 {R : Type} (ret : zEu -> R) (r_0 : Region) : Option R := cond (decide ((r_0.page : Int) >= 0)) (cond (decide ((r_0.pages : Int) >= 1)) (cond (decide ((r_0.page : Int) < 256)) (cond (decide ((r_0.pages : Int) <= (i64.wrap (256 - r_0.page)))) (cond (decide ((r_0.frame : Int) >= 0)) (cond (decide ((r_0.frame : Int) < 1024)) (cond (decide ((r_0.pages : Int) <= (i64.wrap (1024 - r_0.frame)))) (cond (decide ((r_0.rights : Int) >= 0)) (some (ret (decide ((r_0.rights : Int) <= 7)))) (some (ret false))) (some (ret false))) (some (ret false))) (some (ret false))) (some (ret false))) (some (ret false))) (some (ret false))) (some (ret false))
def zjV (r_0 : Region) : Option zEu := zi9 id r_0
def zpa (r_0 : Region) : zEu := (zjV r_0).getD default
theorem zGY (r_0 : Region) : zjV r_0 = some (zpa r_0) := zC (show (zjV r_0).isSome = true by simp only [zjV, zi9, zF, Option.isSome_some, zO])
theorem zN0 (r_0 : Region) : Okay Pr GL 157 [.agg (Ty.enc .sRegion r_0)] [] (zDy (zpa r_0)) := zy (H := H57) (ent := zi9 id r_0) (entA := zi9 zDy r_0) zb6 zA Tryz.func157 rfl (by kernel_rfl) zDy (fun J => by kernel_rfl) (by simp only [zi9, zc, zt, zu, id]) (show (zjV r_0).isSome = true by rw [zGY]; rfl)
abbrev zEv := Int × (List Int)
def zDz (r : zEv) : zT := ⟨(zf r.1), [.cells 245 (zav (.i .i64) 256 r.2)]⟩
noncomputable def zlP {R : Type} (ret : zEv -> R) (page : Int) (xs : List Int) : Option R := cond (zN page 256) (some (ret ((i64.wrap (zx (nrm (.i .i64) 256 xs) page.toNat - 1)), xs))) none
def zqZ (page : Int) (xs : List Int) : Option zEv := zlP id page xs
def zmA (page : Int) (xs : List Int) : zEv := (zqZ page xs).getD default
def zne (page : Int) (xs : List Int) : Bool := (zqZ page xs).isSome
theorem zN1 (page : Int) (xs : List Int) (hc : zne page xs = true) : Okay Pr GL 158 [(zf page), .ref 0 0] [.cells 245 (zav (.i .i64) 256 xs)] (zDz (zmA page xs)) := zy (H := H57) (ent := zlP id page xs) (entA := zlP zDz page xs) zb6 zA Tryz.func158 rfl (by kernel_rfl) zDz (fun J => by kernel_rfl) (by simp only [zlP, zc, zt, zu, id]) hc
abbrev zzq := Bool
def zyJ (r : zzq) : zT := ⟨(zX r), []⟩
inductive zsb where | l0 (x0 : Int)
def zNc : zsb -> Nat | .l0 _ => 0
def H171 : zS := htt [] [(0, ⟨z7 [5, 6, 7] 14 0, []⟩)] []
noncomputable def zVy (l_0 : (List Int)) : zsb -> St | .l0 x0 => stt [(5, .sl (.i .u32) l_0), (6, (zf l_0.length)), (7, (zf x0))] 14 [] 0
noncomputable def zeL {R : Type} (ret : zzq -> R) (l_0 : (List Int)) (j : zsb -> Option R) : zsb -> Option R | .l0 x0 => cond (decide (x0 < l_0.length)) (cond (zN x0 l_0.length) (cond (!((zx l_0 x0.toNat : Int) == 0)) (some (ret false)) (j (.l0 (i64.wrap (x0 + 1))))) none) (some (ret true))
noncomputable def zlY {R : Type} (ret : zzq -> R) (l_0 : (List Int)) (j : zsb -> Option R) : Option R := j (.l0 0)
theorem zJC (l_0 : (List Int)) (l : zsb) : CT fun j => zeL id l_0 j l := by cases l <;> (dsimp only [zeL]; repeat (first | exact ctJ _ | exact ctK _ | apply ctC))
def zqs (l_0 : (List Int)) : zsb -> Option zzq := lfp (zeL id l_0)
theorem zpm (l_0 : (List Int)) (l : zsb) : zqs l_0 l = zeL id l_0 (zqs l_0) l := zL (zJC l_0) l
def zvF (l_0 : (List Int)) : Option zzq := zlY id l_0 (zqs l_0)
def zwJ (l_0 : (List Int)) : zzq := (zvF l_0).getD default
def zrv (l_0 : (List Int)) : Bool := (zvF l_0).isSome
theorem zOe (l_0 : (List Int)) (hc : zrv l_0 = true) : Okay Pr GL 171 [.sl (.i .u32) l_0] [] (zyJ (zwJ l_0)) := zG (H := H171) (bod := zeL id l_0) (ent := zlY id l_0) (bodA := zeL zyJ l_0) (entA := zlY zyJ l_0) zb6 zA Tryz.func171 rfl (by kernel_rfl) zyJ zNc (zVy l_0) (fun J l => by cases l <;> kernel_rfl) (fun J => by kernel_rfl) (fun s l => by cases l <;> simp only [zeL, zc, zt, zu, id]) (fun s => by simp only [zlY, zc, zt, zu, id]) (zJC l_0) (by dsimp only [zlY]; repeat (first | exact ctJ _ | exact ctK _ | apply ctC)) hc
abbrev zzr := (List Int) × Bool
def zyK (r : zzr) : zT := ⟨.tup [.sl (.i .u32) r.1, (zX r.2)], []⟩
inductive zsc where | l0 (x0 : Int)
def zNd : zsc -> Nat | .l0 _ => 0
def H172 : zS := htt [] [(0, ⟨z7 [6, 7, 30, 31, 32] 45 0, []⟩)] [(.slot 0, .sl (.i .u32))]
noncomputable def zVz (l_0 : (List Int)) (head : Int) : zsc -> St | .l0 x0 => stt [(6, (zf (i64.wrap (zx l_0 ((i64.wrap (head - 1)).toNat))))), (7, .sl (.i .u32) ((l_0.take (l_0.length : Int).toNat).drop head.toNat)), (30, .sl (.i .u32) ((((l_0.take (l_0.length : Int).toNat).drop head.toNat).take (((l_0.take (l_0.length : Int).toNat).drop head.toNat).length : Int).toNat).drop (i64.wrap (zx l_0 ((i64.wrap (head - 1)).toNat))).toNat)), (31, (zf (((((l_0.take (l_0.length : Int).toNat).drop head.toNat).take (((l_0.take (l_0.length : Int).toNat).drop head.toNat).length : Int).toNat).drop (i64.wrap (zx l_0 ((i64.wrap (head - 1)).toNat))).toNat).length))), (32, (zf x0))] 45 [] 0
noncomputable def zeM {R : Type} (ret : zzr -> R) (l_0 : (List Int)) (head : Int) (j : zsc -> Option R) : zsc -> Option R | .l0 x0 =>let y1 := i64.wrap (zx l_0 ((i64.wrap (head - 1)).toNat)); let y2 := ((l_0.take (l_0.length : Int).toNat).drop head.toNat); let y3 := ((y2.take (y2.length : Int).toNat).drop y1.toNat); let y4 := (List.replicate y1.toNat (0 : Int));  cond (decide (x0 < y3.length)) (cond (zN x0 y3.length) ( cond (!((zx y3 x0.toNat : Int) == 0)) (some (ret ([], false))) (j (.l0 (i64.wrap (x0 + 1))))) none) (cond (decide ((y1 : Int) = y1) && decide (0 <= y1) && leB (y1.toNat * 4) 140737488355328) ( some (ret ((zfd y4 0 (List.take (y4.length) (y2 : List Int))), true))) none)
noncomputable def zjd {R : Type} (ret : zzr -> R) (l_0 : (List Int)) (head : Int) (j : zsc -> Option R) : Option R := cond (zN (i64.wrap (head - 1)) l_0.length) ( cond (inS head l_0.length l_0.length) ( cond (decide (((i64.wrap (zx l_0 ((i64.wrap (head - 1)).toNat))) : Int) < 1)) (some (ret ([], false))) (cond (decide (((i64.wrap (zx l_0 ((i64.wrap (head - 1)).toNat))) : Int) > ((l_0.take (l_0.length : Int).toNat).drop head.toNat).length)) (some (ret ([], false))) (cond (inS (i64.wrap (zx l_0 ((i64.wrap (head - 1)).toNat))) (((l_0.take (l_0.length : Int).toNat).drop head.toNat).length) ((l_0.take (l_0.length : Int).toNat).drop head.toNat).length) (j (.l0 0)) none))) none) none
theorem zJD (l_0 : (List Int)) (head : Int) (l : zsc) : CT fun j => zeM id l_0 head j l := by cases l <;> (dsimp only [zeM]; repeat (first | exact ctJ _ | exact ctK _ | apply ctC))
def zqt (l_0 : (List Int)) (head : Int) : zsc -> Option zzr := lfp (zeM id l_0 head)
theorem zpn (l_0 : (List Int)) (head : Int) (l : zsc) : zqt l_0 head l = zeM id l_0 head (zqt l_0 head) l := zL (zJD l_0 head) l
def zq4 (l_0 : (List Int)) (head : Int) : Option zzr := zjd id l_0 head (zqt l_0 head)
def zky (l_0 : (List Int)) (head : Int) : zzr := (zq4 l_0 head).getD default
def znh (l_0 : (List Int)) (head : Int) : Bool := (zq4 l_0 head).isSome
theorem zOf (l_0 : (List Int)) (head : Int) (hc : znh l_0 head = true) : Okay Pr GL 172 [.sl (.i .u32) l_0, (zf head)] [] (zyK (zky l_0 head)) := zG (H := H172) (bod := zeM id l_0 head) (ent := zjd id l_0 head) (bodA := zeM zyK l_0 head) (entA := zjd zyK l_0 head) zb6 zA Tryz.func172 rfl (by kernel_rfl) zyK zNd (zVz l_0 head) (fun J l => by cases l <;> kernel_rfl) (fun J => by kernel_rfl) (fun s l => by cases l <;> simp only [zeM, zc, zt, zu, id]) (fun s => by simp only [zjd, zc, zt, zu, id]) (zJD l_0 head) (by dsimp only [zjd]; repeat (first | exact ctJ _ | exact ctK _ | apply ctC)) hc
abbrev zEB := Int
def zDF (r : zEB) : zT := ⟨(zf r), []⟩
noncomputable def zlZ {R : Type} (ret : zEB -> R) (f : QueueForm) : Option R := some (ret (i64.wrap (1 + f.words)))
def zm9 (f : QueueForm) : Option zEB := zlZ id f
def zmC (f : QueueForm) : zEB := (zm9 f).getD default
theorem zG3 (f : QueueForm) : zm9 f = some (zmC f) := zC (show (zm9 f).isSome = true by simp only [zm9, zlZ, zF, Option.isSome_some, zO])
theorem zOh (f : QueueForm) : Okay Pr GL 174 [.agg [(zf f.words), (zf f.depth)]] [] (zDF (zmC f)) := zy (H := H57) (ent := zlZ id f) (entA := zlZ zDF f) zb6 zA Tryz.func174 rfl (by kernel_rfl) zDF (fun J => by kernel_rfl) (by simp only [zlZ, zc, zt, zu, id]) (show (zm9 f).isSome = true by rw [zG3]; rfl)
abbrev zzt := (List Int) × Bool
def zyM (r : zzt) : zT := ⟨.tup [.sl (.i .u32) r.1, (zX r.2)], []⟩
inductive zse where | l0 (x0 : Int)
def zNf : zse -> Nat | .l0 _ => 0
def H175 : zS := htt [] [(0, ⟨z7 [0, 4, 19, 20, 21] 33 0, []⟩)] [(.slot 0, .sl (.i .u32))]
noncomputable def zVB (l_0 : (List Int)) : zse -> St | .l0 x0 => stt [(0, .sl (.i .u32) l_0), (4, (avU (zx l_0 0))), (19, .sl (.i .u32) ((l_0.take (l_0.length : Int).toNat).drop (u32.wrap (1 + zx l_0 0)).toNat)), (20, (zf (((l_0.take (l_0.length : Int).toNat).drop (u32.wrap (1 + zx l_0 0)).toNat).length))), (21, (zf x0))] 33 [] 0
noncomputable def zeO {R : Type} (ret : zzt -> R) (l_0 : (List Int)) (j : zse -> Option R) : zse -> Option R | .l0 x0 =>let y1 := u32.wrap (1 + zx l_0 0); let y2 := ((l_0.take (l_0.length : Int).toNat).drop y1.toNat); let y3 := (l_0.take y1.toNat).drop 1;  cond (decide (x0 < y2.length)) (cond (zN x0 y2.length) ( cond (!((zx y2 x0.toNat : Int) == 0)) (some (ret ([], false))) (j (.l0 (i64.wrap (x0 + 1))))) none) (cond (inS 1 y1 l_0.length) ( cond (leB ((([] : List Int).length + (y3 : List Int).length) * 4) 140737488355328) (some (ret ((([] : List Int) ++ y3), true))) none) none)
noncomputable def zjf {R : Type} (ret : zzt -> R) (l_0 : (List Int)) (j : zse -> Option R) : Option R := cond (zN 0 l_0.length) ( cond (decide ((zx l_0 0 : Int) > (u32.wrap (i64.wrap (l_0.length - 1))))) (some (ret ([], false))) (cond (inS (u32.wrap (1 + zx l_0 0)) l_0.length l_0.length) (j (.l0 0)) none)) none
theorem zJF (l_0 : (List Int)) (l : zse) : CT fun j => zeO id l_0 j l := by cases l <;> (dsimp only [zeO]; repeat (first | exact ctJ _ | exact ctK _ | apply ctC))
def zqu (l_0 : (List Int)) : zse -> Option zzt := lfp (zeO id l_0)
theorem zpp (l_0 : (List Int)) (l : zse) : zqu l_0 l = zeO id l_0 (zqu l_0) l := zL (zJF l_0) l
def zq6 (l_0 : (List Int)) : Option zzt := zjf id l_0 (zqu l_0)
def ztR (l_0 : (List Int)) : zzt := (zq6 l_0).getD default
def zrw (l_0 : (List Int)) : Bool := (zq6 l_0).isSome
theorem zOi (l_0 : (List Int)) (hc : zrw l_0 = true) : Okay Pr GL 175 [.sl (.i .u32) l_0] [] (zyM (ztR l_0)) := zG (H := H175) (bod := zeO id l_0) (ent := zjf id l_0) (bodA := zeO zyM l_0) (entA := zjf zyM l_0) zb6 zA Tryz.func175 rfl (by kernel_rfl) zyM zNf (zVB l_0) (fun J l => by cases l <;> kernel_rfl) (fun J => by kernel_rfl) (fun s l => by cases l <;> simp only [zeO, zc, zt, zu, id]) (fun s => by simp only [zjf, zc, zt, zu, id]) (zJF l_0) (by dsimp only [zjf]; repeat (first | exact ctJ _ | exact ctK _ | apply ctC)) hc
def g15 := zJ (zH (zZ (.sl .sProblem)) fun a0 => zH (zZ (.sl .sProblem)) fun a1 => zI ((znc a0 a1), (zX (zvk a0 a1)), []))
theorem zK9 : zD 15 g15 := zk (zB Tryz.func15 (by kernel_rfl) rfl) (zg fun x0 a0 h0 => zg fun x1 a1 h1 => zj fun hb => (zTn a0 a1 hb).ats (.cons (zp h0) (.cons (zp h1) .nil)))
def g16 (args : List AV) (hp : List Blk) : Option (Bool × AV × List Blk) :=
 match args, hp with
 | [.own 0], [.arr 86 .sProblem y0] => some ((zxC y0), .tup [], [.dead])
 | _, _ => none
theorem zLa : zD 16 g16 := fun args hp b r hp' h hb => by
 unfold g16 at h
 split at h
 . cases h; exact ⟨zB Tryz.func16 (by kernel_rfl) rfl, zTo _ hb⟩
 . cases h
def g18 := zJ (zH (zZ (.sl (.i .u32))) fun a0 => zH (zZ (.sl (.i .u32))) fun a1 => zI ((zxE a0 a1), (zX (zG5 a0 a1)), []))
theorem zLc : zD 18 g18 := zk (zB Tryz.func18 (by kernel_rfl) rfl) (zg fun x0 a0 h0 => zg fun x1 a1 h1 => zj fun hb => (zTq a0 a1 hb).ats (.cons (zp h0) (.cons (zp h1) .nil)))
def g19 := zJ (zH (zZ (.p .sMemMemory)) fun a0 => zI ((zxF a0), .sl (.i .u32) (zCf a0), []))
theorem zLd : zD 19 g19 := zk (zB Tryz.func19 (by kernel_rfl) rfl) (zg fun x0 a0 h0 => zj fun hb => (zTr a0 hb).ats (.cons (zp h0) .nil))
def g31 := zJ (zH (zZ (.sl (.i .u32))) fun a0 => zH (zZ (.i .i64)) fun a1 => zI ((zuo a0 a1), (avU (zCh a0 a1)), []))
theorem zLo : zD 31 g31 := zk (zB Tryz.func31 (by kernel_rfl) rfl) (zg fun x0 a0 h0 => zg fun x1 a1 h1 => zj fun hb => (zTC a0 a1 hb).ats (.cons (zp h0) (.cons (zp h1) .nil)))
def g32 := zJ (zH (rdS .sConfig) fun a0 => zH (zZ (.i .i64)) fun a1 => zH (zZ (.i .i64)) fun a2 => zH (zZ (.sl (.i .u32))) fun a3 => zI ((zxG a0 a1 a2 a3), (zf (zCi a0 a1 a2 a3)), []))
theorem zLp : zD 32 g32 := zk (zB Tryz.func32 (by kernel_rfl) rfl) (zg fun x0 a0 h0 => zg fun x1 a1 h1 => zg fun x2 a2 h2 => zg fun x3 a3 h3 => zj fun hb => (zTD a0 a1 a2 a3 hb).ats (.cons (zP h0) (.cons (zp h1) (.cons (zp h2) (.cons (zp h3) .nil)))))
def g35 (args : List AV) (hp : List Blk) : Option (Bool × AV × List Blk) :=
 match args, hp with
 | [.agg [.v (.int .i64 y0), .v (.int .i64 y1), .v (.int .i64 y2), .v (.int .i64 y3), .sl (.sl .sWindow) y4, .sl .sPartition y5, .sl .sChannel y6], .agg [.v (.int .i64 y7), .sl .sPartitionPlace y8, .sl .sChannelPlace y9, .v (.int .i64 y10)], .sl (.i .u32) y11, .own 0], [.arr 86 .sProblem y12] => some ((zxJ (⟨y0, y1, y2, y3, y4, y5, y6⟩ : Config) (⟨y7, y8, y9, y10⟩ : Layout) y11 y12), .own 1, [.dead, .arr 86 .sProblem (zG8 (⟨y0, y1, y2, y3, y4, y5, y6⟩ : Config) (⟨y7, y8, y9, y10⟩ : Layout) y11 y12)])
 | _, _ => none
theorem zLs : zD 35 g35 := fun args hp b r hp' h hb => by
 unfold g35 at h
 split at h
 . cases h; have q := zTG _ _ _ _ hb; exact ⟨zB Tryz.func35 (by kernel_rfl) rfl, q⟩
 . cases h
def g74 := zJ (zH (zZ (.p .sAuditFinder)) fun a0 => zH (zZ (.i .i64)) fun a1 => zI ((zdT a0 a1), (avU (zii a0 a1)), []))
theorem zL4 : zD 74 g74 := zk (zB Tryz.func74 (by kernel_rfl) rfl) (zg fun x0 a0 h0 => zg fun x1 a1 h1 => zj fun hb => (zUi a0 a1 hb).ats (.cons (zp h0) (.cons (zp h1) .nil)))
def g75 (args : List AV) (hp : List Blk) : Option (Bool × AV × List Blk) :=
 match args, hp with
 | [.ref 0 0, .sl .sProblem y0], [.cells 103 [.v (.int .i64 y1), .v (.int .i64 y2), .v (.int .i64 y3), .v (.int .i64 y4), .sl (.sl .sWindow) y5, .sl .sPartition y6, .sl .sChannel y7, .v (.int .i64 y8), .sl .sPartitionPlace y9, .sl .sChannelPlace y10, .v (.int .i64 y11), .op .sMemMemory y12, .own 1], .arr 86 .sProblem y13] => some ((zey y0 (⟨y1, y2, y3, y4, y5, y6, y7⟩ : Config) (⟨y8, y9, y10, y11⟩ : Layout) y12 y13), .tup [], [.cells 103 [(zf ((zcP y0 (⟨y1, y2, y3, y4, y5, y6, y7⟩ : Config) (⟨y8, y9, y10, y11⟩ : Layout) y12 y13).c.frames)), (zf ((zcP y0 (⟨y1, y2, y3, y4, y5, y6, y7⟩ : Config) (⟨y8, y9, y10, y11⟩ : Layout) y12 y13).c.major)), (zf ((zcP y0 (⟨y1, y2, y3, y4, y5, y6, y7⟩ : Config) (⟨y8, y9, y10, y11⟩ : Layout) y12 y13).c.kernel)), (zf ((zcP y0 (⟨y1, y2, y3, y4, y5, y6, y7⟩ : Config) (⟨y8, y9, y10, y11⟩ : Layout) y12 y13).c.room)), .sl (.sl .sWindow) ((zcP y0 (⟨y1, y2, y3, y4, y5, y6, y7⟩ : Config) (⟨y8, y9, y10, y11⟩ : Layout) y12 y13).c.cores), .sl .sPartition ((zcP y0 (⟨y1, y2, y3, y4, y5, y6, y7⟩ : Config) (⟨y8, y9, y10, y11⟩ : Layout) y12 y13).c.partitions), .sl .sChannel ((zcP y0 (⟨y1, y2, y3, y4, y5, y6, y7⟩ : Config) (⟨y8, y9, y10, y11⟩ : Layout) y12 y13).c.channels), (zf ((zcP y0 (⟨y1, y2, y3, y4, y5, y6, y7⟩ : Config) (⟨y8, y9, y10, y11⟩ : Layout) y12 y13).l.barrier)), .sl .sPartitionPlace ((zcP y0 (⟨y1, y2, y3, y4, y5, y6, y7⟩ : Config) (⟨y8, y9, y10, y11⟩ : Layout) y12 y13).l.partitions), .sl .sChannelPlace ((zcP y0 (⟨y1, y2, y3, y4, y5, y6, y7⟩ : Config) (⟨y8, y9, y10, y11⟩ : Layout) y12 y13).l.channels), (zf ((zcP y0 (⟨y1, y2, y3, y4, y5, y6, y7⟩ : Config) (⟨y8, y9, y10, y11⟩ : Layout) y12 y13).l.end_)), .op .sMemMemory ((zcP y0 (⟨y1, y2, y3, y4, y5, y6, y7⟩ : Config) (⟨y8, y9, y10, y11⟩ : Layout) y12 y13).m), .own 2], .dead, .arr 86 .sProblem ((zcP y0 (⟨y1, y2, y3, y4, y5, y6, y7⟩ : Config) (⟨y8, y9, y10, y11⟩ : Layout) y12 y13).out)])
 | _, _ => none
theorem zL5 : zD 75 g75 := fun args hp b r hp' h hb => by
 unfold g75 at h
 split at h
 . cases h; have q := zUj _ _ _ _ _ hb; exact ⟨zB Tryz.func75 (by kernel_rfl) rfl, q⟩
 . cases h
def g84 := zJ (zH (zZ (.i .i64)) fun a0 => zI ((zx5 a0), .tup [.ref 0 0, (zf ((zqm a0).2))], [.cells 65 [.own 1], .arr 57 (.i .u32) ((zqm a0).1.words)]))
theorem zMe : zD 84 g84 := zk (zB Tryz.func84 (by kernel_rfl) rfl) (zg fun x0 a0 h0 => zj fun hb => (zUs a0 hb).ats (.cons (zp h0) .nil))
def g107 := zJ (zH (zZ (.sl (.i .u32))) fun a0 => zH (zZ (.i .i64)) fun a1 => zH (zZ (.i .i64)) fun a2 => zI (true, (zX (zmz a0 a1 a2)), []))
theorem zE7 : zD 107 g107 := zk (zB Tryz.func107 (by kernel_rfl) rfl) (zg fun x0 a0 h0 => zg fun x1 a1 h1 => zg fun x2 a2 h2 => zj fun hb => (zNo a0 a1 a2).ats (.cons (zp h0) (.cons (zp h1) (.cons (zp h2) .nil))))
def g108 := zJ (zH (zZ (.i .i64)) fun a0 => zH (zZ (.i .i64)) fun a1 => zI (true, (zf (ztL a0 a1)), []))
theorem zE8 : zD 108 g108 := zk (zB Tryz.func108 (by kernel_rfl) rfl) (zg fun x0 a0 h0 => zg fun x1 a1 h1 => zj fun hb => (zNp a0 a1).ats (.cons (zp h0) (.cons (zp h1) .nil)))
def g110 := zJ (zH (zZ (.p .sBulkheadref05Memory)) fun a0 => zH (zZ (.i .i64)) fun a1 => zI (true, (zf (zib a0 a1)), []))
theorem zFa : zD 110 g110 := zk (zB Tryz.func110 (by kernel_rfl) rfl) (zg fun x0 a0 h0 => zg fun x1 a1 h1 => zj fun hb => (zNr a0 a1).ats (.cons (zp h0) (.cons (zp h1) .nil)))
def g113 := zJ (zH (zZ (.i .i64)) fun a0 => zH (zZ (.i .i64)) fun a1 => zI (true, (zf (ztM a0 a1)), []))
theorem zFd : zD 113 g113 := zk (zB Tryz.func113 (by kernel_rfl) rfl) (zg fun x0 a0 h0 => zg fun x1 a1 h1 => zj fun hb => (zNu a0 a1).ats (.cons (zp h0) (.cons (zp h1) .nil)))
def g116 := zJ (zH (zZ (.p .sMemMemory)) fun a0 => zH (rdS .sQueueForm) fun a1 => zI (true, (zf (zic a0 a1)), []))
theorem zFg : zD 116 g116 := zk (zB Tryz.func116 (by kernel_rfl) rfl) (zg fun x0 a0 h0 => zg fun x1 a1 h1 => zj fun hb => (zNx a0 a1).ats (.cons (zp h0) (.cons (zP h1) .nil)))
def g119 := zJ (zH (zZ (.p .sMemMemory)) fun a0 => zH (zZ (.i .i64)) fun a1 => zI (true, (zf (zid a0 a1)), []))
theorem zFj : zD 119 g119 := zk (zB Tryz.func119 (by kernel_rfl) rfl) (zg fun x0 a0 h0 => zg fun x1 a1 h1 => zj fun hb => (zNA a0 a1).ats (.cons (zp h0) (.cons (zp h1) .nil)))
def g122 := zJ (zH (zZ (.p .sMemMemory)) fun a0 => zH (zZ (.i .i64)) fun a1 => zI ((zge a0 a1), (zX (zdA a0 a1)), []))
theorem zFm : zD 122 g122 := zk (zB Tryz.func122 (by kernel_rfl) rfl) (zg fun x0 a0 h0 => zg fun x1 a1 h1 => zj fun hb => (zND a0 a1 hb).ats (.cons (zp h0) (.cons (zp h1) .nil)))
def g125 := zJ (zH (zZ (.i .i64)) fun a0 => zH (zZ (.i .i64)) fun a1 => zI (true, .tup [(avU ((zks a0 a1).1)), (zf ((zks a0 a1).2))], []))
theorem zFp : zD 125 g125 := zk (zB Tryz.func125 (by kernel_rfl) rfl) (zg fun x0 a0 h0 => zg fun x1 a1 h1 => zj fun hb => (zNF a0 a1).ats (.cons (zp h0) (.cons (zp h1) .nil)))
def zK3 (args : List AV) (hp : List Blk) : Option (Bool × AV × List Blk) :=
 match args, hp with
 | [.ref 0 0, .v (.int .i64 y0), .sl (.i .u32) y1], [.cells 65 [.own 1], .arr 57 (.i .u32) y2] => some ((zjZ y0 y1 y2), (zf ((zkt y0 y1 y2).1)), [.cells 65 [.own 1], .arr 57 (.i .u32) ((zkt y0 y1 y2).2.words)])
 | _, _ => none
theorem zFq : zD 126 zK3 := fun args hp b r hp' h hb => by
 unfold zK3 at h
 split at h
 . cases h; exact ⟨zB Tryz.func126 (by kernel_rfl) rfl, zNG _ _ _ hb⟩
 . cases h
def g149 := zJ (zH (zZ (.sl (.i .u32))) fun a0 => zH (zZ (.i .i64)) fun a1 => zH (zZ (.i .i64)) fun a2 => zI ((zrm a0 a1 a2), .tup [.sl (.i .u32) ((ztP a0 a1 a2).1), (zf ((ztP a0 a1 a2).2))], []))
theorem zFN : zD 149 g149 := zk (zB Tryz.func149 (by kernel_rfl) rfl) (zg fun x0 a0 h0 => zg fun x1 a1 h1 => zg fun x2 a2 h2 => zj fun hb => (zNS a0 a1 a2 hb).ats (.cons (zp h0) (.cons (zp h1) (.cons (zp h2) .nil))))
def g150 := zJ (zH (zZ (.p .sBulkheadref05Memory)) fun a0 => zH (zZ (.i .i64)) fun a1 => zH (zZ (.i .i64)) fun a2 => zI ((zrn a0 a1 a2), (zX (zwF a0 a1 a2)), []))
theorem zFO : zD 150 g150 := zk (zB Tryz.func150 (by kernel_rfl) rfl) (zg fun x0 a0 h0 => zg fun x1 a1 h1 => zg fun x2 a2 h2 => zj fun hb => (zNT a0 a1 a2 hb).ats (.cons (zp h0) (.cons (zp h1) (.cons (zp h2) .nil))))
def g151 := zJ (zH (rdS .sBulkheadref19Held) fun a0 => zH (zZ (.i .i64)) fun a1 => zH (zZ (.i .i64)) fun a2 => zI ((zro a0 a1 a2), .own 0, [.arr 57 (.i .u32) (zwG a0 a1 a2)]))
theorem zFP : zD 151 g151 := zk (zB Tryz.func151 (by kernel_rfl) rfl) (zg fun x0 a0 h0 => zg fun x1 a1 h1 => zg fun x2 a2 h2 => zj fun hb => (zNU a0 a1 a2 hb).ats (.cons (zP h0) (.cons (zp h1) (.cons (zp h2) .nil))))
def g155 := zJ (zH (zZ (.p .sMemMemory)) fun a0 => zH (zZ (.i .i64)) fun a1 => zH (zZ (.i .i64)) fun a2 => zI ((zd8 a0 a1 a2), .tup [.sl (.i .u32) ((z6 a0 a1 a2).1), (zf ((z6 a0 a1 a2).2))], []))
theorem zFT : zD 155 g155 := zk (zB Tryz.func155 (by kernel_rfl) rfl) (zg fun x0 a0 h0 => zg fun x1 a1 h1 => zg fun x2 a2 h2 => zj fun hb => (zNY a0 a1 a2 hb).ats (.cons (zp h0) (.cons (zp h1) (.cons (zp h2) .nil))))
def g157 := zJ (zH (rdS .sRegion) fun a0 => zI (true, (zX (zpa a0)), []))
theorem zFV : zD 157 g157 := zk (zB Tryz.func157 (by kernel_rfl) rfl) (zg fun x0 a0 h0 => zj fun hb => (zN0 a0).ats (.cons (zP h0) .nil))
def zK8 (args : List AV) (hp : List Blk) : Option (Bool × AV × List Blk) :=
 match args, hp with
 | [.v (.int .i64 y0), .ref 0 0], [.cells 245 zy1] => (zbv (.i .i64) 256 zy1).bind fun y1 => some ((zne y0 y1), (zf ((zmA y0 y1).1)), [.cells 245 (zav (.i .i64) 256 ((zmA y0 y1).2))])
 | _, _ => none
theorem zFW : zD 158 zK8 := fun args hp b r hp' h hb => by
 unfold zK8 at h
 split at h
 . simp only [Option.bind_eq_some_iff] at h
   obtain ⟨y1, hd, h⟩ := h
   cases h; exact ⟨zB Tryz.func158 (by kernel_rfl) rfl, (zN1 _ y1 hb).vec 0 hd rfl rfl⟩
 . cases h
def g171 := zJ (zH (zZ (.sl (.i .u32))) fun a0 => zI ((zrv a0), (zX (zwJ a0)), []))
theorem zF9 : zD 171 g171 := zk (zB Tryz.func171 (by kernel_rfl) rfl) (zg fun x0 a0 h0 => zj fun hb => (zOe a0 hb).ats (.cons (zp h0) .nil))
def g172 := zJ (zH (zZ (.sl (.i .u32))) fun a0 => zH (zZ (.i .i64)) fun a1 => zI ((znh a0 a1), .tup [.sl (.i .u32) ((zky a0 a1).1), (zX ((zky a0 a1).2))], []))
theorem zGa : zD 172 g172 := zk (zB Tryz.func172 (by kernel_rfl) rfl) (zg fun x0 a0 h0 => zg fun x1 a1 h1 => zj fun hb => (zOf a0 a1 hb).ats (.cons (zp h0) (.cons (zp h1) .nil)))
def g174 := zJ (zH (rdS .sQueueForm) fun a0 => zI (true, (zf (zmC a0)), []))
theorem zGc : zD 174 g174 := zk (zB Tryz.func174 (by kernel_rfl) rfl) (zg fun x0 a0 h0 => zj fun hb => (zOh a0).ats (.cons (zP h0) .nil))
def g175 := zJ (zH (zZ (.sl (.i .u32))) fun a0 => zI ((zrw a0), .tup [.sl (.i .u32) ((ztR a0).1), (zX ((ztR a0).2))], []))
theorem zGd : zD 175 g175 := zk (zB Tryz.func175 (by kernel_rfl) rfl) (zg fun x0 a0 h0 => zj fun hb => (zOi a0 hb).ats (.cons (zp h0) .nil))
noncomputable def GQ0 : Gam := zd2 [(15, g15), (16, g16), (18, g18), (19, g19), (31, g31), (32, g32), (35, g35), (74, g74), (75, g75), (84, g84), (107, g107), (108, g108), (110, g110), (113, g113), (116, g116), (119, g119), (122, g122), (125, g125), (126, zK3), (149, g149), (150, g150), (151, g151), (155, g155), (157, g157), (158, zK8), (171, g171), (172, g172), (174, g174), (175, g175)] GM
theorem zea : GOk Pr GL GQ0 := zaH ⟨zK9, zLa, zLc, zLd, zLo, zLp, zLs, zL4, zL5, zMe, zE7, zE8, zFa, zFd, zFg, zFj, zFm, zFp, zFq, zFN, zFO, zFP, zFT, zFV, zFW, zF9, zGa, zGc, zGd, trivial⟩ zb6
abbrev R37 := AuditFinder
def zO1 (r : R37) : zT := ⟨.tup [], [.cells 103 [(zf r.c.frames), (zf r.c.major), (zf r.c.kernel), (zf r.c.room), .sl (.sl .sWindow) r.c.cores, .sl .sPartition r.c.partitions, .sl .sChannel r.c.channels, (zf r.l.barrier), .sl .sPartitionPlace r.l.partitions, .sl .sChannelPlace r.l.channels, (zf r.l.end_), .op .sMemMemory r.m, .own 2], .dead, .arr 86 .sProblem r.out]⟩
def H37 : zS := ⟨fun _ => false, fun _ => ⟨[], []⟩, [(.box 0 12, .mv 86 .sProblem)], G0, zc7⟩
noncomputable def zsB {R : Type} (ret : R37 -> R) (c : Config) (lay : Layout) (m : (Option MemMemory)) (out : List Problem) : Option R := cond (zdT (some (⟨(⟨c.frames, c.major, c.kernel, c.room, c.cores, c.partitions, c.channels⟩ : Config), (⟨lay.barrier, lay.partitions, lay.channels, lay.end_⟩ : Layout), m, out⟩ : AuditFinder)) lay.barrier) ( cond (decide (((zii (some (⟨(⟨c.frames, c.major, c.kernel, c.room, c.cores, c.partitions, c.channels⟩ : Config), (⟨lay.barrier, lay.partitions, lay.channels, lay.end_⟩ : Layout), m, out⟩ : AuditFinder)) lay.barrier) : Int) > (u32.wrap c.cores.length))) (cond (zey [(⟨4, (-1), lay.barrier⟩ : Problem)] c lay m out) (some (ret (zcP [(⟨4, (-1), lay.barrier⟩ : Problem)] c lay m out))) none) (cond (zdT (some (⟨(⟨c.frames, c.major, c.kernel, c.room, c.cores, c.partitions, c.channels⟩ : Config), (⟨lay.barrier, lay.partitions, lay.channels, lay.end_⟩ : Layout), m, out⟩ : AuditFinder)) (i64.wrap (lay.barrier + 1))) ( cond (decide (((zii (some (⟨(⟨c.frames, c.major, c.kernel, c.room, c.cores, c.partitions, c.channels⟩ : Config), (⟨lay.barrier, lay.partitions, lay.channels, lay.end_⟩ : Layout), m, out⟩ : AuditFinder)) (i64.wrap (lay.barrier + 1))) : Int) > 1073741824)) (cond (zey [(⟨4, (-1), lay.barrier⟩ : Problem)] c lay m out) (some (ret (zcP [(⟨4, (-1), lay.barrier⟩ : Problem)] c lay m out))) none) (some (ret (⟨(⟨c.frames, c.major, c.kernel, c.room, c.cores, c.partitions, c.channels⟩ : Config), (⟨lay.barrier, lay.partitions, lay.channels, lay.end_⟩ : Layout), m, out⟩ : AuditFinder)))) none)) none
def zw5 (c : Config) (lay : Layout) (m : (Option MemMemory)) (out : List Problem) : Option R37 := zsB id c lay m out
def zgJ (c : Config) (lay : Layout) (m : (Option MemMemory)) (out : List Problem) : R37 := (zw5 c lay m out).getD default
def zxK (c : Config) (lay : Layout) (m : (Option MemMemory)) (out : List Problem) : Bool := (zw5 c lay m out).isSome
theorem zTI (c : Config) (lay : Layout) (m : (Option MemMemory)) (out : List Problem) (hc : zxK c lay m out = true) : Okay Pr GL 37 [.ref 0 0] [.cells 103 (avF c lay m 1), .arr 86 .sProblem out] (zO1 (zgJ c lay m out)) := zy (H := H37) (ent := zsB id c lay m out) (entA := zsB zO1 c lay m out) zea zA Tryz.func37 rfl (by kernel_rfl) zO1 (fun J => by kernel_rfl) (by simp only [zsB, zc, zt, zu, id]) hc
abbrev R38 := AuditFinder
def zO2 (r : R38) : zT := ⟨.tup [], [.cells 103 [(zf r.c.frames), (zf r.c.major), (zf r.c.kernel), (zf r.c.room), .sl (.sl .sWindow) r.c.cores, .sl .sPartition r.c.partitions, .sl .sChannel r.c.channels, (zf r.l.barrier), .sl .sPartitionPlace r.l.partitions, .sl .sChannelPlace r.l.channels, (zf r.l.end_), .op .sMemMemory r.m, .own 2], .dead, .arr 86 .sProblem r.out]⟩
def H38 : zS := ⟨fun _ => false, fun _ => ⟨[], []⟩, [(.box 0 12, .mv 86 .sProblem)], G0, zc7⟩
noncomputable def zsC {R : Type} (ret : R38 -> R) (index : Int) (pl : Int) (most : Int) (c : Config) (lay : Layout) (m : (Option MemMemory)) (out : List Problem) : Option R := cond (zdT (some (⟨(⟨c.frames, c.major, c.kernel, c.room, c.cores, c.partitions, c.channels⟩ : Config), (⟨lay.barrier, lay.partitions, lay.channels, lay.end_⟩ : Layout), m, out⟩ : AuditFinder)) pl) ( cond (zdT (some (⟨(⟨c.frames, c.major, c.kernel, c.room, c.cores, c.partitions, c.channels⟩ : Config), (⟨lay.barrier, lay.partitions, lay.channels, lay.end_⟩ : Layout), m, out⟩ : AuditFinder)) (i64.wrap (pl + 1))) ( cond (decide (((u32.wrap ((zii (some (⟨(⟨c.frames, c.major, c.kernel, c.room, c.cores, c.partitions, c.channels⟩ : Config), (⟨lay.barrier, lay.partitions, lay.channels, lay.end_⟩ : Layout), m, out⟩ : AuditFinder)) pl) - (zii (some (⟨(⟨c.frames, c.major, c.kernel, c.room, c.cores, c.partitions, c.channels⟩ : Config), (⟨lay.barrier, lay.partitions, lay.channels, lay.end_⟩ : Layout), m, out⟩ : AuditFinder)) (i64.wrap (pl + 1))))) : Int) > (u32.wrap most))) (cond (zey [(⟨3, index, pl⟩ : Problem)] c lay m out) (some (ret (zcP [(⟨3, index, pl⟩ : Problem)] c lay m out))) none) (some (ret (⟨(⟨c.frames, c.major, c.kernel, c.room, c.cores, c.partitions, c.channels⟩ : Config), (⟨lay.barrier, lay.partitions, lay.channels, lay.end_⟩ : Layout), m, out⟩ : AuditFinder)))) none) none
def zw6 (index : Int) (pl : Int) (most : Int) (c : Config) (lay : Layout) (m : (Option MemMemory)) (out : List Problem) : Option R38 := zsC id index pl most c lay m out
def zft (index : Int) (pl : Int) (most : Int) (c : Config) (lay : Layout) (m : (Option MemMemory)) (out : List Problem) : R38 := (zw6 index pl most c lay m out).getD default
def zpG (index : Int) (pl : Int) (most : Int) (c : Config) (lay : Layout) (m : (Option MemMemory)) (out : List Problem) : Bool := (zw6 index pl most c lay m out).isSome
theorem zTJ (index : Int) (pl : Int) (most : Int) (c : Config) (lay : Layout) (m : (Option MemMemory)) (out : List Problem) (hc : zpG index pl most c lay m out = true) : Okay Pr GL 38 [.ref 0 0, (zf index), (zf pl), (zf most)] [.cells 103 (avF c lay m 1), .arr 86 .sProblem out] (zO2 (zft index pl most c lay m out)) := zy (H := H38) (ent := zsC id index pl most c lay m out) (entA := zsC zO2 index pl most c lay m out) zea zA Tryz.func38 rfl (by kernel_rfl) zO2 (fun J => by kernel_rfl) (by simp only [zsC, zc, zt, zu, id]) hc
abbrev R39 := AuditFinder
def zHX (r : R39) : zT := ⟨.tup [], [.cells 103 [(zf r.c.frames), (zf r.c.major), (zf r.c.kernel), (zf r.c.room), .sl (.sl .sWindow) r.c.cores, .sl .sPartition r.c.partitions, .sl .sChannel r.c.channels, (zf r.l.barrier), .sl .sPartitionPlace r.l.partitions, .sl .sChannelPlace r.l.channels, (zf r.l.end_), .op .sMemMemory r.m, .own 2], .dead, .arr 86 .sProblem r.out]⟩
inductive L39 where | l0 (x0 : Int)
def zSO : L39 -> Nat | .l0 _ => 0
def H39 : zS := htt [] [(0, ⟨z7 [0, 1, 24, 25] 52 0, []⟩)] [(.box 0 12, .mv 86 .sProblem)]
noncomputable def st39 (p : Int) (c : Config) (lay : Layout) (m : (Option MemMemory)) (out : List Problem) : L39 -> St | .l0 x0 => stt [(0, .ref 0 0), (1, (zf p)), (24, .agg [(avU 3), (avU (u32.wrap ((za c.partitions p.toNat).restarts))), (avU 6), (avU 4294967295), (avU (u32.wrap ((za c.partitions p.toNat).outputs)))]), (25, (zf x0))] 52 [.cells 103 (avF c lay m 1), .arr 86 .sProblem out] 2
noncomputable def zhE {R : Type} (ret : R39 -> R) (p : Int) (c : Config) (lay : Layout) (m : (Option MemMemory)) (out : List Problem) (j : L39 -> Option R) : L39 -> Option R | .l0 x0 =>let y1 := (⟨(⟨c.frames, c.major, c.kernel, c.room, c.cores, c.partitions, c.channels⟩ : Config), (⟨lay.barrier, lay.partitions, lay.channels, lay.end_⟩ : Layout), m, out⟩ : AuditFinder); let y2 := i64.wrap ((zb lay.partitions p.toNat).state + x0); let y3 := za c.partitions p.toNat; let y4 := (⟨2, p, y2⟩ : Problem);  cond (decide (x0 < 5)) (cond (zN x0 5) ( cond (zN p lay.partitions.length) ( cond (zdT (some y1) y2) ( cond (decide (((zii (some y1) y2) : Int) > zx ([3, (u32.wrap (y3.restarts)), 6, 4294967295, (u32.wrap (y3.outputs))] : List Int) x0.toNat)) (cond (zey [y4] c lay m out) ( some (ret (zcP [y4] c lay m out))) none) (j (.l0 (i64.wrap (x0 + 1))))) none) none) none) (some (ret y1))
noncomputable def zoh {R : Type} (ret : R39 -> R) (p : Int) (c : Config) (lay : Layout) (m : (Option MemMemory)) (out : List Problem) (j : L39 -> Option R) : Option R := cond (zN p c.partitions.length) (j (.l0 0)) none
theorem ct39 (p : Int) (c : Config) (lay : Layout) (m : (Option MemMemory)) (out : List Problem) (l : L39) : CT fun j => zhE id p c lay m out j l := by cases l <;> (dsimp only [zhE]; repeat (first | exact ctJ _ | exact ctK _ | apply ctC))
def zwO (p : Int) (c : Config) (lay : Layout) (m : (Option MemMemory)) (out : List Problem) : L39 -> Option R39 := lfp (zhE id p c lay m out)
theorem zt4 (p : Int) (c : Config) (lay : Layout) (m : (Option MemMemory)) (out : List Problem) (l : L39) : zwO p c lay m out l = zhE id p c lay m out (zwO p c lay m out) l := zL (ct39 p c lay m out) l
def zw7 (p : Int) (c : Config) (lay : Layout) (m : (Option MemMemory)) (out : List Problem) : Option R39 := zoh id p c lay m out (zwO p c lay m out)
def zgK (p : Int) (c : Config) (lay : Layout) (m : (Option MemMemory)) (out : List Problem) : R39 := (zw7 p c lay m out).getD default
def zxL (p : Int) (c : Config) (lay : Layout) (m : (Option MemMemory)) (out : List Problem) : Bool := (zw7 p c lay m out).isSome
theorem zTK (p : Int) (c : Config) (lay : Layout) (m : (Option MemMemory)) (out : List Problem) (hc : zxL p c lay m out = true) : Okay Pr GL 39 [.ref 0 0, (zf p)] [.cells 103 (avF c lay m 1), .arr 86 .sProblem out] (zHX (zgK p c lay m out)) := zG (H := H39) (bod := zhE id p c lay m out) (ent := zoh id p c lay m out) (bodA := zhE zHX p c lay m out) (entA := zoh zHX p c lay m out) zea zA Tryz.func39 rfl (by kernel_rfl) zHX zSO (st39 p c lay m out) (fun J l => by cases l <;> kernel_rfl) (fun J => by kernel_rfl) (fun s l => by cases l <;> simp only [zhE, zc, zt, zu, id]) (fun s => by simp only [zoh, zc, zt, zu, id]) (ct39 p c lay m out) (by dsimp only [zoh]; repeat (first | exact ctJ _ | exact ctK _ | apply ctC)) hc
abbrev zy4 := Bulkheadref20Row × Bool
def zyn (r : zy4) : zT := ⟨.tup [.agg [(zf r.1.first), .sl (.sl (.i .u32)) r.1.messages, (avU r.1.lost)], (zX r.2)], []⟩
inductive zrP where | l0 (x0 : Int) (x1 : List (List Int)) | l9 (x1 : Int) (x2 : Int) (x3 : Bool) (x4 : Int) (x5 : Bool) (x6 : Bool) (x0 : List (List Int))
def zMQ : zrP -> Nat | .l0 _ _ => 0 | .l9 _ _ _ _ _ _ _ => 9
def H109 : zS := htt [4] [(0, ⟨z7 [0, 1, 2, 3, 4, 5, 12, 14, 15] 64 0, [(.box 14 1, .own 28 (.sl (.i .u32)))]⟩), (9, ⟨z7 [0, 1, 2, 3, 4, 5, 12, 14, 15, 46, 47, 48, 49, 50, 51] 64 0, [(.box 14 1, .own 28 (.sl (.i .u32)))]⟩)] [(.cell 0 1, .sl (.sl (.i .u32)))]
noncomputable def zVc (m : (List Int)) (at_1 : Int) (words : Int) (depth : Int) (first : Int) (many : Int) : zrP -> St | .l0 x0 x1 => stt [(0, .sl (.i .u32) m), (1, (zf at_1)), (2, (zf words)), (3, (zf depth)), (4, (zf first)), (5, (zf many)), (12, .ref 0 0), (14, .ref 1 0), (15, (zf x0))] 64 [.cells 140 [(zf 0), .v (.slice none 0 0), (avU 0)], .cells 140 [(zf first), .own 2, (avU 0)], .arr 28 (.sl (.i .u32)) x1] 0 | .l9 x1 x2 x3 x4 x5 x6 x0 => stt [(0, .sl (.i .u32) m), (1, (zf at_1)), (2, (zf words)), (3, (zf depth)), (4, (zf first)), (5, (zf many)), (12, .ref 0 0), (14, .ref 1 0), (15, (zf x1)), (46, (zf x2)), (47, (zf many)), (48, (zX x3)), (49, (zf x4)), (50, (zX x5)), (51, (zX x6))] 64 [.cells 140 [(zf 0), .v (.slice none 0 0), (avU 0)], .cells 140 [(zf first), .own 2, (avU 0)], .arr 28 (.sl (.i .u32)) x0] 0
noncomputable def zdX {R : Type} (ret : zy4 -> R) (m : (List Int)) (at_1 : Int) (words : Int) (depth : Int) (first : Int) (many : Int) (j : zrP -> Option R) : zrP -> Option R | .l0 x0 x1 =>let y2 := i64.wrap (at_1 + (i64.wrap ((dv .rem .i64 (i64.wrap (first + x0)) depth) * (i64.wrap (1 + words))))); let y1 := ztP m y2 words; let y4 := decide (x0 < many); let y5 := (decide ((y1.2 : Int) > 0)); let y3 := !(y4 == y5); let y6 := ((⟨0, [], 0⟩ : Bulkheadref20Row), false); let y7 := (x1 : List (List Int));  cond (decide (x0 < depth)) (cond (decide ((depth : Int) = 0)) (none) (cond (zrm m y2 words) ( cond (decide ((y1.2 : Int) < 0)) (some (ret y6)) (cond y3 (some (ret y6)) (cond y4 (cond (leB ((y7.length + ([y1.1] : List (List Int)).length) * 24) 140737488355328) ( j (.l9 x0 x0 y4 (y1.2) y5 y3 (y7 ++ [y1.1]))) none) (j (.l9 x0 x0 y4 (y1.2) y5 y3 x1))))) none)) (some (ret ((⟨first, x1, 0⟩ : Bulkheadref20Row), true))) | .l9 x1 x2 x3 x4 x5 x6 x0 => j (.l0 (i64.wrap (x1 + 1)) x0)
noncomputable def ziM {R : Type} (ret : zy4 -> R) (m : (List Int)) (at_1 : Int) (words : Int) (depth : Int) (first : Int) (many : Int) (j : zrP -> Option R) : Option R := j (.l0 0 [])
theorem zJg (m : (List Int)) (at_1 : Int) (words : Int) (depth : Int) (first : Int) (many : Int) (l : zrP) : CT fun j => zdX id m at_1 words depth first many j l := by cases l <;> (dsimp only [zdX]; repeat (first | exact ctJ _ | exact ctK _ | apply ctC))
def zjB (m : (List Int)) (at_1 : Int) (words : Int) (depth : Int) (first : Int) (many : Int) : zrP -> Option zy4 := lfp (zdX id m at_1 words depth first many)
theorem zjC (m : (List Int)) (at_1 : Int) (words : Int) (depth : Int) (first : Int) (many : Int) (l : zrP) : zjB m at_1 words depth first many l = zdX id m at_1 words depth first many (zjB m at_1 words depth first many) l := zL (zJg m at_1 words depth first many) l
def zqz (m : (List Int)) (at_1 : Int) (words : Int) (depth : Int) (first : Int) (many : Int) : Option zy4 := ziM id m at_1 words depth first many (zjB m at_1 words depth first many)
def zdz (m : (List Int)) (at_1 : Int) (words : Int) (depth : Int) (first : Int) (many : Int) : zy4 := (zqz m at_1 words depth first many).getD default
def zht (m : (List Int)) (at_1 : Int) (words : Int) (depth : Int) (first : Int) (many : Int) : Bool := (zqz m at_1 words depth first many).isSome
theorem zNq (m : (List Int)) (at_1 : Int) (words : Int) (depth : Int) (first : Int) (many : Int) (hc : zht m at_1 words depth first many = true) : Okay Pr GL 109 [.sl (.i .u32) m, (zf at_1), (zf words), (zf depth), (zf first), (zf many)] [] (zyn (zdz m at_1 words depth first many)) := zG (H := H109) (bod := zdX id m at_1 words depth first many) (ent := ziM id m at_1 words depth first many) (bodA := zdX zyn m at_1 words depth first many) (entA := ziM zyn m at_1 words depth first many) zea zA Tryz.func109 rfl (by kernel_rfl) zyn zMQ (zVc m at_1 words depth first many) (fun J l => by cases l <;> kernel_rfl) (fun J => by kernel_rfl) (fun s l => by cases l <;> simp only [zdX, zc, zt, zu, id]) (fun s => by simp only [ziM, zc, zt, zu, id]) (zJg m at_1 words depth first many) (by dsimp only [ziM]; repeat (first | exact ctJ _ | exact ctK _ | apply ctC)) hc
abbrev zy5 := (List Int) × Int
def zyo (r : zy5) : zT := ⟨.tup [.own 0, (zf r.2)], [.arr 57 (.i .u32) r.1]⟩
inductive zrQ where | l0 (x0 : Int) (x1 : List Int)
def zMR : zrQ -> Nat | .l0 _ _ => 0
def H111 : zS := htt [] [(0, ⟨z7 [0, 1, 2, 8, 9] 35 0, [(.slot 8, .own 57 (.i .u32))]⟩)] [(.slot 0, .own 57 (.i .u32))]
noncomputable def zVd (m : (Option Bulkheadref05Memory)) (at_1 : Int) (n_2 : Int) : zrQ -> St | .l0 x0 x1 => stt [(0, .op .sBulkheadref05Memory m), (1, (zf at_1)), (2, (zf n_2)), (8, .own 0), (9, (zf x0))] 35 [.arr 57 (.i .u32) x1] 0
noncomputable def zeF {R : Type} (ret : zy5 -> R) (m : (Option Bulkheadref05Memory)) (at_1 : Int) (n_2 : Int) (j : zrQ -> Option R) : zrQ -> Option R | .l0 x0 x1 =>let y1 := i64.wrap (at_1 + x0); let y2 := (m.getD default).w;  cond (decide (x0 < n_2)) (cond m.isSome ( cond (zN y1 y2.length) ( cond (leB (((x1 : List Int).length + ([zx y2 (y1.toNat)] : List Int).length) * 4) 140737488355328) ( j (.l0 (i64.wrap (x0 + 1)) ((x1 : List Int) ++ [zx y2 (y1.toNat)]))) none) none) none) (some (ret (x1, 0)))
noncomputable def ziO {R : Type} (ret : zy5 -> R) (m : (Option Bulkheadref05Memory)) (at_1 : Int) (n_2 : Int) (j : zrQ -> Option R) : Option R := cond m.isNone (some (ret ([], 3))) (cond (zrn m at_1 n_2) (cond (!(zwF m at_1 n_2)) (some (ret ([], 51))) (j (.l0 0 []))) none)
theorem zJh (m : (Option Bulkheadref05Memory)) (at_1 : Int) (n_2 : Int) (l : zrQ) : CT fun j => zeF id m at_1 n_2 j l := by cases l <;> (dsimp only [zeF]; repeat (first | exact ctJ _ | exact ctK _ | apply ctC))
def zjD (m : (Option Bulkheadref05Memory)) (at_1 : Int) (n_2 : Int) : zrQ -> Option zy5 := lfp (zeF id m at_1 n_2)
theorem zpg (m : (Option Bulkheadref05Memory)) (at_1 : Int) (n_2 : Int) (l : zrQ) : zjD m at_1 n_2 l = zeF id m at_1 n_2 (zjD m at_1 n_2) l := zL (zJh m at_1 n_2) l
def zqA (m : (Option Bulkheadref05Memory)) (at_1 : Int) (n_2 : Int) : Option zy5 := ziO id m at_1 n_2 (zjD m at_1 n_2)
def zcO (m : (Option Bulkheadref05Memory)) (at_1 : Int) (n_2 : Int) : zy5 := (zqA m at_1 n_2).getD default
def zjW (m : (Option Bulkheadref05Memory)) (at_1 : Int) (n_2 : Int) : Bool := (zqA m at_1 n_2).isSome
theorem zNs (m : (Option Bulkheadref05Memory)) (at_1 : Int) (n_2 : Int) (hc : zjW m at_1 n_2 = true) : Okay Pr GL 111 [.op .sBulkheadref05Memory m, (zf at_1), (zf n_2)] [] (zyo (zcO m at_1 n_2)) := zG (H := H111) (bod := zeF id m at_1 n_2) (ent := ziO id m at_1 n_2) (bodA := zeF zyo m at_1 n_2) (entA := ziO zyo m at_1 n_2) zea zA Tryz.func111 rfl (by kernel_rfl) zyo zMR (zVd m at_1 n_2) (fun J l => by cases l <;> kernel_rfl) (fun J => by kernel_rfl) (fun s l => by cases l <;> simp only [zeF, zc, zt, zu, id]) (fun s => by simp only [ziO, zc, zt, zu, id]) (zJh m at_1 n_2) (by dsimp only [ziO]; repeat (first | exact ctJ _ | exact ctK _ | apply ctC)) hc
abbrev zy6 := Bulkheadref19Held × Bool
def zyp (r : zy6) : zT := ⟨.tup [.agg [(zX r.1.there), (zX r.1.fresh), .sl (.i .u32) r.1.message], (zX r.2)], []⟩
inductive zrR where | l19 (x1 : Bool) (x0 : Bool) (x2 : List Int) | l0 (x4 : Int) (x0 : Bool) (x1 : Bool) (x2 : List Int) (x3 : List Int)
def zMS : zrR -> Nat | .l19 _ _ _ => 19 | .l0 _ _ _ _ _ => 0
def H112 : zS := htt [9] [(0, ⟨z7 [0, 4, 6, 8, 56, 57] 72 0, []⟩), (19, ⟨z7 [0, 1, 4, 6] 72 0, [(.box 6 2, .sl (.i .u32))]⟩)] [(.cell 0 2, .sl (.i .u32))]
noncomputable def zVe (l_0 : (List Int)) (head : Int) : zrR -> St | .l19 x1 x0 x2 => stt [(0, .sl (.i .u32) l_0), (1, (zf head)), (4, .ref 0 0), (6, .ref 1 0)] 72 [.cells 205 [(zX false), (zX false), .v (.slice none 0 0)], .cells 205 [(zX x1), (zX x0), .sl (.i .u32) x2]] 0 | .l0 x4 x0 x1 x2 x3 => stt [(0, .sl (.i .u32) l_0), (4, .ref 0 0), (6, .ref 1 0), (8, .own 2), (56, (zf l_0.length)), (57, (zf x4))] 72 [.cells 205 [(zX false), (zX false), .v (.slice none 0 0)], .cells 205 [(zX x0), (zX x1), .sl (.i .u32) x2], .arr 57 (.i .u32) x3] 0
noncomputable def zdY {R : Type} (ret : zy6 -> R) (l_0 : (List Int)) (head : Int) (j : zrR -> Option R) : zrR -> Option R | .l19 x1 x0 x2 =>let y1 := (⟨x1, x0, x2⟩ : Bulkheadref19Held); let y2 := i64.wrap (l_0.length - head);  cond (zro y1 head y2) (j (.l0 0 x1 x0 x2 (zwG y1 head y2))) none | .l0 x4 x0 x1 x2 x3 => cond (decide (x4 < l_0.length)) (cond (zN x4 x3.length) ( cond (zN x4 l_0.length) ( cond (!((zx x3 x4.toNat : Int) == zx l_0 x4.toNat)) (some (ret ((⟨false, false, []⟩ : Bulkheadref19Held), false))) (j (.l0 (i64.wrap (x4 + 1)) x0 x1 x2 x3))) none) none) (some (ret ((⟨x0, x1, x2⟩ : Bulkheadref19Held), true)))
noncomputable def ziP {R : Type} (ret : zy6 -> R) (l_0 : (List Int)) (head : Int) (j : zrR -> Option R) : Option R := cond (zN 0 l_0.length) ( cond (!((zx l_0 0 : Int) == 0)) (cond (zN (i64.wrap (head - 1)) l_0.length) ( cond (decide (((i64.wrap (zx l_0 ((i64.wrap (head - 1)).toNat))) : Int) < 1)) (some (ret ((⟨false, false, []⟩ : Bulkheadref19Held), false))) (cond (decide (((i64.wrap (zx l_0 ((i64.wrap (head - 1)).toNat))) : Int) > (i64.wrap (l_0.length - head)))) (some (ret ((⟨false, false, []⟩ : Bulkheadref19Held), false))) (cond ((head : Int) == 3) (cond (zN 1 l_0.length) ( cond (inS head (i64.wrap (head + (i64.wrap (zx l_0 ((i64.wrap (head - 1)).toNat))))) l_0.length) ( j (.l19 true ((zx l_0 1 : Int) == 1) ((l_0.take (i64.wrap (head + (i64.wrap (zx l_0 ((i64.wrap (head - 1)).toNat))))).toNat).drop head.toNat))) none) none) (cond (inS head (i64.wrap (head + (i64.wrap (zx l_0 ((i64.wrap (head - 1)).toNat))))) l_0.length) ( j (.l19 true false ((l_0.take (i64.wrap (head + (i64.wrap (zx l_0 ((i64.wrap (head - 1)).toNat))))).toNat).drop head.toNat))) none)))) none) (j (.l19 false false []))) none
theorem zJi (l_0 : (List Int)) (head : Int) (l : zrR) : CT fun j => zdY id l_0 head j l := by cases l <;> (dsimp only [zdY]; repeat (first | exact ctJ _ | exact ctK _ | apply ctC))
def zd5 (l_0 : (List Int)) (head : Int) : zrR -> Option zy6 := lfp (zdY id l_0 head)
theorem zjE (l_0 : (List Int)) (head : Int) (l : zrR) : zd5 l_0 head l = zdY id l_0 head (zd5 l_0 head) l := zL (zJi l_0 head) l
def zqB (l_0 : (List Int)) (head : Int) : Option zy6 := ziP id l_0 head (zd5 l_0 head)
def zci (l_0 : (List Int)) (head : Int) : zy6 := (zqB l_0 head).getD default
def zgd (l_0 : (List Int)) (head : Int) : Bool := (zqB l_0 head).isSome
theorem zNt (l_0 : (List Int)) (head : Int) (hc : zgd l_0 head = true) : Okay Pr GL 112 [.sl (.i .u32) l_0, (zf head)] [] (zyp (zci l_0 head)) := zG (H := H112) (bod := zdY id l_0 head) (ent := ziP id l_0 head) (bodA := zdY zyp l_0 head) (entA := ziP zyp l_0 head) zea zA Tryz.func112 rfl (by kernel_rfl) zyp zMS (zVe l_0 head) (fun J l => by cases l <;> kernel_rfl) (fun J => by kernel_rfl) (fun s l => by cases l <;> simp only [zdY, zc, zt, zu, id]) (fun s => by simp only [ziP, zc, zt, zu, id]) (zJi l_0 head) (by dsimp only [ziP]; repeat (first | exact ctJ _ | exact ctK _ | apply ctC)) hc
abbrev zy8 := (List Int) × Bool
def zyr (r : zy8) : zT := ⟨.tup [.fn (.func 158) [] [.ref 0 0], (zX r.2)], [.cells 245 (zav (.i .i64) 256 r.1)]⟩
inductive zrT where | l0 (x0 : Int) (x1 : List Int) | l4 (x2 : Int) (x0 : Int) (x3 : Int) (x1 : List Int) (x4 : Int) (x5 : Int) (x6 : Int) (x7 : Int)
def zMU : zrT -> Nat | .l0 _ _ => 0 | .l4 _ _ _ _ _ _ _ _ => 4
def H121 : zS := htt [] [(0, ⟨z7 [4, 8, 9, 10] 39 0, []⟩), (4, ⟨z7 [4, 5, 6, 7, 8, 9, 10] 39 0, []⟩)] [(.slot 0, .fnc)]
noncomputable def zVg (regions : (List Region)) : zrT -> St | .l0 x0 x1 => stt [(4, .ref 0 0), (8, .sl .sRegion regions), (9, (zf regions.length)), (10, (zf x0))] 39 [.cells 245 (zav (.i .i64) 256 x1)] 0 | .l4 x2 x0 x3 x1 x4 x5 x6 x7 => stt [(4, .ref 0 0), (5, (zf x2)), (6, .ref 1 0), (7, (zf x0)), (8, .sl .sRegion regions), (9, (zf regions.length)), (10, (zf x3))] 39 [.cells 245 (zav (.i .i64) 256 x1), .cells 118 [(zf x4), (zf x5), (zf x6), (zf x7)]] 0
noncomputable def zdl {R : Type} (ret : zy8 -> R) (regions : (List Region)) (j : zrT -> Option R) : zrT -> Option R | .l0 x0 x1 =>let y1 := zh regions x0.toNat;  cond (decide (x0 < regions.length)) (cond (zN x0 regions.length) ( cond (!(zpa y1)) (none) (j (.l4 x0 (y1.page) x0 x1 (y1.page) (y1.pages) (y1.frame) (y1.rights)))) none) (some (ret (x1, true))) | .l4 x2 x0 x3 x1 x4 x5 x6 x7 =>let y1 := nrm (.i .i64) 256 x1;  cond (decide (x0 < (i64.wrap (x4 + x5)))) (cond (zN x0 256) ( cond (!((zx y1 x0.toNat : Int) == 0)) (none) (cond (zN x0 256) ( j (.l4 x2 (i64.wrap (x0 + 1)) x3 (List.set y1 x0.toNat (i64.wrap (x2 + 1))) x4 x5 x6 x7)) none)) none) (j (.l0 (i64.wrap (x3 + 1)) x1))
noncomputable def ziT {R : Type} (ret : zy8 -> R) (regions : (List Region)) (j : zrT -> Option R) : Option R := j (.l0 0 (List.replicate 256 (0 : Int)))
theorem zJk (regions : (List Region)) (l : zrT) : CT fun j => zdl id regions j l := by cases l <;> (dsimp only [zdl]; repeat (first | exact ctJ _ | exact ctK _ | apply ctC))
def zd6 (regions : (List Region)) : zrT -> Option zy8 := lfp (zdl id regions)
theorem zgA (regions : (List Region)) (l : zrT) : zd6 regions l = zdl id regions (zd6 regions) l := zL (zJk regions) l
def zqG (regions : (List Region)) : Option zy8 := ziT id regions (zd6 regions)
def zf6 (regions : (List Region)) : zy8 := (zqG regions).getD default
def zrf (regions : (List Region)) : Bool := (zqG regions).isSome
theorem zNC (regions : (List Region)) (hc : zrf regions = true) : Okay Pr GL 121 [.sl .sRegion regions] [] (zyr (zf6 regions)) := zG (H := H121) (bod := zdl id regions) (ent := ziT id regions) (bodA := zdl zyr regions) (entA := ziT zyr regions) zea zA Tryz.func121 rfl (by kernel_rfl) zyr zMU (zVg regions) (fun J l => by cases l <;> kernel_rfl) (fun J => by kernel_rfl) (fun s l => by cases l <;> simp only [zdl, zc, zt, zu, id]) (fun s => by simp only [ziT, zc, zt, zu, id]) (zJk regions) (by dsimp only [ziT]; repeat (first | exact ctJ _ | exact ctK _ | apply ctC)) hc
abbrev zy9 := (List Int) × (List Int)
def zys (r : zy9) : zT := ⟨.sl (.i .i64) r.1, [.cells 245 (zav (.i .i64) 256 r.2)]⟩
inductive zrU where | l0 (x0 : Int) (x1 : List Int) (x2 : List Int) | l4 (x3 : Int) (x0 : Bool) (x4 : Int) (x1 : Int) (x2 : List Int) (x5 : List Int) | l27 (x0 : Int) (x1 : List Int) (x2 : List Int)
def zMV : zrU -> Nat | .l0 _ _ _ => 0 | .l4 _ _ _ _ _ _ => 4 | .l27 _ _ _ => 27
def H123 : zS := htt [13] [(0, ⟨z7 [0, 3, 7, 15, 16, 17, 18, 19, 20, 21] 31 0, [(.slot 3, .own 3 (.i .i64))]⟩), (4, ⟨z7 [0, 3, 4, 5, 7, 10] 31 0, [(.slot 3, .own 3 (.i .i64))]⟩), (27, ⟨z7 [0, 3, 7, 15, 16, 17, 18, 19, 20, 21] 31 0, [(.slot 3, .own 3 (.i .i64))]⟩)] [(.slot 0, .sl (.i .i64))]
noncomputable def zVh (xs : List Int) : zrU -> St | .l0 x0 x1 x2 => stt [(0, .fn (.func 158) [] [.ref 0 0]), (3, .own 1), (7, (zf x0))] 31 [.cells 245 (zav (.i .i64) 256 x1), .arr 3 (.i .i64) x2] 1 | .l4 x3 x0 x4 x1 x2 x5 => stt [(0, .fn (.func 158) [] [.ref 0 0]), (3, .own 1), (4, (zf x3)), (5, (zX x0)), (7, (zf x4)), (10, (zf x1))] 31 [.cells 245 (zav (.i .i64) 256 x2), .arr 3 (.i .i64) x5] 1 | .l27 x0 x1 x2 => stt [(0, .fn (.func 158) [] [.ref 0 0]), (3, .own 1), (7, (zf x0))] 31 [.cells 245 (zav (.i .i64) 256 x1), .arr 3 (.i .i64) x2] 1
noncomputable def zcU {R : Type} (ret : zy9 -> R) (xs : List Int) (j : zrU -> Option R) : zrU -> Option R | .l0 x0 x1 x2 => cond (decide (x0 < 16)) (j (.l4 x0 false x0 0 x1 x2)) (some (ret (x2, x1))) | .l4 x3 x0 x4 x1 x2 x5 =>let y1 := i64.wrap ((i64.wrap (x3 * 16)) + x1); let y2 := nrm (.i .i64) 256 x2; let y3 := i64.wrap (x1 + 1);  cond (decide (x1 < 16)) (cond x0 (j (.l4 x3 true x4 y3 x2 x5)) (cond (zne y1 y2) ( j (.l4 x3 (decide (((zmA y1 y2).1 : Int) >= 0)) x4 y3 ((zmA y1 y2).2) x5)) none)) (cond x0 (cond (leB (((x5 : List Int).length + ([x3] : List Int).length) * 8) 140737488355328) (j (.l27 x4 x2 ((x5 : List Int) ++ [x3]))) none) (j (.l27 x4 x2 x5))) | .l27 x0 x1 x2 => j (.l0 (i64.wrap (x0 + 1)) x1 x2)
noncomputable def ziV {R : Type} (ret : zy9 -> R) (xs : List Int) (j : zrU -> Option R) : Option R := j (.l0 0 xs [])
theorem zJl (xs : List Int) (l : zrU) : CT fun j => zcU id xs j l := by cases l <;> (dsimp only [zcU]; repeat (first | exact ctJ _ | exact ctK _ | apply ctC))
def zcZ (xs : List Int) : zrU -> Option zy9 := lfp (zcU id xs)
theorem zes (xs : List Int) (l : zrU) : zcZ xs l = zcU id xs (zcZ xs) l := zL (zJl xs) l
def zqH (xs : List Int) : Option zy9 := ziV id xs (zcZ xs)
def zgS (xs : List Int) : zy9 := (zqH xs).getD default
def zrg (xs : List Int) : Bool := (zqH xs).isSome
theorem zNE (xs : List Int) (hc : zrg xs = true) : Okay Pr GL 123 [.fn (.func 158) [] [.ref 0 0]] [.cells 245 (zav (.i .i64) 256 xs)] (zys (zgS xs)) := zG (H := H123) (bod := zcU id xs) (ent := ziV id xs) (bodA := zcU zys xs) (entA := ziV zys xs) zea zA Tryz.func123 rfl (by kernel_rfl) zys zMV (zVh xs) (fun J l => by cases l <;> kernel_rfl) (fun J => by kernel_rfl) (fun s l => by cases l <;> simp only [zcU, zc, zt, zu, id]) (fun s => by simp only [ziV, zc, zt, zu, id]) (zJl xs) (by dsimp only [ziV]; repeat (first | exact ctJ _ | exact ctK _ | apply ctC)) hc
abbrev zzb := (List Int) × (List Int)
def zyu (r : zzb) : zT := ⟨.own 1, [.cells 245 (zav (.i .i64) 256 r.2), .arr 57 (.i .u32) r.1]⟩
inductive zrW where | l0 (x0 : Int) (x1 : List Int) (x2 : List Int) | l21 (x1 : Int) (x2 : List Int) (x0 : List Int)
def zMX : zrW -> Nat | .l0 _ _ _ => 0 | .l21 _ _ _ => 21
def H127 : zS := htt [10] [(0, ⟨z7 [0, 1, 2, 7, 14, 15] 49 0, []⟩), (21, ⟨z7 [0, 1, 2, 7, 14, 15] 49 0, []⟩)] []
noncomputable def zVj (regions : (List Region)) (t : Int) (xs : List Int) : zrW -> St | .l0 x0 x1 x2 => stt [(0, .fn (.func 158) [] [.ref 0 0]), (1, .sl .sRegion regions), (2, (zf t)), (7, .own 1), (14, (zf ((List.replicate 16 (0 : Int)).length))), (15, (zf x0))] 49 [.cells 245 (zav (.i .i64) 256 x1), .arr 57 (.i .u32) x2] 1 | .l21 x1 x2 x0 => stt [(0, .fn (.func 158) [] [.ref 0 0]), (1, .sl .sRegion regions), (2, (zf t)), (7, .own 1), (14, (zf ((List.replicate 16 (0 : Int)).length))), (15, (zf x1))] 49 [.cells 245 (zav (.i .i64) 256 x2), .arr 57 (.i .u32) x0] 1
noncomputable def zdZ {R : Type} (ret : zzb -> R) (regions : (List Region)) (t : Int) (xs : List Int) (j : zrW -> Option R) : zrW -> Option R | .l0 x0 x1 x2 =>let y2 := i64.wrap ((i64.wrap (t * 16)) + x0); let y4 := nrm (.i .i64) 256 x1; let y1 := zmA y2 y4; let y3 := zh regions ((y1.1).toNat);  cond (decide (x0 < (List.replicate 16 (0 : Int)).length)) (cond (zne y2 y4) ( cond (decide ((y1.1 : Int) >= 0)) (cond (zN (y1.1) regions.length) ( cond (zN x0 x2.length) ( j (.l21 x0 (y1.2) (List.set x2 x0.toNat ((zks (i64.wrap ((i64.wrap (y3.frame + y2)) - y3.page)) (y3.rights)).1)))) none) none) (j (.l21 x0 (y1.2) x2))) none) (some (ret (x2, x1))) | .l21 x1 x2 x0 => j (.l0 (i64.wrap (x1 + 1)) x2 x0)
noncomputable def ziY {R : Type} (ret : zzb -> R) (regions : (List Region)) (t : Int) (xs : List Int) (j : zrW -> Option R) : Option R := cond (decide ((16 : Int) = 16) && decide (0 <= 16) && leB (16 * 4) 140737488355328) (j (.l0 0 xs (List.replicate 16 (0 : Int)))) none
theorem zJn (regions : (List Region)) (t : Int) (xs : List Int) (l : zrW) : CT fun j => zdZ id regions t xs j l := by cases l <;> (dsimp only [zdZ]; repeat (first | exact ctJ _ | exact ctK _ | apply ctC))
def zfc (regions : (List Region)) (t : Int) (xs : List Int) : zrW -> Option zzb := lfp (zdZ id regions t xs)
theorem zjF (regions : (List Region)) (t : Int) (xs : List Int) (l : zrW) : zfc regions t xs l = zdZ id regions t xs (zfc regions t xs) l := zL (zJn regions t xs) l
def zqJ (regions : (List Region)) (t : Int) (xs : List Int) : Option zzb := ziY id regions t xs (zfc regions t xs)
def ztN (regions : (List Region)) (t : Int) (xs : List Int) : zzb := (zqJ regions t xs).getD default
def zrh (regions : (List Region)) (t : Int) (xs : List Int) : Bool := (zqJ regions t xs).isSome
theorem zNH (regions : (List Region)) (t : Int) (xs : List Int) (hc : zrh regions t xs = true) : Okay Pr GL 127 [.fn (.func 158) [] [.ref 0 0], .sl .sRegion regions, (zf t)] [.cells 245 (zav (.i .i64) 256 xs)] (zyu (ztN regions t xs)) := zG (H := H127) (bod := zdZ id regions t xs) (ent := ziY id regions t xs) (bodA := zdZ zyu regions t xs) (entA := ziY zyu regions t xs) zea zA Tryz.func127 rfl (by kernel_rfl) zyu zMX (zVj regions t xs) (fun J l => by cases l <;> kernel_rfl) (fun J => by kernel_rfl) (fun s l => by cases l <;> simp only [zdZ, zc, zt, zu, id]) (fun s => by simp only [ziY, zc, zt, zu, id]) (zJn regions t xs) (by dsimp only [ziY]; repeat (first | exact ctJ _ | exact ctK _ | apply ctC)) hc
abbrev zEt := (List Int) × Bool
def zDx (r : zEt) : zT := ⟨.tup [.sl (.i .u32) r.1, (zX r.2)], []⟩
def H156 : zS := ⟨fun _ => false, fun _ => ⟨[], []⟩, [(.slot 0, .sl (.i .u32))], G0, zc7⟩
noncomputable def zlO {R : Type} (ret : zEt -> R) (l_0 : (List Int)) (head : Int) : Option R := cond (zrv l_0) ( cond (zwJ l_0) (some (ret ([], true))) (cond (zN 0 l_0.length) ( cond (!((zx l_0 0 : Int) == 1)) (some (ret ([], false))) (cond ((head : Int) == 3) (cond (zN 1 l_0.length) ( cond (decide ((zx l_0 1 : Int) > 1)) (some (ret ([], false))) (cond (znh l_0 head) (some (ret ((zky l_0 head).1, (zky l_0 head).2))) none)) none) (cond (znh l_0 head) (some (ret ((zky l_0 head).1, (zky l_0 head).2))) none))) none)) none
def zqY (l_0 : (List Int)) (head : Int) : Option zEt := zlO id l_0 head
def zkx (l_0 : (List Int)) (head : Int) : zEt := (zqY l_0 head).getD default
def znd (l_0 : (List Int)) (head : Int) : Bool := (zqY l_0 head).isSome
theorem zNZ (l_0 : (List Int)) (head : Int) (hc : znd l_0 head = true) : Okay Pr GL 156 [.sl (.i .u32) l_0, (zf head)] [] (zDx (zkx l_0 head)) := zy (H := H156) (ent := zlO id l_0 head) (entA := zlO zDx l_0 head) zea zA Tryz.func156 rfl (by kernel_rfl) zDx (fun J => by kernel_rfl) (by simp only [zlO, zc, zt, zu, id]) hc
abbrev zEA := Int
def zDE (r : zEA) : zT := ⟨(zf r), []⟩
noncomputable def zlX {R : Type} (ret : zEA -> R) (f : QueueForm) (head : Int) : Option R := some (ret (i64.wrap (head + (i64.wrap (f.depth * (zmC f))))))
def zm8 (f : QueueForm) (head : Int) : Option zEA := zlX id f head
def zac (f : QueueForm) (head : Int) : zEA := (zm8 f head).getD default
theorem zG2 (f : QueueForm) (head : Int) : zm8 f head = some (zac f head) := zC (show (zm8 f head).isSome = true by simp only [zm8, zlX, zF, Option.isSome_some, zO])
theorem zOc (f : QueueForm) (head : Int) : Okay Pr GL 169 [.agg [(zf f.words), (zf f.depth)], (zf head)] [] (zDE (zac f head)) := zy (H := H57) (ent := zlX id f head) (entA := zlX zDE f head) zea zA Tryz.func169 rfl (by kernel_rfl) zDE (fun J => by kernel_rfl) (by simp only [zlX, zc, zt, zu, id]) (show (zm8 f head).isSome = true by rw [zG2]; rfl)
abbrev zzp := (List (List Int)) × Bool
def zyI (r : zzp) : zT := ⟨.tup [.sl (.sl (.i .u32)) r.1, (zX r.2)], []⟩
inductive zsa where | l0 (x0 : Int) (x1 : List (List Int)) | l27 (x1 : Int) (x2 : List Int) (x3 : Int) (x4 : Bool) (x5 : Int) (x6 : Bool) (x7 : Bool) (x0 : List (List Int))
def zNb : zsa -> Nat | .l0 _ _ => 0 | .l27 _ _ _ _ _ _ _ _ => 27
def H170 : zS := htt [13] [(0, ⟨z7 [1, 2, 3, 4, 10, 28, 29] 75 0, [(.slot 10, .own 28 (.sl (.i .u32)))]⟩), (27, ⟨z7 [1, 2, 3, 4, 10, 28, 29, 57, 58, 59, 60, 61, 62, 63, 64] 75 0, [(.slot 10, .own 28 (.sl (.i .u32)))]⟩)] [(.slot 0, .sl (.sl (.i .u32)))]
noncomputable def zVx (f : QueueForm) (l_1 : (List Int)) (first : Int) (many : Int) : zsa -> St | .l0 x0 x1 => stt [(1, .sl (.i .u32) l_1), (2, (avU first)), (3, (avU many)), (4, .ref 0 0), (10, .own 1), (28, (zf f.depth)), (29, (zf x0))] 75 [.cells 211 [(zf f.words), (zf f.depth)], .arr 28 (.sl (.i .u32)) x1] 0 | .l27 x1 x2 x3 x4 x5 x6 x7 x0 => stt [(1, .sl (.i .u32) l_1), (2, (avU first)), (3, (avU many)), (4, .ref 0 0), (10, .own 1), (28, (zf f.depth)), (29, (zf x1)), (57, .sl (.i .u32) x2), (58, (zf x3)), (59, (zX x4)), (60, (zf x5)), (61, (avU many)), (62, (zf (i64.wrap many))), (63, (zX x6)), (64, (zX x7))] 75 [.cells 211 [(zf f.words), (zf f.depth)], .arr 28 (.sl (.i .u32)) x0] 0
noncomputable def zd1 {R : Type} (ret : zzp -> R) (f : QueueForm) (l_1 : (List Int)) (first : Int) (many : Int) (j : zsa -> Option R) : zsa -> Option R | .l0 x0 x1 =>let y2 := dv .rem .i64 (i64.wrap ((i64.wrap first) + x0)) f.depth; let y4 := decide (x0 < (i64.wrap many)); let y5 := i64.wrap ((i64.wrap (y2 + 1)) * (zmC f)); let y7 := i64.wrap (y2 * (zmC f)); let y1 := (l_1.take y5.toNat).drop y7.toNat; let y6 := ztR y1; let y3 := (decide (((y6.1).length : Int) > 0)); let y8 := !(y3 == y4); let y9 := (x1 : List (List Int));  cond (decide (x0 < f.depth)) (cond (decide ((f.depth : Int) = 0)) (none) (cond (inS y7 y5 l_1.length) ( cond (zrw y1) ( cond (!(y6.2)) (some (ret ([], false))) (cond y8 (some (ret ([], false))) (cond y3 (cond (leB ((y9.length + ([y6.1] : List (List Int)).length) * 24) 140737488355328) ( j (.l27 x0 (y6.1) ((y6.1).length) y3 x0 y4 y8 (y9 ++ [y6.1]))) none) (j (.l27 x0 (y6.1) ((y6.1).length) y3 x0 y4 y8 x1))))) none) none)) (some (ret (x1, true))) | .l27 x1 x2 x3 x4 x5 x6 x7 x0 => j (.l0 (i64.wrap (x1 + 1)) x0)
noncomputable def zg4 {R : Type} (ret : zzp -> R) (f : QueueForm) (l_1 : (List Int)) (first : Int) (many : Int) (j : zsa -> Option R) : Option R := cond (decide ((many : Int) > (u32.wrap f.depth))) (some (ret ([], false))) (cond (decide ((first : Int) >= (u32.wrap f.depth))) (some (ret ([], false))) (j (.l0 0 [])))
theorem zJB (f : QueueForm) (l_1 : (List Int)) (first : Int) (many : Int) (l : zsa) : CT fun j => zd1 id f l_1 first many j l := by cases l <;> (dsimp only [zd1]; repeat (first | exact ctJ _ | exact ctK _ | apply ctC))
def zjJ (f : QueueForm) (l_1 : (List Int)) (first : Int) (many : Int) : zsa -> Option zzp := lfp (zd1 id f l_1 first many)
theorem zjK (f : QueueForm) (l_1 : (List Int)) (first : Int) (many : Int) (l : zsa) : zjJ f l_1 first many l = zd1 id f l_1 first many (zjJ f l_1 first many) l := zL (zJB f l_1 first many) l
def zgc (f : QueueForm) (l_1 : (List Int)) (first : Int) (many : Int) : Option zzp := zg4 id f l_1 first many (zjJ f l_1 first many)
def zf7 (f : QueueForm) (l_1 : (List Int)) (first : Int) (many : Int) : zzp := (zgc f l_1 first many).getD default
def zj1 (f : QueueForm) (l_1 : (List Int)) (first : Int) (many : Int) : Bool := (zgc f l_1 first many).isSome
theorem zOd (f : QueueForm) (l_1 : (List Int)) (first : Int) (many : Int) (hc : zj1 f l_1 first many = true) : Okay Pr GL 170 [.agg [(zf f.words), (zf f.depth)], .sl (.i .u32) l_1, (avU first), (avU many)] [] (zyI (zf7 f l_1 first many)) := zG (H := H170) (bod := zd1 id f l_1 first many) (ent := zg4 id f l_1 first many) (bodA := zd1 zyI f l_1 first many) (entA := zg4 zyI f l_1 first many) zea zA Tryz.func170 rfl (by kernel_rfl) zyI zNb (zVx f l_1 first many) (fun J l => by cases l <;> kernel_rfl) (fun J => by kernel_rfl) (fun s l => by cases l <;> simp only [zd1, zc, zt, zu, id]) (fun s => by simp only [zg4, zc, zt, zu, id]) (zJB f l_1 first many) (by dsimp only [zg4]; repeat (first | exact ctJ _ | exact ctK _ | apply ctC)) hc
def g37 (args : List AV) (hp : List Blk) : Option (Bool × AV × List Blk) :=
 match args, hp with
 | [.ref 0 0], [.cells 103 [.v (.int .i64 y0), .v (.int .i64 y1), .v (.int .i64 y2), .v (.int .i64 y3), .sl (.sl .sWindow) y4, .sl .sPartition y5, .sl .sChannel y6, .v (.int .i64 y7), .sl .sPartitionPlace y8, .sl .sChannelPlace y9, .v (.int .i64 y10), .op .sMemMemory y11, .own 1], .arr 86 .sProblem y12] => some ((zxK (⟨y0, y1, y2, y3, y4, y5, y6⟩ : Config) (⟨y7, y8, y9, y10⟩ : Layout) y11 y12), .tup [], [.cells 103 [(zf ((zgJ (⟨y0, y1, y2, y3, y4, y5, y6⟩ : Config) (⟨y7, y8, y9, y10⟩ : Layout) y11 y12).c.frames)), (zf ((zgJ (⟨y0, y1, y2, y3, y4, y5, y6⟩ : Config) (⟨y7, y8, y9, y10⟩ : Layout) y11 y12).c.major)), (zf ((zgJ (⟨y0, y1, y2, y3, y4, y5, y6⟩ : Config) (⟨y7, y8, y9, y10⟩ : Layout) y11 y12).c.kernel)), (zf ((zgJ (⟨y0, y1, y2, y3, y4, y5, y6⟩ : Config) (⟨y7, y8, y9, y10⟩ : Layout) y11 y12).c.room)), .sl (.sl .sWindow) ((zgJ (⟨y0, y1, y2, y3, y4, y5, y6⟩ : Config) (⟨y7, y8, y9, y10⟩ : Layout) y11 y12).c.cores), .sl .sPartition ((zgJ (⟨y0, y1, y2, y3, y4, y5, y6⟩ : Config) (⟨y7, y8, y9, y10⟩ : Layout) y11 y12).c.partitions), .sl .sChannel ((zgJ (⟨y0, y1, y2, y3, y4, y5, y6⟩ : Config) (⟨y7, y8, y9, y10⟩ : Layout) y11 y12).c.channels), (zf ((zgJ (⟨y0, y1, y2, y3, y4, y5, y6⟩ : Config) (⟨y7, y8, y9, y10⟩ : Layout) y11 y12).l.barrier)), .sl .sPartitionPlace ((zgJ (⟨y0, y1, y2, y3, y4, y5, y6⟩ : Config) (⟨y7, y8, y9, y10⟩ : Layout) y11 y12).l.partitions), .sl .sChannelPlace ((zgJ (⟨y0, y1, y2, y3, y4, y5, y6⟩ : Config) (⟨y7, y8, y9, y10⟩ : Layout) y11 y12).l.channels), (zf ((zgJ (⟨y0, y1, y2, y3, y4, y5, y6⟩ : Config) (⟨y7, y8, y9, y10⟩ : Layout) y11 y12).l.end_)), .op .sMemMemory ((zgJ (⟨y0, y1, y2, y3, y4, y5, y6⟩ : Config) (⟨y7, y8, y9, y10⟩ : Layout) y11 y12).m), .own 2], .dead, .arr 86 .sProblem ((zgJ (⟨y0, y1, y2, y3, y4, y5, y6⟩ : Config) (⟨y7, y8, y9, y10⟩ : Layout) y11 y12).out)])
 | _, _ => none
theorem zLu : zD 37 g37 := fun args hp b r hp' h hb => by
 unfold g37 at h
 split at h
 . cases h; have q := zTI _ _ _ _ hb; exact ⟨zB Tryz.func37 (by kernel_rfl) rfl, q⟩
 . cases h
def g38 (args : List AV) (hp : List Blk) : Option (Bool × AV × List Blk) :=
 match args, hp with
 | [.ref 0 0, .v (.int .i64 y0), .v (.int .i64 y1), .v (.int .i64 y2)], [.cells 103 [.v (.int .i64 y3), .v (.int .i64 y4), .v (.int .i64 y5), .v (.int .i64 y6), .sl (.sl .sWindow) y7, .sl .sPartition y8, .sl .sChannel y9, .v (.int .i64 y10), .sl .sPartitionPlace y11, .sl .sChannelPlace y12, .v (.int .i64 y13), .op .sMemMemory y14, .own 1], .arr 86 .sProblem y15] => some ((zpG y0 y1 y2 (⟨y3, y4, y5, y6, y7, y8, y9⟩ : Config) (⟨y10, y11, y12, y13⟩ : Layout) y14 y15), .tup [], [.cells 103 [(zf ((zft y0 y1 y2 (⟨y3, y4, y5, y6, y7, y8, y9⟩ : Config) (⟨y10, y11, y12, y13⟩ : Layout) y14 y15).c.frames)), (zf ((zft y0 y1 y2 (⟨y3, y4, y5, y6, y7, y8, y9⟩ : Config) (⟨y10, y11, y12, y13⟩ : Layout) y14 y15).c.major)), (zf ((zft y0 y1 y2 (⟨y3, y4, y5, y6, y7, y8, y9⟩ : Config) (⟨y10, y11, y12, y13⟩ : Layout) y14 y15).c.kernel)), (zf ((zft y0 y1 y2 (⟨y3, y4, y5, y6, y7, y8, y9⟩ : Config) (⟨y10, y11, y12, y13⟩ : Layout) y14 y15).c.room)), .sl (.sl .sWindow) ((zft y0 y1 y2 (⟨y3, y4, y5, y6, y7, y8, y9⟩ : Config) (⟨y10, y11, y12, y13⟩ : Layout) y14 y15).c.cores), .sl .sPartition ((zft y0 y1 y2 (⟨y3, y4, y5, y6, y7, y8, y9⟩ : Config) (⟨y10, y11, y12, y13⟩ : Layout) y14 y15).c.partitions), .sl .sChannel ((zft y0 y1 y2 (⟨y3, y4, y5, y6, y7, y8, y9⟩ : Config) (⟨y10, y11, y12, y13⟩ : Layout) y14 y15).c.channels), (zf ((zft y0 y1 y2 (⟨y3, y4, y5, y6, y7, y8, y9⟩ : Config) (⟨y10, y11, y12, y13⟩ : Layout) y14 y15).l.barrier)), .sl .sPartitionPlace ((zft y0 y1 y2 (⟨y3, y4, y5, y6, y7, y8, y9⟩ : Config) (⟨y10, y11, y12, y13⟩ : Layout) y14 y15).l.partitions), .sl .sChannelPlace ((zft y0 y1 y2 (⟨y3, y4, y5, y6, y7, y8, y9⟩ : Config) (⟨y10, y11, y12, y13⟩ : Layout) y14 y15).l.channels), (zf ((zft y0 y1 y2 (⟨y3, y4, y5, y6, y7, y8, y9⟩ : Config) (⟨y10, y11, y12, y13⟩ : Layout) y14 y15).l.end_)), .op .sMemMemory ((zft y0 y1 y2 (⟨y3, y4, y5, y6, y7, y8, y9⟩ : Config) (⟨y10, y11, y12, y13⟩ : Layout) y14 y15).m), .own 2], .dead, .arr 86 .sProblem ((zft y0 y1 y2 (⟨y3, y4, y5, y6, y7, y8, y9⟩ : Config) (⟨y10, y11, y12, y13⟩ : Layout) y14 y15).out)])
 | _, _ => none
theorem zLv : zD 38 g38 := fun args hp b r hp' h hb => by
 unfold g38 at h
 split at h
 . cases h; have q := zTJ _ _ _ _ _ _ _ hb; exact ⟨zB Tryz.func38 (by kernel_rfl) rfl, q⟩
 . cases h
def g39 (args : List AV) (hp : List Blk) : Option (Bool × AV × List Blk) :=
 match args, hp with
 | [.ref 0 0, .v (.int .i64 y0)], [.cells 103 [.v (.int .i64 y1), .v (.int .i64 y2), .v (.int .i64 y3), .v (.int .i64 y4), .sl (.sl .sWindow) y5, .sl .sPartition y6, .sl .sChannel y7, .v (.int .i64 y8), .sl .sPartitionPlace y9, .sl .sChannelPlace y10, .v (.int .i64 y11), .op .sMemMemory y12, .own 1], .arr 86 .sProblem y13] => some ((zxL y0 (⟨y1, y2, y3, y4, y5, y6, y7⟩ : Config) (⟨y8, y9, y10, y11⟩ : Layout) y12 y13), .tup [], [.cells 103 [(zf ((zgK y0 (⟨y1, y2, y3, y4, y5, y6, y7⟩ : Config) (⟨y8, y9, y10, y11⟩ : Layout) y12 y13).c.frames)), (zf ((zgK y0 (⟨y1, y2, y3, y4, y5, y6, y7⟩ : Config) (⟨y8, y9, y10, y11⟩ : Layout) y12 y13).c.major)), (zf ((zgK y0 (⟨y1, y2, y3, y4, y5, y6, y7⟩ : Config) (⟨y8, y9, y10, y11⟩ : Layout) y12 y13).c.kernel)), (zf ((zgK y0 (⟨y1, y2, y3, y4, y5, y6, y7⟩ : Config) (⟨y8, y9, y10, y11⟩ : Layout) y12 y13).c.room)), .sl (.sl .sWindow) ((zgK y0 (⟨y1, y2, y3, y4, y5, y6, y7⟩ : Config) (⟨y8, y9, y10, y11⟩ : Layout) y12 y13).c.cores), .sl .sPartition ((zgK y0 (⟨y1, y2, y3, y4, y5, y6, y7⟩ : Config) (⟨y8, y9, y10, y11⟩ : Layout) y12 y13).c.partitions), .sl .sChannel ((zgK y0 (⟨y1, y2, y3, y4, y5, y6, y7⟩ : Config) (⟨y8, y9, y10, y11⟩ : Layout) y12 y13).c.channels), (zf ((zgK y0 (⟨y1, y2, y3, y4, y5, y6, y7⟩ : Config) (⟨y8, y9, y10, y11⟩ : Layout) y12 y13).l.barrier)), .sl .sPartitionPlace ((zgK y0 (⟨y1, y2, y3, y4, y5, y6, y7⟩ : Config) (⟨y8, y9, y10, y11⟩ : Layout) y12 y13).l.partitions), .sl .sChannelPlace ((zgK y0 (⟨y1, y2, y3, y4, y5, y6, y7⟩ : Config) (⟨y8, y9, y10, y11⟩ : Layout) y12 y13).l.channels), (zf ((zgK y0 (⟨y1, y2, y3, y4, y5, y6, y7⟩ : Config) (⟨y8, y9, y10, y11⟩ : Layout) y12 y13).l.end_)), .op .sMemMemory ((zgK y0 (⟨y1, y2, y3, y4, y5, y6, y7⟩ : Config) (⟨y8, y9, y10, y11⟩ : Layout) y12 y13).m), .own 2], .dead, .arr 86 .sProblem ((zgK y0 (⟨y1, y2, y3, y4, y5, y6, y7⟩ : Config) (⟨y8, y9, y10, y11⟩ : Layout) y12 y13).out)])
 | _, _ => none
theorem zLw : zD 39 g39 := fun args hp b r hp' h hb => by
 unfold g39 at h
 split at h
 . cases h; have q := zTK _ _ _ _ _ hb; exact ⟨zB Tryz.func39 (by kernel_rfl) rfl, q⟩
 . cases h
def g109 := zJ (zH (zZ (.sl (.i .u32))) fun a0 => zH (zZ (.i .i64)) fun a1 => zH (zZ (.i .i64)) fun a2 => zH (zZ (.i .i64)) fun a3 => zH (zZ (.i .i64)) fun a4 => zH (zZ (.i .i64)) fun a5 => zI ((zht a0 a1 a2 a3 a4 a5), .tup [.agg [(zf ((zdz a0 a1 a2 a3 a4 a5).1.first)), .sl (.sl (.i .u32)) ((zdz a0 a1 a2 a3 a4 a5).1.messages), (avU ((zdz a0 a1 a2 a3 a4 a5).1.lost))], (zX ((zdz a0 a1 a2 a3 a4 a5).2))], []))
theorem zE9 : zD 109 g109 := zk (zB Tryz.func109 (by kernel_rfl) rfl) (zg fun x0 a0 h0 => zg fun x1 a1 h1 => zg fun x2 a2 h2 => zg fun x3 a3 h3 => zg fun x4 a4 h4 => zg fun x5 a5 h5 => zj fun hb => (zNq a0 a1 a2 a3 a4 a5 hb).ats (.cons (zp h0) (.cons (zp h1) (.cons (zp h2) (.cons (zp h3) (.cons (zp h4) (.cons (zp h5) .nil)))))))
def g111 := zJ (zH (zZ (.p .sBulkheadref05Memory)) fun a0 => zH (zZ (.i .i64)) fun a1 => zH (zZ (.i .i64)) fun a2 => zI ((zjW a0 a1 a2), .tup [.own 0, (zf ((zcO a0 a1 a2).2))], [.arr 57 (.i .u32) ((zcO a0 a1 a2).1)]))
theorem zFb : zD 111 g111 := zk (zB Tryz.func111 (by kernel_rfl) rfl) (zg fun x0 a0 h0 => zg fun x1 a1 h1 => zg fun x2 a2 h2 => zj fun hb => (zNs a0 a1 a2 hb).ats (.cons (zp h0) (.cons (zp h1) (.cons (zp h2) .nil))))
def g112 := zJ (zH (zZ (.sl (.i .u32))) fun a0 => zH (zZ (.i .i64)) fun a1 => zI ((zgd a0 a1), .tup [.agg [(zX ((zci a0 a1).1.there)), (zX ((zci a0 a1).1.fresh)), .sl (.i .u32) ((zci a0 a1).1.message)], (zX ((zci a0 a1).2))], []))
theorem zFc : zD 112 g112 := zk (zB Tryz.func112 (by kernel_rfl) rfl) (zg fun x0 a0 h0 => zg fun x1 a1 h1 => zj fun hb => (zNt a0 a1 hb).ats (.cons (zp h0) (.cons (zp h1) .nil)))
def g121 := zJ (zH (zZ (.sl .sRegion)) fun a0 => zI ((zrf a0), .tup [.fn (.func 158) [] [.ref 0 0], (zX ((zf6 a0).2))], [.cells 245 (zav (.i .i64) 256 ((zf6 a0).1))]))
theorem zFl : zD 121 g121 := zk (zB Tryz.func121 (by kernel_rfl) rfl) (zg fun x0 a0 h0 => zj fun hb => (zNC a0 hb).ats (.cons (zp h0) .nil))
def zK2 (args : List AV) (hp : List Blk) : Option (Bool × AV × List Blk) :=
 match args, hp with
 | [.fn (.func 158) [] [.ref 0 0]], [.cells 245 zy0] => (zbv (.i .i64) 256 zy0).bind fun y0 => some ((zrg y0), .sl (.i .i64) ((zgS y0).1), [.cells 245 (zav (.i .i64) 256 ((zgS y0).2))])
 | _, _ => none
theorem zFn : zD 123 zK2 := fun args hp b r hp' h hb => by
 unfold zK2 at h
 split at h
 . simp only [Option.bind_eq_some_iff] at h
   obtain ⟨y0, hd, h⟩ := h
   cases h; exact ⟨zB Tryz.func123 (by kernel_rfl) rfl, (zNE y0 hb).vec 0 hd rfl rfl⟩
 . cases h
def zK4 (args : List AV) (hp : List Blk) : Option (Bool × AV × List Blk) :=
 match args, hp with
 | [.fn (.func 158) [] [.ref 0 0], .sl .sRegion y0, .v (.int .i64 y1)], [.cells 245 zy2] => (zbv (.i .i64) 256 zy2).bind fun y2 => some ((zrh y0 y1 y2), .own 1, [.cells 245 (zav (.i .i64) 256 ((ztN y0 y1 y2).2)), .arr 57 (.i .u32) ((ztN y0 y1 y2).1)])
 | _, _ => none
theorem zFr : zD 127 zK4 := fun args hp b r hp' h hb => by
 unfold zK4 at h
 split at h
 . simp only [Option.bind_eq_some_iff] at h
   obtain ⟨y2, hd, h⟩ := h
   cases h; exact ⟨zB Tryz.func127 (by kernel_rfl) rfl, (zNH _ _ y2 hb).vec 0 hd rfl rfl⟩
 . cases h
def g156 := zJ (zH (zZ (.sl (.i .u32))) fun a0 => zH (zZ (.i .i64)) fun a1 => zI ((znd a0 a1), .tup [.sl (.i .u32) ((zkx a0 a1).1), (zX ((zkx a0 a1).2))], []))
theorem zFU : zD 156 g156 := zk (zB Tryz.func156 (by kernel_rfl) rfl) (zg fun x0 a0 h0 => zg fun x1 a1 h1 => zj fun hb => (zNZ a0 a1 hb).ats (.cons (zp h0) (.cons (zp h1) .nil)))
def g169 := zJ (zH (rdS .sQueueForm) fun a0 => zH (zZ (.i .i64)) fun a1 => zI (true, (zf (zac a0 a1)), []))
theorem zF7 : zD 169 g169 := zk (zB Tryz.func169 (by kernel_rfl) rfl) (zg fun x0 a0 h0 => zg fun x1 a1 h1 => zj fun hb => (zOc a0 a1).ats (.cons (zP h0) (.cons (zp h1) .nil)))
def g170 := zJ (zH (rdS .sQueueForm) fun a0 => zH (zZ (.sl (.i .u32))) fun a1 => zH (zZ (.i .u32)) fun a2 => zH (zZ (.i .u32)) fun a3 => zI ((zj1 a0 a1 a2 a3), .tup [.sl (.sl (.i .u32)) ((zf7 a0 a1 a2 a3).1), (zX ((zf7 a0 a1 a2 a3).2))], []))
theorem zF8 : zD 170 g170 := zk (zB Tryz.func170 (by kernel_rfl) rfl) (zg fun x0 a0 h0 => zg fun x1 a1 h1 => zg fun x2 a2 h2 => zg fun x3 a3 h3 => zj fun hb => (zOd a0 a1 a2 a3 hb).ats (.cons (zP h0) (.cons (zp h1) (.cons (zp h2) (.cons (zp h3) .nil)))))
noncomputable def GQ1 : Gam := zd2 [(37, g37), (38, g38), (39, g39), (109, g109), (111, g111), (112, g112), (121, g121), (123, zK2), (127, zK4), (156, g156), (169, g169), (170, g170)] GQ0
theorem zAs : GOk Pr GL GQ1 := zaH ⟨zLu, zLv, zLw, zE9, zFb, zFc, zFl, zFn, zFr, zFU, zF7, zF8, trivial⟩ zea
end Go.Proofs.YtgfifnadfmaolaaGreatDoor
end
