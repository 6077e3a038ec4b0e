import Derived.Test.YtgajeebphoiphaaGreatDoorGB
import Derived.Test.YtgajeebphoiphaaGreatDoorLG
import Derived.Test.YtgajeebphoiphaaGreatDoorTie
import Derived.SevenTiedAt
import Derived.Carry
set_option linter.unusedVariables false
set_option linter.unusedSimpArgs false
noncomputable section
namespace Go.Proofs.YtgajeebphoiphaaGreatDoor.callsApart
open Go.ChangeShapes Go.WideShapes Go.ChangeAt Go.RowKit
noncomputable def zFh(id:TypeId):Bool:=match zdQ id with
 | none=>true
 | some t=>match t.dat with
  | false=>true
  | true=>match flat Tryz.prog 8 id with
   | some ls=>decide (ls.mapM (zfL Tryz.prog)=some t.leaves)&&Nat.blt 0 (Tryz.prog.bytesOf id)&&Nat.beq (Tryz.prog.bytesOf id) t.by
   | none=>false
theorem zEr{id:TypeId}{t:Ty}(h:zdQ id=some t):id<zwA:=by
 rcases Nat.lt_or_ge id zwA with h1 | h1
 . exact h1
 . obtain ⟨k,rfl⟩:=Nat.exists_eq_add_of_le h1
   rw[Nat.add_comm]at h
   have e : ∀ k,zdQ (k+zwA)=none:=fun k=>by kernel_rfl
   rw[e k]at h;cases h
theorem good:zyI Tryz.prog:=by
 intro id t h hd
 have hall:(List.range zwA).all zFh=true:=by kernel_rfl
 have:=List.all_eq_true.1 hall id (List.mem_range.2 (zEr h))
 unfold zFh at this
 rw[h]at this
 simp only[hd]at this
 split at this
 . rename_i ls hls
   simp only[Bool.and_eq_true,decide_eq_true_eq,Nat.blt_eq,Nat.beq_eq]at this
   exact⟨ls,hls,this.1.1,this.1.2,this.2⟩
 . cases this
theorem own:ownKnob Tryz.prog.godebug=none:=by kernel_rfl
noncomputable abbrev zsb:List (String × DataW Unit):=Rows.callsApartRow.laid
def zMs:Array Value:=#[.agg #[.int .i64 0,.int .i64 0,.int .i64 0,.int .i64 0,.slice none 0 0,.slice none 0 0,.slice none 0 0,.slice none 0 0,.slice none 0 0],.slice none 0 0,.int .u32 0]
theorem zzT(os:Os)(args:Array Value):laidMetH Tryz.prog zsb ((World.doorLaid Tryz.prog 400 os).forCall (fun _ _=>0) ⟨#[],args,[]⟩).memory:=
 laidMetH_of_parts3 (fuel:=8) (laidMet_of_run' 8 (by kernel_rfl) (by kernel_rfl)) (by kernel_rfl) (by kernel_rfl)
theorem gFine:Tryz.prog.globalNamed "bulkhead/admit.fine" = some 0:=by kernel_rfl
theorem gNowhere:Tryz.prog.globalNamed "bulkhead/admit.nowhere" = some 1:=by kernel_rfl
theorem tFine:(Tryz.prog.globals[0]?).map (·.type)=some 194:=by kernel_rfl
theorem tNowhere:(Tryz.prog.globals[1]?).map (·.type)=some 144:=by kernel_rfl
theorem zNi{W:World}(h:laidMetH Tryz.prog zsb W):GlOk GL (fun b=>b<W.heap.size) W:=by
 rw[MakeChecks.laidMetH_plain _ _ _ (by kernel_rfl)]at h
 obtain ⟨ps,⟨g1,t1,cs1,f1,p1,q1,hg1,ht1,hv1,hd1,⟨g2,t2,cs2,f2,p2,q2,hg2,ht2,hv2,hd2,_,_⟩,_⟩,_,_⟩:=h
 obtain rfl:=Option.some.inj (gNowhere.symm.trans hg1)
 obtain rfl:=Option.some.inj (gFine.symm.trans hg2)
 obtain rfl:=Option.some.inj (tNowhere.symm.trans ht1)
 obtain rfl:=Option.some.inj (tFine.symm.trans ht2)
 have e1:=zkO hd1
 have e2:=zrL hd2
 intro g
 match g with
 | 0=>exact zED (t:=.sAdmitFound) (x:=fine) (cs:=cs2) (World.var?_cell hg2 hv2) (by rw[← Array.length_toList,e2];decide) (by decide) (fun j hj=>by
  have hj:j<3:=hj
  rw[← zbF,e2]
  match j,hj with
  | 0,_=>exact .v _
  | 1,_=>exact .v _
  | 2,_=>exact .v _)
 | 1=>exact zED (t:=.sWhere) (x:=nowhere) (cs:=cs1) (World.var?_cell hg1 hv1) (by rw[← Array.length_toList,e1];decide) (by decide) (fun j hj=>by
  have hj:j<2:=hj
  rw[← zbF,e1]
  match j,hj with
  | 0,_=>exact .v _
  | 1,_=>exact .v _)
 | g+2=>exact .undef _
theorem zHT{t:Ty}{xs:List t.T}(h:Fit (.sl t xs))(hb:1<=t.by):xs.length<=140737488355328:=by
 have h1:=(zca h).1
 have h2:xs.length*1<=xs.length*t.by:=Nat.mul_le_mul_left _ hb
 unfold B47 at h1
 omega
set_option maxRecDepth 100000 in
theorem zHW(os:Os)(started:os.Started)(H:Type)(enc:TypeId × Value->H) :
 ReturnsInHanded {} Tryz.checked os 4 .any (fun w args=>(Rows.callsApartSpec.pre enc Tryz.prog Tryz.f4 [] false w args/\laidMetH Tryz.prog zsb w)/\sizedMet enc Tryz.prog Tryz.f4 (OpenSpec.ofChange Rows.callsApartSpec) false w args)
  (Rows.callsApartSpec.post enc Tryz.prog Tryz.f4 false true false false):=by
 refine returnsInHanded_of_change_and (C:=Tryz.checked) (X:=fun w _=>laidMetH Tryz.prog zsb w) (fun _ _ _ hh h=>h.of_heap hh) own started (by kernel_rfl) Tryz.func4
  (ChangeSpec.witness_shaped (enc:=enc) (C:=Tryz.checked) (os:=os) (X:=fun w _=>laidMetH Tryz.prog zsb w) false (World.doorLaid Tryz.prog 400 os) zMs 8 rfl (World.shaped_of_RefB (by kernel_rfl) (by kernel_rfl)) (by kernel_rfl) (by kernel_rfl) (by kernel_rfl) (zzT os _)) ?_
 intro W base args ds gs before hval0 hW _ hsz0 hL _
 have hW':=hW
 obtain ⟨p,q,hA0,hV,rfl,hfz,hnd⟩:=hW
 have hA:DataW.TrodAll enc Tryz.prog W 0 (fun _=>true) true Tryz.f4.params.toList args.toList ds p:=hA0
 have hlt:=hA.lt
 have hsz : ∀ (j:Nat) (t:TypeId) (d:DataW H),(Tryz.f4.params.toList++Rows.callsApartSpec.plain.varTypes Tryz.prog)[j]?=some t->(ds++gs)[j]?=some d->Small Tryz.prog d t:=fun j t d ht hd k hk=>by
  have:=List.all_eq_true.1 hsz0 k (DataW.weights_mem_each ht hd k hk)
  simpa using this
 rw[Tryz.params4]at hA hsz hval0
 obtain ⟨v0,v1,v2,d0,d1,d2,p0,p1,p2,rfl,rfl,rfl,h0,h1,h2⟩:=trodAll_three hA
 obtain ⟨rfl,rfl⟩:=trodVars_none hV
 obtain ⟨fs0,hu0⟩ : ∃ fs,Tryz.prog.underlying 30=some (.struct fs):=⟨_,Tryz.underlying30⟩
 obtain ⟨x0,hx0,hf0⟩:=zpM good hu0 (t:=.sBulkheadlaw25Start) rfl rfl (hval0 0 _ v0 rfl rfl) h0 (hsz 0 _ d0 rfl rfl)
 have hu1:Tryz.prog.underlying 31=some (.slice 49):=by kernel_rfl
 obtain ⟨x1,hx1,hf1⟩:=zru good hu1 (t:=.sBulkheadlaw25Op) rfl rfl (hval0 1 _ v1 rfl rfl) h1 (hsz 1 _ d1 rfl rfl)
 obtain ⟨x2,rfl,_,_,hw2⟩:=open_int Tryz.underlying46 (hval0 2 _ _ rfl rfl) h2
 have hl:=zmt (fitS hf0) (zHT hf1 (by decide)) (zOU hf1) x2
 have walk:=(oks4 x0 x1 x2).2 true hl
 have hk:=walk (fun b=>b<W.heap.size) W Gh.nil [v0,v1,.int .u32 x2] ⟨fun _ h=>h,fun b k hk=>by simp at hk,fun p κ hp=>by simp[Gh.nil]at hp,fun p κ hp=>by simp[Gh.nil]at hp,fun b hb=>by simp[Gh.nil]at hb⟩ (zNi hL) rfl (fun j hj=>by
  match j,hj with
  | 0,_=>exact hx0
  | 1,_=>exact hx1
  | 2,_=>exact .v _)
 refine hk.mono fun e W' ⟨y,he,F',β',hkeep,_,_,_,_,_,_,hd⟩=>?_
 subst he
 have hy:y=.bool true:=V_v hd
 subst hy
 have hb:Below W.heap.size W W':=⟨hkeep.os,hkeep.tape,hkeep.output,hkeep.size,fun k hk'=>hkeep.block k hk' (fun h=>h rfl)⟩
 have hlo:laidOutB Tryz.prog=true:=by kernel_rfl
 exact⟨_,rfl,_,_,_,[],_,[],hW',trodAll_mk1 (shut_bool Tryz.underlying4 _),trodAll_mk3 (Below.trod hlo (by kernel_rfl) (of_decide_eq_true (by kernel_rfl)) h0 hb (fun x hx=>hlt x (by simp[hx]))) (Below.trod hlo (by kernel_rfl) (of_decide_eq_true (by kernel_rfl)) h1 hb (fun x hx=>hlt x (by simp[hx]))) (Below.trod hlo (by kernel_rfl) (of_decide_eq_true (by kernel_rfl)) h2 hb (fun x hx=>hlt x (by simp[hx]))),rfl,hb.frame _,fun h=>by cases h⟩
end Go.Proofs.YtgajeebphoiphaaGreatDoor.callsApart
end
