/- The statement BlockAny: any bytes, by any dictionary, are decoded as the document says: a record within the limit, or an error; so are the epoch and the size that they tell. Proved for all bytes, dictionaries and limits. Condition: none. -/
import Derived.Test.YtjgpbhodbgjggaaGreatRows
import Derived.WalkKit
import Derived.ProofKit
import Derived.OpenShut
import Derived.Test.YtjgpbhodbgjggaaGreatB7
set_option linter.defProp false
set_option linter.unusedVariables false
set_option linter.unusedSimpArgs false
set_option maxRecDepth 100000
set_option maxHeartbeats 2000000
namespace Go.Proofs.YtjgpbhodbgjggaaGreat.K
open Go Go.Proofs
theorem lawBlockAnyZ (a0 a1:ByteArray) (lim:Int) (h0:a0.size≤maxLen) (h1:a1.size≤maxLen) (h2:(Lit.int .i64 lim).wf=true):Wf S 4 [.string a0,.string a1,.int .i64 lim] [] fun v _=>v= .bool true:=by
 have:=ziP a0.data.toList a1.data.toList lim (H:= [])
 rwa [zet,zet] at this
end Go.Proofs.YtjgpbhodbgjggaaGreat.K
namespace Go.Proofs.YtjgpbhodbgjggaaGreat.blockAny
open Go Go.Proofs Go.ChangeShapes Go.WideShapes Go.ChangeAt Go.RowKit
theorem own:ownKnob Tryz.prog.godebug=none:=by kernel_rfl
theorem laid:laidOutB Tryz.prog=true:=by kernel_rfl
set_option maxRecDepth 100000 in
theorem lifted (os:Os) (started:os.Started) (H:Type) (enc:TypeId×Value→H):
  ReturnsInHanded {} Tryz.checked os 4 .any (Rows.blockAnySpec.pre6 enc Tryz.prog Tryz.f4 Rows.blockAnyRow.domain false) (Rows.blockAnySpec.post enc Tryz.prog Tryz.f4 false true false false):=by
 refine returnsInHanded_of_change (C:=Tryz.checked) own started (by kernel_rfl) Tryz.func4
  (ChangeSpec.witness6 (enc:=enc) (C:=Tryz.checked) false ⟨#[],#[.string ⟨#[]⟩,.string ⟨#[]⟩,.int .i64 0],[]⟩ 8 (by kernel_rfl) (by kernel_rfl) (by kernel_rfl) (by kernel_rfl)) ?_
 intro W base args ds gs before hval0 hW hcnd _
 have hval:∀(j:Nat) t v,Tryz.f4.params[j]? =some t→args[j]? =some v→Value.okWide Tryz.prog W .any base t v:=hval0
 have hW':=hW
 obtain ⟨p,q,hA0,hV,rfl,hfz,hnd⟩:=hW
 have hA:DataW.TrodAll enc Tryz.prog W 0 (fun _=>true) true Tryz.f4.params.toList args.toList ds p:=hA0
 rw [Tryz.params4] at hA hval
 have hA1:=hA
 obtain ⟨v0,vs0,d0,ds0,p0,q0,hargs,rfl,rfl,h0,r0⟩:=trodAll_cons hA
 obtain ⟨v1,vs1,d1,ds1,p1,q1,rfl,rfl,rfl,h1,r1⟩:=trodAll_cons r0
 obtain ⟨v2,vs2,d2,ds2,p2,q2,rfl,rfl,rfl,h2,r2⟩:=trodAll_cons r1
 obtain ⟨rfl,rfl,rfl⟩:=trodAll_nil r2
 obtain rfl:args=#[v0,v1,v2]:=by cases args;simp_all
 obtain ⟨rfl,rfl⟩:=trodVars_none hV
 have HR0:=K.HRel.nil (P:=Tryz.prog) W
 have hn0:∀b:Nat,(K.Heap.get [] b).own=false:=fun b=>rfl
 obtain ⟨a0,rfl,w0⟩:=K.arg_str Tryz.underlying9 (hval 0 9 v0 rfl rfl) h0
 obtain ⟨a1,rfl,w1⟩:=K.arg_str Tryz.underlying9 (hval 1 9 v1 rfl rfl) h1
 obtain ⟨a2,rfl,_,_,w2⟩:=open_int Tryz.underlying3 (hval 2 3 v2 rfl rfl) h2
 clear hA0 hval0
 refine (K.calls_of K.S_ok (K.lawBlockAnyZ a0 a1 a2 w0 w1 w2) HR0 (K.VL.cons (K.VRel.string a0) (K.VL.cons (K.VRel.string a1) (K.VL.cons (K.VRel.int .i64 a2) K.VL.nil)))).mono fun e W' ⟨he,hb⟩=>?_
 subst he
 exact ⟨_,rfl,K.post_of_below (pa:=_) (pv:= []) hW' (fun _ _ _=>(trodAll_cons_mk (shut_bool Tryz.underlying4 _) trodAll_mk0)) (fun sp hsp=>K.trodAll_stays laid hb hA1 (by
   intro t ht
   replace ht:t∈([9,9,3]:List TypeId):=ht
   simp only [List.mem_cons,List.not_mem_nil,or_false] at ht
   rcases ht with rfl|rfl|rfl<;>exact ⟨by kernel_rfl,of_decide_eq_true (by kernel_rfl)⟩) (fun x hx=>hW'.lt x (by simpa using hx)) (fun x hx=>hsp x (by simpa using hx))) (fun _ _=>rfl) rfl
  hb (ok_one (by kernel_rfl) rfl (okWide_bool_mk Tryz.underlying4 _))⟩
theorem bt {a b:Bool} (ha:a=true) (hb:b=true):(a && b)=true:=by rw [ha,hb];rfl
theorem j_inPlace:(Rows.blockAnyRow.inPlace==Tryz.pinned.checked.prog.inPlace 4)=true:=by kernel_rfl
theorem j_unfollowed:(Rows.blockAnyRow.unfollowed==Tryz.pinned.checked.prog.unfollowed 4)=true:=by kernel_rfl
theorem j_recurses:(Rows.blockAnyRow.recurses==Tryz.pinned.checked.prog.recurses 4)=true:=by kernel_rfl
theorem j_named:(Rows.blockAnyRow.named==Tryz.pinned.checked.prog.varsNamed 4)=true:=by kernel_rfl
theorem closed:joinedFacts Tryz.pinned.checked.prog 4 Tryz.f4 Rows.blockAnySpec Rows.blockAnyRow=true:=by
 unfold joinedFacts
 exact (bt (bt (bt (bt (bt (bt (bt (bt (bt (bt (bt (bt (bt (bt (bt (bt (bt (bt (bt (bt (bt (bt (bt (bt (bt (bt (bt (bt (bt (bt (bt (by kernel_rfl) (by kernel_rfl)) (by kernel_rfl)) (by kernel_rfl)) (by kernel_rfl)) (by kernel_rfl)) (by kernel_rfl)) (by kernel_rfl)) (by kernel_rfl)) j_inPlace) j_unfollowed) j_recurses) j_named) (by kernel_rfl)) (by kernel_rfl)) (by kernel_rfl)) (by kernel_rfl)) (by kernel_rfl)) (by kernel_rfl)) (by kernel_rfl)) (by kernel_rfl)) (by kernel_rfl)) (by kernel_rfl)) (by kernel_rfl)) (by kernel_rfl)) (by kernel_rfl)) (by kernel_rfl)) (by kernel_rfl)) (by kernel_rfl)) (by kernel_rfl)) (by kernel_rfl)) (by kernel_rfl))
theorem over:Rows.blockAnyRow.holds Tryz.pinned (OpenSpec.ofChange Rows.blockAnySpec):=
 OpenClaim.holds_of_wide 4 Tryz.f4 rfl rfl rfl rfl rfl rfl rfl ⟨rfl,rfl,rfl,rfl,rfl⟩ rfl rfl rfl rfl rfl (by kernel_rfl) Tryz.func4 closed
  (of_decide_eq_true (by kernel_rfl)) (by unfold Func.isWrapper;first|(rw [if_pos (by decide+kernel)];kernel_rfl)|(rw [if_neg (by decide+kernel)];exact ⟨rfl,rfl⟩))
  (fun os started H enc _=>lifted os started H enc)
theorem proved:Rows.BlockAnySaid:=
 over
end Go.Proofs.YtjgpbhodbgjggaaGreat.blockAny
