/-
  A codec's pattern of a form with any number of operands: the loop over its pieces (walk).
-/
import Derived.Test.YtcogcbplmkcojaaGreatDoorKIb
import Derived.Test.YtcogcbplmkcojaaGreatDoorKFb
namespace Go.Proofs.YtcogcbplmkcojaaGreatDoor
open Go.IntWalk
set_option maxRecDepth 100000
set_option linter.unusedVariables false
set_option linter.unusedSimpArgs false
set_option maxHeartbeats 8000000
abbrev mE(f:Ψ)(ip:Nat)(back:List (Nat×AV)):List (Nat×AV):=(4,.ptr 1 0 0 0)::(6,.ptr 3 0 0 0)::(11,.fn (.func 102) [] [.ptr 4 0 0 0,.ptr 0 0 0 0,.ptr 5 0 0 0])::(56,.t (.θ 4 (f.pieces.map eb)))::(57,.t (.int .i64 ((f.pieces.map eb).length:Int)))::(58,.t (.int .i64 (ip:Int)))::back
abbrev mH(d:ο)(sz n N:Nat)(vs:List AV)(w m0 m1 w0 w1:Nat)(lz:Bool)(c0 c1 c2 c3 c4 c5:List Int)(zm:AH):AH:=
 .box (dn d):: .box [.t (.int .i64 0),.t (.int .u64 0),.t (.int .u64 0),.t (.int .u64 0),.t (.int .u64 0),.t .af,.t (.bool false)]:: .arr lK 1 false 0 (.vs vs):: .box [.t (.int .i64 (sz:Int)),.t (.int .u64 ((m0:Nat):Int)),.t (.int .u64 ((m1:Nat):Int)),.t (.int .u64 ((w0:Nat):Int)),.t (.int .u64 ((w1:Nat):Int)),.sl 2 0 0 N,.t (.bool lz)]:: .box [.t (.int .i64 ((w:Nat):Int))]:: .box [.t (.int .i64 (n:Int))]:: .arr tI 1 false 0 (.ts (c0.map (T.int .i64))):: .arr tI 1 false 0 (.ts (c1.map (T.int .i64))):: .arr tI 1 false 0 (.ts (c2.map (T.int .i64))):: .arr tI 1 false 0 (.ts (c3.map (T.int .i64))):: .arr tI 1 false 0 (.ts (c4.map (T.int .i64))):: .arr tI 1 false 0 (.ts (c5.map (T.int .i64)))::zm
noncomputable def NF:Code:=R7 Tryz.f43 1
theorem fR(b0 b1 b2 b3 b4 b5:Ω)(l0 l1 l2 l3 l4 l5:Sq)(e:AH):∀j,j<6→∃l,(b0::b1::b2::b3::b4::b5:: .arr tI 1 false 0 l0:: .arr tI 1 false 0 l1:: .arr tI 1 false 0 l2:: .arr tI 1 false 0 l3:: .arr tI 1 false 0 l4:: .arr tI 1 false 0 l5::e:AH)[6+j]?=some (.arr tI 1 false 0 l):=by
 intro j hj
 rcases(show j=0∨j=1∨j=2∨j=3∨j=4∨j=5 by omega)with rfl|rfl|rfl|rfl|rfl|rfl<;>exact⟨_,rfl⟩
theorem RC{vs:List AV}(hv:∀x∈vs,∃j n,j<6∧x= .sl (6+j) 0 0 n)(hl:vs.length≤6){H:AH}(h:∀j,j<6→∃l,H[6+j]?=some (.arr tI 1 false 0 l))(az:List Nat)(hk:∀j,j<6→nF az (6+j) 0=some (6+j)):
 (ib 0 64 az H vs).map (fun l=>Ω.arr lK 1 false 0 (.vs l))=some (.arr lK 1 false 0 (.vs vs)):=by
 have e:ib 0 64 az H vs=some vs:=A5 64 vs (by omega) fun x hx m=>by
  obtain⟨j,n,hj,rfl⟩:=hv x hx
  obtain⟨l,hH⟩:=h j hj
  have hz:Nat.blt (6+j) 0=false:=rfl
  simp only[dq,hk j hj,hH,qd,hz]
  try rfl
 rw[e];rfl
theorem iF{α:Type}{l:List α}{n j:Nat}(h:j<n):(l.take n)[j]?=l[j]?:=List.getElem?_take_of_lt h
theorem ou{α:Type}(l:List α)(n j:Nat)(x:α):(l.take n).set j x=(l.set j x).take n:=by
 apply List.ext_getElem?
 intro i
 rw[List.getElem?_set,List.getElem?_take,List.getElem?_take,List.getElem?_set,List.length_take]
 by_cases h1:j=i<;>by_cases h2:i<n<;>by_cases h3:i<l.length<;>simp[h1,h2,h3]<;>omega
theorem kc(d:ο)(sz n N:Nat)(vs:List AV)(w m0 m1 w0 w1:Nat)(lz:Bool)(c0 c1 c2 c3 c4 c5:List Int)(p:bK)(L:List Θ)(hn:n=L.length)(rF:L.length≤120)(h8:L.length%8=0)(hw:w<L.length)(pos:Nat)(eJ:pos=bo d.order L.length w):
 γ Tryz.prog 102 [.ptr 4 0 0 0,.ptr 0 0 0 0,.ptr 5 0 0 0] (mH d sz n N vs w m0 m1 w0 w1 lz c0 c1 c2 c3 c4 c5 [.box [.t (.str p.lit),.t (.int .i64 p.arg),.t (.int .i64 p.hi),.t (.int .i64 p.lo)]]) (fun v H'=>v= .t (.int .i64 ((pos:Nat):Int))∧H'=(mH d sz n N vs (w+1) m0 m1 w0 w1 lz c0 c1 c2 c3 c4 c5 [.box [.t (.str p.lit),.t (.int .i64 p.arg),.t (.int .i64 p.hi),.t (.int .i64 p.lo)]])):=by
 have Uy:pos<L.length:=by rw[eJ];exact iG (by omega) h8
 refine γ.ξ ζ η Tryz.func102 rfl rfl ?_
 refine δ (n:=(((w)+1:Nat):Int)) (aj (n:=(w)+1) (by omega)) ?_
 refine U (fun co=> ?_) (fun co=> ?_)
 ·have co:d.order=1:=by simpa using co
  rw[vq co]at eJ
  obtain⟨n1,Pn⟩:∃n1,n1=n - 1:=⟨_,rfl⟩
  refine δ (n:=((n1:Nat):Int)) (by rw[IntKind.wrap_i64];omega) ?_
  refine δ (n:=((pos:Nat):Int)) (At (a:=pos) (b:=w) (c:=n1) (by omega) (by omega)) ?_
  exact⟨rfl,rfl⟩
 ·have co:¬d.order=1:=by simpa using co
  rw[tP co]at eJ
  obtain⟨q,hq⟩:∃q,q=w/8:=⟨_,rfl⟩
  obtain⟨rm,U_⟩:∃rm,rm=w%8:=⟨_,rfl⟩
  obtain⟨q8,Va⟩:∃z,z=q*8:=⟨_,rfl⟩
  obtain⟨q7,Vb⟩:∃z,z=q8+7:=⟨_,rfl⟩
  refine ε rfl ?_
  refine δ (n:=((q:Nat):Int)) (show IntKind.i64.wrap (((w:Nat):Int).tdiv 8)=_ from by rw[Int.tdiv_eq_ediv_of_nonneg (by omega),IntKind.wrap_i64];omega) ?_
  refine δ (n:=((q8:Nat):Int)) (show IntKind.i64.wrap (((q:Nat):Int)*8)=_ from by rw[IntKind.wrap_i64];omega) ?_
  refine δ (n:=((q7:Nat):Int)) (show IntKind.i64.wrap (((q8:Nat):Int)+7)=_ from by rw[IntKind.wrap_i64];omega) ?_
  refine ε rfl ?_
  refine δ (n:=((rm:Nat):Int)) (show(((w):Nat):Int).tmod 8=_ from by rw[Int.tmod_eq_emod_of_nonneg (by omega)];omega) ?_
  refine δ (n:=((pos:Nat):Int)) (show IntKind.i64.wrap (((q7:Nat):Int) - ((rm:Nat):Int))=_ from by rw[IntKind.wrap_i64];omega) ?_
  exact⟨rfl,rfl⟩
theorem kH(d:ο)(hd:d.ok)(f:Ψ)(ie:f.ok)(hG:bG d f)(L:List Θ)(hL:L=bf f.pieces)(rF:L.length≤120)(h8:L.length%8=0)(sz n N:Nat)(hn:n=L.length)(kM:f.pieces.length≤9223372036854775807)(hN:N≤6)(kb:Nat→Nat)(vs:List AV)
 (lQ:∀j,j<N→∃a k,f.args[j]?=some a∧bQ d.classes a.aU=some k∧k.bits.toNat=kb j∧1≤k.bits∧k.bits≤64)
 (th:∀j,j<N→vs[j]?=some (.sl (6+j) 0 0 (kb j))) (kp:vs.length=N) (hlen:f.args.length=N)
 (z0 z1 z2 z3 z4 z5:List Int) (zf:cM d f L 0 0 0 0 0 false ([z0,z1,z2,z3,z4,z5].take N)) (Q:Ex→St→Prop)
 (HQ:∀(b0:AV) (ip w m0 m1 w0 w1:Nat) (lz:Bool) (c0 c1 c2 c3 c4 c5:List Int),w=L.length→cM d f L w m0 m1 w0 w1 lz ([c0,c1,c2,c3,c4,c5].take N)→Q (.exit 2) ⟨((59,b0)::mE f ip []),(mH d sz n N vs w m0 m1 w0 w1 lz c0 c1 c2 c3 c4 c5 [])⟩):
 mf 0 (wD va (γ Tryz.prog) Ai 0 NF) Q ⟨(mE f 0 []),(mH d sz n N vs 0 0 0 0 0 false z0 z1 z2 z3 z4 z5 [])⟩:=by
 have Zx:(f.pieces.map eb).length=f.pieces.length:=by simp
 have Xc:∀x∈vs,∃j n,j<6∧x= .sl (6+j) 0 0 n:=fun x hx=>by
  obtain⟨j,hj⟩:=List.mem_iff_getElem?.1 hx
  have eQ:=(List.getElem?_eq_some_iff.1 hj).1
  rw[th j (by omega)]at hj
  exact⟨j,_,by omega,(Option.some.inj hj).symm⟩
 have V6:vs.length≤6:=by omega
 have gV:=fun(H:AH) (h:∀j,j<6→∃l,H[6+j]?=some (.arr tI 1 false 0 l))=>RC Xc V6 h
 refine NH (fun s:Nat×Nat×Nat×Nat×Nat×Nat×Bool×List Int×List Int×List Int×List Int×List Int×List Int=>s.1≤f.pieces.length∧s.2.1=(bf (f.pieces.take s.1)).length∧cM d f L s.2.1 s.2.2.1 s.2.2.2.1 s.2.2.2.2.1 s.2.2.2.2.2.1 s.2.2.2.2.2.2.1 ([s.2.2.2.2.2.2.2.1,s.2.2.2.2.2.2.2.2.1,s.2.2.2.2.2.2.2.2.2.1,s.2.2.2.2.2.2.2.2.2.2.1,s.2.2.2.2.2.2.2.2.2.2.2.1,s.2.2.2.2.2.2.2.2.2.2.2.2].take N)) (fun s=>⟨(mE f s.1 []),(mH d sz n N vs s.2.1 s.2.2.1 s.2.2.2.1 s.2.2.2.2.1 s.2.2.2.2.2.1 s.2.2.2.2.2.2.1 s.2.2.2.2.2.2.2.1 s.2.2.2.2.2.2.2.2.1 s.2.2.2.2.2.2.2.2.2.1 s.2.2.2.2.2.2.2.2.2.2.1 s.2.2.2.2.2.2.2.2.2.2.2.1 s.2.2.2.2.2.2.2.2.2.2.2.2 [])⟩)
  (fun s=>f.pieces.length - s.1) (0,0,0,0,0,0,false,z0,z1,z2,z3,z4,z5) ⟨Nat.zero_le _,rfl,zf⟩ (aB.refl _) (fun⟨ip,w,m0,m1,w0,w1,lz,c0,c1,c2,c3,c4,c5⟩ ⟨Vj,hw,hM⟩=> ?_)
 have Vj:ip≤f.pieces.length:=Vj
 have hw:w=(bf (f.pieces.take ip)).length:=hw
 have hM:cM d f L w m0 m1 w0 w1 lz ([c0,c1,c2,c3,c4,c5].take N):=hM
 refine U (fun c=> ?_) (fun c=> ?_)
 rotate_left 1
 ·have c:ip=f.pieces.length:=by have:=dm c;omega
  exact HQ _ ip w m0 m1 w0 w1 lz c0 c1 c2 c3 c4 c5 (by rw[hw,c,List.take_length,hL]) hM
 have vP:ip<f.pieces.length:=by have:=de c;omega
 obtain⟨p,hp,j2⟩:=get_some (R:=f.pieces) (i:=ip) vP
 have Ge:bf (f.pieces.take (ip+1))=bf (f.pieces.take ip)++gM p:=A6 hp
 have VD:L=(bf (f.pieces.take ip)++gM p)++bf (f.pieces.drop (ip+1)):=by rw[←Ge,←tN,List.take_append_drop,hL]
 have Zf:w+(gM p).length≤L.length:=by rw[VD,hw];simp
 have Eh:∀t,t<(gM p).length→L[w+t]?=(gM p)[t]?:=fun t ht=>by
  rw[VD,hw,List.getElem?_append_left (by simp;omega),List.getElem?_append_right (by omega)];congr 1;omega
 have DO:(bf (f.pieces.take (ip+1))).length=w+(gM p).length:=by rw[Ge,List.length_append,hw]
 refine ν (show(f.pieces.map eb)[((ip:Nat):Int).toNat]?=some (eb p)from by rw[Int.toNat_natCast,List.getElem?_map,hp];rfl) ?_
 rcases hG.A8 p j2 with⟨ca,_,fx⟩|⟨ca,g,k,hg,hk,q1,q2,q3⟩
 ·have qq:gM p=p.lit.map dw:=by rw[gM,if_pos ca]
  have y7:(gM p).length=p.lit.length:=by rw[qq,List.length_map]
  refine U (fun _=> ?_) (fun c=>absurd (of_decide_eq_false c) (by omega))
  refine b_ (fun e s'=>e= .exit 4∧∃(b0 b1:AV) (m0 m1 w0 w1:Nat) (lz:Bool),cM d f L (w+p.lit.length) m0 m1 w0 w1 lz ([c0,c1,c2,c3,c4,c5].take N)∧s'=⟨((69,b0)::(68,b1)::mE f ip [(13,.ptr 12 0 0 0),(67,.ptr 13 0 0 0)]),(mH d sz n N vs (w+p.lit.length) m0 m1 w0 w1 lz c0 c1 c2 c3 c4 c5 [.box [.t (.str p.lit),.t (.int .i64 p.arg),.t (.int .i64 p.hi),.t (.int .i64 p.lo)],.iter p.lit p.lit.length])⟩) (fun uH nQ=> ?_) ?_
  ·refine ao (fun s:Nat×Nat×Nat×Nat×Nat×Bool=>s.1≤p.lit.length∧cM d f L (w+s.1) s.2.1 s.2.2.1 s.2.2.2.1 s.2.2.2.2.1 s.2.2.2.2.2 ([c0,c1,c2,c3,c4,c5].take N)) (fun s=>⟨(mE f ip [(13,.ptr 12 0 0 0),(67,.ptr 13 0 0 0)]),(mH d sz n N vs (w+s.1) s.2.1 s.2.2.1 s.2.2.2.1 s.2.2.2.2.1 s.2.2.2.2.2 c0 c1 c2 c3 c4 c5 [.box [.t (.str p.lit),.t (.int .i64 p.arg),.t (.int .i64 p.hi),.t (.int .i64 p.lo)],.iter p.lit s.1])⟩)
    (fun s=>p.lit.length - s.1) (0,m0,m1,w0,w1,lz) ⟨Nat.zero_le _,hM⟩ ?_ (fun⟨j,m0,m1,w0,w1,lz⟩ ⟨hj,hM⟩=> ?_)
   ·exact aM ⟨rfl,rfl,rfl,rfl,rfl,rfl,rfl,rfl,trivial⟩ rfl
   have hj:j≤p.lit.length:=hj
   have hM:cM d f L (w+j) m0 m1 w0 w1 lz ([c0,c1,c2,c3,c4,c5].take N):=hM
   obtain⟨uP,sj,_⟩:=hM.mask
   obtain⟨Xb,Xa,_⟩:=hM.want
   by_cases eQ:j<p.lit.length
   ·obtain⟨x,hx,dk⟩:=get_some (R:=p.lit) (i:=j) eQ
    have oe:L[w+j]?=some (dw x):=by rw[Eh j (by omega),qq,List.getElem?_map,hx];rfl
    have HV:x.toNat<128:=by have:=fx x dk;unfold pe at this;simp at this;omega
    obtain⟨pos,eJ⟩:∃pos,pos=bo d.order L.length (w+j):=⟨_,rfl⟩
    have Uy:pos<L.length:=by rw[eJ];exact iG (by omega) h8
    conv=>whnf
    have aC:p.lit[((j,m0,m1,w0,w1,lz):Nat×Nat×Nat×Nat×Nat×Bool).fst]?=some x:=hx
    rw[aC]
    refine ε (show Nat.blt x.toNat 128=true from by simpa[Nat.blt_eq]using HV) ?_
    refine γ.mono (Q:=fun v H'=>v= .t (.int .i64 ((pos:Nat):Int))∧H'=(mH d sz n N vs (w+j+1) m0 m1 w0 w1 lz c0 c1 c2 c3 c4 c5 [.box [.t (.str p.lit),.t (.int .i64 p.arg),.t (.int .i64 p.hi),.t (.int .i64 p.lo)],.iter p.lit (j+1)])) ?_ ?_
    ·obtain⟨w9,W_⟩:∃w9,w9=w+j:=⟨_,rfl⟩
     have Y1:=eJ
     rw[←W_]at eJ⊢
     refine γ.ξ ζ η Tryz.func102 rfl rfl ?_
     refine δ (n:=((w9+1:Nat):Int)) (aj (n:=w9+1) (by omega)) ?_
     refine U (fun co=> ?_) (fun co=> ?_)
     ·have co:d.order=1:=by simpa using co
      rw[vq co]at eJ
      obtain⟨n1,Pn⟩:∃n1,n1=n - 1:=⟨_,rfl⟩
      refine δ (n:=((n1:Nat):Int)) (by rw[IntKind.wrap_i64];omega) ?_
      refine δ (n:=((pos:Nat):Int)) (At (a:=pos) (b:=w9) (c:=n1) (by omega) (by omega)) ?_
      exact⟨rfl,rfl⟩
     ·have co:¬d.order=1:=by simpa using co
      rw[tP co]at eJ
      obtain⟨q,hq⟩:∃q,q=w9/8:=⟨_,rfl⟩
      obtain⟨rm,U_⟩:∃rm,rm=w9%8:=⟨_,rfl⟩
      obtain⟨q8,Va⟩:∃z,z=q*8:=⟨_,rfl⟩
      obtain⟨q7,Vb⟩:∃z,z=q8+7:=⟨_,rfl⟩
      refine ε rfl ?_
      refine δ (n:=((q:Nat):Int)) (show IntKind.i64.wrap (((w9:Nat):Int).tdiv 8)=_ from by rw[Int.tdiv_eq_ediv_of_nonneg (by omega),IntKind.wrap_i64];omega) ?_
      refine δ (n:=((q8:Nat):Int)) (show IntKind.i64.wrap (((q:Nat):Int)*8)=_ from by rw[IntKind.wrap_i64];omega) ?_
      refine δ (n:=((q7:Nat):Int)) (show IntKind.i64.wrap (((q8:Nat):Int)+7)=_ from by rw[IntKind.wrap_i64];omega) ?_
      refine ε rfl ?_
      refine δ (n:=((rm:Nat):Int)) (show((w9:Nat):Int).tmod 8=_ from by rw[Int.tmod_eq_emod_of_nonneg (by omega)];omega) ?_
      refine δ (n:=((pos:Nat):Int)) (show IntKind.i64.wrap (((q7:Nat):Int) - ((rm:Nat):Int))=_ from by rw[IntKind.wrap_i64];omega) ?_
      exact⟨rfl,rfl⟩
    rintro _ _ ⟨rfl,rfl⟩
    refine ν (show p.lit[((j:Nat):Int).toNat]?=some x from by rw[Int.toNat_natCast];exact hx) ?_
    by_cases HY:pos<64
    ·skip
     have KX:x.toNat=48∨x.toNat=49∨x.toNat=120:=by have:=fx x dk;unfold pe at this;simp at this;omega
     refine U (fun c9=> ?_) (fun c9=> ?_)
     ·have hc:(dw x).lit=49:=by have h:(((x.toNat:Nat):Int)==49)=true:=c9;simp at h;show x.toNat=49;omega
      refine γ.ξ ζ η Tryz.func91 rfl rfl ?_
      refine υ jd (by decide+kernel) ?_
      refine ε rfl ?_
      refine δ (n:=0) (show IntKind.i64.wrap (((pos:Nat):Int).tdiv 64)=0 from by rw[Int.tdiv_eq_ediv_of_nonneg (by omega),IntKind.wrap_i64];omega) ?_
      refine ε rfl ?_
      refine δ (n:=((pos:Nat):Int)) (show((pos:Nat):Int).tmod 64=_ from by rw[Int.tmod_eq_emod_of_nonneg (by omega)];omega) ?_
      refine ε (decide_eq_true (show(0:Int)≤((pos:Nat):Int) by omega)) ?_
      refine δ (n:=((2^pos:Nat):Int)) (gE rfl (by omega)) ?_
      refine δ (n:=((w0|||2^pos:Nat):Int)) (iq Xb (iw (by omega))) ?_
      refine And.intro (fun j hj=>by cases hj) ?_
      refine γ.ξ ζ η Tryz.func91 rfl rfl ?_
      refine υ jd (by decide+kernel) ?_
      refine ε rfl ?_
      refine δ (n:=0) (show IntKind.i64.wrap (((pos:Nat):Int).tdiv 64)=0 from by rw[Int.tdiv_eq_ediv_of_nonneg (by omega),IntKind.wrap_i64];omega) ?_
      refine ε rfl ?_
      refine δ (n:=((pos:Nat):Int)) (show((pos:Nat):Int).tmod 64=_ from by rw[Int.tmod_eq_emod_of_nonneg (by omega)];omega) ?_
      refine ε (decide_eq_true (show(0:Int)≤((pos:Nat):Int) by omega)) ?_
      refine δ (n:=((2^pos:Nat):Int)) (gE rfl (by omega)) ?_
      refine δ (n:=((m0|||2^pos:Nat):Int)) (iq uP (iw (by omega))) ?_
      refine And.intro (fun j hj=>by cases hj) ?_
      conv=>whnf
      exact⟨⟨(j+1,m0|||2^pos,m1,w0|||2^pos,w1,lz),eQ,(by have:=(hM.one h8 oe (by show(-1:Int)<0;omega) hc).1;rw[←eJ]at this;exact this HY)⟩,aM ⟨rfl,rfl,rfl,rfl,rfl,rfl,rfl,rfl,trivial⟩ rfl,by show p.lit.length - (j+1)<p.lit.length - j;omega⟩
     refine U (fun c8=> ?_) (fun c8=> ?_)
     ·have hc:(dw x).lit=48:=by have h:(((x.toNat:Nat):Int)==48)=true:=c8;simp at h;show x.toNat=48;omega
      refine γ.ξ ζ η Tryz.func91 rfl rfl ?_
      refine υ jd (by decide+kernel) ?_
      refine ε rfl ?_
      refine δ (n:=0) (show IntKind.i64.wrap (((pos:Nat):Int).tdiv 64)=0 from by rw[Int.tdiv_eq_ediv_of_nonneg (by omega),IntKind.wrap_i64];omega) ?_
      refine ε rfl ?_
      refine δ (n:=((pos:Nat):Int)) (show((pos:Nat):Int).tmod 64=_ from by rw[Int.tmod_eq_emod_of_nonneg (by omega)];omega) ?_
      refine ε (decide_eq_true (show(0:Int)≤((pos:Nat):Int) by omega)) ?_
      refine δ (n:=((2^pos:Nat):Int)) (gE rfl (by omega)) ?_
      refine δ (n:=((m0|||2^pos:Nat):Int)) (iq uP (iw (by omega))) ?_
      refine And.intro (fun j hj=>by cases hj) ?_
      conv=>whnf
      exact⟨⟨(j+1,m0|||2^pos,m1,w0,w1,lz),eQ,(by have:=(hM.zero h8 oe (by show(-1:Int)<0;omega) hc).1;rw[←eJ]at this;exact this HY)⟩,aM ⟨rfl,rfl,rfl,rfl,rfl,rfl,rfl,rfl,trivial⟩ rfl,by show p.lit.length - (j+1)<p.lit.length - j;omega⟩
     ·have hc:(dw x).lit=120:=by
       have h9:(((x.toNat:Nat):Int)==49)=false:=c9
       have Tz:(((x.toNat:Nat):Int)==48)=false:=c8
       simp at h9 Tz;show x.toNat=120;omega
      conv=>whnf
      exact⟨⟨(j+1,m0,m1,w0,w1,true),eQ,hM.free h8 oe (by show(-1:Int)<0;omega) hc⟩,aM ⟨rfl,rfl,rfl,rfl,rfl,rfl,rfl,rfl,trivial⟩ rfl,by show p.lit.length - (j+1)<p.lit.length - j;omega⟩
    ·obtain⟨kq,Lc⟩:∃kq,pos=64+kq:=⟨pos - 64,by omega⟩
     have KX:x.toNat=48∨x.toNat=49∨x.toNat=120:=by have:=fx x dk;unfold pe at this;simp at this;omega
     refine U (fun c9=> ?_) (fun c9=> ?_)
     ·have hc:(dw x).lit=49:=by have h:(((x.toNat:Nat):Int)==49)=true:=c9;simp at h;show x.toNat=49;omega
      refine γ.ξ ζ η Tryz.func91 rfl rfl ?_
      refine υ jd (by decide+kernel) ?_
      refine ε rfl ?_
      refine δ (n:=1) (show IntKind.i64.wrap (((pos:Nat):Int).tdiv 64)=1 from by rw[Int.tdiv_eq_ediv_of_nonneg (by omega),IntKind.wrap_i64];omega) ?_
      refine ε rfl ?_
      refine δ (n:=((kq:Nat):Int)) (show((pos:Nat):Int).tmod 64=_ from by rw[Int.tmod_eq_emod_of_nonneg (by omega)];omega) ?_
      refine ε (decide_eq_true (show(0:Int)≤((kq:Nat):Int) by omega)) ?_
      refine δ (n:=((2^kq:Nat):Int)) (gE rfl (by omega)) ?_
      refine δ (n:=((w1|||2^kq:Nat):Int)) (iq Xa (iw (by omega))) ?_
      refine And.intro (fun j hj=>by cases hj) ?_
      refine γ.ξ ζ η Tryz.func91 rfl rfl ?_
      refine υ jd (by decide+kernel) ?_
      refine ε rfl ?_
      refine δ (n:=1) (show IntKind.i64.wrap (((pos:Nat):Int).tdiv 64)=1 from by rw[Int.tdiv_eq_ediv_of_nonneg (by omega),IntKind.wrap_i64];omega) ?_
      refine ε rfl ?_
      refine δ (n:=((kq:Nat):Int)) (show((pos:Nat):Int).tmod 64=_ from by rw[Int.tmod_eq_emod_of_nonneg (by omega)];omega) ?_
      refine ε (decide_eq_true (show(0:Int)≤((kq:Nat):Int) by omega)) ?_
      refine δ (n:=((2^kq:Nat):Int)) (gE rfl (by omega)) ?_
      refine δ (n:=((m1|||2^kq:Nat):Int)) (iq sj (iw (by omega))) ?_
      refine And.intro (fun j hj=>by cases hj) ?_
      conv=>whnf
      exact⟨⟨(j+1,m0,m1|||2^kq,w0,w1|||2^kq,lz),eQ,(by have:=(hM.one h8 oe (by show(-1:Int)<0;omega) hc).2 kq;rw[←eJ]at this;exact this Lc (by omega))⟩,aM ⟨rfl,rfl,rfl,rfl,rfl,rfl,rfl,rfl,trivial⟩ rfl,by show p.lit.length - (j+1)<p.lit.length - j;omega⟩
     refine U (fun c8=> ?_) (fun c8=> ?_)
     ·have hc:(dw x).lit=48:=by have h:(((x.toNat:Nat):Int)==48)=true:=c8;simp at h;show x.toNat=48;omega
      refine γ.ξ ζ η Tryz.func91 rfl rfl ?_
      refine υ jd (by decide+kernel) ?_
      refine ε rfl ?_
      refine δ (n:=1) (show IntKind.i64.wrap (((pos:Nat):Int).tdiv 64)=1 from by rw[Int.tdiv_eq_ediv_of_nonneg (by omega),IntKind.wrap_i64];omega) ?_
      refine ε rfl ?_
      refine δ (n:=((kq:Nat):Int)) (show((pos:Nat):Int).tmod 64=_ from by rw[Int.tmod_eq_emod_of_nonneg (by omega)];omega) ?_
      refine ε (decide_eq_true (show(0:Int)≤((kq:Nat):Int) by omega)) ?_
      refine δ (n:=((2^kq:Nat):Int)) (gE rfl (by omega)) ?_
      refine δ (n:=((m1|||2^kq:Nat):Int)) (iq sj (iw (by omega))) ?_
      refine And.intro (fun j hj=>by cases hj) ?_
      conv=>whnf
      exact⟨⟨(j+1,m0,m1|||2^kq,w0,w1,lz),eQ,(by have:=(hM.zero h8 oe (by show(-1:Int)<0;omega) hc).2 kq;rw[←eJ]at this;exact this Lc (by omega))⟩,aM ⟨rfl,rfl,rfl,rfl,rfl,rfl,rfl,rfl,trivial⟩ rfl,by show p.lit.length - (j+1)<p.lit.length - j;omega⟩
     ·have hc:(dw x).lit=120:=by
       have h9:(((x.toNat:Nat):Int)==49)=false:=c9
       have Tz:(((x.toNat:Nat):Int)==48)=false:=c8
       simp at h9 Tz;show x.toNat=120;omega
      conv=>whnf
      exact⟨⟨(j+1,m0,m1,w0,w1,true),eQ,hM.free h8 oe (by show(-1:Int)<0;omega) hc⟩,aM ⟨rfl,rfl,rfl,rfl,rfl,rfl,rfl,rfl,trivial⟩ rfl,by show p.lit.length - (j+1)<p.lit.length - j;omega⟩
   ·have eQ:j=p.lit.length:=by omega
    conv=>whnf
    have aC:p.lit[((j,m0,m1,w0,w1,lz):Nat×Nat×Nat×Nat×Nat×Bool).fst]?=none:=List.getElem?_eq_none (by show p.lit.length≤j;omega)
    rw[aC]
    exact nQ _ _ ⟨rfl,_,_,m0,m1,w0,w1,lz,by rw[←eQ];exact hM,by rw[←eQ];rfl⟩
  rintro _ _ ⟨rfl,b0,b1,m0,m1,w0,w1,lz,hM,rfl⟩
  refine δ (n:=((ip+1:Nat):Int)) (aj (n:=ip+1) (by omega)) ?_
  conv=>whnf
  exact⟨⟨(ip+1,w+p.lit.length,m0,m1,w0,w1,lz,c0,c1,c2,c3,c4,c5),vP,by show w+p.lit.length=_;rw[DO,y7],hM⟩,τ [0,1,2,3,4,5,6,7,8,9,10,11] rfl ⟨rfl,rfl,rfl,rfl,rfl,rfl,trivial⟩ ⟨rfl,rfl,gV _ (fR _ _ _ _ _ _ _ _ _ _ _ _ _) _ (by decide),rfl,rfl,rfl,rfl,rfl,rfl,rfl,rfl,rfl,trivial⟩,by show f.pieces.length - (ip+1)<f.pieces.length - ip;omega⟩
 ·have Xo:=mc hg
  have qq:gM p=dM p.arg p.hi (sZ p):=by rw[gM,if_neg ca]
  obtain⟨T0,Lt⟩:∃T0,T0=sZ p:=⟨_,rfl⟩
  have X0:T0=(p.hi - p.lo+1).toNat:=Lt
  rw[←Lt]at qq
  have y7:(gM p).length=T0:=by rw[qq,tY]
  obtain⟨ai,lH⟩:∃ai:Nat,p.arg=ai:=⟨p.arg.toNat,by omega⟩
  have nC:ai<N:=by omega
  have D9:f.args[ai]?=some g:=by
   have:=hg
   unfold bQ at this
   rw[if_pos Xo.1,lH,Int.toNat_natCast]at this;exact this
  have Za:k.bits.toNat=kb ai:=by
   obtain⟨a,k',h1,h2,h3,_⟩:=lQ ai nC
   rw[D9]at h1;cases h1
   rw[hk]at h2;cases h2;exact h3
  have Bx:=th ai nC
  refine U (fun c=>absurd (of_decide_eq_true c) (by omega)) (fun _=> ?_)
  rcases(show ai=0∨ai=1∨ai=2∨ai=3∨ai=4∨ai=5 by omega)with rfl|rfl|rfl|rfl|rfl|rfl
  ·skip
   refine b_ (fun e s'=>e= .exit 7∧∃(b0 b1 b2 b3:AV) (cj:List Int),cM d f L (w+T0) m0 m1 w0 w1 lz ([cj,c1,c2,c3,c4,c5].take N)∧s'=⟨((96,b0)::(95,b1)::(94,b2)::(93,b3)::mE f ip [(13,.ptr 12 0 0 0),(16,.t (.int .i64 (p.hi - ((T0:Nat):Int))))]),(mH d sz n N vs (w+T0) m0 m1 w0 w1 lz cj c1 c2 c3 c4 c5 [.box [.t (.str p.lit),.t (.int .i64 p.arg),.t (.int .i64 p.hi),.t (.int .i64 p.lo)]])⟩) (fun uH nQ=> ?_) ?_
   ·refine ao (fun s:Nat×List Int=>s.1≤T0∧cM d f L (w+s.1) m0 m1 w0 w1 lz ([s.2,c1,c2,c3,c4,c5].take N)) (fun s=>⟨(mE f ip [(13,.ptr 12 0 0 0),(16,.t (.int .i64 (p.hi - ((s.1:Nat):Int))))]),(mH d sz n N vs (w+s.1) m0 m1 w0 w1 lz s.2 c1 c2 c3 c4 c5 [.box [.t (.str p.lit),.t (.int .i64 p.arg),.t (.int .i64 p.hi),.t (.int .i64 p.lo)]])⟩)
     (fun s=>T0 - s.1) (0,c0) ⟨Nat.zero_le _,hM⟩ ?_ (fun⟨mm,cj⟩ ⟨mR,hM⟩=> ?_)
    ·exact aM ⟨rfl,rfl,rfl,rfl,rfl,rfl,rfl,by show AV.t (T.int .i64 p.hi)=AV.t (T.int .i64 (p.hi - ((0:Nat):Int)));simp,trivial⟩ rfl
    have mR:mm≤T0:=mR
    have hM:cM d f L (w+mm) m0 m1 w0 w1 lz ([cj,c1,c2,c3,c4,c5].take N):=hM
    have Ec:=(hM.rows 0 g k cj D9 hk (iF nC)).1
    refine U (fun c7=> ?_) (fun c7=> ?_)
    ·have c7:p.hi - (mm:Int)≥p.lo:=of_decide_eq_true c7
     obtain⟨o,ho⟩:∃o:Nat,p.hi - (mm:Int)=o:=⟨(p.hi - mm).toNat,by omega⟩
     have oe:L[w+mm]?=some ⟨0,p.arg,p.hi - (mm:Int)⟩:=by rw[Eh mm (by omega),qq];unfold dM;rw[List.getElem?_map,List.getElem?_range (by omega)];rfl
     obtain⟨pos,eJ⟩:∃pos,pos=bo d.order L.length (w+mm):=⟨_,rfl⟩
     have b9:=hM.op (by rw[hL];exact hG.ux) h8 oe (j:=0) (m:=o) (c:=cj) lH ho rfl (iF nC) (by omega)
     rw[←eJ,ou]at b9
     obtain⟨v,hv,_⟩:=get_some (R:=cj) (i:=o) (by omega)
     refine bJ (GJ [0,1,2,3,4,5,6]) mL (by decide+kernel) ?_
     refine ε (fu rfl (by omega) (by omega)) ?_
     refine ν (show vs[0+p.arg.toNat]?=some (.sl 6 0 0 (kb 0))from by rw[lH,Nat.zero_add];exact Bx) ?_
     refine γ.mono (kc d sz n N vs (w+mm) m0 m1 w0 w1 lz cj c1 c2 c3 c4 c5 p L hn rF h8 (by omega) pos eJ) ?_
     rintro _ _ ⟨rfl,rfl⟩
     refine And.intro (fun j hj=>by
      simp only[List.mem_cons,List.not_mem_nil,or_false]at hj
      rcases hj with rfl|rfl|rfl|rfl|rfl|rfl|rfl<;>exact χ.set _ (List.mem_singleton.2 rfl)) ?_
     refine ε (fu rfl (by omega) (by omega)) ?_
     refine ν (gz ho hv) ?_
     refine And.intro (fun j hj=>by first|(cases hj;done)|exact χ.append _ _ _|exact χ.refl _ _) ?_
     refine δ (n:=p.hi - ((mm+1:Nat):Int)) (show IntKind.i64.wrap (p.hi - (mm:Int) - 1)=_ from by have:=ie.2.2.2.2.2.1 p j2;have h1:=this.2.2.1.1;have h2:=this.2.2.1.2;rw[IntKind.wrap_i64];omega) ?_
     have eC:=ov (C:=cj) (v:=((pos:Nat):Int)) ho
     conv=>whnf
     exact⟨⟨(mm+1,cj.set o ((pos:Nat):Int)),by omega,b9⟩,τ [0,1,2,3,4,5,6,7,8,9,10,11,12] rfl ⟨rfl,rfl,rfl,rfl,rfl,rfl,rfl,rfl,trivial⟩ ⟨rfl,rfl,gV _ (fR _ _ _ _ _ _ _ _ _ _ _ _ _) _ (by decide),rfl,rfl,rfl,congrArg (fun l=>some (Ω.arr tI 1 false 0 (.ts l))) eC,rfl,rfl,rfl,rfl,rfl,rfl,trivial⟩,by show T0 - (mm+1)<T0 - mm;omega⟩
    ·have c7:¬p.hi - (mm:Int)≥p.lo:=of_decide_eq_false c7
     have e:mm=T0:=by omega
     exact nQ _ _ ⟨rfl,_,_,_,_,cj,by rw[←e];exact hM,by rw[←e]⟩
   rintro _ _ ⟨rfl,b0,b1,b2,b3,cj,hM,rfl⟩
   refine δ (n:=((ip+1:Nat):Int)) (aj (n:=ip+1) (by omega)) ?_
   conv=>whnf
   exact⟨⟨(ip+1,w+T0,m0,m1,w0,w1,lz,cj,c1,c2,c3,c4,c5),vP,by show w+T0=_;rw[DO,y7],hM⟩,τ [0,1,2,3,4,5,6,7,8,9,10,11] rfl ⟨rfl,rfl,rfl,rfl,rfl,rfl,trivial⟩ ⟨rfl,rfl,gV _ (fR _ _ _ _ _ _ _ _ _ _ _ _ _) _ (by decide),rfl,rfl,rfl,rfl,rfl,rfl,rfl,rfl,rfl,trivial⟩,by show f.pieces.length - (ip+1)<f.pieces.length - ip;omega⟩
  ·skip
   refine b_ (fun e s'=>e= .exit 7∧∃(b0 b1 b2 b3:AV) (cj:List Int),cM d f L (w+T0) m0 m1 w0 w1 lz ([c0,cj,c2,c3,c4,c5].take N)∧s'=⟨((96,b0)::(95,b1)::(94,b2)::(93,b3)::mE f ip [(13,.ptr 12 0 0 0),(16,.t (.int .i64 (p.hi - ((T0:Nat):Int))))]),(mH d sz n N vs (w+T0) m0 m1 w0 w1 lz c0 cj c2 c3 c4 c5 [.box [.t (.str p.lit),.t (.int .i64 p.arg),.t (.int .i64 p.hi),.t (.int .i64 p.lo)]])⟩) (fun uH nQ=> ?_) ?_
   ·refine ao (fun s:Nat×List Int=>s.1≤T0∧cM d f L (w+s.1) m0 m1 w0 w1 lz ([c0,s.2,c2,c3,c4,c5].take N)) (fun s=>⟨(mE f ip [(13,.ptr 12 0 0 0),(16,.t (.int .i64 (p.hi - ((s.1:Nat):Int))))]),(mH d sz n N vs (w+s.1) m0 m1 w0 w1 lz c0 s.2 c2 c3 c4 c5 [.box [.t (.str p.lit),.t (.int .i64 p.arg),.t (.int .i64 p.hi),.t (.int .i64 p.lo)]])⟩)
     (fun s=>T0 - s.1) (0,c1) ⟨Nat.zero_le _,hM⟩ ?_ (fun⟨mm,cj⟩ ⟨mR,hM⟩=> ?_)
    ·exact aM ⟨rfl,rfl,rfl,rfl,rfl,rfl,rfl,by show AV.t (T.int .i64 p.hi)=AV.t (T.int .i64 (p.hi - ((0:Nat):Int)));simp,trivial⟩ rfl
    have mR:mm≤T0:=mR
    have hM:cM d f L (w+mm) m0 m1 w0 w1 lz ([c0,cj,c2,c3,c4,c5].take N):=hM
    have Ec:=(hM.rows 1 g k cj D9 hk (iF nC)).1
    refine U (fun c7=> ?_) (fun c7=> ?_)
    ·have c7:p.hi - (mm:Int)≥p.lo:=of_decide_eq_true c7
     obtain⟨o,ho⟩:∃o:Nat,p.hi - (mm:Int)=o:=⟨(p.hi - mm).toNat,by omega⟩
     have oe:L[w+mm]?=some ⟨0,p.arg,p.hi - (mm:Int)⟩:=by rw[Eh mm (by omega),qq];unfold dM;rw[List.getElem?_map,List.getElem?_range (by omega)];rfl
     obtain⟨pos,eJ⟩:∃pos,pos=bo d.order L.length (w+mm):=⟨_,rfl⟩
     have b9:=hM.op (by rw[hL];exact hG.ux) h8 oe (j:=1) (m:=o) (c:=cj) lH ho rfl (iF nC) (by omega)
     rw[←eJ,ou]at b9
     obtain⟨v,hv,_⟩:=get_some (R:=cj) (i:=o) (by omega)
     refine bJ (GJ [0,1,2,3,4,5,6]) mL (by decide+kernel) ?_
     refine ε (fu rfl (by omega) (by omega)) ?_
     refine ν (show vs[0+p.arg.toNat]?=some (.sl 7 0 0 (kb 1))from by rw[lH,Nat.zero_add];exact Bx) ?_
     refine γ.mono (kc d sz n N vs (w+mm) m0 m1 w0 w1 lz c0 cj c2 c3 c4 c5 p L hn rF h8 (by omega) pos eJ) ?_
     rintro _ _ ⟨rfl,rfl⟩
     refine And.intro (fun j hj=>by
      simp only[List.mem_cons,List.not_mem_nil,or_false]at hj
      rcases hj with rfl|rfl|rfl|rfl|rfl|rfl|rfl<;>exact χ.set _ (List.mem_singleton.2 rfl)) ?_
     refine ε (fu rfl (by omega) (by omega)) ?_
     refine ν (gz ho hv) ?_
     refine And.intro (fun j hj=>by first|(cases hj;done)|exact χ.append _ _ _|exact χ.refl _ _) ?_
     refine δ (n:=p.hi - ((mm+1:Nat):Int)) (show IntKind.i64.wrap (p.hi - (mm:Int) - 1)=_ from by have:=ie.2.2.2.2.2.1 p j2;have h1:=this.2.2.1.1;have h2:=this.2.2.1.2;rw[IntKind.wrap_i64];omega) ?_
     have eC:=ov (C:=cj) (v:=((pos:Nat):Int)) ho
     conv=>whnf
     exact⟨⟨(mm+1,cj.set o ((pos:Nat):Int)),by omega,b9⟩,τ [0,1,2,3,4,5,6,7,8,9,10,11,12] rfl ⟨rfl,rfl,rfl,rfl,rfl,rfl,rfl,rfl,trivial⟩ ⟨rfl,rfl,gV _ (fR _ _ _ _ _ _ _ _ _ _ _ _ _) _ (by decide),rfl,rfl,rfl,rfl,congrArg (fun l=>some (Ω.arr tI 1 false 0 (.ts l))) eC,rfl,rfl,rfl,rfl,rfl,trivial⟩,by show T0 - (mm+1)<T0 - mm;omega⟩
    ·have c7:¬p.hi - (mm:Int)≥p.lo:=of_decide_eq_false c7
     have e:mm=T0:=by omega
     exact nQ _ _ ⟨rfl,_,_,_,_,cj,by rw[←e];exact hM,by rw[←e]⟩
   rintro _ _ ⟨rfl,b0,b1,b2,b3,cj,hM,rfl⟩
   refine δ (n:=((ip+1:Nat):Int)) (aj (n:=ip+1) (by omega)) ?_
   conv=>whnf
   exact⟨⟨(ip+1,w+T0,m0,m1,w0,w1,lz,c0,cj,c2,c3,c4,c5),vP,by show w+T0=_;rw[DO,y7],hM⟩,τ [0,1,2,3,4,5,6,7,8,9,10,11] rfl ⟨rfl,rfl,rfl,rfl,rfl,rfl,trivial⟩ ⟨rfl,rfl,gV _ (fR _ _ _ _ _ _ _ _ _ _ _ _ _) _ (by decide),rfl,rfl,rfl,rfl,rfl,rfl,rfl,rfl,rfl,trivial⟩,by show f.pieces.length - (ip+1)<f.pieces.length - ip;omega⟩
  ·skip
   refine b_ (fun e s'=>e= .exit 7∧∃(b0 b1 b2 b3:AV) (cj:List Int),cM d f L (w+T0) m0 m1 w0 w1 lz ([c0,c1,cj,c3,c4,c5].take N)∧s'=⟨((96,b0)::(95,b1)::(94,b2)::(93,b3)::mE f ip [(13,.ptr 12 0 0 0),(16,.t (.int .i64 (p.hi - ((T0:Nat):Int))))]),(mH d sz n N vs (w+T0) m0 m1 w0 w1 lz c0 c1 cj c3 c4 c5 [.box [.t (.str p.lit),.t (.int .i64 p.arg),.t (.int .i64 p.hi),.t (.int .i64 p.lo)]])⟩) (fun uH nQ=> ?_) ?_
   ·refine ao (fun s:Nat×List Int=>s.1≤T0∧cM d f L (w+s.1) m0 m1 w0 w1 lz ([c0,c1,s.2,c3,c4,c5].take N)) (fun s=>⟨(mE f ip [(13,.ptr 12 0 0 0),(16,.t (.int .i64 (p.hi - ((s.1:Nat):Int))))]),(mH d sz n N vs (w+s.1) m0 m1 w0 w1 lz c0 c1 s.2 c3 c4 c5 [.box [.t (.str p.lit),.t (.int .i64 p.arg),.t (.int .i64 p.hi),.t (.int .i64 p.lo)]])⟩)
     (fun s=>T0 - s.1) (0,c2) ⟨Nat.zero_le _,hM⟩ ?_ (fun⟨mm,cj⟩ ⟨mR,hM⟩=> ?_)
    ·exact aM ⟨rfl,rfl,rfl,rfl,rfl,rfl,rfl,by show AV.t (T.int .i64 p.hi)=AV.t (T.int .i64 (p.hi - ((0:Nat):Int)));simp,trivial⟩ rfl
    have mR:mm≤T0:=mR
    have hM:cM d f L (w+mm) m0 m1 w0 w1 lz ([c0,c1,cj,c3,c4,c5].take N):=hM
    have Ec:=(hM.rows 2 g k cj D9 hk (iF nC)).1
    refine U (fun c7=> ?_) (fun c7=> ?_)
    ·have c7:p.hi - (mm:Int)≥p.lo:=of_decide_eq_true c7
     obtain⟨o,ho⟩:∃o:Nat,p.hi - (mm:Int)=o:=⟨(p.hi - mm).toNat,by omega⟩
     have oe:L[w+mm]?=some ⟨0,p.arg,p.hi - (mm:Int)⟩:=by rw[Eh mm (by omega),qq];unfold dM;rw[List.getElem?_map,List.getElem?_range (by omega)];rfl
     obtain⟨pos,eJ⟩:∃pos,pos=bo d.order L.length (w+mm):=⟨_,rfl⟩
     have b9:=hM.op (by rw[hL];exact hG.ux) h8 oe (j:=2) (m:=o) (c:=cj) lH ho rfl (iF nC) (by omega)
     rw[←eJ,ou]at b9
     obtain⟨v,hv,_⟩:=get_some (R:=cj) (i:=o) (by omega)
     refine bJ (GJ [0,1,2,3,4,5,6]) mL (by decide+kernel) ?_
     refine ε (fu rfl (by omega) (by omega)) ?_
     refine ν (show vs[0+p.arg.toNat]?=some (.sl 8 0 0 (kb 2))from by rw[lH,Nat.zero_add];exact Bx) ?_
     refine γ.mono (kc d sz n N vs (w+mm) m0 m1 w0 w1 lz c0 c1 cj c3 c4 c5 p L hn rF h8 (by omega) pos eJ) ?_
     rintro _ _ ⟨rfl,rfl⟩
     refine And.intro (fun j hj=>by
      simp only[List.mem_cons,List.not_mem_nil,or_false]at hj
      rcases hj with rfl|rfl|rfl|rfl|rfl|rfl|rfl<;>exact χ.set _ (List.mem_singleton.2 rfl)) ?_
     refine ε (fu rfl (by omega) (by omega)) ?_
     refine ν (gz ho hv) ?_
     refine And.intro (fun j hj=>by first|(cases hj;done)|exact χ.append _ _ _|exact χ.refl _ _) ?_
     refine δ (n:=p.hi - ((mm+1:Nat):Int)) (show IntKind.i64.wrap (p.hi - (mm:Int) - 1)=_ from by have:=ie.2.2.2.2.2.1 p j2;have h1:=this.2.2.1.1;have h2:=this.2.2.1.2;rw[IntKind.wrap_i64];omega) ?_
     have eC:=ov (C:=cj) (v:=((pos:Nat):Int)) ho
     conv=>whnf
     exact⟨⟨(mm+1,cj.set o ((pos:Nat):Int)),by omega,b9⟩,τ [0,1,2,3,4,5,6,7,8,9,10,11,12] rfl ⟨rfl,rfl,rfl,rfl,rfl,rfl,rfl,rfl,trivial⟩ ⟨rfl,rfl,gV _ (fR _ _ _ _ _ _ _ _ _ _ _ _ _) _ (by decide),rfl,rfl,rfl,rfl,rfl,congrArg (fun l=>some (Ω.arr tI 1 false 0 (.ts l))) eC,rfl,rfl,rfl,rfl,trivial⟩,by show T0 - (mm+1)<T0 - mm;omega⟩
    ·have c7:¬p.hi - (mm:Int)≥p.lo:=of_decide_eq_false c7
     have e:mm=T0:=by omega
     exact nQ _ _ ⟨rfl,_,_,_,_,cj,by rw[←e];exact hM,by rw[←e]⟩
   rintro _ _ ⟨rfl,b0,b1,b2,b3,cj,hM,rfl⟩
   refine δ (n:=((ip+1:Nat):Int)) (aj (n:=ip+1) (by omega)) ?_
   conv=>whnf
   exact⟨⟨(ip+1,w+T0,m0,m1,w0,w1,lz,c0,c1,cj,c3,c4,c5),vP,by show w+T0=_;rw[DO,y7],hM⟩,τ [0,1,2,3,4,5,6,7,8,9,10,11] rfl ⟨rfl,rfl,rfl,rfl,rfl,rfl,trivial⟩ ⟨rfl,rfl,gV _ (fR _ _ _ _ _ _ _ _ _ _ _ _ _) _ (by decide),rfl,rfl,rfl,rfl,rfl,rfl,rfl,rfl,rfl,trivial⟩,by show f.pieces.length - (ip+1)<f.pieces.length - ip;omega⟩
  ·skip
   refine b_ (fun e s'=>e= .exit 7∧∃(b0 b1 b2 b3:AV) (cj:List Int),cM d f L (w+T0) m0 m1 w0 w1 lz ([c0,c1,c2,cj,c4,c5].take N)∧s'=⟨((96,b0)::(95,b1)::(94,b2)::(93,b3)::mE f ip [(13,.ptr 12 0 0 0),(16,.t (.int .i64 (p.hi - ((T0:Nat):Int))))]),(mH d sz n N vs (w+T0) m0 m1 w0 w1 lz c0 c1 c2 cj c4 c5 [.box [.t (.str p.lit),.t (.int .i64 p.arg),.t (.int .i64 p.hi),.t (.int .i64 p.lo)]])⟩) (fun uH nQ=> ?_) ?_
   ·refine ao (fun s:Nat×List Int=>s.1≤T0∧cM d f L (w+s.1) m0 m1 w0 w1 lz ([c0,c1,c2,s.2,c4,c5].take N)) (fun s=>⟨(mE f ip [(13,.ptr 12 0 0 0),(16,.t (.int .i64 (p.hi - ((s.1:Nat):Int))))]),(mH d sz n N vs (w+s.1) m0 m1 w0 w1 lz c0 c1 c2 s.2 c4 c5 [.box [.t (.str p.lit),.t (.int .i64 p.arg),.t (.int .i64 p.hi),.t (.int .i64 p.lo)]])⟩)
     (fun s=>T0 - s.1) (0,c3) ⟨Nat.zero_le _,hM⟩ ?_ (fun⟨mm,cj⟩ ⟨mR,hM⟩=> ?_)
    ·exact aM ⟨rfl,rfl,rfl,rfl,rfl,rfl,rfl,by show AV.t (T.int .i64 p.hi)=AV.t (T.int .i64 (p.hi - ((0:Nat):Int)));simp,trivial⟩ rfl
    have mR:mm≤T0:=mR
    have hM:cM d f L (w+mm) m0 m1 w0 w1 lz ([c0,c1,c2,cj,c4,c5].take N):=hM
    have Ec:=(hM.rows 3 g k cj D9 hk (iF nC)).1
    refine U (fun c7=> ?_) (fun c7=> ?_)
    ·have c7:p.hi - (mm:Int)≥p.lo:=of_decide_eq_true c7
     obtain⟨o,ho⟩:∃o:Nat,p.hi - (mm:Int)=o:=⟨(p.hi - mm).toNat,by omega⟩
     have oe:L[w+mm]?=some ⟨0,p.arg,p.hi - (mm:Int)⟩:=by rw[Eh mm (by omega),qq];unfold dM;rw[List.getElem?_map,List.getElem?_range (by omega)];rfl
     obtain⟨pos,eJ⟩:∃pos,pos=bo d.order L.length (w+mm):=⟨_,rfl⟩
     have b9:=hM.op (by rw[hL];exact hG.ux) h8 oe (j:=3) (m:=o) (c:=cj) lH ho rfl (iF nC) (by omega)
     rw[←eJ,ou]at b9
     obtain⟨v,hv,_⟩:=get_some (R:=cj) (i:=o) (by omega)
     refine bJ (GJ [0,1,2,3,4,5,6]) mL (by decide+kernel) ?_
     refine ε (fu rfl (by omega) (by omega)) ?_
     refine ν (show vs[0+p.arg.toNat]?=some (.sl 9 0 0 (kb 3))from by rw[lH,Nat.zero_add];exact Bx) ?_
     refine γ.mono (kc d sz n N vs (w+mm) m0 m1 w0 w1 lz c0 c1 c2 cj c4 c5 p L hn rF h8 (by omega) pos eJ) ?_
     rintro _ _ ⟨rfl,rfl⟩
     refine And.intro (fun j hj=>by
      simp only[List.mem_cons,List.not_mem_nil,or_false]at hj
      rcases hj with rfl|rfl|rfl|rfl|rfl|rfl|rfl<;>exact χ.set _ (List.mem_singleton.2 rfl)) ?_
     refine ε (fu rfl (by omega) (by omega)) ?_
     refine ν (gz ho hv) ?_
     refine And.intro (fun j hj=>by first|(cases hj;done)|exact χ.append _ _ _|exact χ.refl _ _) ?_
     refine δ (n:=p.hi - ((mm+1:Nat):Int)) (show IntKind.i64.wrap (p.hi - (mm:Int) - 1)=_ from by have:=ie.2.2.2.2.2.1 p j2;have h1:=this.2.2.1.1;have h2:=this.2.2.1.2;rw[IntKind.wrap_i64];omega) ?_
     have eC:=ov (C:=cj) (v:=((pos:Nat):Int)) ho
     conv=>whnf
     exact⟨⟨(mm+1,cj.set o ((pos:Nat):Int)),by omega,b9⟩,τ [0,1,2,3,4,5,6,7,8,9,10,11,12] rfl ⟨rfl,rfl,rfl,rfl,rfl,rfl,rfl,rfl,trivial⟩ ⟨rfl,rfl,gV _ (fR _ _ _ _ _ _ _ _ _ _ _ _ _) _ (by decide),rfl,rfl,rfl,rfl,rfl,rfl,congrArg (fun l=>some (Ω.arr tI 1 false 0 (.ts l))) eC,rfl,rfl,rfl,trivial⟩,by show T0 - (mm+1)<T0 - mm;omega⟩
    ·have c7:¬p.hi - (mm:Int)≥p.lo:=of_decide_eq_false c7
     have e:mm=T0:=by omega
     exact nQ _ _ ⟨rfl,_,_,_,_,cj,by rw[←e];exact hM,by rw[←e]⟩
   rintro _ _ ⟨rfl,b0,b1,b2,b3,cj,hM,rfl⟩
   refine δ (n:=((ip+1:Nat):Int)) (aj (n:=ip+1) (by omega)) ?_
   conv=>whnf
   exact⟨⟨(ip+1,w+T0,m0,m1,w0,w1,lz,c0,c1,c2,cj,c4,c5),vP,by show w+T0=_;rw[DO,y7],hM⟩,τ [0,1,2,3,4,5,6,7,8,9,10,11] rfl ⟨rfl,rfl,rfl,rfl,rfl,rfl,trivial⟩ ⟨rfl,rfl,gV _ (fR _ _ _ _ _ _ _ _ _ _ _ _ _) _ (by decide),rfl,rfl,rfl,rfl,rfl,rfl,rfl,rfl,rfl,trivial⟩,by show f.pieces.length - (ip+1)<f.pieces.length - ip;omega⟩
  ·skip
   refine b_ (fun e s'=>e= .exit 7∧∃(b0 b1 b2 b3:AV) (cj:List Int),cM d f L (w+T0) m0 m1 w0 w1 lz ([c0,c1,c2,c3,cj,c5].take N)∧s'=⟨((96,b0)::(95,b1)::(94,b2)::(93,b3)::mE f ip [(13,.ptr 12 0 0 0),(16,.t (.int .i64 (p.hi - ((T0:Nat):Int))))]),(mH d sz n N vs (w+T0) m0 m1 w0 w1 lz c0 c1 c2 c3 cj c5 [.box [.t (.str p.lit),.t (.int .i64 p.arg),.t (.int .i64 p.hi),.t (.int .i64 p.lo)]])⟩) (fun uH nQ=> ?_) ?_
   ·refine ao (fun s:Nat×List Int=>s.1≤T0∧cM d f L (w+s.1) m0 m1 w0 w1 lz ([c0,c1,c2,c3,s.2,c5].take N)) (fun s=>⟨(mE f ip [(13,.ptr 12 0 0 0),(16,.t (.int .i64 (p.hi - ((s.1:Nat):Int))))]),(mH d sz n N vs (w+s.1) m0 m1 w0 w1 lz c0 c1 c2 c3 s.2 c5 [.box [.t (.str p.lit),.t (.int .i64 p.arg),.t (.int .i64 p.hi),.t (.int .i64 p.lo)]])⟩)
     (fun s=>T0 - s.1) (0,c4) ⟨Nat.zero_le _,hM⟩ ?_ (fun⟨mm,cj⟩ ⟨mR,hM⟩=> ?_)
    ·exact aM ⟨rfl,rfl,rfl,rfl,rfl,rfl,rfl,by show AV.t (T.int .i64 p.hi)=AV.t (T.int .i64 (p.hi - ((0:Nat):Int)));simp,trivial⟩ rfl
    have mR:mm≤T0:=mR
    have hM:cM d f L (w+mm) m0 m1 w0 w1 lz ([c0,c1,c2,c3,cj,c5].take N):=hM
    have Ec:=(hM.rows 4 g k cj D9 hk (iF nC)).1
    refine U (fun c7=> ?_) (fun c7=> ?_)
    ·have c7:p.hi - (mm:Int)≥p.lo:=of_decide_eq_true c7
     obtain⟨o,ho⟩:∃o:Nat,p.hi - (mm:Int)=o:=⟨(p.hi - mm).toNat,by omega⟩
     have oe:L[w+mm]?=some ⟨0,p.arg,p.hi - (mm:Int)⟩:=by rw[Eh mm (by omega),qq];unfold dM;rw[List.getElem?_map,List.getElem?_range (by omega)];rfl
     obtain⟨pos,eJ⟩:∃pos,pos=bo d.order L.length (w+mm):=⟨_,rfl⟩
     have b9:=hM.op (by rw[hL];exact hG.ux) h8 oe (j:=4) (m:=o) (c:=cj) lH ho rfl (iF nC) (by omega)
     rw[←eJ,ou]at b9
     obtain⟨v,hv,_⟩:=get_some (R:=cj) (i:=o) (by omega)
     refine bJ (GJ [0,1,2,3,4,5,6]) mL (by decide+kernel) ?_
     refine ε (fu rfl (by omega) (by omega)) ?_
     refine ν (show vs[0+p.arg.toNat]?=some (.sl 10 0 0 (kb 4))from by rw[lH,Nat.zero_add];exact Bx) ?_
     refine γ.mono (kc d sz n N vs (w+mm) m0 m1 w0 w1 lz c0 c1 c2 c3 cj c5 p L hn rF h8 (by omega) pos eJ) ?_
     rintro _ _ ⟨rfl,rfl⟩
     refine And.intro (fun j hj=>by
      simp only[List.mem_cons,List.not_mem_nil,or_false]at hj
      rcases hj with rfl|rfl|rfl|rfl|rfl|rfl|rfl<;>exact χ.set _ (List.mem_singleton.2 rfl)) ?_
     refine ε (fu rfl (by omega) (by omega)) ?_
     refine ν (gz ho hv) ?_
     refine And.intro (fun j hj=>by first|(cases hj;done)|exact χ.append _ _ _|exact χ.refl _ _) ?_
     refine δ (n:=p.hi - ((mm+1:Nat):Int)) (show IntKind.i64.wrap (p.hi - (mm:Int) - 1)=_ from by have:=ie.2.2.2.2.2.1 p j2;have h1:=this.2.2.1.1;have h2:=this.2.2.1.2;rw[IntKind.wrap_i64];omega) ?_
     have eC:=ov (C:=cj) (v:=((pos:Nat):Int)) ho
     conv=>whnf
     exact⟨⟨(mm+1,cj.set o ((pos:Nat):Int)),by omega,b9⟩,τ [0,1,2,3,4,5,6,7,8,9,10,11,12] rfl ⟨rfl,rfl,rfl,rfl,rfl,rfl,rfl,rfl,trivial⟩ ⟨rfl,rfl,gV _ (fR _ _ _ _ _ _ _ _ _ _ _ _ _) _ (by decide),rfl,rfl,rfl,rfl,rfl,rfl,rfl,congrArg (fun l=>some (Ω.arr tI 1 false 0 (.ts l))) eC,rfl,rfl,trivial⟩,by show T0 - (mm+1)<T0 - mm;omega⟩
    ·have c7:¬p.hi - (mm:Int)≥p.lo:=of_decide_eq_false c7
     have e:mm=T0:=by omega
     exact nQ _ _ ⟨rfl,_,_,_,_,cj,by rw[←e];exact hM,by rw[←e]⟩
   rintro _ _ ⟨rfl,b0,b1,b2,b3,cj,hM,rfl⟩
   refine δ (n:=((ip+1:Nat):Int)) (aj (n:=ip+1) (by omega)) ?_
   conv=>whnf
   exact⟨⟨(ip+1,w+T0,m0,m1,w0,w1,lz,c0,c1,c2,c3,cj,c5),vP,by show w+T0=_;rw[DO,y7],hM⟩,τ [0,1,2,3,4,5,6,7,8,9,10,11] rfl ⟨rfl,rfl,rfl,rfl,rfl,rfl,trivial⟩ ⟨rfl,rfl,gV _ (fR _ _ _ _ _ _ _ _ _ _ _ _ _) _ (by decide),rfl,rfl,rfl,rfl,rfl,rfl,rfl,rfl,rfl,trivial⟩,by show f.pieces.length - (ip+1)<f.pieces.length - ip;omega⟩
  ·skip
   refine b_ (fun e s'=>e= .exit 7∧∃(b0 b1 b2 b3:AV) (cj:List Int),cM d f L (w+T0) m0 m1 w0 w1 lz ([c0,c1,c2,c3,c4,cj].take N)∧s'=⟨((96,b0)::(95,b1)::(94,b2)::(93,b3)::mE f ip [(13,.ptr 12 0 0 0),(16,.t (.int .i64 (p.hi - ((T0:Nat):Int))))]),(mH d sz n N vs (w+T0) m0 m1 w0 w1 lz c0 c1 c2 c3 c4 cj [.box [.t (.str p.lit),.t (.int .i64 p.arg),.t (.int .i64 p.hi),.t (.int .i64 p.lo)]])⟩) (fun uH nQ=> ?_) ?_
   ·refine ao (fun s:Nat×List Int=>s.1≤T0∧cM d f L (w+s.1) m0 m1 w0 w1 lz ([c0,c1,c2,c3,c4,s.2].take N)) (fun s=>⟨(mE f ip [(13,.ptr 12 0 0 0),(16,.t (.int .i64 (p.hi - ((s.1:Nat):Int))))]),(mH d sz n N vs (w+s.1) m0 m1 w0 w1 lz c0 c1 c2 c3 c4 s.2 [.box [.t (.str p.lit),.t (.int .i64 p.arg),.t (.int .i64 p.hi),.t (.int .i64 p.lo)]])⟩)
     (fun s=>T0 - s.1) (0,c5) ⟨Nat.zero_le _,hM⟩ ?_ (fun⟨mm,cj⟩ ⟨mR,hM⟩=> ?_)
    ·exact aM ⟨rfl,rfl,rfl,rfl,rfl,rfl,rfl,by show AV.t (T.int .i64 p.hi)=AV.t (T.int .i64 (p.hi - ((0:Nat):Int)));simp,trivial⟩ rfl
    have mR:mm≤T0:=mR
    have hM:cM d f L (w+mm) m0 m1 w0 w1 lz ([c0,c1,c2,c3,c4,cj].take N):=hM
    have Ec:=(hM.rows 5 g k cj D9 hk (iF nC)).1
    refine U (fun c7=> ?_) (fun c7=> ?_)
    ·have c7:p.hi - (mm:Int)≥p.lo:=of_decide_eq_true c7
     obtain⟨o,ho⟩:∃o:Nat,p.hi - (mm:Int)=o:=⟨(p.hi - mm).toNat,by omega⟩
     have oe:L[w+mm]?=some ⟨0,p.arg,p.hi - (mm:Int)⟩:=by rw[Eh mm (by omega),qq];unfold dM;rw[List.getElem?_map,List.getElem?_range (by omega)];rfl
     obtain⟨pos,eJ⟩:∃pos,pos=bo d.order L.length (w+mm):=⟨_,rfl⟩
     have b9:=hM.op (by rw[hL];exact hG.ux) h8 oe (j:=5) (m:=o) (c:=cj) lH ho rfl (iF nC) (by omega)
     rw[←eJ,ou]at b9
     obtain⟨v,hv,_⟩:=get_some (R:=cj) (i:=o) (by omega)
     refine bJ (GJ [0,1,2,3,4,5,6]) mL (by decide+kernel) ?_
     refine ε (fu rfl (by omega) (by omega)) ?_
     refine ν (show vs[0+p.arg.toNat]?=some (.sl 11 0 0 (kb 5))from by rw[lH,Nat.zero_add];exact Bx) ?_
     refine γ.mono (kc d sz n N vs (w+mm) m0 m1 w0 w1 lz c0 c1 c2 c3 c4 cj p L hn rF h8 (by omega) pos eJ) ?_
     rintro _ _ ⟨rfl,rfl⟩
     refine And.intro (fun j hj=>by
      simp only[List.mem_cons,List.not_mem_nil,or_false]at hj
      rcases hj with rfl|rfl|rfl|rfl|rfl|rfl|rfl<;>exact χ.set _ (List.mem_singleton.2 rfl)) ?_
     refine ε (fu rfl (by omega) (by omega)) ?_
     refine ν (gz ho hv) ?_
     refine And.intro (fun j hj=>by first|(cases hj;done)|exact χ.append _ _ _|exact χ.refl _ _) ?_
     refine δ (n:=p.hi - ((mm+1:Nat):Int)) (show IntKind.i64.wrap (p.hi - (mm:Int) - 1)=_ from by have:=ie.2.2.2.2.2.1 p j2;have h1:=this.2.2.1.1;have h2:=this.2.2.1.2;rw[IntKind.wrap_i64];omega) ?_
     have eC:=ov (C:=cj) (v:=((pos:Nat):Int)) ho
     conv=>whnf
     exact⟨⟨(mm+1,cj.set o ((pos:Nat):Int)),by omega,b9⟩,τ [0,1,2,3,4,5,6,7,8,9,10,11,12] rfl ⟨rfl,rfl,rfl,rfl,rfl,rfl,rfl,rfl,trivial⟩ ⟨rfl,rfl,gV _ (fR _ _ _ _ _ _ _ _ _ _ _ _ _) _ (by decide),rfl,rfl,rfl,rfl,rfl,rfl,rfl,rfl,congrArg (fun l=>some (Ω.arr tI 1 false 0 (.ts l))) eC,rfl,trivial⟩,by show T0 - (mm+1)<T0 - mm;omega⟩
    ·have c7:¬p.hi - (mm:Int)≥p.lo:=of_decide_eq_false c7
     have e:mm=T0:=by omega
     exact nQ _ _ ⟨rfl,_,_,_,_,cj,by rw[←e];exact hM,by rw[←e]⟩
   rintro _ _ ⟨rfl,b0,b1,b2,b3,cj,hM,rfl⟩
   refine δ (n:=((ip+1:Nat):Int)) (aj (n:=ip+1) (by omega)) ?_
   conv=>whnf
   exact⟨⟨(ip+1,w+T0,m0,m1,w0,w1,lz,c0,c1,c2,c3,c4,cj),vP,by show w+T0=_;rw[DO,y7],hM⟩,τ [0,1,2,3,4,5,6,7,8,9,10,11] rfl ⟨rfl,rfl,rfl,rfl,rfl,rfl,trivial⟩ ⟨rfl,rfl,gV _ (fR _ _ _ _ _ _ _ _ _ _ _ _ _) _ (by decide),rfl,rfl,rfl,rfl,rfl,rfl,rfl,rfl,rfl,trivial⟩,by show f.pieces.length - (ip+1)<f.pieces.length - ip;omega⟩
end Go.Proofs.YtcogcbplmkcojaaGreatDoor
