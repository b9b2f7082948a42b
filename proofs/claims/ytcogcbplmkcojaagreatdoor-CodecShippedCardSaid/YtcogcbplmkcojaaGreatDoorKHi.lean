/-
  The bits of a form's pattern: what they are.
-/
import Derived.Test.YtcogcbplmkcojaaGreatDoorKHh
namespace Go.Proofs.YtcogcbplmkcojaaGreatDoor
open Go.IntWalk
set_option maxRecDepth 100000
set_option linter.unusedVariables false
set_option linter.unusedSimpArgs false
set_option maxHeartbeats 1000000
theorem HH{n z:Nat}(h:n≤6)(hz:z≤64):(decide (0≤(n:Int))&&decide ((n:Int)≤n)&&decide ((n:Int)*(z:Int)≤140737488355328)&&decide ((n:Int)≤9223372036854775807)&&true&&true&&true)=true:=by
 have:n*z≤6*64:=Nat.mul_le_mul h hz
 have:(n:Int)*(z:Int)≤384:=by exact_mod_cast this
 simp;omega
theorem LL{n:Nat}(h:n≤3000000000000):cI n 24=true:=by simp[cI];omega
def pZ(l:List Bool):T:= .agg (l.map T.bool)
abbrev MP:Nat:= 204
abbrev tI:Nat:= 3
def dw(x:UInt8):Θ:=⟨x.toNat, -1,0⟩
theorem fu{i:Int}{n:Nat}{b:Bool}(hb:b=true)(h0:0≤i)(h:i<(n:Int)):(b&&rq i n)=true:=by rw[hb];simp[rq];omega
theorem Sk{i:Int}{n:Nat}(h0:0≤i)(h:i<(n:Int)):rq i n=true:=by simp[rq];omega
theorem PR{n:Nat}{K:Nat→Prop}{P:Prop}(hP:P=K 0)(h:K n):(match Nat.beq n 0 with|true=>P|false=>Ag [1,2,3,4,5,6,7,8,9,10,11,12,13,14,15,16,17,18,19,20,21,22,23,24,25,26,27,28,29,30,31,32] n K):=by
 rw[hP]
 show Ag (0::_) n K
 rw[Af];exact h
theorem OF{r:List Bool}{i:Int}{o:Nat}{v:Bool}(hi:i=(o:Int))(hv:r[o]?=some v):(r.map T.bool)[0+i.toNat*1]?=some (T.bool v):=by
 rw[hi,Int.toNat_natCast,Nat.mul_one,Nat.zero_add,List.getElem?_map,hv];rfl
theorem gz{α β:Type}{f:α→β}{l:List α}{i:Int}{n:Nat}{a:α}(hi:i=(n:Int))(h:l[n]?=some a):(l.map f)[0+i.toNat]?=some (f a):=by
 rw[hi,Int.toNat_natCast,Nat.zero_add,List.getElem?_map,h];rfl
def dM(a h:Int)(m:Nat):List Θ:=(List.range m).map fun(i:Nat)=>⟨0,a,h - i⟩
def sZ(p:bK):Nat:=(p.hi - p.lo+1).toNat
def gM(p:bK):List Θ:=if p.arg= -1 then p.lit.map dw else dM p.arg p.hi (sZ p)
def bf:List bK→List Θ
 |[]=>[]
 |p::r=>gM p++bf r
def oO(d:ο)(f:Ψ)(p:bK):Prop:=
 (p.arg= -1∧p.lit≠[]∧∀x∈p.lit,pe x=true)∨(¬p.arg= -1∧∃g k,bQ f.args p.arg=some g∧bQ d.classes g.aU=some k∧0≤p.lo∧p.lo≤p.hi∧p.hi<k.bits)
def oz(p:bK):Nat:=p.lit.length+64
def fP:List bK→Nat
 |[]=>0
 |p::r=>oz p+fP r
theorem xK:∀(a b:List bK),fP (a++b)=fP a+fP b
 |[],b=>by simp[fP]
 |p::a,b=>by simp only[List.cons_append,fP,xK a b];omega
theorem Jy(l:List bK)(i:Nat):fP (l.take i)≤fP l:=by
 have:=xK (l.take i) (l.drop i)
 rw[List.take_append_drop]at this
 omega
theorem Jz{l:List bK}{i:Nat}{p:bK}(h:l[i]?=some p):fP (l.take (i+1))=fP (l.take i)+oz p:=by
 rw[List.take_add_one,h,xK];simp[fP]
theorem tN:∀(a b:List bK),bf (a++b)=bf a++bf b
 |[],b=>rfl
 |p::a,b=>by simp only[List.cons_append,bf,tN a b,List.append_assoc]
theorem A6{l:List bK}{i:Nat}{p:bK}(h:l[i]?=some p):bf (l.take (i+1))=bf (l.take i)++gM p:=by
 rw[List.take_add_one,h,tN];simp[bf]
theorem tY(a h:Int)(m:Nat):(dM a h m).length=m:=by simp[dM]
theorem xh(a h:Int)(m:Nat):dM a h (m+1)=dM a h m++[⟨0,a,h - m⟩]:=by simp[dM,List.range_succ]
def nO(B:List Θ)(a o:Nat):Bool:=B.any fun b=>decide (b.arg=(a:Int)∧b.num=(o:Int))
def oL(B:List Θ)(a:Nat):Nat:=B.countP fun b=>decide (b.arg=(a:Int))
def nT(B:List Θ):Prop:=B.Pairwise fun x y=>0≤x.arg→¬(x.arg=y.arg∧x.num=y.num)
def lU(S:List (List Bool))(B:List Θ)(n:Nat):Prop:=S.length=n∧∀a r,S[a]?=some r→r.length=64∧∀o v,r[o]?=some v→v=nO B a o
def pq(C:List Int)(B:List Θ)(n:Nat):Prop:=C.length=n∧∀a v,C[a]?=some v→v=(oL B a:Int)
theorem Ml(B:List Θ)(l:List UInt8)(a o:Nat):nO (B++l.map dw) a o=nO B a o:=by
 unfold nO
 rw[List.any_append]
 have:(l.map dw).any (fun b=>decide (b.arg=(a:Int)∧b.num=(o:Int)))=false:=by
  rw[List.any_eq_false]
  intro b hb
  obtain⟨x,_,rfl⟩:=List.mem_map.1 hb
  have:¬((-1:Int)=(a:Int)):=by omega
  simp[dw,this]
 rw[this,Bool.or_false]
theorem OC(B:List Θ)(l:List UInt8)(a:Nat):oL (B++l.map dw) a=oL B a:=by
 unfold oL
 rw[List.countP_append]
 have:(l.map dw).countP (fun b=>decide (b.arg=(a:Int)))=0:=by
  rw[List.countP_eq_zero]
  intro b hb
  obtain⟨x,_,rfl⟩:=List.mem_map.1 hb
  have:¬((-1:Int)=(a:Int)):=by omega
  simp[dw,this]
 omega
theorem nT.lit{B:List Θ}(h:nT B)(l:List UInt8):nT (B++l.map dw):=by
 refine List.pairwise_append.2 ⟨h,?_,fun x hx y hy h0=> ?_⟩
 ·refine List.Pairwise.imp_of_mem (R:=fun _ _=>True) (fun{x y} hx _ _ h0=> ?_) (List.pairwise_of_forall fun _ _=>trivial)
  obtain⟨z,_,rfl⟩:=List.mem_map.1 hx
  exact absurd h0 (by show¬(0:Int)≤ -1;omega)
 ·obtain⟨z,_,rfl⟩:=List.mem_map.1 hy
  intro e
  have:x.arg= -1:=e.1
  omega
theorem lU.lit{S:List (List Bool)}{B:List Θ}{n:Nat}(h:lU S B n)(l:List UInt8):lU S (B++l.map dw) n:=
 ⟨h.1,fun a r hr=>⟨(h.2 a r hr).1,fun o v hv=>by rw[Ml];exact(h.2 a r hr).2 o v hv⟩⟩
theorem pq.lit{C:List Int}{B:List Θ}{n:Nat}(h:pq C B n)(l:List UInt8):pq C (B++l.map dw) n:=
 ⟨h.1,fun a v hv=>by rw[OC];exact h.2 a v hv⟩
theorem EV(B:List Θ)(p:Θ)(a o:Nat):nO (B++[p]) a o=(nO B a o||decide (p.arg=(a:Int)∧p.num=(o:Int))):=by
 unfold nO;rw[List.any_append];simp
theorem Rj(B:List Θ)(p:Θ)(a:Nat):oL (B++[p]) a=oL B a+if p.arg=(a:Int)then 1 else 0:=by
 unfold oL;rw[List.countP_append];simp[List.countP_cons]
theorem lU.op{S:List (List Bool)}{B:List Θ}{n a o:Nat}{r:List Bool}(h:lU S B n)(hr:S[a]?=some r)(ho:o<64){p:Θ}(hp:p.arg=(a:Int)∧p.num=(o:Int)):
 lU (S.set a (r.set o true)) (B++[p]) n:=by
 obtain⟨h1,h2⟩:=h
 have BA:=h2 a r hr
 refine⟨by rw[List.length_set,h1],fun a' r' Gf=> ?_⟩
 rw[List.getElem?_set]at Gf
 split at Gf
 ·next e=>
  subst e
  split at Gf
  ·obtain rfl:=Option.some.inj Gf
   refine⟨by rw[List.length_set];exact BA.1,fun o' v hv=> ?_⟩
   rw[List.getElem?_set]at hv
   rw[EV]
   split at hv
   ·next e=>
    subst e
    split at hv
    ·obtain rfl:=Option.some.inj hv;simp[hp.1,hp.2]
    ·cases hv
   ·next e=>
    have:¬(o:Int)=(o':Int):=by omega
    rw[BA.2 o' v hv];simp[hp.2,this]
  ·cases Gf
 ·next e=>
  have:=h2 a' r' Gf
  refine⟨this.1,fun o' v hv=> ?_⟩
  have e2:¬(a:Int)=(a':Int):=by omega
  rw[EV,this.2 o' v hv];simp[hp.1,e2]
theorem pq.op{C:List Int}{B:List Θ}{n a:Nat}{v:Int}(h:pq C B n)(hv:C[a]?=some v){p:Θ}(hp:p.arg=(a:Int)):
 pq (C.set a (v+1)) (B++[p]) n:=by
 obtain⟨h1,h2⟩:=h
 refine⟨by rw[List.length_set,h1],fun a' w hw=> ?_⟩
 rw[List.getElem?_set]at hw
 rw[Rj]
 split at hw
 ·next e=>
  subst e
  split at hw
  ·obtain rfl:=Option.some.inj hw
   rw[if_pos hp,h2 _ _ hv];simp
  ·cases hw
 ·next e=>
  rw[if_neg (by rw[hp];omega),h2 _ _ hw];simp
theorem nT.op{B:List Θ}(h:nT B){p:Θ}{a o:Nat}(hp:p.arg=(a:Int)∧p.num=(o:Int))(hn:nO B a o=false):nT (B++[p]):=by
 refine List.pairwise_append.2 ⟨h,List.pairwise_singleton _ _,fun x hx y hy h0 e=> ?_⟩
 rw[List.mem_singleton.1 hy]at e
 unfold nO at hn
 have:=List.any_eq_false.1 hn x hx
 exact this (by simp[e.1,e.2,hp.1,hp.2])
theorem Uf{n:Nat}:lU (List.replicate n (List.replicate 64 false)) [] n:=
 ⟨List.length_replicate,fun a r hr=>by
  obtain rfl:=List.eq_of_mem_replicate (List.mem_of_getElem? hr)
  exact⟨List.length_replicate,fun o v hv=>List.eq_of_mem_replicate (List.mem_of_getElem? hv)⟩⟩
theorem Wv{n:Nat}:pq (List.replicate n (0:Int)) [] n:=
 ⟨List.length_replicate,fun a v hv=>by
  obtain rfl:=List.eq_of_mem_replicate (List.mem_of_getElem? hv)
  rfl⟩
structure bG(d:ο)(f:Ψ):Prop where
 args:f.args.length≤6
 uZ:∀a∈f.args,xd d a
 A8:∀p∈f.pieces,oO d f p
 ux:nT (bf f.pieces)
 VQ:∀i a k,f.args[i]?=some a→bQ d.classes a.aU=some k→(oL (bf f.pieces) i:Int)=k.bits
 m8:(bf f.pieces).length%8=0
 ge:8≤(bf f.pieces).length
 le:(bf f.pieces).length≤120
def zQ(d:ο)(f:Ψ)(r:AV):Prop:=(r= .own m7 3 true []∧¬bG d f)∨∃R:List Θ,r= .own m7 3 false (R.map bF)∧bG d f∧la d.order (bf f.pieces) R
theorem zQ.aJ{d:ο}{f:Ψ}:∀r,zQ d f r→aJ r=true:=by rintro r (⟨rfl,_⟩|⟨R,rfl,_⟩)<;>rfl
theorem at_mem{α:Type}{l:List α}{i:Int}{a:α}(h:bQ l i=some a):a∈l:=by
 unfold bQ at h
 split at h
 ·exact List.mem_of_getElem? h
 ·cases h
theorem mc{α:Type}{l:List α}{i:Int}{a:α}(h:bQ l i=some a):0≤i∧i<l.length:=by
 by_cases h0:0≤i∧i<l.length
 ·exact h0
 ·rw[g_ h0]at h;cases h
theorem M5{d:ο}{f:Ψ}(ha:∀a∈f.args,xd d a){p:bK}(h:oO d f p):(gM p).length≤oz p:=by
 unfold gM oz
 rcases h with⟨h,_⟩|⟨h,g,k,hg,hk,h1,h2,h3⟩
 ·rw[if_pos h,List.length_map];omega
 ·rw[if_neg h,tY]
  obtain⟨k2,et,cd⟩:=ha g (at_mem hg)
  obtain rfl:k=k2:=by rw[hk]at et;exact Option.some.inj et
  have:k.bits≤64:=by rcases cd with h|h|h<;>omega
  unfold sZ;omega
theorem C1{d:ο}{f:Ψ}(ha:∀a∈f.args,xd d a):∀{l:List bK},(∀p∈l,oO d f p)→(bf l).length≤fP l
 |[],_=>Nat.le_refl _
 |p::l,h=>by
  have h1:=M5 ha (h p List.mem_cons_self)
  have h2:=C1 ha (l:=l) fun q hq=>h q (List.mem_cons_of_mem _ hq)
  simp only[bf,fP,List.length_append];omega
theorem Ro{i:Int}{o:Nat}{r:List Bool}(hi:i=(o:Int))(h:o<r.length):(true&&Nat.ble ((0+i.toNat*1)+1) (r.map T.bool).length&&true)=true:=by
 rw[hi,Int.toNat_natCast,List.length_map]
 have:Nat.ble (0+o*1+1) r.length=true:=by rw[Nat.ble_eq];omega
 rw[this];rfl
theorem JM{α:Type}(l:List α)(o:Nat)(x:α):setAt l o [x]=l.set o x:=by rw[li,iO]
theorem MV{S:List (List Bool)}{r:List Bool}{ai o:Nat}{i z:Int}(hi:i=(ai:Int))(hz:z=(o:Int)):(S.map pZ).set (0+i.toNat) (setCells (pZ r) (0+z.toNat*1) [T.bool true])=(S.set ai (r.set o true)).map pZ:=by
 rw[hi,hz,Int.toNat_natCast,Int.toNat_natCast,Nat.zero_add,Nat.zero_add,Nat.mul_one,List.map_set]
 show _=(S.map pZ).set ai (T.agg ((r.set o true).map T.bool))
 rw[List.map_set]
 exact congrArg (fun x=>(S.map pZ).set ai (T.agg x)) (JM _ _ _)
theorem ov{C:List Int}{ai:Nat}{i v:Int}(hi:i=(ai:Int)):(C.map (T.int .i64)).set (0+i.toNat) (T.int .i64 v)=(C.set ai v).map (T.int .i64):=by
 rw[hi,Int.toNat_natCast,Nat.zero_add,List.map_set]
theorem Rk(B:List Θ)(a:Nat):oL B a≤B.length:=List.countP_le_length
theorem nT.fresh{L:List Θ}(h:nT L){B R:List Θ}{p:Θ}(e:L=(B++[p])++R){a o:Nat}(hp:p.arg=(a:Int)∧p.num=(o:Int)):nO B a o=false:=by
 rw[e]at h
 have h1:=(List.pairwise_append.1 (List.pairwise_append.1 h).1).2.2
 unfold nO
 rw[List.any_eq_false]
 intro b hb
 have:=h1 b hb p (List.mem_singleton.2 rfl)
 intro hc
 have hc:=of_decide_eq_true hc
 exact this (by omega) ⟨by omega,by omega⟩
theorem mA{d:ο}{f:Ψ}{b:Nat}{H:AH}(hb:H[b]?=some (.arr m7 3 true 0 (.ts [])))(hn:¬bG d f):∃r,zQ d f r∧qI r (.sl b 0 0 0) H:=⟨_,.inl ⟨rfl,hn⟩,[],hb,rfl,rfl,.refl _⟩
def zy(d:ο)(f:Ψ)(B:List Θ)(S:List (List Bool))(C:List Int):AH:=
 [.box (dn d),.box (iX f),.arr m7 3 true 0 (.ts (B.map bF)),.arr MP 64 false 0 (.ts (S.map pZ)),.arr tI 1 false 0 (.ts (C.map (T.int .i64)))]
def OS(d:ο)(f:Ψ)(i:Nat)(B:List Θ)(S:List (List Bool))(C:List Int):Prop:=
 i≤f.pieces.length∧(∀p∈f.pieces.take i,oO d f p)∧B=bf (f.pieces.take i)∧lU S B f.args.length∧pq C B f.args.length∧nT B
end Go.Proofs.YtcogcbplmkcojaaGreatDoor
