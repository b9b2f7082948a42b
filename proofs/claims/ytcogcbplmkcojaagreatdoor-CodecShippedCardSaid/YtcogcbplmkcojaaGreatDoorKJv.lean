/-
  Numbers of 128 bits: what a codec's values need of them (walks).
-/
import Derived.Test.YtcogcbplmkcojaaGreatDoorKIJ
namespace Go.Proofs.YtcogcbplmkcojaaGreatDoor
open Go.IntWalk
set_option maxRecDepth 100000
set_option linter.unusedVariables false
set_option linter.unusedSimpArgs false
theorem uw{ops:Array Oper}{s:St}{K:St→Prop}(σ:Ord)(h:dy ops (uc ops) σ [] []=true)(k:uJ tab (γ Tryz.prog) ops (fun _=>[]) σ s K):nW ops s K:=⟨_,σ,h,k⟩
def Kh:Ord:=(.op 0 [] (.op 1 [] (.op 2 [] (.op 3 [] (.op 4 [] (.op 5 [] (.op 6 [5,4] (.op 9 [6,5,4] (.op 7 [9,5,4] (.op 8 [9] (.op 10 [] (.op 11 [] (.op 12 [] .nil)))))))))))))
def Kg:Ord:=(.op 0 [] (.op 2 [0] (.op 3 [0] (.op 1 [3,2] (.op 4 [] (.op 5 [] (.op 6 [] (.op 7 [] .nil))))))))
def Kf:Ord:=(.op 0 [] (.op 1 [0] (.op 2 [0] (.op 3 [] (.op 4 [] .nil)))))
def wd(n:Nat):T:= .agg [.int .u64 ((n/18446744073709551616:Nat):Int),.int .u64 ((n%18446744073709551616:Nat):Int)]
def bt(w:Int)(n:Nat):T:= .agg [.int .i64 w,.int .u64 ((n/18446744073709551616:Nat):Int),.int .u64 ((n%18446744073709551616:Nat):Int)]
theorem qK{n:Nat}(h:n<18446744073709551616):IntKind.u64.wrap (n:Int)=n:=by rw[IntKind.wrap_u64];omega
theorem pG(w n:Nat):BitVec.ofInt w (n:Int)=BitVec.ofNat w n:=by
 apply BitVec.eq_of_toNat_eq
 rw[BitVec.toNat_ofInt,BitVec.toNat_ofNat]
 omega
theorem u64_and{a b:Nat}(ha:a<18446744073709551616)(hb:b<18446744073709551616):ed .and .u64 (a:Int) (b:Int)=((a&&& b:Nat):Int):=by
 have Ph:a&&& b≤a:=Nat.and_le_left
 show IntKind.u64.wrap ((BitVec.ofInt 64 (a:Int)&&& BitVec.ofInt 64 (b:Int)).toNat:Int)=_
 rw[pG,pG,BitVec.toNat_and,BitVec.toNat_ofNat,BitVec.toNat_ofNat,Nat.mod_eq_of_lt (by omega),Nat.mod_eq_of_lt (by omega)]
 exact qK (by omega)
theorem wu{k k':IntKind}{p p' q q':Int}(h1:p=p')(h2:q=q'):some (T.agg [.int k p,.int k' q])=some (T.agg [.int k p',.int k' q']):=by rw[h1,h2]
theorem OP(a b:Nat)(ha:a<2^128)(hb:b<2^128):φ Tryz.prog 196 [wd a,wd b] (.t (wd (a&&& b))):=by
 refine φ.Γ ?_ rfl
 refine γ.ξ iM jq Tryz.func196 rfl rfl ?_
 have e1:ed .and .u64 ((a/18446744073709551616:Nat):Int) ((b/18446744073709551616:Nat):Int)=(((a&&& b)/18446744073709551616:Nat):Int):=by
  rw[u64_and (by omega) (by omega)]
  exact congrArg _ (Nat.and_div_two_pow (n:=64)).symm
 have e2:ed .and .u64 ((a%18446744073709551616:Nat):Int) ((b%18446744073709551616:Nat):Int)=(((a&&& b)%18446744073709551616:Nat):Int):=by
  rw[u64_and (by omega) (by omega)]
  exact congrArg _ (Nat.and_mod_two_pow (n:=64)).symm
 exact And.intro (wu e1 e2) rfl
def gm(w:Int):Nat:=2^(min w.toNat 128) - 1
theorem P2{n:Nat}(h:n<64):IntKind.u64.wrap (IntKind.u64.wrap (1*2^(min n 64)) - 1)=((2^n - 1:Nat):Int):=by
 have h1:(2:Nat)^n≤2^63:=Nat.pow_le_pow_right (by omega) (by omega)
 have h2:0<(2:Nat)^n:=Nat.pow_pos (by omega)
 have h3:(2:Int)^n=((2^n:Nat):Int):=by simp
 rw[Nat.min_eq_left (by omega),Int.one_mul,h3]
 generalize 2^n=p at h1 h2⊢
 rw[qK (by omega),show(p:Int) - 1=((p - 1:Nat):Int) by omega,qK (by omega)]
theorem Bn(w:Int)(hw:0≤w)(K1:w≤9223372036854775807):φ Tryz.prog 194 [.int .i64 w] (.t (wd (gm w))):=by
 refine φ.Γ ?_ rfl
 refine γ.ξ iM jq Tryz.func194 rfl rfl ?_
 refine U (fun h=> ?_) (fun h=> ?_)
 ·have h:=of_decide_eq_true h
  have:gm w=340282366920938463463374607431768211455:=by rw[gm,Nat.min_eq_right (by omega)]
  rw[this]
  refine And.intro (wu ?_ ?_) rfl
  ·decide
  ·decide
 have h:=of_decide_eq_false h
 refine U (fun h2=> ?_) (fun h2=> ?_)
 ·have h2:=of_decide_eq_true h2
  obtain⟨n,rfl⟩:∃n:Nat,w=(n:Int)+64:=⟨(w - 64).toNat,by omega⟩
  have hs:IntKind.i64.wrap ((n:Int)+64 - 64)=n:=by rw[i64_in _ (by omega)];omega
  refine ε (by rw[hs];simp) ?_
  have e:gm ((n:Int)+64)=(2^n - 1)*18446744073709551616+18446744073709551615:=by
   rw[gm,show((n:Int)+64).toNat=n+64 by omega,Nat.min_eq_left (by omega),Nat.pow_add]
   have:=Nat.pow_pos (n:=n) (show 0<2 by omega)
   omega
  have e1:=P2 (n:=n) (by omega)
  rw[e]
  refine And.intro (wu ?_ ?_) rfl
  ·rw[hs]
   refine Eq.trans ?_ (e1.trans ?_)
   ·rfl
   ·generalize 2^n - 1=p;omega
  ·generalize 2^n - 1=p;omega
 ·have h2:=of_decide_eq_false h2
  obtain⟨n,rfl⟩:=Int.eq_ofNat_of_zero_le hw
  have e:gm (n:Int)=2^n - 1:=by rw[gm,Int.toNat_natCast,Nat.min_eq_left (by omega)]
  have h1:(2:Nat)^n≤2^63:=Nat.pow_le_pow_right (by omega) (by omega)
  have e1:=P2 (n:=n) (by omega)
  rw[e]
  refine And.intro (wu ?_ ?_) rfl
  ·rw[Nat.div_eq_of_lt (by omega)];rfl
  ·refine Eq.trans ?_ (e1.trans ?_)
   ·rfl
   ·generalize 2^n=p at h1⊢;omega
theorem Ds(w:Int):gm w<2^128:=by
 have:2^(min w.toNat 128)≤2^128:=Nat.pow_le_pow_right (by omega) (by omega)
 have:=Nat.pow_pos (n:=min w.toNat 128) (show 0<2 by omega)
 unfold gm;omega
theorem EX(w:Int)(a:Nat):a&&& gm w=a%2^(min w.toNat 128):=Nat.and_two_pow_sub_one_eq_mod _ _
theorem z6(w:Int)(hw:0≤w)(K1:w≤9223372036854775807)(a:Nat)(ha:a<2^128):φ Tryz.prog 187 [.int .i64 w,wd a] (.t (bt w (a&&& gm w))):=by
 refine φ.Γ ?_ rfl
 refine γ.ξ iM jq Tryz.func187 rfl rfl ?_
 refine uw Kf (by decide+kernel) ?_
 refine γ.pure (Bn w hw K1) rfl ?_
 repeat refine And.intro (fun j hj=>by first|(cases hj;done)|exact χ.append _ _ _|exact χ.refl _ _) ?_
 refine γ.jo (OP a (gm w) ha (Ds w)) rfl rfl ?_
 repeat refine And.intro (fun j hj=>by first|(cases hj;done)|exact χ.append _ _ _|exact χ.refl _ _) ?_
 exact And.intro rfl rfl
theorem yr(w:Int):φ Tryz.prog 186 [.int .i64 w] (.t (.bool (decide (1≤w∧w≤128)))):=by
 refine φ.Γ ?_ rfl
 refine γ.ξ iM jq Tryz.func186 rfl rfl ?_
 refine U (fun h=> ?_) (fun h=> ?_)
 ·have h:=of_decide_eq_true h
  refine And.intro ?_ rfl
  simp only[show(1≤w) by omega,true_and]
  rfl
 ·have h:=of_decide_eq_false h
  refine And.intro ?_ rfl
  simp only[show¬(1≤w) by omega,false_and,decide_false]
  rfl
def Ch(w:Int)(n:Nat):T:=if 1≤w∧w≤128 then bt w (n&&& gm w)else bt 0 0
theorem KE(w:Int)(n:Nat)(hn:n<2^128):φ Tryz.prog 176 [.int .i64 w,.int .u64 ((n/18446744073709551616:Nat):Int),.int .u64 ((n%18446744073709551616:Nat):Int)] (.t (Ch w n)):=by
 refine φ.Γ ?_ rfl
 refine γ.ξ iM jq Tryz.func176 rfl rfl ?_
 refine γ.pure (yr w) rfl ?_
 refine U (fun h=> ?_) (fun h=> ?_)
 ·have h:¬(1≤w∧w≤128):=by intro hh;simp[hh]at h
  rw[Ch,if_neg h]
  exact And.intro rfl rfl
 ·have h:1≤w∧w≤128:=by simpa using h
  rw[Ch,if_pos h]
  refine γ.jo (z6 w (by omega) (by omega) n hn) rfl rfl ?_
  exact And.intro rfl rfl
theorem wK(w:Int)(n:Nat):φ Tryz.prog 191 [bt w n] (.t (wd n)):=by
 refine φ.Γ ?_ rfl
 refine γ.ξ iM jq Tryz.func191 rfl rfl ?_
 exact And.intro rfl rfl
def ni(w:Int)(n:Nat):Prop:=(1≤w∧w≤128)∧n<2^w.toNat
instance(w:Int)(n:Nat):Decidable (ni w n):=by unfold ni;infer_instance
theorem Wq:Tryz.prog.stoodInHeld 253 =false∧Tryz.prog.eqGuardType Tryz.prog.depth 253 =false:=⟨by kernel_rfl,by kernel_rfl⟩
theorem xi(w:Int)(n:Nat)(hn:n<2^128):φ Tryz.prog 184 [bt w n] (.t (.bool (decide (ni w n)))):=by
 refine φ.Γ ?_ rfl
 refine γ.ξ iM jq Tryz.func184 rfl rfl ?_
 refine uw Kh (by decide+kernel) ?_
 refine γ.pure (yr w) rfl ?_
 repeat refine And.intro (fun j hj=>by first|(cases hj;done)|exact χ.append _ _ _|exact χ.refl _ _) ?_
 refine U (fun h=> ?_) (fun h=> ?_)
 ·have h:1≤w∧w≤128:=by simpa using h
  refine γ.jo (wK w n) rfl rfl ?_
  repeat refine And.intro (fun j hj=>by first|(cases hj;done)|exact χ.append _ _ _|exact χ.refl _ _) ?_
  refine γ.jo (z6 w (by omega) (by omega) n hn) rfl rfl ?_
  repeat refine And.intro (fun j hj=>by first|(cases hj;done)|exact χ.append _ _ _|exact χ.refl _ _) ?_
  refine And.intro Wq ?_
  refine And.intro (fun j hj=>by first|(cases hj;done)|exact χ.append _ _ _|exact χ.refl _ _) ?_
  refine And.intro (congrArg (fun b=>some (T.bool b)) ?_) rfl
  have hm:n&&& gm w=n%2^w.toNat:=by rw[EX,Nat.min_eq_left (by omega)]
  rw[hm]
  by_cases ω:n<2^w.toNat
  ·rw[Nat.mod_eq_of_lt ω,decide_eq_true (show ni w n from⟨h,ω⟩)]
   simp
  ·rw[decide_eq_false (fun hh:ni w n=>ω hh.2)]
   have au:n%2^w.toNat≠n:=fun e=>ω (by have:=Nat.mod_lt n (Nat.pow_pos (n:=w.toNat) (show 0<2 by omega));omega)
   generalize n%2^w.toNat=m at au
   rw[Bool.eq_false_iff]
   intro hb
   simp at hb
   omega
 ·have h:¬(1≤w∧w≤128):=by simpa using h
  have e:decide (ni w n)=false:=decide_eq_false fun hh=>h hh.1
  rw[e]
  repeat refine And.intro (fun j hj=>by first|(cases hj;done)|exact χ.append _ _ _|exact χ.refl _ _) ?_
  exact And.intro rfl rfl
theorem u64_or{a b:Nat}(ha:a<18446744073709551616)(hb:b<18446744073709551616):ed .or .u64 (a:Int) (b:Int)=((a|||b:Nat):Int):=by
 have Ph:a|||b<2^64:=Nat.or_lt_two_pow (by omega) (by omega)
 show IntKind.u64.wrap ((BitVec.ofInt 64 (a:Int)|||BitVec.ofInt 64 (b:Int)).toNat:Int)=_
 rw[pG,pG,BitVec.toNat_or,BitVec.toNat_ofNat,BitVec.toNat_ofNat,Nat.mod_eq_of_lt (by omega),Nat.mod_eq_of_lt (by omega)]
 exact qK (by omega)
theorem FK{a:Nat}(ha:a<18446744073709551616):ed .xor .u64 18446744073709551615 (a:Int)=((18446744073709551615 - a:Nat):Int):=by
 show IntKind.u64.wrap ((BitVec.ofInt 64 (18446744073709551615:Int)^^^BitVec.ofInt 64 (a:Int)).toNat:Int)=_
 rw[show BitVec.ofInt 64 (18446744073709551615:Int)=BitVec.allOnes 64 from by decide,pG,BitVec.allOnes_xor,BitVec.toNat_not,BitVec.toNat_ofNat,Nat.mod_eq_of_lt (by omega)]
 rw[qK (by omega)]
theorem QF(a b:Nat)(ha:a<2^128)(hb:b<2^128):φ Tryz.prog 193 [wd a,wd b] (.t (wd (a|||b))):=by
 refine φ.Γ ?_ rfl
 refine γ.ξ iM jq Tryz.func193 rfl rfl ?_
 have e1:ed .or .u64 ((a/18446744073709551616:Nat):Int) ((b/18446744073709551616:Nat):Int)=(((a|||b)/18446744073709551616:Nat):Int):=by
  rw[u64_or (by omega) (by omega)]
  exact congrArg _ (Nat.or_div_two_pow (n:=64)).symm
 have e2:ed .or .u64 ((a%18446744073709551616:Nat):Int) ((b%18446744073709551616:Nat):Int)=(((a|||b)%18446744073709551616:Nat):Int):=by
  rw[u64_or (by omega) (by omega)]
  exact congrArg _ (Nat.or_mod_two_pow (n:=64)).symm
 exact And.intro (wu e1 e2) rfl
theorem Nx(a:Nat)(ha:a<2^128):φ Tryz.prog 195 [wd a] (.t (wd (340282366920938463463374607431768211455 - a))):=by
 refine φ.Γ ?_ rfl
 refine γ.ξ iM jq Tryz.func195 rfl rfl ?_
 have e1:ed .xor .u64 18446744073709551615 ((a/18446744073709551616:Nat):Int)=(((340282366920938463463374607431768211455 - a)/18446744073709551616:Nat):Int):=by
  rw[FK (by omega)];omega
 have e2:ed .xor .u64 18446744073709551615 ((a%18446744073709551616:Nat):Int)=(((340282366920938463463374607431768211455 - a)%18446744073709551616:Nat):Int):=by
  rw[FK (by omega)];omega
 exact And.intro (wu e1 e2) rfl
theorem CA(n:Nat):IntKind.u64.wrap (n:Int)=((n%18446744073709551616:Nat):Int):=by rw[IntKind.wrap_u64];omega
theorem yx(x n i:Nat):(x*2^n).testBit i=(decide (n≤i)&&x.testBit (i - n)):=by
 rw[←Nat.shiftLeft_eq,Nat.testBit_shiftLeft]
theorem yy(x n i:Nat):(x/2^n).testBit i=x.testBit (n+i):=by
 rw[←Nat.shiftRight_eq_div_pow,Nat.testBit_shiftRight]
theorem LZ(a n:Nat)(h:n<64):((a%2^64)/2^n)|||((a/2^64)*2^(64 - n)%2^64)=(a/2^n)%2^64:=by
 refine Nat.eq_of_testBit_eq fun i=> ?_
 simp only[Nat.testBit_or,Nat.testBit_mod_two_pow,yx,yy]
 by_cases h1:i<64
 ·by_cases h2:n+i<64
  ·simp[h1,h2,show¬64 - n≤i by omega]
  ·simp[h1,h2,show 64 - n≤i by omega,show 64+(i - (64 - n))=n+i by omega]
 ·simp[h1,show¬n+i<64 by omega]
theorem L0(a n:Nat):(a/2^64)/2^n=(a/2^n)/2^64:=by
 rw[Nat.div_div_eq_div_mul,Nat.div_div_eq_div_mul,Nat.mul_comm]
theorem Iv(a n:Nat)(ha:a<2^128)(h:64≤n):(a/2^64)/2^(min (n - 64) 64)=(a/2^n)%2^64:=by
 refine Nat.eq_of_testBit_eq fun i=> ?_
 simp only[Nat.testBit_or,Nat.testBit_mod_two_pow,yx,yy]
 have qv:∀k,128≤k→a.testBit k=false:=fun k hk=>Nat.testBit_lt_two_pow (Nat.lt_of_lt_of_le ha (Nat.pow_le_pow_right (by omega) hk))
 by_cases h1:n - 64≤64
 ·rw[Nat.min_eq_left h1,show 64+(n - 64+i)=n+i by omega]
  by_cases h2:i<64
  ·simp[h2]
  ·simp[h2,qv (n+i) (by omega)]
 ·rw[Nat.min_eq_right (by omega),qv (64+(64+i)) (by omega),qv (n+i) (by omega)]
  simp
theorem Iw(a n:Nat)(ha:a<2^128)(h:64≤n):(a/2^n)/2^64=0:=by
 rw[Nat.div_div_eq_div_mul,←Nat.pow_add]
 exact Nat.div_eq_of_lt (Nat.lt_of_lt_of_le ha (Nat.pow_le_pow_right (by omega) (by omega)))
theorem Qt(x n:Nat):IntKind.u64.wrap ((x:Int)*2^(min (n:Int).toNat IntKind.u64.bits))=((x*2^(min n 64)%18446744073709551616:Nat):Int):=by
 rw[show IntKind.u64.bits=64 from rfl,Int.toNat_natCast,show((x:Int)*2^(min n 64))=((x*2^(min n 64):Nat):Int) by simp]
 exact CA _
theorem Ab(x n:Nat):(x:Int).fdiv (2^(min (n:Int).toNat IntKind.u64.bits))=((x/2^(min n 64):Nat):Int):=by
 rw[show IntKind.u64.bits=64 from rfl,Int.toNat_natCast,Int.fdiv_eq_ediv_of_nonneg _ (by exact Int.le_of_lt (Int.pow_pos (by omega)))]
 simp
theorem LY(a n:Nat)(ha:a<2^128)(hn:n<18446744073709551616):φ Tryz.prog 201 [wd a,.int .u64 (n:Int)] (.t (wd (a/2^n))):=by
 refine φ.Γ ?_ rfl
 refine γ.ξ iM jq Tryz.func201 rfl rfl ?_
 refine U (fun h=> ?_) (fun h=> ?_)
 ·have h:64≤n:=by have:=of_decide_eq_true h;omega
  have e:IntKind.u64.wrap ((n:Int) - 64)=((n - 64:Nat):Int):=by rw[IntKind.wrap_u64];omega
  refine ε (by rw[e];simp) ?_
  refine And.intro (wu ?_ ?_) rfl
  ·exact congrArg _ (Iw a n ha h).symm
  ·rw[e,Ab];exact congrArg _ (Iv a n ha h)
 ·have h:n<64:=by have:=of_decide_eq_false h;omega
  have e:IntKind.u64.wrap (64 - (n:Int))=((64 - n:Nat):Int):=by rw[IntKind.wrap_u64];omega
  refine ε (by rw[e];simp) ?_
  refine And.intro (wu ?_ ?_) rfl
  ·rw[Ab,Nat.min_eq_left (by omega)];exact congrArg _ (L0 a n)
  ·rw[e,Ab,Qt,Nat.min_eq_left (by omega),Nat.min_eq_left (by omega)]
   rw[u64_or (Nat.lt_of_le_of_lt (Nat.div_le_self _ _) (Nat.mod_lt _ (by omega))) (Nat.mod_lt _ (by omega))]
   exact congrArg _ (LZ a n h)
theorem Rq(x:Nat):x&&& 1=x%2:=Nat.and_two_pow_sub_one_eq_mod x 1
theorem RX{x y n:Nat}(hy:y<2^n):(x*2^n)|||y=x*2^n+y:=by
 rw[Nat.mul_comm x,Nat.two_pow_add_eq_or_of_lt hy]
def Ey(w:Int)(n:Nat)(hi lo:Int):T:=if ni w n∧0≤lo∧lo≤hi∧hi<w then bt (hi - lo+1) (n/2^lo.toNat&&& gm (hi - lo+1))else bt 0 0
theorem Eu(w:Int)(n:Nat)(hi lo:Int)(hn:n<2^128):φ Tryz.prog 192 [bt w n,.int .i64 hi,.int .i64 lo] (.t (Ey w n hi lo)):=by
 refine φ.Γ ?_ rfl
 refine γ.ξ iM jq Tryz.func192 rfl rfl ?_
 refine γ.jo (xi w n hn) rfl rfl ?_
 have bad:¬(ni w n∧0≤lo∧lo≤hi∧hi<w)→Ey w n hi lo=bt 0 0:=fun h=>by rw[Ey,if_neg h]
 refine U (fun h=> ?_) (fun h=> ?_)
 ·have h:¬ni w n:=by simpa using h
  rw[bad (fun hh=>h hh.1)]
  exact And.intro rfl rfl
 have h:ni w n:=by simpa using h
 refine U (fun h2=> ?_) (fun h2=> ?_)
 ·have h2:=of_decide_eq_true h2
  rw[bad (fun hh=>by omega)]
  exact And.intro rfl rfl
 have h2:=of_decide_eq_false h2
 refine U (fun h3=> ?_) (fun h3=> ?_)
 ·have h3:=of_decide_eq_true h3
  rw[bad (fun hh=>by omega)]
  exact And.intro rfl rfl
 have h3:=of_decide_eq_false h3
 refine U (fun h4=> ?_) (fun h4=> ?_)
 ·have h4:=of_decide_eq_true h4
  rw[bad (fun hh=>by omega)]
  exact And.intro rfl rfl
 have h4:=of_decide_eq_false h4
 have hw:=h.1
 have e1:IntKind.i64.wrap (IntKind.i64.wrap (hi - lo)+1)=hi - lo+1:=by rw[i64_in (hi - lo) (by omega),i64_in _ (by omega)]
 obtain⟨k,rfl⟩:=Int.eq_ofNat_of_zero_le (show 0≤lo by omega)
 have hk:k<128:=by omega
 have e2:IntKind.u64.wrap (k:Int)=(k:Int):=qK (by omega)
 rw[Ey,if_pos ⟨h,by omega,by omega,by omega⟩,Int.toNat_natCast]
 refine γ.jo (wK w n) rfl rfl ?_
 have hd:=LY n k hn (by omega)
 rw[←e2]at hd
 refine γ.jo hd rfl rfl ?_
 have ht:=z6 (hi - (k:Int)+1) (by omega) (by omega) (n/2^k) (Nat.lt_of_le_of_lt (Nat.div_le_self _ _) hn)
 rw[←e1]at ht⊢
 refine γ.jo ht rfl rfl ?_
 exact And.intro rfl rfl
def AO:Nat:=340282366920938463463374607431768211455
theorem GN(n:Nat):AO - n<2^128:=by unfold AO;omega
theorem Ul{a b:Nat}(ha:a<2^128)(hb:b<2^128):a|||b<2^128:=Nat.or_lt_two_pow ha hb
def yA(w:Int)(n:Nat):Nat:=if n/2^(w - 1).toNat%2=1 then n|||(AO - gm w)else n
theorem RN{w:Int}{n:Nat}(hn:n<2^128):yA w n<2^128:=by
 unfold yA;split
 ·exact Ul hn (GN _)
 ·exact hn
theorem Sh{w:Int}{n:Nat}(h:ni w n):n<2^128:=Nat.lt_of_lt_of_le h.2 (Nat.pow_le_pow_right (by omega) (by have:=h.1;omega))
theorem KD:gm 1=1:=rfl
theorem Fi(w:Int)(n:Nat)(h:ni w n):φ Tryz.prog 185 [bt w n] (.t (wd (yA w n))):=by
 have hn:=Sh h
 have hw:=h.1
 refine φ.Γ ?_ rfl
 refine γ.ξ iM jq Tryz.func185 rfl rfl ?_
 have he:=Eu w n (w - 1) (w - 1) hn
 have e1:IntKind.i64.wrap (w - 1)=w - 1:=i64_in _ (by omega)
 rw[Ey,if_pos ⟨h,by omega,by omega,by omega⟩,show w - 1 - (w - 1)+1=1 by omega,KD,Rq]at he
 rw[←e1]at he
 have BE:Flat (.t (bt 1 (n/2^(IntKind.i64.wrap (w - 1)).toNat%2))):=rfl
 refine γ.jo he rfl BE ?_
 refine U (fun h2=> ?_) (fun h2=> ?_)
 ·have h2:=eq_of_beq h2
  rw[e1]at h2
  have h2:n/2^(w - 1).toNat%2=1:=by omega
  rw[yA,if_pos h2]
  refine uw Kg (by decide+kernel) ?_
  refine γ.jo (wK w n) rfl rfl ?_
  repeat refine And.intro (fun j hj=>by first|(cases hj;done)|exact χ.append _ _ _|exact χ.refl _ _) ?_
  refine γ.jo (Bn w (by omega) (by omega)) rfl rfl ?_
  repeat refine And.intro (fun j hj=>by first|(cases hj;done)|exact χ.append _ _ _|exact χ.refl _ _) ?_
  refine γ.jo (Nx _ (Ds w)) rfl rfl ?_
  repeat refine And.intro (fun j hj=>by first|(cases hj;done)|exact χ.append _ _ _|exact χ.refl _ _) ?_
  refine γ.jo (QF n (AO - gm w) hn (GN _)) rfl rfl ?_
  repeat refine And.intro (fun j hj=>by first|(cases hj;done)|exact χ.append _ _ _|exact χ.refl _ _) ?_
  exact And.intro rfl rfl
 ·have h2:=ne_of_beq_false h2
  rw[e1]at h2
  have h2:¬n/2^(w - 1).toNat%2=1:=by omega
  rw[yA,if_neg h2]
  refine γ.jo (wK w n) rfl rfl ?_
  repeat refine And.intro (fun j hj=>by first|(cases hj;done)|exact χ.append _ _ _|exact χ.refl _ _) ?_
  exact And.intro rfl rfl
theorem FM{w:Int}{n:Nat}(h:ni w n):n/2^(w - 1).toNat%2=1↔2^(w - 1).toNat≤n:=by
 have hw:=h.1
 have e:(2:Nat)^w.toNat=2*2^(w - 1).toNat:=by
  rw[show w.toNat=(w - 1).toNat+1 by omega,Nat.pow_succ,Nat.mul_comm]
 have ω:=h.2
 rw[e]at ω
 have hp:0<2^(w - 1).toNat:=Nat.pow_pos (by omega)
 have hd:n/2^(w - 1).toNat<2:=by rw[Nat.div_lt_iff_lt_mul hp];exact ω
 constructor
 ·intro h1
  have h3:1≤n/2^(w - 1).toNat:=by
   generalize n/2^(w - 1).toNat=d at h1
   clear ω e hp hd
   omega
  rw[Nat.le_div_iff_mul_le hp]at h3
  omega
 ·intro h1
  have h3:1≤n/2^(w - 1).toNat:=by rw[Nat.le_div_iff_mul_le hp];omega
  generalize n/2^(w - 1).toNat=d at*
  clear ω e h1 hp
  omega
theorem NE{w:Int}(h:0≤w)(h2:w≤128):gm w=2^w.toNat - 1:=by rw[gm,Nat.min_eq_left (by omega)]
theorem RP{w:Int}{n:Nat}(h:ni w n):yA w n=if 2^(w - 1).toNat≤n then n+(2^128 - 2^w.toNat)else n:=by
 have hw:=h.1
 unfold yA
 by_cases hc:2^(w - 1).toNat≤n
 ·rw[if_pos hc,if_pos ((FM h).2 hc),NE (by omega) (by omega)]
  have e1:AO - (2^w.toNat - 1)=(2^(128 - w.toNat) - 1)*2^w.toNat:=by
   rw[Nat.sub_mul,←Nat.pow_add,show 128 - w.toNat+w.toNat=128 by omega]
   have:0<2^w.toNat:=Nat.pow_pos (by omega)
   have:2^w.toNat≤2^128:=Nat.pow_le_pow_right (by omega) (by omega)
   unfold AO;omega
  have e2:2^128 - 2^w.toNat=(2^(128 - w.toNat) - 1)*2^w.toNat:=by
   rw[Nat.sub_mul,←Nat.pow_add,show 128 - w.toNat+w.toNat=128 by omega,Nat.one_mul]
  rw[e1,e2,Nat.or_comm,RX h.2]
  omega
 ·rw[if_neg hc,if_neg (fun hh=>hc ((FM h).1 hh))]
def mn(w:Int)(n:Nat):Int:=if 2^(w - 1).toNat≤n then(n:Int) - 2^w.toNat else n
theorem M6{w:Int}(h:1≤w):(2:Nat)^w.toNat=2*2^(w - 1).toNat:=by
 rw[show w.toNat=(w - 1).toNat+1 by omega,Nat.pow_succ,Nat.mul_comm]
theorem MQ{w:Int}{n:Nat}(h:ni w n):(yA w n:Int)=mn w n%340282366920938463463374607431768211456∧ -170141183460469231731687303715884105728≤mn w n∧mn w n<170141183460469231731687303715884105728:=by
 have hw:=h.1
 have h1:=M6 hw.1
 have h2:(2:Nat)^w.toNat≤2^128:=Nat.pow_le_pow_right (by omega) (by omega)
 have ω:=h.2
 have e:((2:Int)^w.toNat)=((2^w.toNat:Nat):Int):=by simp
 rw[RP h,mn,e]
 generalize 2^w.toNat=p at*
 generalize 2^(w - 1).toNat=q at*
 split<;>refine⟨by omega,by omega,by omega⟩
def Aw(w:Int)(n:Nat):AV:=
 if ni w n∧ -9223372036854775808≤mn w n∧mn w n<9223372036854775808 then .aq [.t (.int .i64 (mn w n)),.t (.bool true)]else .aq [.t (.int .i64 0),.t (.bool false)]
theorem NS(w:Int)(n:Nat)(hn:n<2^128):φ Tryz.prog 175 [bt w n] (Aw w n):=by
 refine φ.Γ ?_ (by unfold Aw;split<;>rfl)
 refine γ.ξ iM jq Tryz.func175 rfl rfl ?_
 refine γ.jo (xi w n hn) rfl rfl ?_
 refine U (fun h=> ?_) (fun h=> ?_)
 ·have h:¬ni w n:=by simpa using h
  rw[Aw,if_neg (fun hh=>h hh.1)]
  exact And.intro ⟨rfl,rfl,trivial⟩ rfl
 have h:ni w n:=by simpa using h
 refine γ.jo (Fi w n h) rfl rfl ?_
 obtain⟨h1,h2,h3⟩:=MQ h
 have hs:=RN (w:=w) hn
 have e1:IntKind.i64.wrap ((yA w n%18446744073709551616:Nat):Int)=(mn w n+9223372036854775808)%18446744073709551616 - 9223372036854775808:=by
  rw[IntKind.wrap_i64];omega
 have e2:((mn w n+9223372036854775808)%18446744073709551616 - 9223372036854775808).fdiv (2^(min (63:Int).toNat IntKind.i64.bits))=if(mn w n+9223372036854775808)%18446744073709551616<9223372036854775808 then -1 else 0:=by
  show((mn w n+9223372036854775808)%18446744073709551616 - 9223372036854775808).fdiv 9223372036854775808=_
  rw[Int.fdiv_eq_ediv_of_nonneg _ (by decide)]
  split<;>omega
 refine U (fun h4=> ?_) (fun h4=> ?_)
 ·have h4:=eq_of_beq h4
  rw[e1,e2,IntKind.wrap_u64]at h4
  have: -9223372036854775808≤mn w n∧mn w n<9223372036854775808:=by
   split at h4<;>omega
  rw[Aw,if_pos ⟨h,this⟩]
  refine And.intro ⟨?_,rfl,trivial⟩ rfl
  exact congrArg (fun x=>some (T.int .i64 x)) (by rw[e1];omega)
 ·have h4:=ne_of_beq_false h4
  rw[e1,e2,IntKind.wrap_u64]at h4
  rw[Aw,if_neg (fun hh=>by obtain⟨_,k1,k2⟩:=hh;split at h4<;>omega)]
  exact And.intro ⟨rfl,rfl,trivial⟩ rfl
end Go.Proofs.YtcogcbplmkcojaaGreatDoor
