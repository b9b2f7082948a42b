/-
  The ground of the walks of this seat, part PE.
-/
import Derived.Test.YtcogcbplmkcojaaGreatDoorKPA
namespace Go.Proofs.YtcogcbplmkcojaaGreatDoor
open Go.IntWalk
set_option maxRecDepth 100000
set_option linter.unusedVariables false
set_option linter.unusedSimpArgs false
set_option maxHeartbeats 4000000
def Ke:Ord:=(.op 0 [] (.op 1 [0] (.op 2 [1] (.op 3 [] (.op 4 [] .nil)))))
def Kd:Ord:=(.op 0 [] (.op 1 [0] (.op 2 [1] (.op 3 [] (.op 4 [] .nil)))))
def HC:Ord:=(.op 0 [] (.op 1 [0] (.op 2 [1] (.op 3 [] (.op 4 [] .nil)))))
def HB:Ord:=(.op 0 [] (.op 1 [0] (.op 2 [1] (.op 3 [] (.op 4 [] .nil)))))
def HA:Ord:=(.op 0 [] (.op 1 [0] (.op 2 [1] (.op 3 [] (.op 4 [] .nil)))))
def Hz:Ord:=(.op 0 [] (.op 1 [0] (.op 2 [1] (.op 3 [] (.op 4 [] .nil)))))
def Hy:Ord:=(.op 0 [] (.op 1 [0] (.op 2 [1] (.op 3 [] (.op 4 [] .nil)))))
def yF:Ord:=(.op 0 [] (.op 1 [0] (.op 2 [1] (.op 3 [] (.op 4 [] .nil)))))
def Hx:Ord:=(.op 0 [] (.op 1 [0] (.op 2 [1] (.op 3 [] (.op 4 [] .nil)))))
def Hw:Ord:=(.op 0 [] (.op 2 [0] (.op 1 [2,0] (.op 3 [0] (.op 4 [0] (.op 5 [] (.op 6 [] .nil)))))))
def Ht:Ord:=(.op 0 [] (.op 1 [0] (.op 2 [1] (.op 3 [] (.op 4 [] .nil)))))
theorem lu:∀(w:List UInt8) (x:List Nat),ky w x=true→w=x.map UInt8.ofNat
 |[],[],_=>rfl
 |[],_::_,h=>by simp[ky]at h
 |_::_,[],h=>by simp[ky]at h
 |c::w,n::x,h=>by
  simp only[ky]at h
  cases hb:Nat.beq c.toNat n with
  |false=>rw[hb]at h;cases h
  |true=>
   rw[hb]at h
   have e:c.toNat=n:=Nat.eq_of_beq_eq_true hb
   rw[List.map_cons,←lu w x h,←e]
   simp
theorem a_:∀(L:List (List Nat)) (w:List UInt8) (n j:Nat),cY w n L=some j→∃i x,j=n+i∧L[i]?=some x∧w=x.map UInt8.ofNat
 |[],w,n,j,h=>by cases h
 |x::r,w,n,j,h=>by
  unfold cY at h
  cases hb:ky w x with
  |true=>rw[hb]at h;cases h;exact⟨0,x,rfl,rfl,lu w x hb⟩
  |false=>
   rw[hb]at h
   obtain⟨i,y,h1,h2,h3⟩:=a_ r w (n+1) j h
   exact⟨i+1,y,by omega,h2,h3⟩
theorem oG(w:List UInt8):∀(L:List (List UInt8)) (n:Nat),cY w n (L.map (·.map (·.toNat)))=jw w n L
 |[],_=>rfl
 |x::r,n=>by
  rw[List.map_cons]
  unfold cY jw
  rw[oG w r (n+1),zn]
  have:(w==x)=oU x w:=by
   cases h:oU x w with
   |true=>rw[(py x w).1 h];simp
   |false=>
    have:¬w=x:=fun e=>by rw[e,(py x x).2 rfl]at h;cases h
    simpa using this
  rw[this]
def vu:List (List UInt8):=Dg.map (·.map UInt8.ofNat)
def tm:List (List UInt8):=zb.map (·.map UInt8.ofNat)
theorem Dh:vu.map (·.map (·.toNat))=Dg:=by decide
theorem Eb:tm.map (·.map (·.toNat))=zb:=by decide
theorem tW:φ Tryz.prog 111 [] (.own 9 1 false (vu.map T.str)):=by
 refine φ.gy ?_ rfl
 refine γ.ξ ζ η Tryz.func111 rfl rfl ?_
 exact⟨vu.map T.str,rfl,rfl,rfl,.refl _⟩
theorem ul:φ Tryz.prog 112 [] (.own 9 1 false (tm.map T.str)):=by
 refine φ.gy ?_ rfl
 refine γ.ξ ζ η Tryz.func112 rfl rfl ?_
 exact⟨tm.map T.str,rfl,rfl,rfl,.refl _⟩
theorem pd{s s':PS}{k i:Nat}(h:bY s k=some (s',i)):aa s s':=by
 obtain⟨w,hw,_⟩:=pc h;exact aS hw
theorem iR{s s':PS}{n:Int}(h:cK s=some (s',n)):aa s s':=by
 obtain⟨r,_,rfl,_,_⟩:=sc h;exact⟨rfl,rfl⟩
theorem xg{s s':PS}(hs:cV s){n:Int}(h:r_ s=some (s',n)):aa s s'∧γ Tryz.prog 161 [eg s] (dH s.d) (fun v H=>v= .aq [eg s',.t (.int .i64 n)]∧H=dH s.d):=by
 unfold r_ at h
 split at h
 ·rename_i m r hr
  cases hb:Nat.ble m 1000000000000000000 with
  |false=>rw[hb]at h;cases h
  |true=>
   rw[hb]at h
   cases h
   have hn:cK s=some (⟨s.d,r,s.args⟩,.ofNat m):=by unfold cK;rw[hr];simp only[hb]
   have hN:=di hn
   have hb:=Nat.le_of_ble_eq_true hb
   obtain⟨d,rest,a⟩:=s
   obtain rfl:rest=_:=hr
   refine⟨⟨rfl,rfl⟩,?_⟩
   refine bM ?_
   refine γ.ξ ζ η Tryz.func161 rfl rfl ?_
   refine U (fun c=> ?_) (fun c=>absurd (fh.symm.trans c) (by decide))
   refine ι hN (by rfl) (by rfl) ?_
   refine δ (n:= -1 - (m:Int)) (show IntKind.i64.wrap (-1 - ((m:Nat):Int))=_ from by rw[IntKind.wrap_i64];omega) ?_
   refine ae ?_ ?_
   ·exact⟨rfl,trivial⟩
   ·exact⟨rfl,rfl,rfl,rfl,rfl,rfl,rfl,rfl,rfl,rfl,rfl,trivial⟩
 ·cases h
 ·rename_i Y9 SL
  split at h
  ·rename_i s1 i hk
   cases h
   refine⟨pd hk,?_⟩
   have hK:=er hs (k:=7) (by decide) hk
   obtain⟨w,hw,_⟩:=pc hk
   obtain⟨r,hr,rfl⟩:=jI hw
   obtain⟨d,rest,a⟩:=s
   obtain rfl:rest=_:=hr
   refine bM ?_
   refine γ.ξ ζ η Tryz.func161 rfl rfl ?_
   refine U (fun c=> ?_) (fun c=>absurd (fh.symm.trans c) (by decide))
   refine ι hK (by rfl) (by rfl) ?_
   refine ae ?_ ?_
   ·exact⟨rfl,trivial⟩
   ·exact⟨rfl,rfl,rfl,rfl,rfl,rfl,rfl,rfl,rfl,rfl,rfl,trivial⟩
  ·cases h
end Go.Proofs.YtcogcbplmkcojaaGreatDoor
namespace Go.Proofs.YtcogcbplmkcojaaGreatDoor
open Go.IntWalk
set_option maxRecDepth 100000
set_option linter.unusedVariables false
set_option linter.unusedSimpArgs false
set_option maxHeartbeats 4000000
theorem KR{s s':PS}{n:Int}(h:mC s=some (s',n)):aa s s':=by
 obtain⟨r,_,rfl⟩:=jD h;exact⟨rfl,rfl⟩
theorem Si{s s':PS}{n:Int}(h:mC s=some (s',n)):γ Tryz.prog 60 [eg s,.t (.int .i64 2)] (dH s.d) (fun v H=>v= .aq [eg s',.agg (tC 2 [] n [])]∧H=dH s.d):=by
 obtain⟨r,hr,rfl⟩:=jD h
 obtain⟨d,rest,a⟩:=s
 obtain rfl:rest=_:=hr
 exact dG d 2 [] n [] (Δ r) (a.map Λ) (.inr rfl)
def AP(s s':PS)(head:List UInt8)(op w a b:Int)(n:Nat):Prop:=γ Tryz.prog 183 [eg s,.t (.str head)] (dH s.d) (fun v H=>v= .aq [eg s',.agg (CF op w a b),.t (.int .i64 n)]∧H=dH s.d)
theorem JK{s s':PS}(hs:cV s){head:List UInt8}{op w a b:Int}{n:Nat}(h:Aa s head=some (s',(op,w,a,b),n)):aa s s'∧n≤3∧AP s s' head op w a b n:=by
 unfold AP
 unfold Aa at h
 split at h
 ·rename_i e
  obtain⟨i,x,q1,q2,q3⟩:=a_ _ _ _ _ e
  obtain rfl:i=0:=by omega
  cases q2
  subst q3
  cases h
  obtain⟨d,oW,g0⟩:=s
  refine⟨⟨rfl,rfl⟩,by decide,?_⟩
  refine bM ?_
  refine γ.ξ ζ η Tryz.func183 rfl rfl ?_
  refine aE (dB 12 [1]) Ke (by decide+kernel) ?_
  refine And.intro (fun j hj=>by rw[List.mem_singleton.1 hj];exact χ.set (b:=12) _ (List.mem_singleton.2 rfl)) ?_
  refine And.intro (fun j hj=>by cases hj) ?_
  refine And.intro (fun j hj=>by cases hj) ?_
  refine ae ?_ ?_
  ·exact⟨rfl,trivial⟩
  ·exact⟨rfl,rfl,rfl,rfl,rfl,rfl,rfl,rfl,rfl,rfl,rfl,trivial⟩
 ·rename_i e
  obtain⟨i,x,q1,q2,q3⟩:=a_ _ _ _ _ e
  obtain rfl:i=1:=by omega
  cases q2
  subst q3
  cases h
  obtain⟨d,oW,g0⟩:=s
  refine⟨⟨rfl,rfl⟩,by decide,?_⟩
  refine bM ?_
  refine γ.ξ ζ η Tryz.func183 rfl rfl ?_
  refine aE (dB 12 [1]) Kd (by decide+kernel) ?_
  refine And.intro (fun j hj=>by rw[List.mem_singleton.1 hj];exact χ.set (b:=12) _ (List.mem_singleton.2 rfl)) ?_
  refine And.intro (fun j hj=>by cases hj) ?_
  refine And.intro (fun j hj=>by cases hj) ?_
  refine ae ?_ ?_
  ·exact⟨rfl,trivial⟩
  ·exact⟨rfl,rfl,rfl,rfl,rfl,rfl,rfl,rfl,rfl,rfl,rfl,trivial⟩
 ·rename_i e
  obtain⟨i,x,q1,q2,q3⟩:=a_ _ _ _ _ e
  obtain rfl:i=2:=by omega
  cases q2
  subst q3
  split at h
  rotate_left 1
  ·cases h
  rename_i s1 v1 h1
  split at h
  rotate_left 1
  ·cases h
  rename_i s2 v2 h2
  cases h
  have e1:=iR h1
  have e2:=KR h2
  have f2:=e1.trans e2
  have f1:=e1
  have c1:=di h1
  have c2:=Si h2
  obtain⟨d,oW,g0⟩:=s
  obtain⟨d1,oV,g1⟩:=s1
  obtain rfl:d=d1:=f1.1.symm
  obtain⟨d2,yC,g2⟩:=s'
  obtain rfl:d=d2:=f2.1.symm
  refine⟨f2,by decide,?_⟩
  refine bM ?_
  refine γ.ξ ζ η Tryz.func183 rfl rfl ?_
  refine ι c1 (by rfl) (by rfl) ?_
  refine ι c2 (by rfl) (by rfl) ?_
  refine aE (dB 12 [1]) HC (by decide+kernel) ?_
  refine And.intro (fun j hj=>by rw[List.mem_singleton.1 hj];exact χ.set (b:=12) _ (List.mem_singleton.2 rfl)) ?_
  refine And.intro (fun j hj=>by cases hj) ?_
  refine And.intro (fun j hj=>by cases hj) ?_
  refine ae ?_ ?_
  ·exact⟨rfl,trivial⟩
  ·exact⟨rfl,rfl,rfl,rfl,rfl,rfl,rfl,rfl,rfl,rfl,rfl,trivial⟩
 ·rename_i e
  obtain⟨i,x,q1,q2,q3⟩:=a_ _ _ _ _ e
  obtain rfl:i=3:=by omega
  cases q2
  subst q3
  split at h
  rotate_left 1
  ·cases h
  rename_i s1 v1 h1
  split at h
  rotate_left 1
  ·cases h
  rename_i s2 v2 h2
  cases h
  have e1:=pd h1
  have e2:=iR h2
  have f2:=e1.trans e2
  have f1:=e1
  have c1:=er hs (k:=7) (by decide) h1
  have c2:=di h2
  obtain⟨d,oW,g0⟩:=s
  obtain⟨d1,oV,g1⟩:=s1
  obtain rfl:d=d1:=f1.1.symm
  obtain⟨d2,yC,g2⟩:=s'
  obtain rfl:d=d2:=f2.1.symm
  refine⟨f2,by decide,?_⟩
  refine bM ?_
  refine γ.ξ ζ η Tryz.func183 rfl rfl ?_
  refine ι c1 (by rfl) (by rfl) ?_
  refine ι c2 (by rfl) (by rfl) ?_
  refine aE (dB 12 [1]) HB (by decide+kernel) ?_
  refine And.intro (fun j hj=>by rw[List.mem_singleton.1 hj];exact χ.set (b:=12) _ (List.mem_singleton.2 rfl)) ?_
  refine And.intro (fun j hj=>by cases hj) ?_
  refine And.intro (fun j hj=>by cases hj) ?_
  refine ae ?_ ?_
  ·exact⟨rfl,trivial⟩
  ·exact⟨rfl,rfl,rfl,rfl,rfl,rfl,rfl,rfl,rfl,rfl,rfl,trivial⟩
 ·rename_i e
  obtain⟨i,x,q1,q2,q3⟩:=a_ _ _ _ _ e
  obtain rfl:i=4:=by omega
  cases q2
  subst q3
  split at h
  rotate_left 1
  ·cases h
  rename_i s1 v1 h1
  cases h
  have e1:=pd h1
  have f1:=e1
  have c1:=er hs (k:=3) (by decide) h1
  obtain⟨d,oW,g0⟩:=s
  obtain⟨d1,oV,g1⟩:=s'
  obtain rfl:d=d1:=f1.1.symm
  refine⟨f1,by decide,?_⟩
  refine bM ?_
  refine γ.ξ ζ η Tryz.func183 rfl rfl ?_
  refine ι c1 (by rfl) (by rfl) ?_
  refine aE (dB 12 [1]) HA (by decide+kernel) ?_
  refine And.intro (fun j hj=>by rw[List.mem_singleton.1 hj];exact χ.set (b:=12) _ (List.mem_singleton.2 rfl)) ?_
  refine And.intro (fun j hj=>by cases hj) ?_
  refine And.intro (fun j hj=>by cases hj) ?_
  refine ae ?_ ?_
  ·exact⟨rfl,trivial⟩
  ·exact⟨rfl,rfl,rfl,rfl,rfl,rfl,rfl,rfl,rfl,rfl,rfl,trivial⟩
 ·rename_i e
  obtain⟨i,x,q1,q2,q3⟩:=a_ _ _ _ _ e
  obtain rfl:i=5:=by omega
  cases q2
  subst q3
  split at h
  rotate_left 1
  ·cases h
  rename_i s1 v1 h1
  cases h
  have e1:=iR h1
  have f1:=e1
  have c1:=di h1
  obtain⟨d,oW,g0⟩:=s
  obtain⟨d1,oV,g1⟩:=s'
  obtain rfl:d=d1:=f1.1.symm
  refine⟨f1,by decide,?_⟩
  refine bM ?_
  refine γ.ξ ζ η Tryz.func183 rfl rfl ?_
  refine ι c1 (by rfl) (by rfl) ?_
  refine aE (dB 12 [1]) Hz (by decide+kernel) ?_
  refine And.intro (fun j hj=>by rw[List.mem_singleton.1 hj];exact χ.set (b:=12) _ (List.mem_singleton.2 rfl)) ?_
  refine And.intro (fun j hj=>by cases hj) ?_
  refine And.intro (fun j hj=>by cases hj) ?_
  refine ae ?_ ?_
  ·exact⟨rfl,trivial⟩
  ·exact⟨rfl,rfl,rfl,rfl,rfl,rfl,rfl,rfl,rfl,rfl,rfl,trivial⟩
 ·rename_i e
  obtain⟨i,x,q1,q2,q3⟩:=a_ _ _ _ _ e
  obtain rfl:i=6:=by omega
  cases q2
  subst q3
  cases h
  obtain⟨d,oW,g0⟩:=s
  refine⟨⟨rfl,rfl⟩,by decide,?_⟩
  refine bM ?_
  refine γ.ξ ζ η Tryz.func183 rfl rfl ?_
  refine aE (dB 12 [1]) Hy (by decide+kernel) ?_
  refine And.intro (fun j hj=>by rw[List.mem_singleton.1 hj];exact χ.set (b:=12) _ (List.mem_singleton.2 rfl)) ?_
  refine And.intro (fun j hj=>by cases hj) ?_
  refine And.intro (fun j hj=>by cases hj) ?_
  refine ae ?_ ?_
  ·exact⟨rfl,trivial⟩
  ·exact⟨rfl,rfl,rfl,rfl,rfl,rfl,rfl,rfl,rfl,rfl,rfl,trivial⟩
 ·rename_i e
  obtain⟨i,x,q1,q2,q3⟩:=a_ _ _ _ _ e
  obtain rfl:i=7:=by omega
  cases q2
  subst q3
  split at h
  rotate_left 1
  ·cases h
  rename_i s1 v1 h1
  cases h
  have e1:=iR h1
  have f1:=e1
  have c1:=di h1
  obtain⟨d,oW,g0⟩:=s
  obtain⟨d1,oV,g1⟩:=s'
  obtain rfl:d=d1:=f1.1.symm
  refine⟨f1,by decide,?_⟩
  refine bM ?_
  refine γ.ξ ζ η Tryz.func183 rfl rfl ?_
  refine ι c1 (by rfl) (by rfl) ?_
  refine aE (dB 12 [1]) yF (by decide+kernel) ?_
  refine And.intro (fun j hj=>by rw[List.mem_singleton.1 hj];exact χ.set (b:=12) _ (List.mem_singleton.2 rfl)) ?_
  refine And.intro (fun j hj=>by cases hj) ?_
  refine And.intro (fun j hj=>by cases hj) ?_
  refine ae ?_ ?_
  ·exact⟨rfl,trivial⟩
  ·exact⟨rfl,rfl,rfl,rfl,rfl,rfl,rfl,rfl,rfl,rfl,rfl,trivial⟩
 ·rename_i e
  obtain⟨i,x,q1,q2,q3⟩:=a_ _ _ _ _ e
  obtain rfl:i=8:=by omega
  cases q2
  subst q3
  split at h
  rotate_left 1
  ·cases h
  rename_i s1 v1 h1
  cases h
  have e1:=iR h1
  have f1:=e1
  have c1:=di h1
  obtain⟨d,oW,g0⟩:=s
  obtain⟨d1,oV,g1⟩:=s'
  obtain rfl:d=d1:=f1.1.symm
  refine⟨f1,by decide,?_⟩
  refine bM ?_
  refine γ.ξ ζ η Tryz.func183 rfl rfl ?_
  refine ι c1 (by rfl) (by rfl) ?_
  refine aE (dB 12 [1]) yF (by decide+kernel) ?_
  refine And.intro (fun j hj=>by rw[List.mem_singleton.1 hj];exact χ.set (b:=12) _ (List.mem_singleton.2 rfl)) ?_
  refine And.intro (fun j hj=>by cases hj) ?_
  refine And.intro (fun j hj=>by cases hj) ?_
  refine ae ?_ ?_
  ·exact⟨rfl,trivial⟩
  ·exact⟨rfl,rfl,rfl,rfl,rfl,rfl,rfl,rfl,rfl,rfl,rfl,trivial⟩
 ·rename_i e
  obtain⟨i,x,q1,q2,q3⟩:=a_ _ _ _ _ e
  obtain rfl:i=9:=by omega
  cases q2
  subst q3
  split at h
  rotate_left 1
  ·cases h
  rename_i s1 v1 h1
  split at h
  rotate_left 1
  ·cases h
  rename_i s2 v2 h2
  cases h
  have e1:=iR h1
  have e2:=iR h2
  have f2:=e1.trans e2
  have f1:=e1
  have c1:=di h1
  have c2:=di h2
  obtain⟨d,oW,g0⟩:=s
  obtain⟨d1,oV,g1⟩:=s1
  obtain rfl:d=d1:=f1.1.symm
  obtain⟨d2,yC,g2⟩:=s'
  obtain rfl:d=d2:=f2.1.symm
  refine⟨f2,by decide,?_⟩
  refine bM ?_
  refine γ.ξ ζ η Tryz.func183 rfl rfl ?_
  refine ι c1 (by rfl) (by rfl) ?_
  refine ι c2 (by rfl) (by rfl) ?_
  refine aE (dB 12 [1]) Hx (by decide+kernel) ?_
  refine And.intro (fun j hj=>by rw[List.mem_singleton.1 hj];exact χ.set (b:=12) _ (List.mem_singleton.2 rfl)) ?_
  refine And.intro (fun j hj=>by cases hj) ?_
  refine And.intro (fun j hj=>by cases hj) ?_
  refine ae ?_ ?_
  ·exact⟨rfl,trivial⟩
  ·exact⟨rfl,rfl,rfl,rfl,rfl,rfl,rfl,rfl,rfl,rfl,rfl,trivial⟩
 ·cases h
 ·rename_i e
  have kt:∀x:List UInt8,(head==x)=true→cY x 0 [[110,111,116],[110,101,103],[99],[105,109,109],[102,108,97,103],[108,100],[105,102],[115,120],[122,120],[101,120]]=none:=fun x c=>by rw[←show head=x by simpa using c];exact e
  split at h
  ·cases h
  rename_i e2
  split at h
  rotate_left 1
  ·cases h
  rename_i i hn
  split at h
  rotate_left 1
  ·cases h
  rename_i s1 v1 hr
  cases h
  have hX:=cT tm head (by decide)
  rw[show gB head tm= -1 by unfold gB;rw[←oG,Eb,e2]]at hX
  have c1:=vC s hs (k:=1) (by decide) hn
  obtain⟨f1,c2⟩:=xg hs hr
  obtain⟨d,oW,g0⟩:=s
  obtain⟨d1,oV,g1⟩:=s'
  obtain rfl:d=d1:=f1.1.symm
  refine⟨f1,by decide,?_⟩
  refine bM ?_
  refine γ.ξ ζ η Tryz.func183 rfl rfl ?_
  refine U (fun c=>absurd (kt _ c) (by decide)) (fun _=> ?_)
  refine U (fun c=>absurd (kt _ c) (by decide)) (fun _=> ?_)
  refine U (fun c=>absurd (kt _ c) (by decide)) (fun _=> ?_)
  refine U (fun c=>absurd (kt _ c) (by decide)) (fun _=> ?_)
  refine U (fun c=>absurd (kt _ c) (by decide)) (fun _=> ?_)
  refine U (fun c=>absurd (kt _ c) (by decide)) (fun _=> ?_)
  refine U (fun c=>absurd (kt _ c) (by decide)) (fun _=> ?_)
  refine U (fun c=>absurd (kt _ c) (by decide)) (fun _=> ?_)
  refine U (fun c=>absurd (kt _ c) (by decide)) (fun _=> ?_)
  refine U (fun c=>absurd (kt _ c) (by decide)) (fun _=> ?_)
  refine υ Hw (by decide+kernel) ?_
  refine γ.pure ul rfl ?_
  refine And.intro (fun j hj=>by first|(cases hj;done)|exact χ.append _ _ _|exact χ.refl _ _) ?_
  refine γ.cx hX rfl ⟨jK 1 _,.refl _,trivial⟩ rfl ?_
  refine And.intro (fun j hj=>χ.refl _ _) ?_
  refine ι (Φ d _ _ ?hb 41) (by rfl) (by rfl) ?_
  case hb=>rfl
  refine And.intro (fun j hj=>by cases hj) ?_
  refine And.intro (fun j hj=>by cases hj) ?_
  refine ι c1 (by rfl) (by rfl) ?_
  refine ι c2 (by rfl) (by rfl) ?_
  refine aE (dB 12 [1]) Ht (by decide+kernel) ?_
  refine And.intro (fun j hj=>by rw[List.mem_singleton.1 hj];exact χ.set (b:=12) _ (List.mem_singleton.2 rfl)) ?_
  refine And.intro (fun j hj=>by cases hj) ?_
  refine And.intro (fun j hj=>by cases hj) ?_
  refine ae ?_ ?_
  ·exact⟨rfl,trivial⟩
  ·exact⟨rfl,rfl,rfl,rfl,rfl,rfl,rfl,rfl,rfl,rfl,rfl,trivial⟩
end Go.Proofs.YtcogcbplmkcojaaGreatDoor
namespace Go.Proofs.YtcogcbplmkcojaaGreatDoor
open Go.IntWalk
set_option maxRecDepth 100000
set_option linter.unusedVariables false
set_option linter.unusedSimpArgs false
set_option maxHeartbeats 4000000
def P4(f:Nat):Prop:=∀s s' t,cV s→lh f s=some (s',t)→aa s s'∧∃op w a b ks,t=eh op w a b ks∧bN 162 s s' op w a b ks
theorem kI{f:Nat}(ih:P4 f){s s':PS}(hs:cV s){n:Nat}(hn:n≤3)(op w a b:Int){ks:List T}(h:eo (lh f) n s []=some (s',ks)):
 aa s s'∧γ Tryz.prog 163 [eg s,.agg (CF op w a b),.t (.int .i64 n)] (dH s.d) (fun v H=>v= .aq [eg s',.agg (AX op w a b ks)]∧H=dH s.d):=by
 have key:∀n,n≤3→eo (lh f) n s []=some (s',ks)→aa s s'∧γ Tryz.prog 163 [eg s,.agg (CF op w a b),.t (.int .i64 n)] (dH s.d) (fun v H=>v= .aq [eg s',.agg (AX op w a b ks)]∧H=dH s.d):=by
  intro n hn h
  match n with
  |0=>
   unfold eo at h
   split at h
   rotate_left 1
   ·cases h
   rename_i he
   cases h
   exact⟨⟨rfl,rfl⟩,Sf s op w a b he⟩
  |1=>
   unfold eo at h
   split at h
   rotate_left 1
   ·cases h
   rename_i t1 k1 h1
   obtain⟨e1,o1,w1,a1,b1,l1,rfl,c1⟩:=ih s t1 k1 hs h1
   have f1:=e1
   unfold eo at h
   split at h
   rotate_left 1
   ·cases h
   rename_i he
   cases h
   exact⟨f1,Se s op w a b c1 f1.1 he⟩
  |2=>
   unfold eo at h
   split at h
   rotate_left 1
   ·cases h
   rename_i t1 k1 h1
   obtain⟨e1,o1,w1,a1,b1,l1,rfl,c1⟩:=ih s t1 k1 hs h1
   have f1:=e1
   unfold eo at h
   split at h
   rotate_left 1
   ·cases h
   rename_i t2 k2 h2
   obtain⟨e2,o2,w2,a2,b2,l2,rfl,c2⟩:=ih t1 t2 k2 (hs.same f1) h2
   have f2:=f1.trans e2
   unfold eo at h
   split at h
   rotate_left 1
   ·cases h
   rename_i he
   cases h
   exact⟨f2,Sd s op w a b c1 f1.1 c2 f2.1 he⟩
  |3=>
   unfold eo at h
   split at h
   rotate_left 1
   ·cases h
   rename_i t1 k1 h1
   obtain⟨e1,o1,w1,a1,b1,l1,rfl,c1⟩:=ih s t1 k1 hs h1
   have f1:=e1
   unfold eo at h
   split at h
   rotate_left 1
   ·cases h
   rename_i t2 k2 h2
   obtain⟨e2,o2,w2,a2,b2,l2,rfl,c2⟩:=ih t1 t2 k2 (hs.same f1) h2
   have f2:=f1.trans e2
   unfold eo at h
   split at h
   rotate_left 1
   ·cases h
   rename_i t3 k3 h3
   obtain⟨e3,o3,w3,a3,b3,l3,rfl,c3⟩:=ih t2 t3 k3 (hs.same f2) h3
   have f3:=f2.trans e3
   unfold eo at h
   split at h
   rotate_left 1
   ·cases h
   rename_i he
   cases h
   exact⟨f3,Sc s op w a b c1 f1.1 c2 f2.1 c3 f3.1 he⟩
  |n+4=>omega
 exact key n hn h
theorem oo:∀f,P4 f:=by
 intro f
 induction f with
 |zero=>intro s s' t hs h;cases h
 |succ f ih=>
  intro s s' t hs h
  unfold lh at h
  split at h
  ·rename_i w r hr
   obtain⟨d,rest,g⟩:=s
   obtain rfl:rest=_:=hr
   split at h
   ·rename_i e
    cases h
    have e:=lu _ _ e
    subst e
    refine⟨⟨rfl,rfl⟩,23,0,0,0,[],rfl,?_⟩
    unfold bN
    refine bM ?_
    refine γ.ξ ζ η Tryz.func162 rfl rfl ?_
    refine ι (dG d 1 _ 0 [] (Δ r) (g.map Λ) (.inl rfl)) (by rfl) (by rfl) ?_
    refine aB.trans (pt (iH (lY (.sub _ _ (.af 5))))) (ae ?_ ?_)
    ·exact⟨rfl,trivial⟩
    ·exact⟨rfl,rfl,rfl,rfl,rfl,rfl,rfl,rfl,rfl,rfl,rfl,trivial⟩
   ·split at h
    ·rename_i e
     cases h
     have e:=lu _ _ e
     subst e
     refine⟨⟨rfl,rfl⟩,24,0,0,0,[],rfl,?_⟩
     unfold bN
     refine bM ?_
     refine γ.ξ ζ η Tryz.func162 rfl rfl ?_
     refine ι (dG d 1 _ 0 [] (Δ r) (g.map Λ) (.inl rfl)) (by rfl) (by rfl) ?_
     refine aB.trans (pt (iH (lY (.sub _ _ (.af 5))))) (ae ?_ ?_)
     ·exact⟨rfl,trivial⟩
     ·exact⟨rfl,rfl,rfl,rfl,rfl,rfl,rfl,rfl,rfl,rfl,rfl,trivial⟩
    ·cases h
  ·rename_i l r hr
   obtain⟨d,rest,g⟩:=s
   obtain rfl:rest=_:=hr
   split at h
   ·cases h
   rename_i s1 head hw
   have hW:=bH hw
   have f1:aa ⟨d,l,g⟩ s1:=aS hw
   have dC:cV s1:=hs.same f1
   split at h
   ·rename_i i hi
    split at h
    rotate_left 1
    ·cases h
    rename_i s2 ks hk
    cases h
    obtain⟨e2,hK⟩:=kI ih dC (by decide) ((i:Int)+1) 0 0 0 hk
    obtain⟨j,x,q1,q2,_⟩:=a_ _ _ _ _ hi
    have hlen:Dg.length=17:=by decide
    have hj:=(List.getElem?_eq_some_iff.1 q2).1
    have Zb:i<17:=by omega
    have hX:=cT vu head (by decide)
    rw[show gB head vu=(i:Int) by unfold gB;rw[←oG,Dh,hi]]at hX
    obtain⟨d1,r1,g1⟩:=s1
    obtain rfl:d=d1:=f1.1.symm
    obtain rfl:g=g1:=f1.2.symm
    obtain⟨d2,r2,g2⟩:=s2
    obtain rfl:d=d2:=e2.1.symm
    obtain rfl:g=g2:=e2.2.symm
    refine⟨⟨rfl,rfl⟩,_,_,_,_,_,rfl,?_⟩
    unfold bN
    refine bM ?_
    refine γ.ξ ζ η Tryz.func162 rfl rfl ?_
    refine ι (dG d 4 [] 0 (Δ l) (Δ r) (g.map Λ) (.inl rfl)) (by rfl) (by rfl) ?_
    refine ι (Φ d _ _ rfl 41) (by rfl) (by rfl) ?_
    refine ι hW (by rfl) (by rfl) ?_
    refine γ.pure tW rfl ?_
    refine γ.cx hX rfl ⟨jK 1 _,.refl _,trivial⟩ rfl ?_
    refine δ (n:=(i:Int)+1) (by rw[IntKind.wrap_i64];omega) ?_
    refine ι hK (by rfl) (by rfl) ?_
    refine aE (dB 12 [1]) yG (by decide+kernel) ?_
    refine And.intro (fun j hj=>by rw[List.mem_singleton.1 hj];exact χ.set (b:=12) _ (List.mem_singleton.2 rfl)) ?_
    refine And.intro (fun j hj=>by cases hj) ?_
    refine ae ?_ ?_
    ·exact⟨rfl,trivial⟩
    ·exact⟨rfl,rfl,rfl,rfl,rfl,rfl,rfl,rfl,rfl,rfl,rfl,trivial⟩
   ·rename_i hi
    split at h
    rotate_left 1
    ·cases h
    rename_i s2 op w a b n Xh
    split at h
    rotate_left 1
    ·cases h
    rename_i s3 ks hk
    cases h
    obtain⟨e2,Xr,hS⟩:=JK dC Xh
    obtain⟨e3,hK⟩:=kI ih (dC.same e2) Xr op w a b hk
    unfold AP at hS
    have hX:=cT vu head (by decide)
    rw[show gB head vu= -1 by unfold gB;rw[←oG,Dh,hi]]at hX
    obtain⟨d1,r1,g1⟩:=s1
    obtain rfl:d=d1:=f1.1.symm
    obtain rfl:g=g1:=f1.2.symm
    obtain⟨d2,r2,g2⟩:=s2
    obtain rfl:d=d2:=e2.1.symm
    obtain rfl:g=g2:=e2.2.symm
    obtain⟨d3,r3,g3⟩:=s3
    obtain rfl:d=d3:=e3.1.symm
    obtain rfl:g=g3:=e3.2.symm
    refine⟨⟨rfl,rfl⟩,_,_,_,_,_,rfl,?_⟩
    unfold bN
    refine bM ?_
    refine γ.ξ ζ η Tryz.func162 rfl rfl ?_
    refine ι (dG d 4 [] 0 (Δ l) (Δ r) (g.map Λ) (.inl rfl)) (by rfl) (by rfl) ?_
    refine ι (Φ d _ _ rfl 41) (by rfl) (by rfl) ?_
    refine ι hW (by rfl) (by rfl) ?_
    refine γ.pure tW rfl ?_
    refine γ.cx hX rfl ⟨jK 1 _,.refl _,trivial⟩ rfl ?_
    refine ι hS (by rfl) (by rfl) ?_
    refine ι hK (by rfl) (by rfl) ?_
    refine aE (dB 12 [1]) yG (by decide+kernel) ?_
    refine And.intro (fun j hj=>by rw[List.mem_singleton.1 hj];exact χ.set (b:=12) _ (List.mem_singleton.2 rfl)) ?_
    refine And.intro (fun j hj=>by cases hj) ?_
    refine ae ?_ ?_
    ·exact⟨rfl,trivial⟩
    ·exact⟨rfl,rfl,rfl,rfl,rfl,rfl,rfl,rfl,rfl,rfl,rfl,trivial⟩
  ·cases h
end Go.Proofs.YtcogcbplmkcojaaGreatDoor
namespace Go.Proofs.YtcogcbplmkcojaaGreatDoor
open Go.IntWalk
set_option maxRecDepth 100000
set_option linter.unusedVariables false
set_option linter.unusedSimpArgs false
set_option maxHeartbeats 4000000
def jQ:Ord:=(.op 0 [] (.op 1 [0] (.op 2 [1] (.op 3 [] .nil))))
def RW:Ord:=(.op 0 [] (.op 2 [0] (.op 1 [2] (.op 3 [2] (.op 4 [] .nil)))))
theorem oK{term:PS→Option (PS×T)}{r:List ay}{s s':PS}{op w a b:Int}{n:Nat}{t:T}(h:v8 term r (some (s,(op,w,a,b),n))=some (s',t)):∃s3 ks,eo term n s []=some (s3,ks)∧s'=⟨s3.d,r,s3.args⟩∧t=eh op w a b ks:=by
 unfold v8 at h
 simp only at h
 split at h
 ·rename_i s3 ks hk
  cases h
  exact⟨s3,ks,hk,rfl,rfl⟩
 ·cases h
def WC(f:Nat):Prop:=∀s s' t,cV s→lA f s=some (s',t)→aa s s'∧∃op w a b ks,t=eh op w a b ks∧bN 117 s s' op w a b ks
def dh:List AV:=[.t (.str []),.t (.int .i64 0),.t .af,.t .af,.t .af,.t .af,.t .af,.t .af,.t .af,.t .af,.t .af,.t .af,.t .af,.t .af,.t .af,.t (.int .i64 0)]
def Rt:List AV:=[.t (.int .i64 0),.t (.int .i64 0),.t (.int .i64 0),.t (.int .i64 0),.t .af]
theorem UJ{n:Nat}(h:n≤100000):cI n 56=true:=by simp[cI];omega
theorem BM:∀f,WC f:=by
 intro f
 induction f with
 |zero=>intro s s' t hs h;cases h
 |succ f ih=>
  intro s s' t hs h
  unfold lA at h
  split at h
  ·cases h
  rename_i s1 r hi
  split at h
  ·cases h
  rename_i s2 head hw
  have hI:=cD hi
  have hW:=bH hw
  obtain⟨l,hr,rfl⟩:=aN hi
  have f2:=aS hw
  obtain⟨d,rest,g⟩:=s
  obtain rfl:rest=_:=hr
  have dC:cV ⟨d,l,g⟩:=hs
  have fp:cV s2:=dC.same f2
  split at h
  ·rename_i e
   obtain⟨i,x,q1,q2,q3⟩:=a_ _ _ _ _ e
   obtain rfl:i=0:=by omega
   cases q2
   subst q3
   split at h
   ·cases h
   rename_i u1 inner vQ
   split at h
   ·cases h
   rename_i u2 to K1
   have PH:=cD vQ
   have Vu:=bH K1
   obtain⟨l2,BA,rfl⟩:=aN vQ
   have g2:=aS K1
   obtain⟨d2,r2,YC⟩:=s2
   obtain rfl:d=d2:=f2.1.symm
   obtain rfl:g=YC:=f2.2.symm
   obtain rfl:r2=_:=BA
   have NY:cV u2:=cV.same (s:=⟨d,l2,g⟩) hs g2
   split at h
   ·rename_i ef
    have ef:=lu _ _ ef
    subst ef
    split at h
    rotate_left 1
    ·cases h
    rename_i u3 a Lf
    split at h
    rotate_left 1
    ·cases h
    rename_i he
    have hE:=c_ he
    have X8:=er NY (k:=3) (by decide) Lf
    have g3:=pd Lf
    obtain⟨TW,WE,TC⟩:=u2
    obtain rfl:d=TW:=(g2).1.symm
    obtain rfl:g=TC:=(g2).2.symm
    obtain⟨TY,WG,TE⟩:=u3
    obtain rfl:d=TY:=(g3).1.symm
    obtain rfl:g=TE:=(g3).2.symm
    obtain⟨s3,ks,hk,rfl,rfl⟩:=oK h
    obtain⟨e3,hK⟩:=kI (oo f) (show cV ⟨d,inner,g⟩from hs) (n:=1) (by decide) 32 (0) ((a:Int)) (0) hk
    obtain⟨d3,r3,v5⟩:=s3
    obtain rfl:d=d3:=(e3).1.symm
    obtain rfl:g=v5:=(e3).2.symm
    refine⟨⟨rfl,rfl⟩,_,_,_,_,_,rfl,?_⟩
    unfold bN
    refine bM ?_
    refine γ.ξ ζ η Tryz.func117 rfl rfl ?_
    refine ι hI (by rfl) (by rfl) ?_
    refine ι hW (by rfl) (by rfl) ?_
    refine ι PH (by rfl) (by rfl) ?_
    refine ι Vu (by rfl) (by rfl) ?_
    refine ι X8 (by rfl) (by rfl) ?_
    refine ι hE (by rfl) (by rfl) ?_
    refine ι hK (by rfl) (by rfl) ?_
    refine aE (dB 12 [1]) jQ (by decide+kernel) ?_
    refine And.intro (fun j hj=>by rw[List.mem_singleton.1 hj];exact χ.set (b:=12) _ (List.mem_singleton.2 rfl)) ?_
    refine And.intro (fun j hj=>by cases hj) ?_
    refine ae ?_ ?_
    ·exact⟨rfl,trivial⟩
    ·exact⟨rfl,rfl,rfl,rfl,rfl,rfl,rfl,rfl,rfl,rfl,rfl,trivial⟩
   ·rename_i ef
    have Xp:∀x:List UInt8,(to==x)=true→ky x [102,108,97,103]=false:=fun x c=>by rw[←show to=x by simpa using c];exact ef
    split at h
    rotate_left 1
    ·cases h
    rename_i a hn
    split at h
    rotate_left 1
    ·cases h
    rename_i u3 b Xj
    split at h
    rotate_left 1
    ·cases h
    rename_i he
    have hE:=c_ he
    have hN:=vC u2 NY (k:=1) (by decide) hn
    obtain⟨g3,hR⟩:=xg NY Xj
    obtain⟨TW,WE,TC⟩:=u2
    obtain rfl:d=TW:=(g2).1.symm
    obtain rfl:g=TC:=(g2).2.symm
    obtain⟨TY,WG,TE⟩:=u3
    obtain rfl:d=TY:=(g3).1.symm
    obtain rfl:g=TE:=(g3).2.symm
    obtain⟨s3,ks,hk,rfl,rfl⟩:=oK h
    obtain⟨e3,hK⟩:=kI (oo f) (show cV ⟨d,inner,g⟩from hs) (n:=1) (by decide) 31 (0) ((a:Int)) (b) hk
    obtain⟨d3,r3,v5⟩:=s3
    obtain rfl:d=d3:=(e3).1.symm
    obtain rfl:g=v5:=(e3).2.symm
    refine⟨⟨rfl,rfl⟩,_,_,_,_,_,rfl,?_⟩
    unfold bN
    refine bM ?_
    refine γ.ξ ζ η Tryz.func117 rfl rfl ?_
    refine ι hI (by rfl) (by rfl) ?_
    refine ι hW (by rfl) (by rfl) ?_
    refine ι PH (by rfl) (by rfl) ?_
    refine ι Vu (by rfl) (by rfl) ?_
    refine U (fun c=>absurd (Xp _ c) (by decide)) (fun _=> ?_)
    refine ι hN (by rfl) (by rfl) ?_
    refine ι hR (by rfl) (by rfl) ?_
    refine ι hE (by rfl) (by rfl) ?_
    refine ι hK (by rfl) (by rfl) ?_
    refine aE (dB 12 [1]) jQ (by decide+kernel) ?_
    refine And.intro (fun j hj=>by rw[List.mem_singleton.1 hj];exact χ.set (b:=12) _ (List.mem_singleton.2 rfl)) ?_
    refine And.intro (fun j hj=>by cases hj) ?_
    refine ae ?_ ?_
    ·exact⟨rfl,trivial⟩
    ·exact⟨rfl,rfl,rfl,rfl,rfl,rfl,rfl,rfl,rfl,rfl,rfl,trivial⟩
  ·rename_i e
   obtain⟨i,x,q1,q2,q3⟩:=a_ _ _ _ _ e
   obtain rfl:i=1:=by omega
   cases q2
   subst q3
   split at h
   rotate_left 1
   ·cases h
   rename_i s4 v hn
   have hN:=di hn
   have g4:=iR hn
   obtain⟨d2,r2,g2⟩:=s2
   obtain rfl:d=d2:=(f2).1.symm
   obtain rfl:g=g2:=(f2).2.symm
   obtain⟨s3,ks,hk,rfl,rfl⟩:=oK h
   obtain⟨e3,hK⟩:=kI (oo f) (fp.same g4) (n:=2) (by decide) 33 (v) (0) (0) hk
   obtain⟨d4,r4,LG⟩:=s4
   obtain rfl:d=d4:=(g4).1.symm
   obtain rfl:g=LG:=(g4).2.symm
   obtain⟨d3,r3,v5⟩:=s3
   obtain rfl:d=d3:=(e3).1.symm
   obtain rfl:g=v5:=(e3).2.symm
   refine⟨⟨rfl,rfl⟩,_,_,_,_,_,rfl,?_⟩
   unfold bN
   refine bM ?_
   refine γ.ξ ζ η Tryz.func117 rfl rfl ?_
   refine ι hI (by rfl) (by rfl) ?_
   refine ι hW (by rfl) (by rfl) ?_
   refine ι hN (by rfl) (by rfl) ?_
   refine ι hK (by rfl) (by rfl) ?_
   refine aE (dB 12 [1]) jQ (by decide+kernel) ?_
   refine And.intro (fun j hj=>by rw[List.mem_singleton.1 hj];exact χ.set (b:=12) _ (List.mem_singleton.2 rfl)) ?_
   refine And.intro (fun j hj=>by cases hj) ?_
   refine ae ?_ ?_
   ·exact⟨rfl,trivial⟩
   ·exact⟨rfl,rfl,rfl,rfl,rfl,rfl,rfl,rfl,rfl,rfl,rfl,trivial⟩
  ·rename_i e
   obtain⟨i,x,q1,q2,q3⟩:=a_ _ _ _ _ e
   obtain rfl:i=2:=by omega
   cases q2
   subst q3
   obtain⟨d2,r2,g2⟩:=s2
   obtain rfl:d=d2:=(f2).1.symm
   obtain rfl:g=g2:=(f2).2.symm
   obtain⟨s3,ks,hk,rfl,rfl⟩:=oK h
   obtain⟨e3,hK⟩:=kI (oo f) fp (n:=1) (by decide) 34 (0) (0) (0) hk
   obtain⟨d3,r3,v5⟩:=s3
   obtain rfl:d=d3:=(e3).1.symm
   obtain rfl:g=v5:=(e3).2.symm
   refine⟨⟨rfl,rfl⟩,_,_,_,_,_,rfl,?_⟩
   unfold bN
   refine bM ?_
   refine γ.ξ ζ η Tryz.func117 rfl rfl ?_
   refine ι hI (by rfl) (by rfl) ?_
   refine ι hW (by rfl) (by rfl) ?_
   refine ι hK (by rfl) (by rfl) ?_
   refine aE (dB 12 [1]) jQ (by decide+kernel) ?_
   refine And.intro (fun j hj=>by rw[List.mem_singleton.1 hj];exact χ.set (b:=12) _ (List.mem_singleton.2 rfl)) ?_
   refine And.intro (fun j hj=>by cases hj) ?_
   refine ae ?_ ?_
   ·exact⟨rfl,trivial⟩
   ·exact⟨rfl,rfl,rfl,rfl,rfl,rfl,rfl,rfl,rfl,rfl,rfl,trivial⟩
  ·rename_i e
   obtain⟨i,x,q1,q2,q3⟩:=a_ _ _ _ _ e
   obtain rfl:i=3:=by omega
   cases q2
   subst q3
   split at h
   rotate_left 1
   ·cases h
   rename_i s4 v hn
   have hN:=di hn
   have g4:=iR hn
   obtain⟨d2,r2,g2⟩:=s2
   obtain rfl:d=d2:=(f2).1.symm
   obtain rfl:g=g2:=(f2).2.symm
   obtain⟨s3,ks,hk,rfl,rfl⟩:=oK h
   obtain⟨e3,hK⟩:=kI (oo f) (fp.same g4) (n:=0) (by decide) 35 (0) (v) (0) hk
   obtain⟨d4,r4,LG⟩:=s4
   obtain rfl:d=d4:=(g4).1.symm
   obtain rfl:g=LG:=(g4).2.symm
   obtain⟨d3,r3,v5⟩:=s3
   obtain rfl:d=d3:=(e3).1.symm
   obtain rfl:g=v5:=(e3).2.symm
   refine⟨⟨rfl,rfl⟩,_,_,_,_,_,rfl,?_⟩
   unfold bN
   refine bM ?_
   refine γ.ξ ζ η Tryz.func117 rfl rfl ?_
   refine ι hI (by rfl) (by rfl) ?_
   refine ι hW (by rfl) (by rfl) ?_
   refine ι hN (by rfl) (by rfl) ?_
   refine ι hK (by rfl) (by rfl) ?_
   refine aE (dB 12 [1]) jQ (by decide+kernel) ?_
   refine And.intro (fun j hj=>by rw[List.mem_singleton.1 hj];exact χ.set (b:=12) _ (List.mem_singleton.2 rfl)) ?_
   refine And.intro (fun j hj=>by cases hj) ?_
   refine ae ?_ ?_
   ·exact⟨rfl,trivial⟩
   ·exact⟨rfl,rfl,rfl,rfl,rfl,rfl,rfl,rfl,rfl,rfl,rfl,trivial⟩
  ·rename_i e
   obtain⟨i,x,q1,q2,q3⟩:=a_ _ _ _ _ e
   obtain rfl:i=4:=by omega
   cases q2
   subst q3
   obtain⟨d2,r2,g2⟩:=s2
   obtain rfl:d=d2:=(f2).1.symm
   obtain rfl:g=g2:=(f2).2.symm
   obtain⟨s3,ks,hk,rfl,rfl⟩:=oK h
   obtain⟨e3,hK⟩:=kI (oo f) fp (n:=0) (by decide) 36 (0) (0) (0) hk
   obtain⟨d3,r3,v5⟩:=s3
   obtain rfl:d=d3:=(e3).1.symm
   obtain rfl:g=v5:=(e3).2.symm
   refine⟨⟨rfl,rfl⟩,_,_,_,_,_,rfl,?_⟩
   unfold bN
   refine bM ?_
   refine γ.ξ ζ η Tryz.func117 rfl rfl ?_
   refine ι hI (by rfl) (by rfl) ?_
   refine ι hW (by rfl) (by rfl) ?_
   refine ι hK (by rfl) (by rfl) ?_
   refine aE (dB 12 [1]) jQ (by decide+kernel) ?_
   refine And.intro (fun j hj=>by rw[List.mem_singleton.1 hj];exact χ.set (b:=12) _ (List.mem_singleton.2 rfl)) ?_
   refine And.intro (fun j hj=>by cases hj) ?_
   refine ae ?_ ?_
   ·exact⟨rfl,trivial⟩
   ·exact⟨rfl,rfl,rfl,rfl,rfl,rfl,rfl,rfl,rfl,rfl,rfl,trivial⟩
  ·rename_i e
   obtain⟨i,x,q1,q2,q3⟩:=a_ _ _ _ _ e
   obtain rfl:i=5:=by omega
   cases q2
   subst q3
   split at h
   rotate_left 1
   ·cases h
   rename_i s4 k hk
   split at h
   rotate_left 1
   ·cases h
   rename_i s5 ks Vo
   cases h
   obtain⟨g4,o,w,a,b,l,rfl,hT⟩:=oo f s2 s4 k fp hk
   unfold bN at hT
   obtain⟨d2,r2,g2⟩:=s2
   obtain rfl:d=d2:=(f2).1.symm
   obtain rfl:g=g2:=(f2).2.symm
   obtain⟨d4,r4,LG⟩:=s4
   obtain rfl:d=d4:=(g4).1.symm
   obtain rfl:g=LG:=(g4).2.symm
   have Ig:∀(n:Nat) (R:List ay) (K:List T),sv (lA f) n ⟨d,R,g⟩ K=some (s5,ks)→aa ⟨d,R,g⟩ s5:=by
    intro n
    induction n with
    |zero=>intro R K h;cases h
    |succ n KU=>
     intro R K h
     unfold sv at h
     split at h
     ·cases h;exact⟨rfl,rfl⟩
     ·split at h
      ·rename_i s6 k6 h6
       obtain⟨e6,_⟩:=ih ⟨d,R,g⟩ s6 k6 hs h6
       obtain⟨d6,r6,g6⟩:=s6
       obtain rfl:d=d6:=e6.1.symm
       obtain rfl:g=g6:=e6.2.symm
       exact KU r6 _ h
      ·cases h
   have e5:=Ig _ _ _ Vo
   obtain⟨d5,r5,g5⟩:=s5
   obtain rfl:d=d5:=(e5).1.symm
   obtain rfl:g=g5:=(e5).2.symm
   refine⟨⟨rfl,rfl⟩,_,_,_,_,_,rfl,?_⟩
   unfold bN
   refine bM ?_
   refine γ.ξ ζ η Tryz.func117 rfl rfl ?_
   refine ι hI (by rfl) (by rfl) ?_
   refine ι hW (by rfl) (by rfl) ?_
   refine ι hT (by rfl) (by rfl) ?_
   refine ao (fun x:Nat×List ay×List T×Int×Int×Int×Int×List T=>sv (lA f) x.1 ⟨d,x.2.1,g⟩ x.2.2.1=some (⟨d,r5,g⟩,ks)∧x.2.2.1.length+x.1≤70) (fun x:Nat×List ay×List T×Int×Int×Int×Int×List T=>⟨[(1,.ptr 11 0 0 0),(2,.ptr 12 0 0 0),(3,.ptr 13 0 0 0),(4,.ptr 14 0 0 0),(5,.t (.θ 4 (Δ r))),(7,.t (.int .i64 0)),(11,.ptr 15 0 0 0),(12,.ptr 16 0 0 0)],dH d++[.box (eG d (Δ r2) (g.map Λ)),.box dh,.box Rt,.box [.t (.int .i64 37),.t (.int .i64 0),.t (.int .i64 0),.t (.int .i64 0),.sl 17 0 0 x.2.2.1.length],.box (eG d (Δ x.2.1) (g.map Λ)),.box (AX x.2.2.2.1 x.2.2.2.2.1 x.2.2.2.2.2.1 x.2.2.2.2.2.2.1 x.2.2.2.2.2.2.2),.arr 81 5 true 0 (.ts x.2.2.1)]⟩)
    (fun x=>x.1) (65,r4,[eh o w a b l],o,w,a,b,l) ⟨Vo,(by show 1+65≤70;decide)⟩ ?_ (fun⟨n,R,K,o1,w1,a1,b1,l1⟩ ⟨hx,hl⟩=> ?_)
   ·exact τ [0,1,2,3,4,5,6,7,8,9,10,11,12,13,14,15,16,18] rfl ⟨rfl,rfl,rfl,rfl,rfl,rfl,rfl,rfl,trivial⟩ ⟨rfl,rfl,rfl,rfl,rfl,rfl,rfl,rfl,rfl,rfl,rfl,rfl,rfl,rfl,rfl,rfl,rfl,rfl,trivial⟩
   have hx:sv (lA f) n ⟨d,R,g⟩ K=some (⟨d,r5,g⟩,ks):=hx
   have hl:K.length+n≤70:=hl
   cases n with
   |zero=>cases hx
   |succ n=>
    unfold sv at hx
    cases R with
    |nil=>
     cases hx
     have Wn:γ Tryz.prog 61 [eg ⟨d,[],g⟩] (dH d) (fun v H=>v=eg ⟨d,[],g⟩∧H=dH d):=c_ (s:=⟨d,[],g⟩) rfl
     refine γ.ξ ζ η Tryz.func163 rfl rfl ?_
     refine bh 1 ?_
     refine aE (dB 20 [2]) RW (by decide+kernel) ?_
     refine ι Wn (by rfl) (by rfl) ?_
     refine And.intro (fun j hj=>χ.refl _ _) ?_
     refine And.intro (fun j hj=>by rw[List.mem_singleton.1 hj];exact χ.set (b:=20) _ (List.mem_singleton.2 rfl)) ?_
     refine And.intro (fun j hj=>by cases hj) ?_
     refine aE (dB 12 [1]) jQ (by decide+kernel) ?_
     refine And.intro (fun j hj=>by rw[List.mem_singleton.1 hj];exact χ.set (b:=12) _ (List.mem_singleton.2 rfl)) ?_
     refine And.intro (fun j hj=>by cases hj) ?_
     refine aB.trans (kC 17 (iH (lY (.eU _ _ _ [17] 32 rfl (.of_eq (congrArg (T.θ 5) (by rw[List.drop_zero,List.take_length]))) (fun b hb=>hb))))) (ae ?_ ?_)
     ·exact⟨rfl,trivial⟩
     ·exact⟨rfl,rfl,rfl,rfl,rfl,rfl,rfl,rfl,rfl,rfl,rfl,trivial⟩
    |cons t0 R0=>
     have hx:(match lA f ⟨d,t0::R0,g⟩with|some (s,k)=>sv (lA f) n s (K++[k])|none=>none)=some (⟨d,r5,g⟩,ks):=hx
     split at hx
     rotate_left 1
     ·cases hx
     rename_i s6 k6 h6
     obtain⟨e6,o6,w6,a6,b6,l6,rfl,VF⟩:=ih ⟨d,t0::R0,g⟩ s6 k6 hs h6
     unfold bN at VF
     obtain⟨d6,r6,g6⟩:=s6
     obtain rfl:d=d6:=(e6).1.symm
     obtain rfl:g=g6:=(e6).2.symm
     refine U (fun c=> ?_) (fun c=>absurd (fh.symm.trans c) (by decide))
     refine ι VF (by rfl) (by rfl) ?_
     refine Or.inl (And.intro rfl (ε (UJ (n:=K.length+1) (by omega)) ?_))
     conv=>whnf
     have eN:K.length+1=(K++[eh o6 w6 a6 b6 l6]).length:=by simp
     exact⟨⟨(n,r6,K++[eh o6 w6 a6 b6 l6],o6,w6,a6,b6,l6),hx,by show(K++[eh o6 w6 a6 b6 l6]).length+n≤70;rw[←eN];omega⟩,τ [0,1,2,3,4,5,6,7,8,9,10,11,12,13,14,15,16,17] rfl ⟨rfl,rfl,rfl,rfl,rfl,rfl,rfl,rfl,trivial⟩ ⟨rfl,rfl,rfl,rfl,rfl,rfl,rfl,rfl,rfl,rfl,rfl,rfl,rfl,rfl,congrArg (fun m:Nat=>some (Ω.box [.t (.int .i64 37),.t (.int .i64 0),.t (.int .i64 0),.t (.int .i64 0),.sl 17 0 0 m])) eN,rfl,rfl,rfl,trivial⟩,Nat.lt_succ_self n⟩
  ·cases h
end Go.Proofs.YtcogcbplmkcojaaGreatDoor
namespace Go.Proofs.YtcogcbplmkcojaaGreatDoor
open Go.IntWalk
set_option maxRecDepth 100000
set_option linter.unusedVariables false
set_option linter.unusedSimpArgs false
set_option maxHeartbeats 2000000
theorem jv(a b:Nat):Nat.beq a b=decide (a=b):=by
 by_cases h:a=b
 ·subst h;rw[Nat.beq_refl];simp
 ·rw[decide_eq_false h]
  cases hb:Nat.beq a b
  ·rfl
  ·exact absurd (Nat.eq_of_beq_eq_true hb) h
theorem vz(a b:Nat):Nat.ble a b=decide (a≤b):=by
 by_cases h:a≤b
 ·rw[decide_eq_true h];rw[Nat.ble_eq];exact h
 ·rw[decide_eq_false h]
  cases hb:Nat.ble a b
  ·rfl
  ·exact absurd (Nat.le_of_ble_eq_true hb) h
theorem NA(a b:Nat):Nat.blt a b=decide (a<b):=vz (a+1) b
theorem xP(c:UInt8):fe c=true↔32<c.toNat∧c.toNat<127∧c.toNat≠40∧c.toNat≠41∧c.toNat≠34∧c.toNat≠59:=by
 unfold fe
 simp only[NA,jv,Bool.and_eq_true,decide_eq_true_eq,Bool.not_eq_true',decide_eq_false_iff_not]
 omega
theorem vm{c:UInt8}(h:¬(32<c.toNat∧c.toNat<127∧c.toNat≠40∧c.toNat≠41∧c.toNat≠34∧c.toNat≠59)):some (T.bool false)=some (T.bool (fe c)):=by
 cases hb:fe c
 ·rfl
 ·exact absurd ((xP c).1 hb) h
theorem xG{c:UInt8}{k:Nat}(h:(((c.toNat:Nat):Int)!=(k:Int))=true):c.toNat≠k:=by simp at h;omega
theorem u9{c:UInt8}{k:Nat}(h:(((c.toNat:Nat):Int)!=(k:Int))=false):c.toNat=k:=by simp at h;omega
theorem fq{c:UInt8}{k:Nat}(h:(((c.toNat:Nat):Int)==(k:Int))=true):c.toNat=k:=by simp at h;omega
theorem yu{c:UInt8}{k:Nat}(h:(((c.toNat:Nat):Int)==(k:Int))=false):c.toNat≠k:=by simp at h;omega
theorem wP(c:UInt8):φ Tryz.prog 108 [.int .u8 c.toNat] (.t (.bool (fe c))):=by
 refine φ.Γ ?_ rfl
 refine γ.ξ ζ η Tryz.func108 rfl rfl ?_
 refine U (fun c1=> ?_) (fun c1=> ?_)
 rotate_left 1
 ·exact And.intro (vm fun h=>by have:=of_decide_eq_false c1;omega) rfl
 have c1:=of_decide_eq_true c1
 refine U (fun c2=> ?_) (fun c2=> ?_)
 rotate_left 1
 ·exact And.intro (vm fun h=>by have:=of_decide_eq_false c2;omega) rfl
 have c2:=of_decide_eq_true c2
 refine U (fun c3=> ?_) (fun c3=> ?_)
 rotate_left 1
 ·exact And.intro (vm fun h=>by have:=u9 (k:=40) c3;omega) rfl
 have c3:=xG (k:=40) c3
 refine U (fun c4=> ?_) (fun c4=> ?_)
 rotate_left 1
 ·exact And.intro (vm fun h=>by have:=u9 (k:=41) c4;omega) rfl
 have c4:=xG (k:=41) c4
 refine U (fun c5=> ?_) (fun c5=> ?_)
 rotate_left 1
 ·exact And.intro (vm fun h=>by have:=u9 (k:=34) c5;omega) rfl
 have c5:=xG (k:=34) c5
 refine And.intro (congrArg (fun b=>some (T.bool b)) ?_) rfl
 show(((c.toNat:Nat):Int)!=59)=fe c
 by_cases h:c.toNat=59
 ·have e:fe c=false:=by
   cases hb:fe c
   ·rfl
   ·exact absurd h ((xP c).1 hb).2.2.2.2.2
  rw[e,h];rfl
 ·rw[(xP c).2 ⟨by omega,by omega,c3,c4,c5,h⟩]
  simp;omega
theorem rK:∀(r:List UInt8) (a m:Nat),iA a r=some m→a≤m∧m<(a+1)*10^r.length∧∀c∈r,48≤c.toNat∧c.toNat≤57
 |[],a,m,h=>by cases h;exact⟨Nat.le_refl _,by simp,by simp⟩
 |c::r,a,m,h=>by
  unfold iA at h
  cases hd:wc c with
  |false=>rw[hd]at h;cases h
  |true=>
   rw[hd]at h
   obtain⟨h1,h2,h3⟩:=rK r _ _ h
   have hc:48≤c.toNat∧c.toNat≤57:=by
    unfold wc at hd
    simp only[vz,Bool.and_eq_true,decide_eq_true_eq]at hd
    exact hd
   refine⟨by omega,?_,fun x hx=> ?_⟩
   ·have:(a*10+(c.toNat - 48)+1)*10^r.length≤((a+1)*10)*10^r.length:=Nat.mul_le_mul_right _ (by omega)
    rw[List.length_cons,Nat.pow_succ,Nat.mul_comm (10^r.length) 10,←Nat.mul_assoc]
    omega
   ·rcases List.mem_cons.1 hx with rfl|hx
    ·exact hc
    ·exact h3 x hx
theorem Kx{s:List UInt8}{n:Int}(h:xU s=some n):∃(c:UInt8) (d:List UInt8) (m:Nat),iA 0 (c::d)=some m∧d.length≤17∧
 ((s=c::d∧n=m∧c.toNat≠45∧¬(c.toNat=48∧0<d.length))∨(∃z:UInt8,z.toNat=45∧s=z::c::d∧n= -(m:Int)∧c.toNat≠48)):=by
 unfold xU at h
 split at h
 ·cases h
 rename_i c r
 split at h
 ·rename_i e
  split at h
  ·cases h
  rename_i z r2
  split at h
  ·cases h
  rename_i e2
  split at h
  ·rename_i m hm
   cases h
   simp only[jv,vz,Bool.or_eq_false_iff,decide_eq_true_eq,decide_eq_false_iff_not,Bool.not_eq_false',List.length_cons]at e e2
   exact⟨z,r2,m,hm,by omega,.inr ⟨c,e,rfl,rfl,by omega⟩⟩
  ·cases h
 ·rename_i e
  split at h
  ·cases h
  rename_i e2
  split at h
  ·rename_i m hm
   cases h
   simp only[jv,vz,NA,Bool.or_eq_false_iff,Bool.and_eq_false_iff,decide_eq_true_eq,decide_eq_false_iff_not,Bool.not_eq_false',List.length_cons]at e e2
   exact⟨c,r,m,hm,by omega,.inl ⟨rfl,rfl,e,by omega⟩⟩
  ·cases h
theorem AF{c:UInt8}(h:48≤c.toNat∧c.toNat≤57):wc c=true:=by unfold wc;simp[vz,h]
theorem Uk{r:List UInt8}(h:r.length≤18):10^r.length≤1000000000000000000:=Nat.pow_le_pow_right (n:=10) (by decide) h
theorem sF{s:List UInt8}{n:Int}(h:xU s=some n):φ Tryz.prog 109 [.str s] (.aq [.t (.int .i64 n),.t (.bool true)]):=by
 obtain⟨c0,d0,m,hm,hl,hs⟩:=Kx h
 obtain⟨d,hd⟩:∃d,d=c0::d0:=⟨_,rfl⟩
 have ZG:d.length=d0.length+1:=by rw[hd];rfl
 rw[←hd]at hm
 obtain⟨_,ω,Ih⟩:=rK d 0 m hm
 have hp:=Uk (r:=d) (by omega)
 have Y_:m<1000000000000000000:=by omega
 have Z_:=Ih c0 (by rw[hd];exact List.mem_cons_self)
 rcases hs with⟨rfl,rfl,au,hz⟩|⟨z,hz,rfl,rfl,au⟩
 ·rw[←hd]
  have kL:decide (((d.length:Nat):Int)>0)=true:=decide_eq_true (by omega)
  have vT:d[0]?=some c0:=by rw[hd];rfl
  refine φ.Γ ?_ rfl
  refine γ.ξ ζ η Tryz.func109 rfl rfl ?_
  refine U (fun c=> ?_) (fun c=>absurd (kL.symm.trans c) (by decide))
  refine ν vT ?_
  refine U (fun c=>absurd (fq (k:=45) c) au) (fun _=> ?_)
  refine U (fun c=>absurd (of_decide_eq_true c) (by omega)) (fun _=> ?_)
  refine U (fun c=>absurd (of_decide_eq_true c) (by omega)) (fun _=> ?_)
  refine ν vT ?_
  refine U (fun c8=> ?_) (fun c8=> ?_)
  ·refine U (fun c=>absurd (of_decide_eq_true c) (by have:=fq (k:=48) c8;omega)) (fun _=> ?_)
   refine ao (fun x:Nat×Nat=>x.1≤d.length∧iA x.2 (d.drop x.1)=some m) (fun x=>⟨[(0,.t (.str d)),(4,.t (.str d)),(5,.t (.int .i64 x.2)),(6,.t (.int .i64 x.1))],[]⟩) (fun x=>d.length - x.1) (0,0) ⟨Nat.zero_le _,by simpa using hm⟩ ?_ (fun⟨i,acc⟩ ⟨hi,hx⟩=> ?_)
   ·exact aM ⟨rfl,congrArg (fun l=>AV.t (.str l)) rfl,rfl,rfl,trivial⟩ rfl
   have hi:i≤d.length:=hi
   have hx:iA acc (d.drop i)=some m:=hx
   refine U (fun c=> ?_) (fun c=> ?_)
   ·have c:i<d.length:=de c
    obtain⟨x,mQ,dk⟩:=get_some (R:=d) (i:=i) c
    have DN:=Ih x dk
    have e:d.drop i=x::d.drop (i+1):=by rw[List.drop_eq_getElem_cons c];congr 1;rw[List.getElem?_eq_getElem c]at mQ;exact Option.some.inj mQ
    rw[e]at hx
    unfold iA at hx
    rw[AF DN]at hx
    have hx:iA (acc*10+(x.toNat - 48)) (d.drop (i+1))=some m:=hx
    have hle:=(rK _ _ _ hx).1
    have fw:d[((i:Nat):Int).toNat]?=some x:=by rw[Int.toNat_natCast];exact mQ
    refine ν fw ?_
    refine U (fun c=>absurd (of_decide_eq_true c) (by omega)) (fun _=> ?_)
    refine ν fw ?_
    refine U (fun c=>absurd (of_decide_eq_true c) (by omega)) (fun _=> ?_)
    refine δ (n:=((acc*10:Nat):Int)) (show IntKind.i64.wrap (((acc:Nat):Int)*10)=_ from by rw[IntKind.wrap_i64];omega) ?_
    refine ν fw ?_
    refine δ (n:=((x.toNat - 48:Nat):Int)) (show IntKind.u8.wrap (((x.toNat:Nat):Int) - 48)=_ from by rw[IntKind.wrap_u8];omega) ?_
    refine δ (n:=((x.toNat - 48:Nat):Int)) (aj (by omega)) ?_
    refine δ (n:=((acc*10+(x.toNat - 48):Nat):Int)) (show IntKind.i64.wrap (((acc*10:Nat):Int)+((x.toNat - 48:Nat):Int))=_ from by rw[IntKind.wrap_i64];omega) ?_
    refine δ (n:=((i+1:Nat):Int)) (aj (n:=i+1) (by omega)) ?_
    conv=>whnf
    exact⟨⟨(i+1,acc*10+(x.toNat - 48)),c,hx⟩,aM ⟨rfl,rfl,rfl,rfl,trivial⟩ rfl,by show d.length - (i+1)<d.length - i;omega⟩
   ·have c:i=d.length:=by have:=dm c;omega
    rw[c,List.drop_length]at hx
    cases hx
    refine U (fun c=>absurd (of_decide_eq_true c) (by omega)) (fun _=> ?_)
    exact And.intro ⟨rfl,rfl,trivial⟩ rfl
  ·skip
   refine ao (fun x:Nat×Nat=>x.1≤d.length∧iA x.2 (d.drop x.1)=some m) (fun x=>⟨[(0,.t (.str d)),(4,.t (.str d)),(5,.t (.int .i64 x.2)),(6,.t (.int .i64 x.1))],[]⟩) (fun x=>d.length - x.1) (0,0) ⟨Nat.zero_le _,by simpa using hm⟩ ?_ (fun⟨i,acc⟩ ⟨hi,hx⟩=> ?_)
   ·exact aM ⟨rfl,congrArg (fun l=>AV.t (.str l)) rfl,rfl,rfl,trivial⟩ rfl
   have hi:i≤d.length:=hi
   have hx:iA acc (d.drop i)=some m:=hx
   refine U (fun c=> ?_) (fun c=> ?_)
   ·have c:i<d.length:=de c
    obtain⟨x,mQ,dk⟩:=get_some (R:=d) (i:=i) c
    have DN:=Ih x dk
    have e:d.drop i=x::d.drop (i+1):=by rw[List.drop_eq_getElem_cons c];congr 1;rw[List.getElem?_eq_getElem c]at mQ;exact Option.some.inj mQ
    rw[e]at hx
    unfold iA at hx
    rw[AF DN]at hx
    have hx:iA (acc*10+(x.toNat - 48)) (d.drop (i+1))=some m:=hx
    have hle:=(rK _ _ _ hx).1
    have fw:d[((i:Nat):Int).toNat]?=some x:=by rw[Int.toNat_natCast];exact mQ
    refine ν fw ?_
    refine U (fun c=>absurd (of_decide_eq_true c) (by omega)) (fun _=> ?_)
    refine ν fw ?_
    refine U (fun c=>absurd (of_decide_eq_true c) (by omega)) (fun _=> ?_)
    refine δ (n:=((acc*10:Nat):Int)) (show IntKind.i64.wrap (((acc:Nat):Int)*10)=_ from by rw[IntKind.wrap_i64];omega) ?_
    refine ν fw ?_
    refine δ (n:=((x.toNat - 48:Nat):Int)) (show IntKind.u8.wrap (((x.toNat:Nat):Int) - 48)=_ from by rw[IntKind.wrap_u8];omega) ?_
    refine δ (n:=((x.toNat - 48:Nat):Int)) (aj (by omega)) ?_
    refine δ (n:=((acc*10+(x.toNat - 48):Nat):Int)) (show IntKind.i64.wrap (((acc*10:Nat):Int)+((x.toNat - 48:Nat):Int))=_ from by rw[IntKind.wrap_i64];omega) ?_
    refine δ (n:=((i+1:Nat):Int)) (aj (n:=i+1) (by omega)) ?_
    conv=>whnf
    exact⟨⟨(i+1,acc*10+(x.toNat - 48)),c,hx⟩,aM ⟨rfl,rfl,rfl,rfl,trivial⟩ rfl,by show d.length - (i+1)<d.length - i;omega⟩
   ·have c:i=d.length:=by have:=dm c;omega
    rw[c,List.drop_length]at hx
    cases hx
    refine U (fun c=>absurd (of_decide_eq_true c) (by omega)) (fun _=> ?_)
    exact And.intro ⟨rfl,rfl,trivial⟩ rfl
 ·rw[←hd]
  have hD:((z::d).drop 1).take ((z::d).length - 1)=d:=j7 z d
  have vT:(((z::d).drop 1).take ((z::d).length - 1))[0]?=some c0:=by rw[hD,hd];rfl
  have uQ:(((z::d).drop 1).take ((z::d).length - 1)).length=d.length:=by rw[hD]
  refine φ.Γ ?_ rfl
  refine γ.ξ ζ η Tryz.func109 rfl rfl ?_
  refine U (fun c=> ?_) (fun c=>absurd (fh.symm.trans c) (by decide))
  refine U (fun _=> ?_) (fun c=>absurd hz (yu (k:=45) c))
  refine ε (fO z d) ?_
  refine U (fun c=>absurd (show(((((z::d).drop 1).take ((z::d).length - 1)).length:Nat):Int)<1 from of_decide_eq_true c) (by rw[uQ];omega)) (fun _=> ?_)
  refine U (fun c=>absurd (show(((((z::d).drop 1).take ((z::d).length - 1)).length:Nat):Int)>18 from of_decide_eq_true c) (by rw[uQ];omega)) (fun _=> ?_)
  refine ν vT ?_
  refine U (fun c8=>absurd (fq (k:=48) c8) au) (fun c8=> ?_)
  refine ao (fun x:Nat×Nat=>x.1≤d.length∧iA x.2 (d.drop x.1)=some m) (fun x=>⟨[(0,.t (.str (z::d))),(4,.t (.str d)),(5,.t (.int .i64 x.2)),(6,.t (.int .i64 x.1))],[]⟩) (fun x=>d.length - x.1) (0,0) ⟨Nat.zero_le _,by simpa using hm⟩ ?_ (fun⟨i,acc⟩ ⟨hi,hx⟩=> ?_)
  ·exact aM ⟨rfl,congrArg (fun l=>AV.t (.str l)) hD,rfl,rfl,trivial⟩ rfl
  have hi:i≤d.length:=hi
  have hx:iA acc (d.drop i)=some m:=hx
  refine U (fun c=> ?_) (fun c=> ?_)
  ·have c:i<d.length:=de c
   obtain⟨x,mQ,dk⟩:=get_some (R:=d) (i:=i) c
   have DN:=Ih x dk
   have e:d.drop i=x::d.drop (i+1):=by rw[List.drop_eq_getElem_cons c];congr 1;rw[List.getElem?_eq_getElem c]at mQ;exact Option.some.inj mQ
   rw[e]at hx
   unfold iA at hx
   rw[AF DN]at hx
   have hx:iA (acc*10+(x.toNat - 48)) (d.drop (i+1))=some m:=hx
   have hle:=(rK _ _ _ hx).1
   have fw:d[((i:Nat):Int).toNat]?=some x:=by rw[Int.toNat_natCast];exact mQ
   refine ν fw ?_
   refine U (fun c=>absurd (of_decide_eq_true c) (by omega)) (fun _=> ?_)
   refine ν fw ?_
   refine U (fun c=>absurd (of_decide_eq_true c) (by omega)) (fun _=> ?_)
   refine δ (n:=((acc*10:Nat):Int)) (show IntKind.i64.wrap (((acc:Nat):Int)*10)=_ from by rw[IntKind.wrap_i64];omega) ?_
   refine ν fw ?_
   refine δ (n:=((x.toNat - 48:Nat):Int)) (show IntKind.u8.wrap (((x.toNat:Nat):Int) - 48)=_ from by rw[IntKind.wrap_u8];omega) ?_
   refine δ (n:=((x.toNat - 48:Nat):Int)) (aj (by omega)) ?_
   refine δ (n:=((acc*10+(x.toNat - 48):Nat):Int)) (show IntKind.i64.wrap (((acc*10:Nat):Int)+((x.toNat - 48:Nat):Int))=_ from by rw[IntKind.wrap_i64];omega) ?_
   refine δ (n:=((i+1:Nat):Int)) (aj (n:=i+1) (by omega)) ?_
   conv=>whnf
   exact⟨⟨(i+1,acc*10+(x.toNat - 48)),c,hx⟩,aM ⟨rfl,rfl,rfl,rfl,trivial⟩ rfl,by show d.length - (i+1)<d.length - i;omega⟩
  ·have c:i=d.length:=by have:=dm c;omega
   rw[c,List.drop_length]at hx
   cases hx
   refine U (fun _=> ?_) (fun c=>absurd (of_decide_eq_false c) (by rw[List.length_cons];omega))
   refine δ (n:= -(m:Int)) (by rw[IntKind.wrap_i64];omega) ?_
   exact And.intro ⟨rfl,rfl,trivial⟩ rfl
end Go.Proofs.YtcogcbplmkcojaaGreatDoor
