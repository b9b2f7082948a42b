/-
  The ground of the walks of this seat, part PA.
-/
import Derived.Test.YtcogcbplmkcojaaGreatDoorKWa
import Derived.Test.YtcogcbplmkcojaaGreatDoorKFg
import Derived.Test.YtcogcbplmkcojaaGreatDoorKWB
import Derived.Test.YtcogcbplmkcojaaGreatDoorKHa
namespace Go.Proofs.YtcogcbplmkcojaaGreatDoor
set_option maxRecDepth 100000
set_option linter.unusedVariables false
def fe(c:UInt8):Bool:=Nat.blt 32 c.toNat&&Nat.blt c.toNat 127&& !(Nat.beq c.toNat 40)&& !(Nat.beq c.toNat 41)&& !(Nat.beq c.toNat 34)&& !(Nat.beq c.toNat 59)
def wc(c:UInt8):Bool:=Nat.ble 48 c.toNat&&Nat.ble c.toNat 57
def p_(c:UInt8):Bool:=Nat.ble 32 c.toNat&&Nat.ble c.toNat 126&& !(Nat.beq c.toNat 34)
def ln(c:UInt8):Bool:= !(Nat.beq c.toNat 10)
def aV(p:UInt8→Bool):List UInt8→Nat
 |[]=>0
 |c::r=>match p c with|true=>aV p r+1|false=>0
def ky:List UInt8→List Nat→Bool
 |[],[]=>true
 |c::r,n::m=>match Nat.beq c.toNat n with|true=>ky r m|false=>false
 |_,_=>false
def oU:List UInt8→List UInt8→Bool
 |[],[]=>true
 |c::r,d::q=>match Nat.beq c.toNat d.toNat with|true=>oU r q|false=>false
 |_,_=>false
def iA:Nat→List UInt8→Option Nat
 |n,[]=>some n
 |n,c::r=>match wc c with|true=>iA (n*10+(c.toNat - 48)) r|false=>none
def xU(s:List UInt8):Option Int:=
 match s with
 |[]=>none
 |c::r=>
  match Nat.beq c.toNat 45 with
  |true=>
   (match r with
   |[]=>none
   |z::_=>match Nat.beq z.toNat 48|| !(Nat.ble r.length 18)with|true=>none|false=>match iA 0 r with|some n=>some (-(n:Int))|none=>none)
  |false=>
   match(Nat.beq c.toNat 48&&Nat.blt 1 s.length)|| !(Nat.ble s.length 18)with
   |true=>none
   |false=>match iA 0 s with|some n=>some (n:Int)|none=>none
structure fk where
 at_:Nat
 kind:Nat
 num:Int
 word:List UInt8
def gg:Nat→List UInt8→Nat→List fk→Option (List fk)
 |_,[],_,acc=>some acc
 |0,_::_,_,_=>none
 |f+1,c::r,a,acc=>
  match Nat.beq c.toNat 32||Nat.beq c.toNat 10 with
  |true=>gg f r (a+1) acc
  |false=>
  match Nat.beq c.toNat 59 with
  |true=>gg f (r.drop (aV ln r)) (a+1+aV ln r) acc
  |false=>
  match Nat.beq c.toNat 40 with
  |true=>gg f r (a+1) (⟨a,4,0,[]⟩::acc)
  |false=>
  match Nat.beq c.toNat 41 with
  |true=>gg f r (a+1) (⟨a,5,0,[]⟩::acc)
  |false=>
  match Nat.beq c.toNat 34 with
  |true=>
   (match r.drop (aV p_ r)with
   |q::r'=>match Nat.beq q.toNat 34 with|true=>gg f r' (a+aV p_ r+2) (⟨a,3,0,r.take (aV p_ r)⟩::acc)|false=>none
   |[]=>none)
  |false=>
  match fe c with
  |false=>none
  |true=>
   match Nat.beq c.toNat 45||wc c with
   |true=>(match xU (c::r.take (aV fe r))with|some n=>gg f (r.drop (aV fe r)) (a+1+aV fe r) (⟨a,2,n,[]⟩::acc)|none=>none)
   |false=>gg f (r.drop (aV fe r)) (a+1+aV fe r) (⟨a,1,0,c::r.take (aV fe r)⟩::acc)
inductive ay where
 |word (w:List UInt8)
 |num (n:Int)
 |text (w:List UInt8)
 |list (l:List ay)
def wO(t:fk):ay:=match t.kind with|1=> .word t.word|2=> .num t.num|_=> .text t.word
def gj:List fk→List (List ay)→Option (List ay)
 |[],[l]=>some l
 |[],_=>none
 |t::ts,l::st=>
  (match t.kind with
  |5=>(match st with|m::q=>gj ts ((m++[.list l])::q)|[]=>none)
  |4=>(match Nat.blt st.length 10 with|true=>gj ts ([]::l::st)|false=>none)
  |_=>gj ts ((l++[wO t])::st))
 |_::_,[]=>none
structure PS where
 d:ο
 rest:List ay
 args:List cP
def bL(s:PS):Option (PS×List UInt8):=match s.rest with| .word w::r=>some (⟨s.d,r,s.args⟩,w)|_=>none
def rT(s:PS):Option (PS×List UInt8):=match s.rest with| .text w::r=>some (⟨s.d,r,s.args⟩,w)|_=>none
def mC(s:PS):Option (PS×Int):=match s.rest with| .num n::r=>some (⟨s.d,r,s.args⟩,n)|_=>none
def cK(s:PS):Option (PS×Int):=match s.rest with| .num (.ofNat n)::r=>(match Nat.ble n 1000000000000000000 with|true=>some (⟨s.d,r,s.args⟩,.ofNat n)|false=>none)|_=>none
def dl(s:PS):Option (PS×List ay):=match s.rest with| .list l::r=>some (⟨s.d,l,s.args⟩,r)|_=>none
def ej(s:PS)(w:List Nat):Bool:=match s.rest with| .word v::_=>ky v w|_=>false
def ji(s:PS):PS:=⟨s.d,s.rest.tail,s.args⟩
def aP(s:PS):Bool:=match s.rest with|[]=>true|_=>false
def bO(s:PS)(k:Nat):List (List UInt8):=
 match k with
 |1=>s.d.files.map (·.name)|2=>s.d.ag.map (·.name)|3=>s.d.flags|4=>s.d.classes.map (·.name)|5=>s.d.forms.map (·.name)
 |6=>s.d.aw.map (·.name)|7=>s.args.map (·.name)|8=>s.d.aT.map (·.name)|_=>s.d.aQ.map (·.name)
def en(k:Nat):Nat:=match k with|1=>8|2=>256|3=>16|4=>64|5=>512|6=>128|7=>6|8=>64|_=>64
def jw(w:List UInt8):Nat→List (List UInt8)→Option Nat
 |_,[]=>none
 |n,x::r=>match oU x w with|true=>some n|false=>jw w (n+1) r
def cY(w:List UInt8):Nat→List (List Nat)→Option Nat
 |_,[]=>none
 |n,x::r=>match ky w x with|true=>some n|false=>cY w (n+1) r
def nc(s:PS)(k:Nat)(w:List UInt8):Option Nat:=jw w 0 (bO s k)
def bY(s:PS)(k:Nat):Option (PS×Nat):=
 match bL s with|some (s,w)=>(match nc s k w with|some i=>some (s,i)|none=>none)|none=>none
def dJ(s:PS)(k:Nat):Option (PS×List UInt8):=
 match bL s with
 |some (s,w)=>(match jw w 0 (bO s k)with|some _=>none|none=>match Nat.blt (bO s k).length (en k)with|true=>some (s,w)|false=>none)
 |none=>none
def Dg:List (List Nat):=[[97,100,100],[115,117,98],[109,117,108],[97,110,100],[111,114],[120,111,114],[115,104,108],[115,104,114],[115,97,114],[100,105,118,117],[114,101,109,117],[100,105,118,115],[114,101,109,115],[101,113],[108,116,117],[108,116,115],[99,97,116]]
def zb:List (List Nat):=[[110,111,116],[110,101,103],[99],[105,109,109],[102,108,97,103],[108,100],[105,102],[115,120],[122,120],[101,120],[115,101,116],[115,116],[106,117,109,112],[116,114,97,112],[115,121,115],[119,104,101,110]]
def eh(op w a b:Int)(ks:List T):T:= .agg [.int .i64 op,.int .i64 w,.int .i64 a,.int .i64 b,.θ 5 ks]
def r_(s:PS):Option (PS×Int):=
 match s.rest with
 | .num (.ofNat n)::r=>(match Nat.ble n 1000000000000000000 with|true=>some (⟨s.d,r,s.args⟩, -1 - (n:Int))|false=>none)
 | .num _::_=>none
 |_=>match bY s 7 with|some (s,i)=>some (s,(i:Int))|none=>none
def Aa(s:PS)(head:List UInt8):Option (PS×(Int×Int×Int×Int)×Nat):=
 match cY head 0 [[110,111,116],[110,101,103],[99],[105,109,109],[102,108,97,103],[108,100],[105,102],[115,120],[122,120],[101,120]]with
 |some 0=>some (s,(18,0,0,0),1)
 |some 1=>some (s,(19,0,0,0),1)
 |some 2=>(match cK s with|some (s,w)=>(match mC s with|some (s,a)=>some (s,(20,w,a,0),0)|none=>none)|none=>none)
 |some 3=>(match bY s 7 with|some (s,a)=>(match cK s with|some (s,w)=>some (s,(22,w,(a:Int),0),0)|none=>none)|none=>none)
 |some 4=>(match bY s 3 with|some (s,a)=>some (s,(25,0,(a:Int),0),0)|none=>none)
 |some 5=>(match cK s with|some (s,w)=>some (s,(26,w,0,0),1)|none=>none)
 |some 6=>some (s,(27,0,0,0),3)
 |some 7=>(match cK s with|some (s,w)=>some (s,(28,w,0,0),1)|none=>none)
 |some 8=>(match cK s with|some (s,w)=>some (s,(29,w,0,0),1)|none=>none)
 |some 9=>(match cK s with|some (s,a)=>(match cK s with|some (s,b)=>some (s,(30,0,a,b),1)|none=>none)|none=>none)
 |some _=>none
 |none=>
  match cY head 0 zb with
  |some _=>none
  |none=>match nc s 1 head with|some a=>(match r_ s with|some (s,b)=>some (s,(21,0,(a:Int),b),0)|none=>none)|none=>none
def eo(term:PS→Option (PS×T)):Nat→PS→List T→Option (PS×List T)
 |0,s,ks=>match aP s with|true=>some (s,ks)|false=>none
 |n+1,s,ks=>match term s with|some (s,k)=>eo term n s (ks++[k])|none=>none
def lh:Nat→PS→Option (PS×T)
 |0,_=>none
 |f+1,s=>
  match s.rest with
  | .word w::r=>(match ky w [112,99]with|true=>some (⟨s.d,r,s.args⟩,eh 23 0 0 0 [])|false=>match ky w [110,101,120,116]with|true=>some (⟨s.d,r,s.args⟩,eh 24 0 0 0 [])|false=>none)
  | .list l::r=>
   (match bL ⟨s.d,l,s.args⟩with
   |none=>none
   |some (s,head)=>
    (match cY head 0 Dg with
    |some i=>(match eo (lh f) 2 s []with|some (s,ks)=>some (⟨s.d,r,s.args⟩,eh ((i:Int)+1) 0 0 0 ks)|none=>none)
    |none=>
     match Aa s head with
     |some (s,(op,w,a,b),n)=>(match eo (lh f) n s []with|some (s,ks)=>some (⟨s.d,r,s.args⟩,eh op w a b ks)|none=>none)
     |none=>none))
  |_=>none
def sv(PX:PS→Option (PS×T)):Nat→PS→List T→Option (PS×List T)
 |0,_,_=>none
 |f+1,s,ks=>match aP s with|true=>some (s,ks)|false=>match PX s with|some (s,k)=>sv PX f s (ks++[k])|none=>none
def v8(term:PS→Option (PS×T))(r:List ay)(x:Option (PS×(Int×Int×Int×Int)×Nat)):Option (PS×T):=
 match x with
 |some (s,(op,w,a,b),n)=>(match eo term n s []with|some (s,ks)=>some (⟨s.d,r,s.args⟩,eh op w a b ks)|none=>none)
 |none=>none
def lA:Nat→PS→Option (PS×T)
 |0,_=>none
 |f+1,s=>
  match dl s with
  |none=>none
  |some (s,r)=>
  match bL s with
  |none=>none
  |some (s,head)=>
  match cY head 0 [[115,101,116],[115,116],[106,117,109,112],[116,114,97,112],[115,121,115],[119,104,101,110]]with
  |some 0=>
   (match dl s with
   |none=>none
   |some (t,inner)=>
    match bL t with
    |none=>none
    |some (t,to)=>
     match ky to [102,108,97,103]with
     |true=>(match bY t 3 with|some (t,a)=>(match aP t with|true=>v8 (lh f) r (some (⟨t.d,inner,t.args⟩,(32,0,(a:Int),0),1))|false=>none)|none=>none)
     |false=>match nc t 1 to with|some a=>(match r_ t with|some (t,b)=>(match aP t with|true=>v8 (lh f) r (some (⟨t.d,inner,t.args⟩,(31,0,(a:Int),b),1))|false=>none)|none=>none)|none=>none)
  |some 1=>(match cK s with|some (s,w)=>v8 (lh f) r (some (s,(33,w,0,0),2))|none=>none)
  |some 2=>v8 (lh f) r (some (s,(34,0,0,0),1))
  |some 3=>(match cK s with|some (s,a)=>v8 (lh f) r (some (s,(35,0,a,0),0))|none=>none)
  |some 4=>v8 (lh f) r (some (s,(36,0,0,0),0))
  |some 5=>(match lh f s with|some (s,k)=>(match sv (lA f) 65 s [k]with|some (s,ks)=>some (⟨s.d,r,s.args⟩,eh 37 0 0 0 ks)|none=>none)|none=>none)
  |_=>none
def CH(P1:PS→Option (PS×(Int×Int×Int×Int)×List T))(s:PS):Option (PS×T):=match P1 s with|some (s,(op,w,a,b),ks)=>some (s,eh op w a b ks)|none=>none
def mb:Nat→PS→Option (PS×(Int×Int×Int×Int)×List T)
 |0,_=>none
 |f+1,s=>
  match s.rest with
  | .num n::r=>some (⟨s.d,r,s.args⟩,(20,64,n,0),[])
  | .word w::r=>(match cY w 0 [[83],[65],[80],[71],[84],[],[72]]with|some i=>some (⟨s.d,r,s.args⟩,(38+(i:Int),0,0,0),[])|none=>none)
  | .list l::r=>
   (match bL ⟨s.d,l,s.args⟩with
   |none=>none
   |some (s,head)=>
    match cY head 0 [[97,100,100],[115,117,98],[112,97,103,101]]with
    |some 0=>(match eo (CH (mb f)) 2 s []with|some (s,ks)=>some (⟨s.d,r,s.args⟩,(1,0,0,0),ks)|none=>none)
    |some 1=>(match eo (CH (mb f)) 2 s []with|some (s,ks)=>some (⟨s.d,r,s.args⟩,(2,0,0,0),ks)|none=>none)
    |some 2=>(match eo (CH (mb f)) 1 s []with|some (s,ks)=>some (⟨s.d,r,s.args⟩,(43,0,0,0),ks)|none=>none)
    |_=>none)
  |_=>none
def jX(w:List UInt8):Option Int:=match xU w with|some (.ofNat n)=>(match Nat.ble n 99 with|true=>some (.ofNat n)|false=>none)|_=>none
def Dz(c:UInt8):Bool:=Nat.beq c.toNat 48||Nat.beq c.toNat 49||Nat.beq c.toNat 120
def du(c:UInt8):Bool:= !(Nat.beq c.toNat 91)
def eY(c:UInt8):Bool:= !(Nat.beq c.toNat 58)
def wm(s:PS)(arg:Nat):Option Int:=match s.args[arg]?with|some a=>(match a.aU with| .ofNat k=>(match s.d.classes[k]?with|some c=>some c.bits|none=>none)|_=>none)|none=>none
def JZ(s:PS)(w:List UInt8):Option bK:=
 match w with
 |[]=>none
 |c::r=>
  match Nat.beq c.toNat 46 with
  |true=>(match r with|[]=>none|_::_=>match Nat.beq (aV Dz r) r.length with|true=>some ⟨r, -1,0,0⟩|false=>none)
  |false=>
   let at_:=aV du w
   match nc s 7 (w.take at_)with
   |none=>none
   |some arg=>
    match Nat.beq at_ w.length with
    |true=>(match wm s arg with|some b=>some ⟨[],(arg:Int),b - 1,0⟩|none=>none)
    |false=>
     match Nat.beq at_ (w.length - 1)with
     |true=>none
     |false=>
     match w.getLast? with
     |some e=>
      (match Nat.beq e.toNat 93 with
      |false=>none
      |true=>
       let inner:=(w.drop (at_+1)).take (w.length - 1 - (at_+1))
       let k:=aV eY inner
       match Nat.beq k inner.length with
       |true=>(match jX inner with|some h=>some ⟨[],(arg:Int),h,h⟩|none=>none)
       |false=>match jX (inner.take k)with|some h=>(match jX (inner.drop (k+1))with|some l=>some ⟨[],(arg:Int),h,l⟩|none=>none)|none=>none)
     |none=>none
def Ce(s:PS)(w:List UInt8):Option bK:=match Nat.ble w.length 65536 with|true=>JZ s w|false=>none
def qW:Nat→PS→List bK→Option (PS×List bK)
 |0,_,_=>none
 |f+1,s,ps=>
  match aP s with
  |true=>some (s,ps)
  |false=>
   match bL s with
   |none=>none
   |some (s,w)=>match Ce s w with|none=>none|some p=>(match Nat.blt ps.length 64 with|true=>qW f s (ps++[p])|false=>none)
def qH:Nat→PS→Option PS
 |0,_=>none
 |f+1,s=>
  match aP s with
  |true=>some s
  |false=>
   match dl s with
   |none=>none
   |some (u,inner)=>
    match dJ u 7 with
    |none=>none
    |some (u,name)=>
     match bY u 4 with
     |none=>none
     |some (u,c)=>match aP u with|true=>qH f ⟨u.d,inner,u.args++[⟨name,(c:Int)⟩]⟩|false=>none
def xN:Nat→PS→List T→Option (PS×List T)
 |0,_,_=>none
 |f+1,s,ks=>match aP s with|true=>some (s,ks)|false=>match lA 40 s with|some (s,k)=>(match Nat.blt ks.length 64 with|true=>xN f s (ks++[k])|false=>none)|none=>none
def um(s:PS):Option PS:=
 match dJ ⟨s.d,s.rest,[]⟩ 5 with
 |none=>none
 |some (s,name)=>
 match rT s with
 |none=>none
 |some (s,eE)=>
 match dl s with
 |none=>none
 |some (s,rest)=>
 match qH 65 s with
 |none=>none
 |some s=>
 match dl ⟨s.d,rest,s.args⟩with
 |none=>none
 |some (s,rest)=>
 match qW 66 s []with
 |none=>none
 |some (s,ps)=>
 match dl ⟨s.d,rest,s.args⟩with
 |none=>none
 |some (s,rest)=>
 match xN 66 s []with
 |none=>none
 |some (s,h_)=>some ⟨{s.d with forms:=s.d.forms++[⟨name,eE,s.args,ps,h_⟩]},rest,s.args⟩
def uv(s:PS):Option PS:=
 match bL s with
 |none=>none
 |some (_,name)=>
 match cY name 0 Dg with
 |some _=>none
 |none=>
 match cY name 0 zb with
 |some _=>none
 |none=>
 match dJ s 1 with
 |none=>none
 |some (s,name)=>
 match cK s with
 |none=>none
 |some (s,count)=>
 match cK s with
 |none=>none
 |some (s,width)=>
 match ej s [122,101,114,111]with
 |true=>(match cK (ji s)with|some (s,z)=>some ⟨{s.d with files:=s.d.files++[⟨name,count,width,z⟩]},s.rest,s.args⟩|none=>none)
 |false=>some ⟨{s.d with files:=s.d.files++[⟨name,count,width, -1⟩]},s.rest,s.args⟩
def dd:Nat→PS→List Int→Option (PS×List Int)
 |0,_,_=>none
 |f+1,s,l=>match aP s with|true=>some (s,l)|false=>match mC s with|some (s,n)=>(match Nat.blt l.length 8 with|true=>dd f s (l++[n])|false=>none)|none=>none
def rM(s:PS):Option PS:=
 match dJ s 4 with
 |none=>none
 |some (s,name)=>
 match bL s with
 |none=>none
 |some (s,kw)=>
 match cY kw 1 [[114,101,103],[117,110,115],[115,103,110],[112,99],[110,120]]with
 |none=>none
 |some kind=>
 match(match kind with|1=>(match bY s 1 with|some (s,f)=>some (s,(f:Int))|none=>none)|_=>some (s,(0:Int)))with
 |none=>none
 |some (s,file)=>
 match cK s with
 |none=>none
 |some (s,bits)=>
 match(match Nat.beq kind 1&&ej s [112,108,117,115]with|true=>cK (ji s)|false=>some (s,(0:Int)))with
 |none=>none
 |some (s,plus)=>
 match(match Nat.blt 1 kind&&ej s [115,104,105,102,116]with|true=>cK (ji s)|false=>some (s,(0:Int)))with
 |none=>none
 |some (s,shift)=>
 match(match ej s [101,120,99,101,112,116]with|true=>dd 10 (ji s) []|false=>some (s,([]:List Int)))with
 |none=>none
 |some (s,aY)=>some ⟨{s.d with classes:=s.d.classes++[⟨name,(kind:Int),file,bits,shift,plus,aY⟩]},s.rest,s.args⟩
def jZ:Nat→PS→List (List UInt8)→Option (PS×List (List UInt8))
 |0,_,_=>none
 |f+1,s,l=>match aP s with|true=>some (s,l)|false=>match rT s with|some (s,w)=>(match Nat.blt l.length 8 with|true=>jZ f s (l++[w])|false=>none)|none=>none
def ri(s:PS):Option PS:=
 match Nat.blt s.d.macros.length 32 with
 |false=>none
 |true=>
 match rT s with
 |none=>none
 |some (s,eE)=>
 match(match ej s [110,111,110,101]with|true=>some (ji s,(-1:Int))|false=>match bY s 6 with|some (s,i)=>some (s,(i:Int))|none=>none)with
 |none=>none
 |some (s,rel)=>
 match dl s with
 |none=>none
 |some (s,rest)=>
 match jZ 10 s []with
 |none=>none
 |some (s,lines)=>some ⟨{s.d with macros:=s.d.macros++[⟨eE,rel,lines⟩]},rest,s.args⟩
def xF(s:PS):Option PS:=
 match Nat.blt s.d.uses.length 128 with
 |false=>none
 |true=>
 match bL s with
 |none=>none
 |some (s,m)=>
 match bY s 4 with
 |none=>none
 |some (s,c)=>
 match bY s 6 with
 |none=>none
 |some (s,r)=>
 let mod:=match ky m [110,111,110,101]with|true=>[]|false=>m
 match ej s [101,110,100]with
 |true=>some ⟨{s.d with uses:=s.d.uses++[⟨mod,(c:Int),(r:Int),true⟩]},s.rest.tail,s.args⟩
 |false=>some ⟨{s.d with uses:=s.d.uses++[⟨mod,(c:Int),(r:Int),false⟩]},s.rest,s.args⟩
structure lf where
 sign:Int
 width:Int
 align:Int
 round:Int
 hi:Int
 lo:Int
 seen:List Nat
def cN:Nat→PS→lf→Option (PS×lf)
 |0,_,_=>none
 |f+1,s,c=>
  match aP s with
  |true=>some (s,c)
  |false=>
   match dl s with
   |none=>none
   |some (t,rest)=>
    match bL t with
    |none=>none
    |some (t,head)=>
     match cY head 0 [[115,105,103,110,101,100],[117,110,115,105,103,110,101,100],[101,105,116,104,101,114],[97,108,105,103,110],[114,111,117,110,100],[115,108,105,99,101]]with
     |none=>none
     |some i=>
      let k:=match Nat.blt i 3 with|true=>0|false=>i - 2
      match c.seen.contains k with
      |true=>none
      |false=>
       match cK t with
       |none=>none
       |some (t,n)=>
        match(match i with
         |3=>some (t,({c with align:=n,seen:=k::c.seen}:lf))
         |4=>some (t,{c with round:=n,seen:=k::c.seen})
         |5=>(match cK t with|some (t,lo)=>some (t,{c with hi:=n,lo:=lo,seen:=k::c.seen})|none=>none)
         |_=>some (t,{c with sign:=(i:Int)+1,width:=n,seen:=k::c.seen}))with
        |none=>none
        |some (t,c)=>match aP t with|true=>cN f ⟨t.d,rest,t.args⟩ c|false=>none
def CZ(s:PS):Option PS:=
 match dJ s 6 with
 |none=>none
 |some (s,name)=>
 match cK s with
 |none=>none
 |some (s,num)=>
 match bL s with
 |none=>none
 |some (s,kw)=>
 match cY kw 1 [[110,111,110,101],[100,97,116,97],[105,110,115,110],[112,97,105,114]]with
 |none=>none
 |some kind=>
 match(match kind with|2=>cK s|_=>some (s,(0:Int)))with
 |none=>none
 |some (s,bytes)=>
 match(match Nat.beq kind 3||Nat.beq kind 4 with|true=>(match bY s 4 with|some (s,c)=>some (s,(c:Int))|none=>none)|false=>some (s,(0:Int)))with
 |none=>none
 |some (s,aU)=>
 match(match kind with|4=>(match bY s 4 with|some (s,c)=>some (s,(c:Int))|none=>none)|_=>some (s,(0:Int)))with
 |none=>none
 |some (s,nL)=>
 match kind with
 |1=>some ⟨{s.d with aw:=s.d.aw++[⟨name,num,1,bytes,aU,nL,0,0,0,0,[],0,0,0,0, -1,0⟩]},s.rest,s.args⟩
 |_=>
  match mb 40 s with
  |none=>none
  |some (s,(op,w,a,b),ks)=>
   match cN 10 s ⟨0,0,0,0, -1,0,[]⟩with
   |none=>none
   |some (s,c)=>some ⟨{s.d with aw:=s.d.aw++[⟨name,num,(kind:Int),bytes,aU,nL,op,w,a,b,ks,c.sign,c.width,c.align,c.round,c.hi,c.lo⟩]},s.rest,s.args⟩
def p7(s:PS)(k:Nat):Option (PS×dO):=
 match dJ s k with
 |none=>none
 |some (s,name)=>
 match bY s 1 with
 |none=>none
 |some (s,f)=>match cK s with|some (s,n)=>some (s,⟨name,(f:Int),n⟩)|none=>none
def yU(s:PS)(first:Bool):Option PS:=
 match dl s with
 |none=>none
 |some (s,_)=>
 match bL s with
 |none=>none
 |some (s,head)=>
 match(match cY head 0 [[105,115,97],[102,105,108,101],[97,108,105,97,115],[114,101,103],[102,108,97,103],[99,108,97,115,115],[102,111,114,109],[109,97,99,114,111],[114,101,108],[117,115,101],[114,101,108,97,120],[110,117,109]]with
  |some 0=>
   (match first with
   |false=>none
   |true=>match bL s with
    |none=>none
    |some (s,name)=>match bL s with
     |none=>none
     |some (s,order)=>match ky order [119,111,114,100]with
      |true=>some (⟨{s.d with name:=name,order:=1},s.rest,s.args⟩:PS)
      |false=>match ky order [98,121,116,101,115]with|true=>some ⟨{s.d with name:=name,order:=2},s.rest,s.args⟩|false=>none)
  |some (k+1)=>
   (match first with
   |true=>none
   |false=>match k with
    |0=>uv s
    |1=>(match p7 s 2 with|some (s,x)=>some ⟨{s.d with ag:=s.d.ag++[x]},s.rest,s.args⟩|none=>none)
    |2=>(match p7 s 9 with|some (s,x)=>some ⟨{s.d with aQ:=s.d.aQ++[x]},s.rest,s.args⟩|none=>none)
    |3=>(match dJ s 3 with|some (s,w)=>some ⟨{s.d with flags:=s.d.flags++[w]},s.rest,s.args⟩|none=>none)
    |4=>rM s
    |5=>um s
    |6=>ri s
    |7=>CZ s
    |8=>xF s
    |9=>(match Nat.blt s.d.av.length 16 with
     |false=>none
     |true=>match bY s 6 with
      |none=>none
      |some (s,r)=>match bY s 5 with
       |none=>none
       |some (s,f)=>match bY s 6 with|some (s,t)=>some ⟨{s.d with av:=s.d.av++[⟨(r:Int),(f:Int),(t:Int)⟩]},s.rest,s.args⟩|none=>none)
    |10=>(match dJ s 8 with|some (s,w)=>(match mC s with|some (s,n)=>some ⟨{s.d with aT:=s.d.aT++[⟨w,n⟩]},s.rest,s.args⟩|none=>none)|none=>none)
    |_=>none)
  |none=>none)with
 |none=>none
 |some s=>match aP s with|true=>some s|false=>none
def rn:List ay→PS→Bool→Option PS
 |[],s,_=>some s
 |t::r,s,first=>match yU ⟨s.d,[t],s.args⟩ first with|some s=>rn r s false|none=>none
def PZ:ο:=⟨[],0,[],[],[],[],[],[],[],[],[],[],[]⟩
def m9(text:List UInt8):Option ο:=
 match Nat.ble text.length 65536 with
 |false=>none
 |true=>
 match gg text.length text 0 []with
 |none=>none
 |some RG=>
  match gj RG.reverse [[]]with
  |none=>none
  |some []=>none
  |some (t::r)=>match rn (t::r) ⟨PZ,[],[]⟩ true with|some s=>some s.d|none=>none
end Go.Proofs.YtcogcbplmkcojaaGreatDoor
namespace Go.Proofs.YtcogcbplmkcojaaGreatDoor
open Go.IntWalk
set_option maxRecDepth 100000
set_option linter.unusedVariables false
set_option linter.unusedSimpArgs false
set_option maxHeartbeats 2000000
theorem γ.gc{P:Program}{f:FuncId}{args:List AV}{H:AH}{Q Q':AV→AH→Prop}(h:γ P f args H Q)(k:∀r H',Q r H'→∃r' E5,aB H.length ⟨[(0,r)],H'⟩ ⟨[(0,r')],E5⟩∧Q' r' E5):γ P f args H Q':=by
 intro B c w vs hs hl hr
 refine(h B c w vs hs hl hr).mono ?_
 rintro e w' ⟨v,c',r,H',he,db,aK,vU,dz,hq⟩
 obtain⟨r',E5,hw,DW⟩:=k r H' hq
 have V8:Sat ⟨1,B,w,c,H,[]⟩ c' ⟨[(0,r)],H'⟩ {tmps:= #[v],defers:=[]} w':=by
  refine⟨fun t=> ?_,aK,rfl,rfl,vU,dz⟩
  rw[fB]
  by_cases ht:0=t
  ·subst ht;rw[if_pos rfl];exact db
  ·rw[if_neg ht];exact .bq _
 obtain⟨YZ,HW⟩:=hw ⟨1,B,w,c,H,[]⟩ c' {tmps:= #[v],defers:=[]} w' rfl V8
 have h0:=HW.env 0
 rw[fB,if_pos rfl]at h0
 exact⟨v,YZ,r',E5,he,h0,HW.hs,HW.ev,HW.below,DW⟩
theorem aE{ops:Array Oper}{s:St}{K:St→Prop}(D:Nat→List Nat)(σ:Ord)(h:dy ops (uc ops) σ [] []=true)(k:uJ va (γ Tryz.prog) ops D σ s K):Ai ops s K:=⟨D,σ,h,k⟩
def dB(b:Nat)(l:List Nat)(j:Nat):List Nat:=if l.contains j then[b]else[]
def Bf:Ord:=(.op 0 [] (.op 1 [0] (.op 2 [1] (.op 3 [] .nil))))
def Kt:Ord:=(.op 0 [] (.op 1 [0] (.op 2 [0] (.op 3 [2,1] (.op 4 [] .nil)))))
mutual
def lX:ay→T
 | .word w=> .agg [.int .i64 1,.str w,.int .i64 0,.θ 4 []]
 | .num n=> .agg [.int .i64 2,.str [],.int .i64 n,.θ 4 []]
 | .text w=> .agg [.int .i64 3,.str w,.int .i64 0,.θ 4 []]
 | .list l=> .agg [.int .i64 4,.str [],.int .i64 0,.θ 4 (Δ l)]
def Δ:List ay→List T
 |[]=>[]
 |t::r=>lX t::Δ r
end
theorem qz:∀l:List ay,Δ l=l.map lX
 |[]=>rfl
 |t::r=>by rw[Δ,qz r,List.map_cons]
def dH(d:ο):AH:=[.arr 152 4 true 0 (.ts (d.files.map ec)),.arr 139 3 true 0 (.ts (d.ag.map bz)),.arr 9 1 true 0 (.ts (d.flags.map T.str)),.arr 95 7 true 0 (.ts (d.classes.map aF)),
 .arr 45 5 true 0 (.ts (d.forms.map ah)),.arr 167 17 true 0 (.ts (d.aw.map eT)),.arr 164 4 true 0 (.ts (d.uses.map gf)),.arr 145 3 true 0 (.ts (d.av.map cX)),.arr 173 3 true 0 (.ts (d.macros.map dv)),
 .arr 147 2 true 0 (.ts (d.aT.map fK)),.arr 139 3 true 0 (.ts (d.aQ.map bz))]
def eG(d:ο)(rest args:List T):List AV:=[.t (.str d.name),.t (.int .i64 d.order),.sl 0 0 0 d.files.length,.sl 1 0 0 d.ag.length,.sl 2 0 0 d.flags.length,.sl 3 0 0 d.classes.length,.sl 4 0 0 d.forms.length,.sl 5 0 0 d.aw.length,.sl 6 0 0 d.uses.length,.sl 7 0 0 d.av.length,.sl 8 0 0 d.macros.length,.sl 9 0 0 d.aT.length,.sl 10 0 0 d.aQ.length,.t (.θ 4 rest),.t (.θ 2 args),.t (.int .i64 0)]
def eg(s:PS):AV:= .agg (eG s.d (Δ s.rest) (s.args.map Λ))
theorem EK(d:ο):(dH d).all (DB 11)=true:=rfl
theorem ι{f:FuncId}{args:List AV}{d:ο}{X:AV}{H:AH}{Q:AV→AH→Prop}(h:γ Tryz.prog f args (dH d) (fun r H'=>r=X∧H'=dH d))(e:H.take 11=dH d)(ha:args.all (vF 11)=true)(k:Q X H):γ Tryz.prog f args H Q:=by
 have e2:H=dH d++H.drop 11:=by rw[←e,List.take_append_drop]
 have:=γ.frame (H:=dH d) h (H.drop 11) (Q:=Q) ha (EK d) (by
  rintro r H' ⟨rfl,rfl⟩
  exact⟨rfl,by rw[←e2];exact k⟩)
 rwa [←e2]at this
theorem bM{f:FuncId}{args:List AV}{d:ο}{X:AV}(h:γ Tryz.prog f args (dH d) (fun r H'=>aB 11 ⟨[(0,r)],H'⟩ ⟨[(0,X)],dH d⟩)):γ Tryz.prog f args (dH d) (fun r H'=>r=X∧H'=dH d):=
 h.gc fun r H' hw=>⟨X,dH d,hw,rfl,rfl⟩
theorem ae{s s':St}(h:zR 11 [0,1,2,3,4,5,6,7,8,9,10] s.H s.env s'.env)(hB:Co 11 [0,1,2,3,4,5,6,7,8,9,10] s.H 0 [0,1,2,3,4,5,6,7,8,9,10] s'.H):aB 11 s s':=τ _ rfl h hB
theorem Φ(d:ο)(r a:List T){b:Bool}(hb:b=false)(e:Int):γ Tryz.prog 50 [.agg (eG d r a),.t (.bool b),.t (.int .i64 e)] (dH d) (fun v H=>v= .agg (eG d r a)∧H=dH d):=by
 subst hb
 refine bM ?_
 refine γ.ξ ζ η Tryz.func50 rfl rfl ?_
 refine ae ?_ ?_
 ·exact⟨rfl,trivial⟩
 ·exact⟨rfl,rfl,rfl,rfl,rfl,rfl,rfl,rfl,rfl,rfl,rfl,trivial⟩
def tC(op:Int)(w:List UInt8)(n:Int)(ks:List T):List AV:=[.t (.int .i64 op),.t (.str w),.t (.int .i64 n),.t (.θ 4 ks)]
def tT(op:Int)(w:List UInt8)(n:Int)(ks:List T):T:= .agg [.int .i64 op,.str w,.int .i64 n,.θ 4 ks]
theorem j7{α:Type}(x:α)(r:List α):((x::r).drop 1).take ((x::r).length - 1)=r:=by simp
theorem fO{α:Type}(x:α)(r:List α):(decide ((0:Int)≤1)&&decide ((1:Int)≤(((x::r).length:Nat):Int)))=true:=by simp;omega
theorem dG(d:ο)(op:Int)(w:List UInt8)(n:Int)(ks r a:List T){k:Int}(hk:k=0∨op=k):
 γ Tryz.prog 60 [.agg (eG d (tT op w n ks::r) a),.t (.int .i64 k)] (dH d)
  (fun v H=>v= .aq [.agg (eG d r a),.agg (tC op w n ks)]∧H=dH d):=by
 refine bM ?_
 refine γ.ξ ζ η Tryz.func60 rfl rfl ?_
 refine ι (Φ d _ a ?hb 41) (by rfl) (by rfl) ?_
 case hb=>simp;omega
 have Ig:=congrArg (fun l=>some (AV.aq [.agg (eG d l a),.agg (tC op w n ks)])) (j7 (tT op w n ks) r)
 refine U (fun ck=> ?_) (fun ck=> ?_)
 ·refine ι (Φ d _ a ?hb 41) (by rfl) (by rfl) ?_
  case hb=>
   have ck:¬k=0:=by simpa using ck
   rcases hk with h|h
   ·exact absurd h ck
   ·simp[h]
  refine ε (fO _ _) ?_
  refine aE (dB 12 [1]) Bf (by decide+kernel) ?_
  refine And.intro (fun j hj=>by rw[List.mem_singleton.1 hj];exact χ.set (b:=12) _ (List.mem_singleton.2 rfl)) ?_
  refine And.intro (fun j hj=>by cases hj) ?_
  refine ae ?_ ?_
  ·exact⟨Ig,trivial⟩
  ·exact⟨rfl,rfl,rfl,rfl,rfl,rfl,rfl,rfl,rfl,rfl,rfl,trivial⟩
 ·refine ι (Φ d _ a rfl 41) (by rfl) (by rfl) ?_
  refine ε (fO _ _) ?_
  refine aE (dB 12 [1]) Bf (by decide+kernel) ?_
  refine And.intro (fun j hj=>by rw[List.mem_singleton.1 hj];exact χ.set (b:=12) _ (List.mem_singleton.2 rfl)) ?_
  refine And.intro (fun j hj=>by cases hj) ?_
  refine ae ?_ ?_
  ·exact⟨Ig,trivial⟩
  ·exact⟨rfl,rfl,rfl,rfl,rfl,rfl,rfl,rfl,rfl,rfl,rfl,trivial⟩
end Go.Proofs.YtcogcbplmkcojaaGreatDoor
namespace Go.Proofs.YtcogcbplmkcojaaGreatDoor
open Go.IntWalk
set_option maxRecDepth 100000
set_option linter.unusedVariables false
set_option linter.unusedSimpArgs false
set_option maxHeartbeats 2000000
theorem pV{n:Nat}(h:n≤1000000):cI n 16=true:=by simp[cI];omega
def vc(d:ο)(rest args:List T):T:= .agg [.str d.name,.int .i64 d.order,.θ 4 (d.files.map ec),.θ 3 (d.ag.map bz),.θ 1 (d.flags.map T.str),.θ 7 (d.classes.map aF),.θ 5 (d.forms.map ah),.θ 17 (d.aw.map eT),.θ 4 (d.uses.map gf),.θ 3 (d.av.map cX),.θ 3 (d.macros.map dv),.θ 2 (d.aT.map fK),.θ 3 (d.aQ.map bz),.θ 4 rest,.θ 2 args,.int .i64 0]
theorem py:∀(a b:List UInt8),oU a b=true↔a=b
 |[],[]=>by simp[oU]
 |[],_::_=>by simp[oU]
 |_::_,[]=>by simp[oU]
 |c::r,e::q=>by
  simp only[oU]
  by_cases h:c.toNat=e.toNat
  ·rw[h,Nat.beq_refl]
   have h2:c=e:=UInt8.toNat.inj h
   simp[h2,py r q]
  ·have:Nat.beq c.toNat e.toNat=false:=by
    cases hb:Nat.beq c.toNat e.toNat
    ·rfl
    ·exact absurd (Nat.eq_of_beq_eq_true hb) h
   rw[this]
   have h2:¬c=e:=fun e2=>h (by rw[e2])
   simp[h2]
theorem sI(w:List UInt8):∀(l:List (List UInt8)) (n:Nat),(jw w n l=none∧∀x∈l,¬x=w)∨∃i,jw w n l=some (n+i)∧l[i]?=some w∧∀x∈l.take i,¬x=w
 |[],n=> .inl ⟨rfl,by simp⟩
 |x::r,n=>by
  unfold jw
  cases h:oU x w with
  |true=>exact .inr ⟨0,rfl,by rw[(py x w).1 h];rfl,by simp⟩
  |false=>
   have hx:¬x=w:=fun e=>by rw[(py x w).2 e]at h;cases h
   rcases sI w r (n+1)with⟨h1,h2⟩|⟨i,h1,h2,h3⟩
   ·exact .inl ⟨h1,fun y hy=>(List.mem_cons.1 hy).elim (fun e=>e▸hx) (h2 y)⟩
   ·exact .inr ⟨i+1,by rw[show n+(i+1)=n+1+i by omega];exact h1,h2,fun y hy=>by
     rw[List.take_succ_cons]at hy
     exact(List.mem_cons.1 hy).elim (fun e=>e▸hx) (h3 y)⟩
def gB(w:List UInt8)(l:List (List UInt8)):Int:=match jw w 0 l with|some i=>i|none=> -1
theorem cT(l:List (List UInt8))(w:List UInt8)(hl:l.length≤9223372036854775807):φ Tryz.prog 110 [.θ 1 (l.map T.str),.str w] (.t (.int .i64 (gB w l))):=by
 have fS:(l.map T.str).length=l.length:=by simp
 refine φ.Γ ?_ rfl
 refine γ.ξ ζ η Tryz.func110 rfl rfl ?_
 refine ao (fun i:Nat=>i≤l.length∧∀x∈l.take i,¬x=w) (fun i=>⟨[(1,.t (.str w)),(7,.t (.θ 1 (l.map T.str))),(8,.t (.int .i64 (l.length:Int))),(9,.t (.int .i64 i))],[]⟩)
  (fun i=>l.length - i) 0 ⟨Nat.zero_le _,by simp⟩ ?_ (fun i ⟨hi,hP⟩=> ?_)
 ·exact aM ⟨rfl,rfl,congrArg (fun n:Nat=>AV.t (.int .i64 (n:Int))) fS,rfl,trivial⟩ rfl
 have fin:∀i x,l[i]?=some x→x=w→(∀x∈l.take i,¬x=w)→gB w l=(i:Int):=fun i x hx e hP=>by
  unfold gB
  rcases sI w l 0 with⟨_,h2⟩|⟨j,h1,h2,h3⟩
  ·exact absurd e (h2 x (List.mem_of_getElem? hx))
  ·rw[h1]
   have:i=j:=by
    rcases Nat.lt_trichotomy i j with h|h|h
    ·exact absurd e (h3 x (List.mem_of_getElem? (i:=i) (by rw[List.getElem?_take,if_pos h];exact hx)))
    ·exact h
    ·exact absurd rfl (hP w (List.mem_of_getElem? (i:=j) (by rw[List.getElem?_take,if_pos h];exact h2)))
   rw[this];simp
 refine U (fun c=> ?_) (fun c=> ?_)
 ·have c:i<l.length:=de c
  obtain⟨x,hx,dk⟩:=get_some (R:=l) (i:=i) c
  refine ν (show(l.map T.str)[((i:Nat):Int).toNat]?=some (T.str x)from by rw[Int.toNat_natCast,List.getElem?_map,hx];rfl) ?_
  refine U (fun c2=> ?_) (fun c2=> ?_)
  ·have c2:x=w:=by simpa using c2
   exact And.intro (congrArg (fun n=>some (T.int .i64 n)) (fin i x hx c2 hP).symm) rfl
  ·have c2:¬x=w:=by simpa using c2
   refine δ (n:=((i+1:Nat):Int)) (aj (n:=i+1) (by omega)) ?_
   conv=>whnf
   exact⟨⟨i+1,c,fc hx hP c2⟩,τ [] rfl ⟨rfl,rfl,rfl,rfl,trivial⟩ trivial,by show l.length - (i+1)<l.length - i;omega⟩
 ·have c:i=l.length:=by have:=dm c;omega
  rw[c,List.take_length]at hP
  refine And.intro (congrArg (fun n=>some (T.int .i64 n)) (show(-1:Int)=gB w l from ?_)) rfl
  unfold gB
  rcases sI w l 0 with⟨h1,_⟩|⟨j,_,h2,_⟩
  ·rw[h1]
  ·exact absurd rfl (hP w (List.mem_of_getElem? h2))
theorem QP(d:ο)(r:List T)(a:List cP)(hl:d.files.length≤100000):φ Tryz.prog 114 [vc d r (a.map Λ),.int .i64 1] (.aq [.own 9 1 false ((d.files.map (·.name)).map T.str),.t (.int .i64 8)]):=by
 refine φ.gy ?_ rfl
 refine γ.ξ ζ η Tryz.func114 rfl rfl ?_
 have hm:(d.files.map ec).length=d.files.length:=List.length_map _
 refine ao (fun i:Nat=>i≤d.files.length) (fun i=>⟨[(6,.sl 0 0 0 i),(29,.t (.θ 4 (d.files.map ec))),(30,.t (.int .i64 (d.files.length:Int))),(31,.t (.int .i64 i))],[.arr 9 1 false 0 (.ts (((d.files.take i).map (·.name)).map T.str))]⟩)
  (fun i=>d.files.length - i) 0 (Nat.zero_le _) ?_ (fun i hi=> ?_)
 ·exact τ [2] rfl ⟨rfl,rfl,congrArg (fun n:Nat=>some (AV.t (.int .i64 (n:Int)))) hm,rfl,trivial⟩ ⟨rfl,trivial⟩
 have hi:i≤d.files.length:=hi
 refine U (fun c=> ?_) (fun c=> ?_)
 ·have c:i<d.files.length:=de c
  obtain⟨x,hx,_⟩:=get_some (R:=d.files) (i:=i) c
  refine ν (show(d.files.map ec)[((i:Nat):Int).toNat]?=some (ec x)from by rw[Int.toNat_natCast,List.getElem?_map,hx];rfl) ?_
  refine Or.inl (And.intro (show i=(((d.files.take i).map (·.name)).map T.str).length by simp;omega) (ε (pV (n:=i+1) (by omega)) ?_))
  refine δ (n:=((i+1:Nat):Int)) (aj (n:=i+1) (by omega)) ?_
  conv=>whnf
  exact⟨⟨i+1,c⟩,τ [0] rfl ⟨rfl,rfl,rfl,rfl,trivial⟩ ⟨congrArg (fun l=>some (Ω.arr 9 1 false 0 (.ts l))) (show(((d.files.take i).map (·.name)).map T.str)++[T.str x.name]=(((d.files.take (i+1)).map (·.name)).map T.str) by rw[List.take_add_one,hx];simp),trivial⟩,by show d.files.length - (i+1)<d.files.length - i;omega⟩
 ·have c:i=d.files.length:=by have:=dm c;omega
  exact And.intro ⟨⟨_,rfl,rfl,by simp;omega,by rw[c,List.take_length];exact .refl _⟩,⟨_,_,rfl,.refl _⟩,trivial⟩ rfl
theorem QO(d:ο)(r:List T)(a:List cP)(hl:d.ag.length≤100000):φ Tryz.prog 114 [vc d r (a.map Λ),.int .i64 2] (.aq [.own 9 1 false ((d.ag.map (·.name)).map T.str),.t (.int .i64 256)]):=by
 refine φ.gy ?_ rfl
 refine γ.ξ ζ η Tryz.func114 rfl rfl ?_
 have hm:(d.ag.map bz).length=d.ag.length:=List.length_map _
 refine ao (fun i:Nat=>i≤d.ag.length) (fun i=>⟨[(6,.sl 0 0 0 i),(46,.t (.θ 3 (d.ag.map bz))),(47,.t (.int .i64 (d.ag.length:Int))),(48,.t (.int .i64 i))],[.arr 9 1 false 0 (.ts (((d.ag.take i).map (·.name)).map T.str))]⟩)
  (fun i=>d.ag.length - i) 0 (Nat.zero_le _) ?_ (fun i hi=> ?_)
 ·exact τ [2] rfl ⟨rfl,rfl,congrArg (fun n:Nat=>some (AV.t (.int .i64 (n:Int)))) hm,rfl,trivial⟩ ⟨rfl,trivial⟩
 have hi:i≤d.ag.length:=hi
 refine U (fun c=> ?_) (fun c=> ?_)
 ·have c:i<d.ag.length:=de c
  obtain⟨x,hx,_⟩:=get_some (R:=d.ag) (i:=i) c
  refine ν (show(d.ag.map bz)[((i:Nat):Int).toNat]?=some (bz x)from by rw[Int.toNat_natCast,List.getElem?_map,hx];rfl) ?_
  refine Or.inl (And.intro (show i=(((d.ag.take i).map (·.name)).map T.str).length by simp;omega) (ε (pV (n:=i+1) (by omega)) ?_))
  refine δ (n:=((i+1:Nat):Int)) (aj (n:=i+1) (by omega)) ?_
  conv=>whnf
  exact⟨⟨i+1,c⟩,τ [0] rfl ⟨rfl,rfl,rfl,rfl,trivial⟩ ⟨congrArg (fun l=>some (Ω.arr 9 1 false 0 (.ts l))) (show(((d.ag.take i).map (·.name)).map T.str)++[T.str x.name]=(((d.ag.take (i+1)).map (·.name)).map T.str) by rw[List.take_add_one,hx];simp),trivial⟩,by show d.ag.length - (i+1)<d.ag.length - i;omega⟩
 ·have c:i=d.ag.length:=by have:=dm c;omega
  exact And.intro ⟨⟨_,rfl,rfl,by simp;omega,by rw[c,List.take_length];exact .refl _⟩,⟨_,_,rfl,.refl _⟩,trivial⟩ rfl
theorem QN(d:ο)(r:List T)(a:List cP)(hl:d.classes.length≤100000):φ Tryz.prog 114 [vc d r (a.map Λ),.int .i64 4] (.aq [.own 9 1 false ((d.classes.map (·.name)).map T.str),.t (.int .i64 64)]):=by
 refine φ.gy ?_ rfl
 refine γ.ξ ζ η Tryz.func114 rfl rfl ?_
 have hm:(d.classes.map aF).length=d.classes.length:=List.length_map _
 refine ao (fun i:Nat=>i≤d.classes.length) (fun i=>⟨[(6,.sl 0 0 0 i),(68,.t (.θ 7 (d.classes.map aF))),(69,.t (.int .i64 (d.classes.length:Int))),(70,.t (.int .i64 i))],[.arr 9 1 false 0 (.ts (((d.classes.take i).map (·.name)).map T.str))]⟩)
  (fun i=>d.classes.length - i) 0 (Nat.zero_le _) ?_ (fun i hi=> ?_)
 ·exact τ [2] rfl ⟨rfl,rfl,congrArg (fun n:Nat=>some (AV.t (.int .i64 (n:Int)))) hm,rfl,trivial⟩ ⟨rfl,trivial⟩
 have hi:i≤d.classes.length:=hi
 refine U (fun c=> ?_) (fun c=> ?_)
 ·have c:i<d.classes.length:=de c
  obtain⟨x,hx,_⟩:=get_some (R:=d.classes) (i:=i) c
  refine ν (show(d.classes.map aF)[((i:Nat):Int).toNat]?=some (aF x)from by rw[Int.toNat_natCast,List.getElem?_map,hx];rfl) ?_
  refine Or.inl (And.intro (show i=(((d.classes.take i).map (·.name)).map T.str).length by simp;omega) (ε (pV (n:=i+1) (by omega)) ?_))
  refine δ (n:=((i+1:Nat):Int)) (aj (n:=i+1) (by omega)) ?_
  conv=>whnf
  exact⟨⟨i+1,c⟩,τ [0] rfl ⟨rfl,rfl,rfl,rfl,trivial⟩ ⟨congrArg (fun l=>some (Ω.arr 9 1 false 0 (.ts l))) (show(((d.classes.take i).map (·.name)).map T.str)++[T.str x.name]=(((d.classes.take (i+1)).map (·.name)).map T.str) by rw[List.take_add_one,hx];simp),trivial⟩,by show d.classes.length - (i+1)<d.classes.length - i;omega⟩
 ·have c:i=d.classes.length:=by have:=dm c;omega
  exact And.intro ⟨⟨_,rfl,rfl,by simp;omega,by rw[c,List.take_length];exact .refl _⟩,⟨_,_,rfl,.refl _⟩,trivial⟩ rfl
theorem QM(d:ο)(r:List T)(a:List cP)(hl:d.forms.length≤100000):φ Tryz.prog 114 [vc d r (a.map Λ),.int .i64 5] (.aq [.own 9 1 false ((d.forms.map (·.name)).map T.str),.t (.int .i64 512)]):=by
 refine φ.gy ?_ rfl
 refine γ.ξ ζ η Tryz.func114 rfl rfl ?_
 have hm:(d.forms.map ah).length=d.forms.length:=List.length_map _
 refine ao (fun i:Nat=>i≤d.forms.length) (fun i=>⟨[(6,.sl 0 0 0 i),(85,.t (.θ 5 (d.forms.map ah))),(86,.t (.int .i64 (d.forms.length:Int))),(87,.t (.int .i64 i))],[.arr 9 1 false 0 (.ts (((d.forms.take i).map (·.name)).map T.str))]⟩)
  (fun i=>d.forms.length - i) 0 (Nat.zero_le _) ?_ (fun i hi=> ?_)
 ·exact τ [2] rfl ⟨rfl,rfl,congrArg (fun n:Nat=>some (AV.t (.int .i64 (n:Int)))) hm,rfl,trivial⟩ ⟨rfl,trivial⟩
 have hi:i≤d.forms.length:=hi
 refine U (fun c=> ?_) (fun c=> ?_)
 ·have c:i<d.forms.length:=de c
  obtain⟨x,hx,_⟩:=get_some (R:=d.forms) (i:=i) c
  refine ν (show(d.forms.map ah)[((i:Nat):Int).toNat]?=some (ah x)from by rw[Int.toNat_natCast,List.getElem?_map,hx];rfl) ?_
  refine Or.inl (And.intro (show i=(((d.forms.take i).map (·.name)).map T.str).length by simp;omega) (ε (pV (n:=i+1) (by omega)) ?_))
  refine δ (n:=((i+1:Nat):Int)) (aj (n:=i+1) (by omega)) ?_
  conv=>whnf
  exact⟨⟨i+1,c⟩,τ [0] rfl ⟨rfl,rfl,rfl,rfl,trivial⟩ ⟨congrArg (fun l=>some (Ω.arr 9 1 false 0 (.ts l))) (show(((d.forms.take i).map (·.name)).map T.str)++[T.str x.name]=(((d.forms.take (i+1)).map (·.name)).map T.str) by rw[List.take_add_one,hx];simp),trivial⟩,by show d.forms.length - (i+1)<d.forms.length - i;omega⟩
 ·have c:i=d.forms.length:=by have:=dm c;omega
  exact And.intro ⟨⟨_,rfl,rfl,by simp;omega,by rw[c,List.take_length];exact .refl _⟩,⟨_,_,rfl,.refl _⟩,trivial⟩ rfl
theorem QL(d:ο)(r:List T)(a:List cP)(hl:d.aw.length≤100000):φ Tryz.prog 114 [vc d r (a.map Λ),.int .i64 6] (.aq [.own 9 1 false ((d.aw.map (·.name)).map T.str),.t (.int .i64 128)]):=by
 refine φ.gy ?_ rfl
 refine γ.ξ ζ η Tryz.func114 rfl rfl ?_
 have hm:(d.aw.map eT).length=d.aw.length:=List.length_map _
 refine ao (fun i:Nat=>i≤d.aw.length) (fun i=>⟨[(6,.sl 0 0 0 i),(102,.t (.θ 17 (d.aw.map eT))),(103,.t (.int .i64 (d.aw.length:Int))),(104,.t (.int .i64 i))],[.arr 9 1 false 0 (.ts (((d.aw.take i).map (·.name)).map T.str))]⟩)
  (fun i=>d.aw.length - i) 0 (Nat.zero_le _) ?_ (fun i hi=> ?_)
 ·exact τ [2] rfl ⟨rfl,rfl,congrArg (fun n:Nat=>some (AV.t (.int .i64 (n:Int)))) hm,rfl,trivial⟩ ⟨rfl,trivial⟩
 have hi:i≤d.aw.length:=hi
 refine U (fun c=> ?_) (fun c=> ?_)
 ·have c:i<d.aw.length:=de c
  obtain⟨x,hx,_⟩:=get_some (R:=d.aw) (i:=i) c
  refine ν (show(d.aw.map eT)[((i:Nat):Int).toNat]?=some (eT x)from by rw[Int.toNat_natCast,List.getElem?_map,hx];rfl) ?_
  refine Or.inl (And.intro (show i=(((d.aw.take i).map (·.name)).map T.str).length by simp;omega) (ε (pV (n:=i+1) (by omega)) ?_))
  refine δ (n:=((i+1:Nat):Int)) (aj (n:=i+1) (by omega)) ?_
  conv=>whnf
  exact⟨⟨i+1,c⟩,τ [0] rfl ⟨rfl,rfl,rfl,rfl,trivial⟩ ⟨congrArg (fun l=>some (Ω.arr 9 1 false 0 (.ts l))) (show(((d.aw.take i).map (·.name)).map T.str)++[T.str x.name]=(((d.aw.take (i+1)).map (·.name)).map T.str) by rw[List.take_add_one,hx];simp),trivial⟩,by show d.aw.length - (i+1)<d.aw.length - i;omega⟩
 ·have c:i=d.aw.length:=by have:=dm c;omega
  exact And.intro ⟨⟨_,rfl,rfl,by simp;omega,by rw[c,List.take_length];exact .refl _⟩,⟨_,_,rfl,.refl _⟩,trivial⟩ rfl
theorem QK(d:ο)(r:List T)(a:List cP)(hl:a.length≤100000):φ Tryz.prog 114 [vc d r (a.map Λ),.int .i64 7] (.aq [.own 9 1 false ((a.map (·.name)).map T.str),.t (.int .i64 6)]):=by
 refine φ.gy ?_ rfl
 refine γ.ξ ζ η Tryz.func114 rfl rfl ?_
 have hm:(a.map Λ).length=a.length:=List.length_map _
 refine ao (fun i:Nat=>i≤a.length) (fun i=>⟨[(6,.sl 0 0 0 i),(118,.t (.θ 2 (a.map Λ))),(119,.t (.int .i64 (a.length:Int))),(120,.t (.int .i64 i))],[.arr 9 1 false 0 (.ts (((a.take i).map (·.name)).map T.str))]⟩)
  (fun i=>a.length - i) 0 (Nat.zero_le _) ?_ (fun i hi=> ?_)
 ·exact τ [2] rfl ⟨rfl,rfl,congrArg (fun n:Nat=>some (AV.t (.int .i64 (n:Int)))) hm,rfl,trivial⟩ ⟨rfl,trivial⟩
 have hi:i≤a.length:=hi
 refine U (fun c=> ?_) (fun c=> ?_)
 ·have c:i<a.length:=de c
  obtain⟨x,hx,_⟩:=get_some (R:=a) (i:=i) c
  refine ν (show(a.map Λ)[((i:Nat):Int).toNat]?=some (Λ x)from by rw[Int.toNat_natCast,List.getElem?_map,hx];rfl) ?_
  refine Or.inl (And.intro (show i=(((a.take i).map (·.name)).map T.str).length by simp;omega) (ε (pV (n:=i+1) (by omega)) ?_))
  refine δ (n:=((i+1:Nat):Int)) (aj (n:=i+1) (by omega)) ?_
  conv=>whnf
  exact⟨⟨i+1,c⟩,τ [0] rfl ⟨rfl,rfl,rfl,rfl,trivial⟩ ⟨congrArg (fun l=>some (Ω.arr 9 1 false 0 (.ts l))) (show(((a.take i).map (·.name)).map T.str)++[T.str x.name]=(((a.take (i+1)).map (·.name)).map T.str) by rw[List.take_add_one,hx];simp),trivial⟩,by show a.length - (i+1)<a.length - i;omega⟩
 ·have c:i=a.length:=by have:=dm c;omega
  exact And.intro ⟨⟨_,rfl,rfl,by simp;omega,by rw[c,List.take_length];exact .refl _⟩,⟨_,_,rfl,.refl _⟩,trivial⟩ rfl
theorem QJ(d:ο)(r:List T)(a:List cP)(hl:d.aT.length≤100000):φ Tryz.prog 114 [vc d r (a.map Λ),.int .i64 8] (.aq [.own 9 1 false ((d.aT.map (·.name)).map T.str),.t (.int .i64 64)]):=by
 refine φ.gy ?_ rfl
 refine γ.ξ ζ η Tryz.func114 rfl rfl ?_
 have hm:(d.aT.map fK).length=d.aT.length:=List.length_map _
 refine ao (fun i:Nat=>i≤d.aT.length) (fun i=>⟨[(6,.sl 0 0 0 i),(135,.t (.θ 2 (d.aT.map fK))),(136,.t (.int .i64 (d.aT.length:Int))),(137,.t (.int .i64 i))],[.arr 9 1 false 0 (.ts (((d.aT.take i).map (·.name)).map T.str))]⟩)
  (fun i=>d.aT.length - i) 0 (Nat.zero_le _) ?_ (fun i hi=> ?_)
 ·exact τ [2] rfl ⟨rfl,rfl,congrArg (fun n:Nat=>some (AV.t (.int .i64 (n:Int)))) hm,rfl,trivial⟩ ⟨rfl,trivial⟩
 have hi:i≤d.aT.length:=hi
 refine U (fun c=> ?_) (fun c=> ?_)
 ·have c:i<d.aT.length:=de c
  obtain⟨x,hx,_⟩:=get_some (R:=d.aT) (i:=i) c
  refine ν (show(d.aT.map fK)[((i:Nat):Int).toNat]?=some (fK x)from by rw[Int.toNat_natCast,List.getElem?_map,hx];rfl) ?_
  refine Or.inl (And.intro (show i=(((d.aT.take i).map (·.name)).map T.str).length by simp;omega) (ε (pV (n:=i+1) (by omega)) ?_))
  refine δ (n:=((i+1:Nat):Int)) (aj (n:=i+1) (by omega)) ?_
  conv=>whnf
  exact⟨⟨i+1,c⟩,τ [0] rfl ⟨rfl,rfl,rfl,rfl,trivial⟩ ⟨congrArg (fun l=>some (Ω.arr 9 1 false 0 (.ts l))) (show(((d.aT.take i).map (·.name)).map T.str)++[T.str x.name]=(((d.aT.take (i+1)).map (·.name)).map T.str) by rw[List.take_add_one,hx];simp),trivial⟩,by show d.aT.length - (i+1)<d.aT.length - i;omega⟩
 ·have c:i=d.aT.length:=by have:=dm c;omega
  exact And.intro ⟨⟨_,rfl,rfl,by simp;omega,by rw[c,List.take_length];exact .refl _⟩,⟨_,_,rfl,.refl _⟩,trivial⟩ rfl
theorem QI(d:ο)(r:List T)(a:List cP)(hl:d.aQ.length≤100000):φ Tryz.prog 114 [vc d r (a.map Λ),.int .i64 9] (.aq [.own 9 1 false ((d.aQ.map (·.name)).map T.str),.t (.int .i64 64)]):=by
 refine φ.gy ?_ rfl
 refine γ.ξ ζ η Tryz.func114 rfl rfl ?_
 have hm:(d.aQ.map bz).length=d.aQ.length:=List.length_map _
 refine ao (fun i:Nat=>i≤d.aQ.length) (fun i=>⟨[(6,.sl 0 0 0 i),(150,.t (.θ 3 (d.aQ.map bz))),(151,.t (.int .i64 (d.aQ.length:Int))),(152,.t (.int .i64 i))],[.arr 9 1 false 0 (.ts (((d.aQ.take i).map (·.name)).map T.str))]⟩)
  (fun i=>d.aQ.length - i) 0 (Nat.zero_le _) ?_ (fun i hi=> ?_)
 ·exact τ [2] rfl ⟨rfl,rfl,congrArg (fun n:Nat=>some (AV.t (.int .i64 (n:Int)))) hm,rfl,trivial⟩ ⟨rfl,trivial⟩
 have hi:i≤d.aQ.length:=hi
 refine U (fun c=> ?_) (fun c=> ?_)
 ·have c:i<d.aQ.length:=de c
  obtain⟨x,hx,_⟩:=get_some (R:=d.aQ) (i:=i) c
  refine ν (show(d.aQ.map bz)[((i:Nat):Int).toNat]?=some (bz x)from by rw[Int.toNat_natCast,List.getElem?_map,hx];rfl) ?_
  refine Or.inl (And.intro (show i=(((d.aQ.take i).map (·.name)).map T.str).length by simp;omega) (ε (pV (n:=i+1) (by omega)) ?_))
  refine δ (n:=((i+1:Nat):Int)) (aj (n:=i+1) (by omega)) ?_
  conv=>whnf
  exact⟨⟨i+1,c⟩,τ [0] rfl ⟨rfl,rfl,rfl,rfl,trivial⟩ ⟨congrArg (fun l=>some (Ω.arr 9 1 false 0 (.ts l))) (show(((d.aQ.take i).map (·.name)).map T.str)++[T.str x.name]=(((d.aQ.take (i+1)).map (·.name)).map T.str) by rw[List.take_add_one,hx];simp),trivial⟩,by show d.aQ.length - (i+1)<d.aQ.length - i;omega⟩
 ·have c:i=d.aQ.length:=by have:=dm c;omega
  exact And.intro ⟨⟨_,rfl,rfl,by simp;omega,by rw[c,List.take_length];exact .refl _⟩,⟨_,_,rfl,.refl _⟩,trivial⟩ rfl
end Go.Proofs.YtcogcbplmkcojaaGreatDoor
namespace Go.Proofs.YtcogcbplmkcojaaGreatDoor
open Go.IntWalk
set_option maxRecDepth 100000
set_option linter.unusedVariables false
set_option linter.unusedSimpArgs false
set_option maxHeartbeats 2000000
def Ks:Ord:=(.op 0 [] (.op 1 [0] (.op 2 [0] (.op 3 [0] (.op 5 [3,2,1,0] (.op 6 [3,2,1,0] (.op 4 [6,5] (.op 7 [6,5] (.op 8 [] .nil)))))))))
def Bg:Ord:=(.op 0 [] (.op 1 [0] (.op 2 [1,0] (.op 3 [0] (.op 4 [0] (.op 5 [] (.op 6 [] .nil)))))))
theorem jI{s s':PS}{w:List UInt8}(h:bL s=some (s',w)):∃r,s.rest= .word w::r∧s'=⟨s.d,r,s.args⟩:=by
 unfold bL at h
 split at h
 ·simp only[Option.some.injEq,Prod.mk.injEq]at h
  obtain⟨rfl,rfl⟩:=h
  exact⟨_,by assumption,rfl⟩
 ·cases h
theorem m6{s s':PS}{w:List UInt8}(h:rT s=some (s',w)):∃r,s.rest= .text w::r∧s'=⟨s.d,r,s.args⟩:=by
 unfold rT at h
 split at h
 ·simp only[Option.some.injEq,Prod.mk.injEq]at h
  obtain⟨rfl,rfl⟩:=h
  exact⟨_,by assumption,rfl⟩
 ·cases h
theorem jD{s s':PS}{n:Int}(h:mC s=some (s',n)):∃r,s.rest= .num n::r∧s'=⟨s.d,r,s.args⟩:=by
 unfold mC at h
 split at h
 ·simp only[Option.some.injEq,Prod.mk.injEq]at h
  obtain⟨rfl,rfl⟩:=h
  exact⟨_,by assumption,rfl⟩
 ·cases h
theorem sc{s s':PS}{n:Int}(h:cK s=some (s',n)):∃r,s.rest= .num n::r∧s'=⟨s.d,r,s.args⟩∧0≤n∧n≤1000000000000000000:=by
 unfold cK at h
 split at h
 ·rename_i m r hr
  cases hb:Nat.ble m 1000000000000000000 with
  |false=>rw[hb]at h;cases h
  |true=>
   rw[hb]at h
   simp only[Option.some.injEq,Prod.mk.injEq]at h
   obtain⟨rfl,rfl⟩:=h
   have hb:=Nat.le_of_ble_eq_true hb
   exact⟨_,hr,rfl,Int.natCast_nonneg _,by show(m:Int)≤1000000000000000000;omega⟩
 ·cases h
theorem aN{s s':PS}{r:List ay}(h:dl s=some (s',r)):∃l,s.rest= .list l::r∧s'=⟨s.d,l,s.args⟩:=by
 unfold dl at h
 split at h
 ·simp only[Option.some.injEq,Prod.mk.injEq]at h
  obtain⟨rfl,rfl⟩:=h
  exact⟨_,by assumption,rfl⟩
 ·cases h
theorem EA{s:PS}(h:aP s=true):s.rest=[]:=by
 unfold aP at h
 split at h
 ·assumption
 ·cases h
theorem bH{s s':PS}{w:List UInt8}(h:bL s=some (s',w)):γ Tryz.prog 49 [eg s] (dH s.d) (fun v H=>v= .aq [eg s',.t (.str w)]∧H=dH s.d):=by
 obtain⟨r,hr,rfl⟩:=jI h
 obtain⟨d,rest,a⟩:=s
 obtain rfl:rest=_:=hr
 refine bM ?_
 refine γ.ξ ζ η Tryz.func49 rfl rfl ?_
 refine ι (dG d 1 w 0 [] (Δ r) (a.map Λ) (.inr rfl)) (by rfl) (by rfl) ?_
 refine aE (dB 12 [1,2]) Kt (by decide+kernel) ?_
 refine And.intro (fun j hj=>by simp only[List.mem_cons,List.not_mem_nil,or_false]at hj;rcases hj with rfl|rfl<;>exact χ.set (b:=12) _ (List.mem_singleton.2 rfl)) ?_
 refine And.intro (fun j hj=>by cases hj) ?_
 refine ae ?_ ?_
 ·exact⟨rfl,trivial⟩
 ·exact⟨rfl,rfl,rfl,rfl,rfl,rfl,rfl,rfl,rfl,rfl,rfl,trivial⟩
theorem cD{s s':PS}{r:List ay}(h:dl s=some (s',r)):γ Tryz.prog 48 [eg s] (dH s.d) (fun v H=>v= .aq [eg s',.t (.θ 4 (Δ r))]∧H=dH s.d):=by
 obtain⟨l,hr,rfl⟩:=aN h
 obtain⟨d,rest,a⟩:=s
 obtain rfl:rest=_:=hr
 refine bM ?_
 refine γ.ξ ζ η Tryz.func48 rfl rfl ?_
 refine ι (dG d 4 [] 0 (Δ l) (Δ r) (a.map Λ) (.inr rfl)) (by rfl) (by rfl) ?_
 refine ae ?_ ?_
 ·exact⟨rfl,trivial⟩
 ·exact⟨rfl,rfl,rfl,rfl,rfl,rfl,rfl,rfl,rfl,rfl,rfl,trivial⟩
theorem di{s s':PS}{n:Int}(h:cK s=some (s',n)):γ Tryz.prog 54 [eg s] (dH s.d) (fun v H=>v= .aq [eg s',.t (.int .i64 n)]∧H=dH s.d):=by
 obtain⟨r,hr,rfl,hn,_⟩:=sc h
 obtain⟨d,rest,a⟩:=s
 obtain rfl:rest=_:=hr
 refine bM ?_
 refine γ.ξ ζ η Tryz.func54 rfl rfl ?_
 refine ι (dG d 2 [] n [] (Δ r) (a.map Λ) (.inr rfl)) (by rfl) (by rfl) ?_
 refine aE (dB 12 [5,6]) Ks (by decide+kernel) ?_
 refine ι (Φ d _ _ ?hb 41) (by rfl) (by rfl) ?_
 case hb=>simp;omega
 refine And.intro (fun j hj=>χ.refl _ _) ?_
 refine And.intro (fun j hj=>by simp only[List.mem_cons,List.not_mem_nil,or_false]at hj;rcases hj with rfl|rfl<;>exact χ.set (b:=12) _ (List.mem_singleton.2 rfl)) ?_
 refine And.intro (fun j hj=>by cases hj) ?_
 refine ae ?_ ?_
 ·exact⟨rfl,trivial⟩
 ·exact⟨rfl,rfl,rfl,rfl,rfl,rfl,rfl,rfl,rfl,rfl,rfl,trivial⟩
theorem c_{s:PS}(h:aP s=true):γ Tryz.prog 61 [eg s] (dH s.d) (fun v H=>v=eg s∧H=dH s.d):=by
 have hr:=EA h
 obtain⟨d,rest,a⟩:=s
 obtain rfl:rest=_:=hr
 refine bM ?_
 refine γ.ξ ζ η Tryz.func61 rfl rfl ?_
 refine ι (Φ d _ _ ?hb 41) (by rfl) (by rfl) ?_
 case hb=>simp[Δ]
 refine ae ?_ ?_
 ·exact⟨rfl,trivial⟩
 ·exact⟨rfl,rfl,rfl,rfl,rfl,rfl,rfl,rfl,rfl,rfl,rfl,trivial⟩
theorem zn(w:List UInt8):∀v:List UInt8,ky v (w.map (·.toNat))=(v==w):=by
 induction w with
 |nil=>intro v;cases v<;>rfl
 |cons c w ih=>
  intro v
  cases v with
  |nil=>rfl
  |cons x v=>
   simp only[List.map_cons,ky]
   by_cases h:x.toNat=c.toNat
   ·have h2:x=c:=UInt8.toNat.inj h
    subst h2
    rw[Nat.beq_refl]
    simp[ih v]
   ·have:Nat.beq x.toNat c.toNat=false:=by
     cases hb:Nat.beq x.toNat c.toNat
     ·rfl
     ·exact absurd (Nat.eq_of_beq_eq_true hb) h
    rw[this]
    have h2:¬x=c:=fun e=>h (by rw[e])
    simp[h2]
theorem fh{n:Nat}:decide (((n+1:Nat):Int)>0)=true:=decide_eq_true (by omega)
theorem lm(s:PS)(w:List UInt8)(wn:List Nat)(hw:w.map (·.toNat)=wn):γ Tryz.prog 113 [eg s,.t (.str w)] (dH s.d) (fun v H=>v= .t (.bool (ej s wn))∧H=dH s.d):=by
 obtain⟨d,rest,a⟩:=s
 subst hw
 refine bM ?_
 refine γ.ξ ζ η Tryz.func113 rfl rfl ?_
 cases rest with
 |nil=>
  refine ae ?_ ?_
  ·exact⟨rfl,trivial⟩
  ·exact⟨rfl,rfl,rfl,rfl,rfl,rfl,rfl,rfl,rfl,rfl,rfl,trivial⟩
 |cons t r=>
  refine U (fun c=> ?_) (fun c=>absurd (fh.symm.trans c) (by decide))
  cases t with
  |word v=>
   refine ae ?_ ?_
   ·exact⟨congrArg (fun b=>some (AV.t (T.bool b))) (show(v==w)=ky v (w.map (·.toNat))from(zn w v).symm),trivial⟩
   ·exact⟨rfl,rfl,rfl,rfl,rfl,rfl,rfl,rfl,rfl,rfl,rfl,trivial⟩
  |num n=>
   refine ae ?_ ?_
   ·exact⟨rfl,trivial⟩
   ·exact⟨rfl,rfl,rfl,rfl,rfl,rfl,rfl,rfl,rfl,rfl,rfl,trivial⟩
  |text v=>
   refine ae ?_ ?_
   ·exact⟨rfl,trivial⟩
   ·exact⟨rfl,rfl,rfl,rfl,rfl,rfl,rfl,rfl,rfl,rfl,rfl,trivial⟩
  |list l=>
   refine ae ?_ ?_
   ·exact⟨rfl,trivial⟩
   ·exact⟨rfl,rfl,rfl,rfl,rfl,rfl,rfl,rfl,rfl,rfl,rfl,trivial⟩
theorem xI{α β:Type}(f:α→β)(l:List α):((l.map f).drop 0).take l.length=l.map f:=by rw[List.drop_zero,List.take_of_length_le (by simp)]
theorem JB(d:ο)(r a:List T):T.agg [.str d.name,.int .i64 d.order,.θ 4 (((d.files.map ec).drop 0).take d.files.length),.θ 3 (((d.ag.map bz).drop 0).take d.ag.length),.θ 1 (((d.flags.map T.str).drop 0).take d.flags.length),.θ 7 (((d.classes.map aF).drop 0).take d.classes.length),.θ 5 (((d.forms.map ah).drop 0).take d.forms.length),.θ 17 (((d.aw.map eT).drop 0).take d.aw.length),.θ 4 (((d.uses.map gf).drop 0).take d.uses.length),.θ 3 (((d.av.map cX).drop 0).take d.av.length),.θ 3 (((d.macros.map dv).drop 0).take d.macros.length),.θ 2 (((d.aT.map fK).drop 0).take d.aT.length),.θ 3 (((d.aQ.map bz).drop 0).take d.aQ.length),.θ 4 r,.θ 2 a,.int .i64 0]=vc d r a:=by
 unfold vc
 simp only[xI]
theorem jK(k:Nat)(l:List T):a9 (.vec k ((l.drop 0).take l.length)) (.θ k l):=by
 rw[List.drop_zero,List.take_length];exact .vec k l
theorem zj(N:List (List UInt8))(m:Int):Flat (.aq [.own 9 1 false (N.map T.str),.t (.int .i64 m)]):=
 ⟨fun x hx=>(by obtain⟨s,_,rfl⟩:=List.mem_map.1 hx;rfl),rfl,trivial⟩
def cV(s:PS):Prop:=s.d.files.length≤100000∧s.d.ag.length≤100000∧s.d.flags.length≤100000∧s.d.classes.length≤100000∧s.d.forms.length≤100000∧s.d.aw.length≤100000∧s.d.aT.length≤100000∧s.d.aQ.length≤100000∧s.args.length≤100000
theorem Dr(s:PS)(hs:cV s)(k:Nat)(hk:1≤k∧k≤9∧k≠3):φ Tryz.prog 114 [vc s.d (Δ s.rest) (s.args.map Λ),.int .i64 k] (.aq [.own 9 1 false ((bO s k).map T.str),.t (.int .i64 (en k))])∧(bO s k).length≤100000:=by
 obtain⟨h1,h2,h3,h4,h5,h6,h8,h9,h7⟩:=hs
 have:k=1∨k=2∨k=4∨k=5∨k=6∨k=7∨k=8∨k=9:=by omega
 rcases this with rfl|rfl|rfl|rfl|rfl|rfl|rfl|rfl
 ·exact⟨QP s.d _ s.args h1,by simp only[bO,List.length_map];exact h1⟩
 ·exact⟨QO s.d _ s.args h2,by simp only[bO,List.length_map];exact h2⟩
 ·exact⟨QN s.d _ s.args h4,by simp only[bO,List.length_map];exact h4⟩
 ·exact⟨QM s.d _ s.args h5,by simp only[bO,List.length_map];exact h5⟩
 ·exact⟨QL s.d _ s.args h6,by simp only[bO,List.length_map];exact h6⟩
 ·exact⟨QK s.d _ s.args h7,by simp only[bO,List.length_map];exact h7⟩
 ·exact⟨QJ s.d _ s.args h8,by simp only[bO,List.length_map];exact h8⟩
 ·exact⟨QI s.d _ s.args h9,by simp only[bO,List.length_map];exact h9⟩
theorem t_(s:PS)(hs:cV s){k:Nat}(hk:1≤k∧k≤9∧k≠3){w:List UInt8}{i:Nat}(hi:nc s k w=some i):γ Tryz.prog 115 [eg s,.t (.int .i64 k),.t (.str w)] (dH s.d) (fun v H=>v= .aq [eg s,.t (.int .i64 i)]∧H=dH s.d):=by
 obtain⟨hN,hl⟩:=Dr s hs k hk
 obtain⟨N,Eg⟩:∃N,N=bO s k:=⟨_,rfl⟩
 have he:gB w N=(i:Int):=by unfold gB;rw[Eg,show jw w 0 (bO s k)=some i from hi]
 have hX:=cT N w (by rw[Eg];omega)
 rw[←Eg]at hN hl
 rw[he]at hX
 obtain⟨oD,hm⟩:∃m:Int,m=en k:=⟨_,rfl⟩
 rw[←hm]at hN
 obtain⟨d,rest,a⟩:=s
 refine bM ?_
 refine γ.ξ ζ η Tryz.func115 rfl rfl ?_
 refine γ.cx hN rfl ⟨.of_eq (JB _ _ _),.refl _,trivial⟩ (zj _ _) ?_
 refine γ.cx hX rfl ⟨jK 1 _,.refl _,trivial⟩ rfl ?_
 refine ι (Φ d _ _ ?hb 42) (by rfl) (by rfl) ?_
 case hb=>simp
 refine ae ?_ ?_
 ·exact⟨rfl,trivial⟩
 ·exact⟨rfl,rfl,rfl,rfl,rfl,rfl,rfl,rfl,rfl,rfl,rfl,trivial⟩
theorem pc{s s':PS}{k i:Nat}(h:bY s k=some (s',i)):∃w,bL s=some (s',w)∧nc s' k w=some i:=by
 unfold bY at h
 split at h
 ·split at h
  ·rename_i e1 _ _ e2
   cases h
   exact⟨_,e1,e2⟩
  ·cases h
 ·cases h
theorem aS{s s':PS}{w:List UInt8}(h:bL s=some (s',w)):s'.d=s.d∧s'.args=s.args:=by
 obtain⟨r,_,rfl⟩:=jI h;exact⟨rfl,rfl⟩
theorem cV.same{s s':PS}(h:cV s)(e:s'.d=s.d∧s'.args=s.args):cV s':=by unfold cV;rw[e.1,e.2];exact h
theorem Bl(s:PS):γ Tryz.prog 114 [eg s,.t (.int .i64 3)] (dH s.d) (fun v H=>v= .aq [.sl 2 0 0 s.d.flags.length,.t (.int .i64 16)]∧H=dH s.d):=by
 obtain⟨d,rest,a⟩:=s
 refine bM ?_
 refine γ.ξ ζ η Tryz.func114 rfl rfl ?_
 refine ae ?_ ?_
 ·exact⟨rfl,trivial⟩
 ·exact⟨rfl,rfl,rfl,rfl,rfl,rfl,rfl,rfl,rfl,rfl,rfl,trivial⟩
theorem AW(k:Nat)(f:List UInt8→T)(l:List (List UInt8)):a9 (.θ k (((l.map f).drop 0).take l.length)) (.θ k (l.map f)):=by
 rw[xI];exact .refl _
theorem Ky(s:PS)(hs:cV s){w:List UInt8}{i:Nat}(hi:nc s 3 w=some i):γ Tryz.prog 115 [eg s,.t (.int .i64 3),.t (.str w)] (dH s.d) (fun v H=>v= .aq [eg s,.t (.int .i64 i)]∧H=dH s.d):=by
 have he:gB w s.d.flags=(i:Int):=by unfold gB;rw[show jw w 0 s.d.flags=some i from hi]
 have hX:=cT s.d.flags w (by have:=hs.2.2.1;omega)
 rw[he]at hX
 have hN:=Bl s
 obtain⟨d,rest,a⟩:=s
 refine bM ?_
 refine γ.ξ ζ η Tryz.func115 rfl rfl ?_
 refine ι hN (by rfl) (by rfl) ?_
 refine γ.cx hX rfl ⟨AW 1 T.str _,.refl _,trivial⟩ rfl ?_
 refine ι (Φ d _ _ ?hb 42) (by rfl) (by rfl) ?_
 case hb=>simp
 refine ae ?_ ?_
 ·exact⟨rfl,trivial⟩
 ·exact⟨rfl,rfl,rfl,rfl,rfl,rfl,rfl,rfl,rfl,rfl,rfl,trivial⟩
theorem vC(s:PS)(hs:cV s){k:Nat}(hk:1≤k∧k≤9){w:List UInt8}{i:Nat}(hi:nc s k w=some i):γ Tryz.prog 115 [eg s,.t (.int .i64 k),.t (.str w)] (dH s.d) (fun v H=>v= .aq [eg s,.t (.int .i64 i)]∧H=dH s.d):=by
 by_cases h3:k=3
 ·subst h3;exact Ky s hs hi
 ·exact t_ s hs ⟨hk.1,hk.2,h3⟩ hi
theorem er{s s':PS}(hs:cV s){k:Nat}(hk:1≤k∧k≤9){i:Nat}(h:bY s k=some (s',i)):γ Tryz.prog 53 [eg s,.t (.int .i64 k)] (dH s.d) (fun v H=>v= .aq [eg s',.t (.int .i64 i)]∧H=dH s.d):=by
 obtain⟨w,hw,hi⟩:=pc h
 have hW:=bH hw
 have hN:=vC s' (hs.same (aS hw)) hk hi
 rw[(aS hw).1]at hN
 obtain⟨r,hr,rfl⟩:=jI hw
 obtain⟨d,rest,a⟩:=s
 refine bM ?_
 refine γ.ξ ζ η Tryz.func53 rfl rfl ?_
 refine ι hW (by rfl) (by rfl) ?_
 refine ι hN (by rfl) (by rfl) ?_
 refine ae ?_ ?_
 ·exact⟨rfl,trivial⟩
 ·exact⟨rfl,rfl,rfl,rfl,rfl,rfl,rfl,rfl,rfl,rfl,rfl,trivial⟩
theorem dg{s s':PS}{k:Nat}{w:List UInt8}(h:dJ s k=some (s',w)):bL s=some (s',w)∧jw w 0 (bO s' k)=none∧(bO s' k).length<en k:=by
 unfold dJ at h
 split at h
 ·rename_i e1
  split at h
  ·cases h
  ·rename_i e2
   split at h
   ·rename_i e3
    cases h
    exact⟨e1,e2,by rwa [Nat.blt_eq]at e3⟩
   ·cases h
 ·cases h
theorem fT{s s':PS}(hs:cV s){k:Nat}(hk:1≤k∧k≤9){w:List UInt8}(h:dJ s k=some (s',w)):γ Tryz.prog 52 [eg s,.t (.int .i64 k)] (dH s.d) (fun v H=>v= .aq [eg s',.t (.str w)]∧H=dH s.d):=by
 obtain⟨hw,hi,ω⟩:=dg h
 have hW:=bH hw
 have aK:=hs.same (aS hw)
 by_cases h3:k=3
 ·subst h3
  have he:gB w s'.d.flags= -1:=by unfold gB;rw[show jw w 0 s'.d.flags=none from hi]
  have hX:=cT s'.d.flags w (by have:=aK.2.2.1;omega)
  rw[he]at hX
  have hN:=Bl s'
  have ω:s'.d.flags.length<16:=ω
  obtain⟨r,hr,rfl⟩:=jI hw
  obtain⟨d,rest,a⟩:=s
  refine bM ?_
  refine γ.ξ ζ η Tryz.func52 rfl rfl ?_
  refine ι hW (by rfl) (by rfl) ?_
  refine ι hN (by rfl) (by rfl) ?_
  refine υ Bg (by decide+kernel) ?_
  refine γ.cx hX rfl ⟨AW 1 T.str _,.refl _,trivial⟩ rfl ?_
  refine And.intro (fun j hj=>χ.refl _ _) ?_
  refine ι (Φ d _ _ ?hb 42) (by rfl) (by rfl) ?_
  case hb=>rfl
  refine And.intro (fun j hj=>by cases hj) ?_
  refine And.intro (fun j hj=>by cases hj) ?_
  refine ι (Φ d _ _ ?hb 43) (by rfl) (by rfl) ?_
  case hb=>exact decide_eq_false (by have:d.flags.length<16:=ω;omega)
  refine ae ?_ ?_
  ·exact⟨rfl,trivial⟩
  ·exact⟨rfl,rfl,rfl,rfl,rfl,rfl,rfl,rfl,rfl,rfl,rfl,trivial⟩
 ·obtain⟨hN,hl⟩:=Dr s' aK k ⟨hk.1,hk.2,h3⟩
  obtain⟨N,Eg⟩:∃N,N=bO s' k:=⟨_,rfl⟩
  have he:gB w N= -1:=by unfold gB;rw[Eg,hi]
  have hX:=cT N w (by rw[Eg];omega)
  rw[←Eg]at hN hl ω
  rw[he]at hX
  obtain⟨oD,hm⟩:∃m:Int,m=en k:=⟨_,rfl⟩
  rw[←hm]at hN
  obtain⟨r,hr,rfl⟩:=jI hw
  obtain⟨d,rest,a⟩:=s
  refine bM ?_
  refine γ.ξ ζ η Tryz.func52 rfl rfl ?_
  refine ι hW (by rfl) (by rfl) ?_
  refine γ.cx hN rfl ⟨.of_eq (JB _ _ _),.refl _,trivial⟩ (zj _ _) ?_
  refine υ Bg (by decide+kernel) ?_
  refine γ.cx hX rfl ⟨jK 1 _,.refl _,trivial⟩ rfl ?_
  refine And.intro (fun j hj=>χ.refl _ _) ?_
  refine ι (Φ d _ _ ?hb 42) (by rfl) (by rfl) ?_
  case hb=>rfl
  refine And.intro (fun j hj=>by cases hj) ?_
  refine And.intro (fun j hj=>by cases hj) ?_
  refine ι (Φ d _ _ ?hb 43) (by rfl) (by rfl) ?_
  case hb=>exact decide_eq_false (by have:(N.map T.str).length=N.length:=List.length_map _;omega)
  refine ae ?_ ?_
  ·exact⟨rfl,trivial⟩
  ·exact⟨rfl,rfl,rfl,rfl,rfl,rfl,rfl,rfl,rfl,rfl,rfl,trivial⟩
end Go.Proofs.YtcogcbplmkcojaaGreatDoor
namespace Go.Proofs.YtcogcbplmkcojaaGreatDoor
open Go.IntWalk
set_option maxRecDepth 100000
set_option linter.unusedVariables false
set_option linter.unusedSimpArgs false
set_option maxHeartbeats 4000000
def sa:Ord:=(.op 0 [] (.op 2 [0] (.op 1 [2] (.op 3 [2] (.op 4 [] .nil)))))
def yG:Ord:=(.op 0 [] (.op 1 [0] (.op 2 [1] (.op 3 [] .nil))))
theorem pt{k0:Nat}{r X:AV}{H:AH}(hX:eM [] H H r X):aB k0 ⟨[(0,r)],H⟩ ⟨[(0,X)],H⟩:=by
 refine ja [] rfl (fun b aA hb=> .inr ⟨by simp,aA,hb,.same _⟩) (fun t=> ?_)
 rw[fB,fB]
 by_cases ht:0=t
 ·rw[if_pos ht,if_pos ht];exact .inr hX
 ·rw[if_neg ht,if_neg ht];exact .inl rfl
theorem kC{k0:Nat}{r X:AV}{H:AH}(b:Nat)(hX:eM [b] H (H.set b .dead) r X):aB k0 ⟨[(0,r)],H⟩ ⟨[(0,X)],H.set b .dead⟩:=by
 refine ja [b] (by simp) (fun b' aA hb=> ?_) (fun t=> ?_)
 ·have hb:(H.set b .dead)[b']?=some aA:=hb
  rw[List.getElem?_set]at hb
  split at hb
  ·split at hb
   ·exact .inl (Option.some.inj hb).symm
   ·cases hb
  ·next h=>exact .inr ⟨by simp;exact fun e=>h e.symm,aA,hb,.same _⟩
 ·rw[fB,fB]
  by_cases ht:0=t
  ·rw[if_pos ht,if_pos ht];exact .inr hX
  ·rw[if_neg ht,if_neg ht];exact .inl rfl
theorem iH{ids:List Nat}{H H':AH}{a b b':AV}(h:eM ids H H' b b'):eM ids H H' (.aq [a,b]) (.aq [a,b']):=
 .aq _ _ rfl fun i x x' hx aC=>by
  match i with
  |0=>cases hx;cases aC;exact .same _
  |1=>cases hx;cases aC;exact h
  |i+2=>cases hx
theorem lY{ids:List Nat}{H H':AH}{a b c d y y':AV}(h:eM ids H H' y y'):eM ids H H' (.agg [a,b,c,d,y]) (.agg [a,b,c,d,y']):=
 .agg _ _ rfl fun i x x' hx aC=>by
  match i with
  |0=>cases hx;cases aC;exact .same _
  |1=>cases hx;cases aC;exact .same _
  |2=>cases hx;cases aC;exact .same _
  |3=>cases hx;cases aC;exact .same _
  |4=>cases hx;cases aC;exact h
  |i+5=>cases hx
def AX(op w a b:Int)(ks:List T):List AV:=[.t (.int .i64 op),.t (.int .i64 w),.t (.int .i64 a),.t (.int .i64 b),.t (.θ 5 ks)]
def CF(op w a b:Int):List AV:=[.t (.int .i64 op),.t (.int .i64 w),.t (.int .i64 a),.t (.int .i64 b),.t .af]
def bN(f:FuncId)(s s':PS)(op w a b:Int)(ks:List T):Prop:=γ Tryz.prog f [eg s] (dH s.d) (fun v H=>v= .aq [eg s',.agg (AX op w a b ks)]∧H=dH s.d)
def aa(s s':PS):Prop:=s'.d=s.d∧s'.args=s.args
theorem aa.trans{s t u:PS}(h:aa s t)(k:aa t u):aa s u:=⟨k.1.trans h.1,k.2.trans h.2⟩
theorem Sf(s:PS)(op w a b:Int)(he:aP s=true):
 γ Tryz.prog 163 [eg s,.agg (CF op w a b),.t (.int .i64 0)] (dH s.d) (fun v H=>v= .aq [eg s,.agg (AX op w a b [])]∧H=dH s.d):=by
 have hE:=c_ he
 obtain⟨d,r0,g0⟩:=s
 refine bM ?_
 refine γ.ξ ζ η Tryz.func163 rfl rfl ?_
 refine bh 1 ?_
 refine aE (dB 13 [2]) sa (by decide+kernel) ?_
 refine ι hE (by rfl) (by rfl) ?_
 refine And.intro (fun j hj=>χ.refl _ _) ?_
 refine And.intro (fun j hj=>by rw[List.mem_singleton.1 hj];exact χ.set (b:=13) _ (List.mem_singleton.2 rfl)) ?_
 refine And.intro (fun j hj=>by cases hj) ?_
 refine aB.trans (pt (iH (lY (.sub _ _ (.af 5))))) (ae ?_ ?_)
 ·exact⟨rfl,trivial⟩
 ·exact⟨rfl,rfl,rfl,rfl,rfl,rfl,rfl,rfl,rfl,rfl,rfl,trivial⟩
theorem Se(s:PS){t1:PS}(op w a b:Int){o1 w1 a1 b1:Int}{l1:List T}(h1:bN 162 s t1 o1 w1 a1 b1 l1)(e1:t1.d=s.d)(he:aP t1=true):
 γ Tryz.prog 163 [eg s,.agg (CF op w a b),.t (.int .i64 1)] (dH s.d) (fun v H=>v= .aq [eg t1,.agg (AX op w a b [eh o1 w1 a1 b1 l1])]∧H=dH s.d):=by
 have hE:=c_ he
 unfold bN at h1
 obtain⟨d,r0,g0⟩:=s
 obtain⟨d1,r1,g1⟩:=t1
 obtain rfl:d=d1:=e1.symm
 refine bM ?_
 refine γ.ξ ζ η Tryz.func163 rfl rfl ?_
 refine bh 2 ?_
 refine ι h1 (by rfl) (by rfl) ?_
 refine aE (dB 13 [2]) sa (by decide+kernel) ?_
 refine ι hE (by rfl) (by rfl) ?_
 refine And.intro (fun j hj=>χ.refl _ _) ?_
 refine And.intro (fun j hj=>by rw[List.mem_singleton.1 hj];exact χ.set (b:=13) _ (List.mem_singleton.2 rfl)) ?_
 refine And.intro (fun j hj=>by cases hj) ?_
 refine aB.trans (kC 18 (iH (lY (.eU _ _ _ [18] 32 rfl (.refl _) (fun b hb=>hb))))) (ae ?_ ?_)
 ·exact⟨rfl,trivial⟩
 ·exact⟨rfl,rfl,rfl,rfl,rfl,rfl,rfl,rfl,rfl,rfl,rfl,trivial⟩
theorem Sd(s:PS){t1:PS}{t2:PS}(op w a b:Int){o1 w1 a1 b1:Int}{l1:List T}(h1:bN 162 s t1 o1 w1 a1 b1 l1)(e1:t1.d=s.d){o2 w2 a2 b2:Int}{l2:List T}(h2:bN 162 t1 t2 o2 w2 a2 b2 l2)(e2:t2.d=s.d)(he:aP t2=true):
 γ Tryz.prog 163 [eg s,.agg (CF op w a b),.t (.int .i64 2)] (dH s.d) (fun v H=>v= .aq [eg t2,.agg (AX op w a b [eh o1 w1 a1 b1 l1,eh o2 w2 a2 b2 l2])]∧H=dH s.d):=by
 have hE:=c_ he
 unfold bN at h1
 unfold bN at h2
 obtain⟨d,r0,g0⟩:=s
 obtain⟨d1,r1,g1⟩:=t1
 obtain rfl:d=d1:=e1.symm
 obtain⟨d2,r2,g2⟩:=t2
 obtain rfl:d=d2:=e2.symm
 refine bM ?_
 refine γ.ξ ζ η Tryz.func163 rfl rfl ?_
 refine bh 3 ?_
 refine ι h1 (by rfl) (by rfl) ?_
 refine ι h2 (by rfl) (by rfl) ?_
 refine Or.inl (And.intro rfl (ε rfl ?_))
 refine aE (dB 13 [2]) sa (by decide+kernel) ?_
 refine ι hE (by rfl) (by rfl) ?_
 refine And.intro (fun j hj=>χ.refl _ _) ?_
 refine And.intro (fun j hj=>by rw[List.mem_singleton.1 hj];exact χ.set (b:=13) _ (List.mem_singleton.2 rfl)) ?_
 refine And.intro (fun j hj=>by cases hj) ?_
 refine aB.trans (kC 18 (iH (lY (.eU _ _ _ [18] 32 rfl (.refl _) (fun b hb=>hb))))) (ae ?_ ?_)
 ·exact⟨rfl,trivial⟩
 ·exact⟨rfl,rfl,rfl,rfl,rfl,rfl,rfl,rfl,rfl,rfl,rfl,trivial⟩
theorem Sc(s:PS){t1:PS}{t2:PS}{t3:PS}(op w a b:Int){o1 w1 a1 b1:Int}{l1:List T}(h1:bN 162 s t1 o1 w1 a1 b1 l1)(e1:t1.d=s.d){o2 w2 a2 b2:Int}{l2:List T}(h2:bN 162 t1 t2 o2 w2 a2 b2 l2)(e2:t2.d=s.d){o3 w3 a3 b3:Int}{l3:List T}(h3:bN 162 t2 t3 o3 w3 a3 b3 l3)(e3:t3.d=s.d)(he:aP t3=true):
 γ Tryz.prog 163 [eg s,.agg (CF op w a b),.t (.int .i64 3)] (dH s.d) (fun v H=>v= .aq [eg t3,.agg (AX op w a b [eh o1 w1 a1 b1 l1,eh o2 w2 a2 b2 l2,eh o3 w3 a3 b3 l3])]∧H=dH s.d):=by
 have hE:=c_ he
 unfold bN at h1
 unfold bN at h2
 unfold bN at h3
 obtain⟨d,r0,g0⟩:=s
 obtain⟨d1,r1,g1⟩:=t1
 obtain rfl:d=d1:=e1.symm
 obtain⟨d2,r2,g2⟩:=t2
 obtain rfl:d=d2:=e2.symm
 obtain⟨d3,r3,g3⟩:=t3
 obtain rfl:d=d3:=e3.symm
 refine bM ?_
 refine γ.ξ ζ η Tryz.func163 rfl rfl ?_
 refine bh 4 ?_
 refine ι h1 (by rfl) (by rfl) ?_
 refine ι h2 (by rfl) (by rfl) ?_
 refine Or.inl (And.intro rfl (ε rfl ?_))
 refine ι h3 (by rfl) (by rfl) ?_
 refine Or.inl (And.intro rfl (ε rfl ?_))
 refine aE (dB 13 [2]) sa (by decide+kernel) ?_
 refine ι hE (by rfl) (by rfl) ?_
 refine And.intro (fun j hj=>χ.refl _ _) ?_
 refine And.intro (fun j hj=>by rw[List.mem_singleton.1 hj];exact χ.set (b:=13) _ (List.mem_singleton.2 rfl)) ?_
 refine And.intro (fun j hj=>by cases hj) ?_
 refine aB.trans (kC 18 (iH (lY (.eU _ _ _ [18] 32 rfl (.refl _) (fun b hb=>hb))))) (ae ?_ ?_)
 ·exact⟨rfl,trivial⟩
 ·exact⟨rfl,rfl,rfl,rfl,rfl,rfl,rfl,rfl,rfl,rfl,rfl,trivial⟩
end Go.Proofs.YtcogcbplmkcojaaGreatDoor
