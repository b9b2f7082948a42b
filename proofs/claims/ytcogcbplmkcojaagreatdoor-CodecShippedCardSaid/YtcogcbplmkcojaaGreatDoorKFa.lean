/-
  The ground of the walks of this seat, part Fa.
-/
import Derived.Laws.AppendOwn
import Derived.Below
import Derived.Laws.RangeString
import Derived.Deep.DeepAppendWide
import Derived.Laws.CopyRow
import Derived.Laws.StructEq
import Derived.Laws.Strings
import Derived.Laws.Unary
import Derived.WalkSpells
import Derived.Laws.Build
import Derived.Laws.Slices
import Derived.Laws.MakeOwn
import Derived.Laws.BytesArg
import Derived.IntWalk
namespace Go.Proofs.YtcogcbplmkcojaaGreatDoor
open Go.RowKit
set_option linter.unusedVariables false
inductive T where
 |bool (b:Bool)|int (k:IntKind) (n:Int)|str (s:List UInt8)
 |dj|af|mz|my
 |bg (cells:List T)
 |vec (s:Nat) (l:List T)
 |agg (cs:List T)
 |fn (f:Fn) (first captured:List T)
 |cG (t:TypeId) (v:T)
 |θ (s:Nat) (l:List T)
def T.cells:T→List T
 | .agg cs=>cs
 |v=>[v]
def T.one:T→Bool
 | .agg _=>false
 |_=>true
inductive RT(w:World)(M:Nat→Prop):T→Value→Prop
 |bool (b):RT w M (.bool b) (.bool b)
 |int (k n):RT w M (.int k n) (.int k n)
 |str (s:ByteArray):RT w M (.str s.data.toList) (.string s)
 |dj:RT w M .dj (.pointer none)
 |af:RT w M .af (.slice none 0 0)
 |mz:RT w M .mz .nilFunc
 |my:RT w M .my .nilIface
 |bg (cells:List T) (b off:Nat) (vals:Nat→Value) (hM:cells≠[]→¬M b)
  (hc:∀(i:Nat) c,cells[i]?=some c→w.cell? ⟨b,off+i,none⟩=some (vals i)∧c.one=true)
  (hr:∀(i:Nat) c,cells[i]?=some c→RT w M c (vals i)):RT w M (.bg cells) (.pointer (some ⟨b,off,none⟩))
 |vec (s:Nat) (l:List T) (b off cap:Nat) (sp:Option Nat) (vals:Nat→Nat→Value) (hM:l≠[]→0<s→¬M b) (eu:l.length≤cap) (jh:l≠[]→sp=none)
  (hs:∀(i:Nat) e,l[i]?=some e→e.cells.length=s)
  (hc:∀(i:Nat) e (j:Nat) c,l[i]?=some e→e.cells[j]?=some c→w.cell? ⟨b,off+i*s+j,none⟩=some (vals i j)∧c.one=true)
  (hr:∀(i:Nat) e (j:Nat) c,l[i]?=some e→e.cells[j]?=some c→RT w M c (vals i j)):
  RT w M (.vec s l) (.slice (some ⟨b,off,sp⟩) l.length cap)
 |agg (cs:List T) (vs:Array Value) (hl:cs.length=vs.size) (h1:∀(i:Nat) c,cs[i]?=some c→c.one=true)
  (hr:∀(i:Nat) c v,cs[i]?=some c→vs[i]?=some v→RT w M c v):RT w M (.agg cs) (.agg vs)
 |fn (f:Fn) (first captured:List T) (a b:Array Value) (ha:first.length=a.size) (hb:captured.length=b.size)
  (db:∀(i:Nat) c v,first[i]?=some c→a[i]?=some v→RT w M c v)
  (Bz:∀(i:Nat) c v,captured[i]?=some c→b[i]?=some v→RT w M c v):RT w M (.fn f first captured) (.func f a b)
 |cG (t:TypeId) (x:T) (v:Value) (h:RT w M x v):RT w M (.cG t x) (.iface t v)
 |km (s:Nat):RT w M (.θ s []) (.slice none 0 0)
 |θ (s:Nat) (l:List T) (v:Value) (h:RT w M (.vec s l) v):RT w M (.θ s l) v
theorem RT.mono{w w':World}{M M':Nat→Prop}(hb:∀b,b<w.heap.size→¬M b→w'.heap[b]?=w.heap[b]?∧¬M' b)
 {x:T} {v:Value} (h:RT w M x v):RT w' M' x v:=by
 have cell:∀{b o:Nat} {u:Value},¬M b→w.cell? ⟨b,o,none⟩=some u→w'.cell? ⟨b,o,none⟩=some u:=by
  intro b o u hm hc
  have ω:=World.block_lt_of_cell? w _ hc
  exact(World.cell?_of_block (w:=w) (w':=w') (a:=⟨b,o,none⟩) (hb b ω hm).1).trans hc
 induction h with
 |bool b=>exact .bool b
 |int k n=>exact .int k n
 |str s=>exact .str s
 |dj=>exact .dj
 |af=>exact .af
 |mz=>exact .mz
 |my=>exact .my
 |bg cells b off vals mT hc _ ih=>
  refine .bg cells b off vals (fun au=> ?_) (fun i c hi=>⟨cell (mT ?_) (hc i c hi).1,(hc i c hi).2⟩) ih
  ·obtain⟨c,r,rfl⟩:=List.exists_cons_of_ne_nil au
   exact(hb b (World.block_lt_of_cell? w _ (hc 0 c rfl).1) (mT au)).2
  ·intro e;simp[e]at hi
 |vec s l b off cap sp vals mT eu jh hs hc _ ih=>
  refine .vec s l b off cap sp vals (fun au hp=> ?_) eu jh hs (fun i e j c hi hj=>⟨cell (mT ?_ ?_) (hc i e j c hi hj).1,(hc i e j c hi hj).2⟩) ih
  ·obtain⟨e,r,rfl⟩:=List.exists_cons_of_ne_nil au
   have h1:=hs 0 e rfl
   have h2:e.cells[0]?=some (e.cells[0]'(by omega)):=List.getElem?_eq_getElem _
   exact(hb b (World.block_lt_of_cell? w _ (hc 0 e 0 _ rfl h2).1) (mT au hp)).2
  ·intro e;simp[e]at hi
  ·have h1:=hs i e hi
   have h2:j<e.cells.length:=by
    rcases Nat.lt_or_ge j e.cells.length with h|h
    ·exact h
    ·simp[List.getElem?_eq_none h]at hj
   omega
 |agg cs vs hl h1 _ ih=>exact .agg cs vs hl h1 ih
 |fn f first captured a b ha aD _ _ nk nj=>exact .fn f first captured a b ha aD nk nj
 |cG t x v _ ih=>exact .cG t x v ih
 |km s=>exact .km s
 |θ s l v _ ih=>exact .θ s l v ih
inductive AV where
 |t (x:T)
 |ptr (b g i o:Nat)
 |sl (b g i len:Nat)
 |agg (cs:List AV)
 |aq (vs:List AV)
 |fn (f:Fn) (first captured:List AV)
 |cG (t:TypeId) (v:AV)
 |own (e s:Nat) (z:Bool) (l:List T)
 |dx
 |bq
inductive Sq where
 |ts (l:List T)
 |vs (l:List AV)
def Sq.length:Sq→Nat
 | .ts l=>l.length
 | .vs l=>l.length
def Sq.get:Sq→Nat→Option AV
 | .ts l,i=>l[i]?.map .t
 | .vs l,i=>l[i]?
def Sq.part:Sq→Nat→Nat→Sq
 | .ts l,i,n=> .ts ((l.drop i).take n)
 | .vs l,i,n=> .vs ((l.drop i).take n)
def Sq.kV:Sq→Sq→Sq
 | .ts a,.ts b=> .ts (a++b)
 | .ts a,.vs b=> .vs (a.map .t++b)
 | .vs a,.ts b=> .vs (a++b.map .t)
 | .vs a,.vs b=> .vs (a++b)
def Sq.put(l:Sq)(o:Nat)(news:Sq):Sq:=
 match l,news with
 | .ts a,.ts b=> .ts (a.take o++b++a.drop (o+b.length))
 |l,news=>((l.part 0 o).kV news).kV (l.part (o+news.length) l.length)
inductive Ω where
 |dead
 |box (cells:List AV)
 |arr (e s:Nat) (z:Bool) (g:Nat) (l:Sq)
 |iter (s:List UInt8) (pos:Nat)
def AV.cells:AV→List AV
 | .agg cs=>cs
 | .t (.agg cs)=>cs.map .t
 |v=>[v]
def AV.one:AV→Bool
 | .agg _=>false
 | .aq _=>false
 | .bq=>false
 | .own .. =>false
 | .t x=>x.one
 |_=>true
abbrev AH:=List Ω
def AH.at(H:AH)(b:Nat):Option Ω:=H[b]?
def Ω.fix:Ω→Bool
 | .arr _ _ z _ l=> !z&&decide (0<l.length)
 |_=>true
def Ω.live:Ω→Bool
 | .dead=>false
 |_=>true
structure Cx where
 F:Nat→Prop
 G:Nat→Option Nat
def Cx.M(c:Cx)(H:AH)(cb:Nat):Prop:=c.F cb∨∃b π,H[b]?=some π∧π.live=true∧c.G b=some cb
def Cx.O(c:Cx)(H:AH)(cb:Nat):Prop:=∃b π,H[b]?=some π∧π.live=true∧c.G b=some cb
def dX(w:World)(cb:Nat):Nat:=match w.heap[cb]?with|some (.cells arr _ _)=>arr.size|_=>0
inductive RA(w:World)(c:Cx)(H:AH):AV→Value→Prop
 |t (x v) (h:RT w (c.M H) x v):RA w c H (.t x) v
 |ptr (b g i o:Nat) (v:Value) (π:Ω) (hb:H[b]?=some π)
  (h:match π with
   | .dead=>True
   | .box _=>∃cb,c.G b=some cb∧v= .pointer (some ⟨cb,o,none⟩)
   | .iter _ _=>∃cb,c.G b=some cb∧v= .pointer (some ⟨cb,o,none⟩)
   | .arr _ s _ gen _=>g≤gen∧(g=gen→∃cb,c.G b=some cb∧v= .pointer (some ⟨cb,i*s+o,none⟩)))
  (hv:∃a,v= .pointer a:=by exact⟨_,rfl⟩):RA w c H (.ptr b g i o) v
 |sl (b g i len:Nat) (v:Value) (π:Ω) (hb:H[b]?=some π)
  (h:match π with
   | .dead=>True
   | .box _=>False
   | .iter _ _=>False
   | .arr _ s z gen l=>g≤gen∧(g=gen→i+len≤l.length∧
    ((z=true∧l.length=0∧v= .slice none 0 0)∨(z=false∧l.length=0∧∃(ad:Addr),v= .slice (some ad) 0 0)∨
     (¬(z=true∧l.length=0)∧∃cb cap off,c.G b=some cb∧v= .slice (some ⟨cb,off,none⟩) len cap∧(i+cap)*s=dX w cb∧len≤cap∧i+cap≤maxLen∧(cap=0∨off=i*s)∧(i=0→off=0)))))
  (hv:∃a n m,v= .slice a n m:=by exact⟨_,_,_,rfl⟩):RA w c H (.sl b g i len) v
 |agg (cs:List AV) (vs:Array Value) (hl:cs.length=vs.size) (h1:∀(i:Nat) x,cs[i]?=some x→x.one=true)
  (hr:∀(i:Nat) x v,cs[i]?=some x→vs[i]?=some v→RA w c H x v):RA w c H (.agg cs) (.agg vs)
 |aq (cs:List AV) (vs:Array Value) (hl:cs.length=vs.size)
  (hr:∀(i:Nat) x v,cs[i]?=some x→vs[i]?=some v→RA w c H x v):RA w c H (.aq cs) (.tuple vs)
 |fn (f:Fn) (first captured:List AV) (a b:Array Value) (ha:first.length=a.size) (hb:captured.length=b.size)
  (db:∀(i:Nat) x v,first[i]?=some x→a[i]?=some v→RA w c H x v)
  (Bz:∀(i:Nat) x v,captured[i]?=some x→b[i]?=some v→RA w c H x v):RA w c H (.fn f first captured) (.func f a b)
 |cG (t:TypeId) (x:AV) (v:Value) (h:RA w c H x v):RA w c H (.cG t x) (.iface t v)
 |dx (ad:Addr):RA w c H .dx (.slice (some ad) 0 0)
 |bq (v):RA w c H .bq v
def dE(w:World)(c:Cx)(H:AH)(s:Nat)(l:Sq)(arr:Array Value):Prop:=
 ∀(i:Nat) x,l.get i=some x→x.cells.length=s∧∀(j:Nat) y,x.cells[j]?=some y→∃v,arr[i*s+j]?=some v∧y.one=true∧RA w c H y v∧v.oneCell'=true
theorem T.dK(x:T):(AV.t x).cells=x.cells.map .t:=by cases x<;>rfl
theorem dE.ts{w c H s}{l:List T}{arr:Array Value}:dE w c H s (.ts l) arr↔
 ∀(i:Nat) x,l[i]?=some x→x.cells.length=s∧∀(j:Nat) y,x.cells[j]?=some y→∃v,arr[i*s+j]?=some v∧y.one=true∧RT w (c.M H) y v∧v.oneCell'=true:=by
 constructor
 ·intro h i x hi
  obtain⟨h1,h2⟩:=h i (.t x) (by simp[Sq.get,hi])
  rw[T.dK]at h1 h2
  refine⟨by simpa using h1,fun j y hj=> ?_⟩
  obtain⟨v,a1,a2,a3,a4⟩:=h2 j (.t y) (by simp[hj])
  cases a3 with|t _ _ a3=>exact⟨v,a1,a2,a3,a4⟩
 ·intro h i x hi
  simp only[Sq.get,Option.map_eq_some_iff]at hi
  obtain⟨x,hi,rfl⟩:=hi
  obtain⟨h1,h2⟩:=h i x hi
  rw[T.dK]
  refine⟨by simpa using h1,fun j y hj=> ?_⟩
  simp only[List.getElem?_map,Option.map_eq_some_iff]at hj
  obtain⟨y,hj,rfl⟩:=hj
  obtain⟨v,a1,a2,a3,a4⟩:=h2 j y hj
  exact⟨v,a1,a2,.t _ _ a3,a4⟩
theorem Sq.vY{l:Sq}{i:Nat}{x:AV}(h:l.get i=some x):i<l.length:=by
 cases l with
 |ts l=>
  simp only[Sq.get,Option.map_eq_some_iff]at h
  obtain⟨_,h,_⟩:=h
  rcases Nat.lt_or_ge i l.length with k|k
  ·exact k
  ·simp[List.getElem?_eq_none k]at h
 |vs l=>
  simp only[Sq.get]at h
  rcases Nat.lt_or_ge i l.length with k|k
  ·exact k
  ·simp[List.getElem?_eq_none k]at h
theorem Sq.LF{l:Sq}{i:Nat}(h:i<l.length):∃x,l.get i=some x:=by
 cases l with
 |ts l=>exact⟨.t (l[i]'h),by simp only[Sq.get];rw[List.getElem?_eq_getElem (show i<l.length from h)];rfl⟩
 |vs l=>exact⟨l[i]'h,List.getElem?_eq_getElem (show i<l.length from h)⟩
theorem Sq.ke(l:Sq)(i n:Nat):(l.part i n).length=min n (l.length - i):=by
 cases l<;>simp[Sq.part,Sq.length]
theorem Sq.qX(l:Sq)(i n k:Nat):(l.part i n).get k=if k<n then l.get (i+k)else none:=by
 cases l<;>simp only[Sq.part,Sq.get,List.getElem?_take,List.getElem?_drop]<;>split<;>simp
theorem Sq.e9(a b:Sq):(a.kV b).length=a.length+b.length:=by
 cases a<;>cases b<;>simp[Sq.kV,Sq.length]
theorem Sq.AM(a b:Sq)(k:Nat):(a.kV b).get k=if k<a.length then a.get k else b.get (k - a.length):=by
 by_cases h:k<a.length
 ·rw[if_pos h]
  cases a<;>cases b<;>simp only[Sq.kV,Sq.get,Sq.length]at h⊢<;>rw[List.getElem?_append_left (by simpa using h)]<;>simp
 ·rw[if_neg h]
  cases a<;>cases b<;>simp only[Sq.kV,Sq.get,Sq.length]at h⊢<;>rw[List.getElem?_append_right (by simpa using h)]<;>simp
theorem Sq.put_eq(l:Sq)(o:Nat)(news:Sq):(l.put o news).length=((l.part 0 o).kV news |>.kV (l.part (o+news.length) l.length)).length∧∀k,(l.put o news).get k=((l.part 0 o).kV news |>.kV (l.part (o+news.length) l.length)).get k:=by
 cases l with
 |vs l=>exact⟨rfl,fun _=>rfl⟩
 |ts l=>
  cases news with
  |vs n=>exact⟨rfl,fun _=>rfl⟩
  |ts n=>
   have e:l.drop (o+n.length)=(l.drop (o+n.length)).take l.length:=(List.take_of_length_le (by simp)).symm
   constructor
   ·simp only[Sq.put,Sq.part,Sq.kV,Sq.length,List.drop_zero]
    rw[←e]
   ·intro k
    simp only[Sq.put,Sq.part,Sq.kV,Sq.get,Sq.length,List.drop_zero]
    rw[←e]
theorem Sq.ft{l news:Sq}{o:Nat}(h:o+news.length≤l.length):(l.put o news).length=l.length:=by
 rw[(Sq.put_eq l o news).1,Sq.e9,Sq.e9,Sq.ke,Sq.ke];omega
theorem Sq.Qz{l news:Sq}{o:Nat}(h:o+news.length≤l.length)(k:Nat):
 (l.put o news).get k=if k<o then l.get k else if k<o+news.length then news.get (k - o)else l.get k:=by
 rw[(Sq.put_eq l o news).2,Sq.AM,Sq.AM,Sq.e9,Sq.ke,Sq.qX,Sq.qX]
 have e:min o (l.length - 0)=o:=by omega
 rw[e]
 by_cases h1:k<o
 ·rw[if_pos (by omega),if_pos h1,if_pos h1,if_pos h1,Nat.zero_add]
 ·by_cases h2:k<o+news.length
  ·rw[if_pos h2,if_neg h1,if_neg h1,if_pos h2]
  ·rw[if_neg h2,if_neg h1,if_neg h2,show o+news.length+(k - (o+news.length))=k by omega]
   split
   ·rfl
   ·rename_i h3
    cases l with
    |ts l=>simp only[Sq.length,Sq.get]at h3⊢;rw[List.getElem?_eq_none (by omega)];rfl
    |vs l=>simp only[Sq.length,Sq.get]at h3⊢;rw[List.getElem?_eq_none (by omega)]
structure HS(w:World)(c:Cx)(H:AH)(B:Nat):Prop where
 inj:∀b b' cb,c.G b=some cb→c.G b'=some cb→b=b'
 base:∀b cb,c.G b=some cb→B≤cb∧cb<w.heap.size
 fb:∀cb,c.F cb→cb<w.heap.size∧∀b,c.G b≠some cb
 hB:B≤w.heap.size
 kz:∀b cb,c.G b=some cb→b<H.length
 box:∀b cb cells,H[b]?=some (.box cells)→c.G b=some cb→∃arr e,w.heap[cb]?=some (.cells arr e (0,0))∧arr.size=cells.length∧
  ∀(j:Nat) x v,cells[j]?=some x→arr[j]?=some v→x.one=true∧RA w c H x v∧v.oneCell'=true
 arr:∀b cb e s z g l,H[b]?=some (.arr e s z g l)→c.G b=some cb→∃arr cap,w.heap[cb]?=some (.cells arr e (0,0))∧arr.size=cap*s∧(l.length≤cap∧(g%2=1→l.length=cap))∧cap≤maxLen∧
  dE w c H s l arr
 iter:∀b cb s p,H[b]?=some (.iter s p)→c.G b=some cb→∃bs:ByteArray,w.heap[cb]?=some (.stringIter bs p)∧bs.data.toList=s
def Ω.goes(w:World)(c:Cx)(w':World)(c':Cx)(b:Nat):Ω→Ω→Prop
 |_,.dead=>True
 | .box cs,.box kA=>cs.length=kA.length∧∀cb,c.G b=some cb→c'.G b=some cb
 | .iter s _,.iter s' _=>s'=s∧∀cb,c.G b=some cb→c'.G b=some cb
 | .arr e s z g l,.arr e' s' z' g' l'=>e'=e∧s'=s∧z'=z∧l.length≤l'.length∧g≤g'∧(g=g'→l'.length=l.length∧∀cb,c.G b=some cb→c'.G b=some cb∧dX w' cb=dX w cb)
 |_,_=>False
structure Ew(w:World)(c:Cx)(H:AH)(w':World)(c':Cx)(H':AH):Prop where
 F:c'.F=c.F
 size:w.heap.size≤w'.heap.size
 π:∀b π,H[b]?=some π→∃aA,H'[b]?=some aA∧Ω.goes w c w' c' b π aA
 sG:∀cb,c'.O H' cb→c.O H cb∨w.heap.size≤cb
 mem:∀cb,cb<w.heap.size→¬c.O H cb→w'.heap[cb]?=w.heap[cb]?
structure Ev(w:World)(c:Cx)(H:AH)(w':World)(c':Cx)(H':AH):Prop where
 F:c'.F=c.F
 size:w.heap.size≤w'.heap.size
 π:∀b π,H[b]?=some π→∃aA,H'[b]?=some aA∧Ω.goes w c w' c' b π aA
 sG:∀cb,c'.O H' cb→c.O H cb∨w.heap.size≤cb
 mem:∀cb,cb<w.heap.size→¬c.O H cb→w'.heap[cb]?=w.heap[cb]?
 late:∀b π,H[b]?=some π→π.fix=true→c.G b=none→c'.G b=none
theorem Ev.w{w c H w' c' H'}(h:Ev w c H w' c' H'):Ew w c H w' c' H':=⟨h.F,h.size,h.π,h.sG,h.mem⟩
theorem Ew.Up{w c H w' c' H'}(h:Ew w c H w' c' H')(cb:Nat)(hm:c'.M H' cb):c.M H cb∨w.heap.size≤cb:=by
 rcases hm with hm|hm
 ·rw[h.F]at hm;exact .inl (.inl hm)
 ·exact(h.sG cb hm).imp .inr id
theorem Ew.V0{w c H w' c' H'}(h:Ew w c H w' c' H')(cb:Nat)(ω:cb<w.heap.size)(hm:¬c.M H cb):w'.heap[cb]?=w.heap[cb]?:=h.mem cb ω fun k=>hm (.inr k)
theorem Ew.rt{w c H w' c' H'}(h:Ew w c H w' c' H'){x:T}{v:Value}(hr:RT w (c.M H) x v):RT w' (c'.M H') x v:=
 hr.mono (fun b ω hM=>⟨h.V0 b ω hM,fun hm=>(h.Up b hm).elim hM (fun h=>by omega)⟩)
theorem Ev.rt{w c H w' c' H'}(h:Ev w c H w' c' H'){x:T}{v:Value}(hr:RT w (c.M H) x v):RT w' (c'.M H') x v:=h.w.rt hr
theorem RA.ew{w c H w' c' H'}(h:Ew w c H w' c' H'){x:AV}{v:Value}(hr:RA w c H x v):RA w' c' H' x v:=by
 induction hr with
 |t x v hx=>exact .t x v (h.rt hx)
 |ptr b g i o v π hb hm hv=>
  obtain⟨aA,aD,hk⟩:=h.π b π hb
  refine .ptr b g i o v aA aD ?_ hv
  cases aA with
  |dead=>trivial
  |box kA=>
   cases π with
   |dead=>exact hk.elim
   |arr=>exact hk.elim
   |iter=>exact hk.elim
   |box cs=>obtain⟨cb,h1,h2⟩:=hm;exact⟨cb,hk.2 cb h1,h2⟩
  |iter s' p'=>
   cases π with
   |dead=>exact hk.elim
   |arr=>exact hk.elim
   |box=>exact hk.elim
   |iter s p=>obtain⟨cb,h1,h2⟩:=hm;exact⟨cb,hk.2 cb h1,h2⟩
  |arr e' s' z' g' l'=>
   cases π with
   |dead=>exact hk.elim
   |box=>exact hk.elim
   |iter=>exact hk.elim
   |arr e s z g0 l=>
    obtain⟨rfl,rfl,rfl,_,hg,hk⟩:=hk
    refine⟨Nat.le_trans hm.1 hg,fun he=> ?_⟩
    have:g0=g':=by have:=hm.1;omega
    obtain⟨cb,h1,h2⟩:=hm.2 (by omega)
    exact⟨cb,((hk this).2 cb h1).1,h2⟩
 |sl b g i len v π hb hm hv=>
  obtain⟨aA,aD,hk⟩:=h.π b π hb
  refine .sl b g i len v aA aD ?_ hv
  cases aA with
  |dead=>trivial
  |box kA=>cases π<;>first|exact hk.elim|exact hm
  |iter s' p'=>cases π<;>first|exact hk.elim|exact hm
  |arr e' s' z' g' l'=>
   cases π with
   |dead=>exact hk.elim
   |box=>exact hk.elim
   |iter=>exact hk.elim
   |arr e s z g0 l=>
    obtain⟨rfl,rfl,rfl,_,hg,hk⟩:=hk
    refine⟨Nat.le_trans hm.1 hg,fun he=> ?_⟩
    have gh:g0=g':=by have:=hm.1;omega
    obtain⟨hl,hk⟩:=hk gh
    obtain⟨h1,h2⟩:=hm.2 (by omega)
    refine⟨by omega,?_⟩
    have DZ:l.length=0↔l'.length=0:=by rw[hl]
    rcases h2 with⟨z1,l1,v1⟩|⟨z1,l1,v1⟩|⟨z1,cb,cap,off,h3,h4,h5,h6⟩
    ·exact .inl ⟨z1,DZ.1 l1,v1⟩
    ·exact .inr (.inl ⟨z1,DZ.1 l1,v1⟩)
    ·exact .inr <| .inr ⟨fun hh=>z1 ⟨hh.1,DZ.2 hh.2⟩,cb,cap,off,(hk cb h3).1,h4,by rw[(hk cb h3).2];exact h5,h6⟩
 |agg cs vs hl h1 _ ih=>exact .agg cs vs hl h1 ih
 |aq cs vs hl _ ih=>exact .aq cs vs hl ih
 |fn f a b x y ha hb _ _ nk nj=>exact .fn f a b x y ha hb nk nj
 |cG t x v _ ih=>exact .cG t x v ih
 |dx ad=>exact .dx ad
 |bq v=>exact .bq v
theorem RA.ev{w c H w' c' H'}(h:Ev w c H w' c' H'){x:AV}{v:Value}(hr:RA w c H x v):RA w' c' H' x v:=hr.ew h.w
theorem Ev.refl(w:World)(c:Cx)(H:AH):Ev w c H w c H:=by
 refine⟨rfl,Nat.le_refl _,fun b π hb=>⟨π,hb,?_⟩,fun _ h=> .inl h,fun _ _ _=>rfl,fun _ _ _ _ h=>h⟩
 cases π with
 |dead=>trivial
 |box cs=>exact⟨rfl,fun _ h=>h⟩
 |iter s p=>exact⟨rfl,fun _ h=>h⟩
 |arr=>exact⟨rfl,rfl,rfl,Nat.le_refl _,Nat.le_refl _,fun _=>⟨rfl,fun _ h=>⟨h,rfl⟩⟩⟩
theorem Oj{w c w' c' b}{π aA:Ω}(h:Ω.goes w c w' c' b π aA)(hf:π.fix=true):aA.fix=true:=by
 cases aA with
 |dead=>rfl
 |box=>rfl
 |iter=>rfl
 |arr e' s' z' g' l'=>
  cases π with
  |dead=>exact h.elim
  |box=>exact h.elim
  |iter=>exact h.elim
  |arr e s z g l=>
   obtain⟨_,_,rfl,hl,_⟩:=h
   simp only[Ω.fix,Bool.and_eq_true,Bool.not_eq_true',decide_eq_true_eq]at hf⊢
   exact⟨hf.1,by omega⟩
theorem Ev.Ut{w c H w1 c1 H1 w2 c2 H2}(h:Ev w c H w1 c1 H1)(k:Ev w1 c1 H1 w2 c2 H2):∀b π,H[b]?=some π→π.fix=true→c.G b=none→c2.G b=none:=by
 intro b π hb ha hg
 obtain⟨AJ,j4,cZ⟩:=h.π b π hb
 exact k.late b AJ j4 (Oj cZ ha) (h.late b π hb ha hg)
theorem Ew.trans{w c H w1 c1 H1 w2 c2 H2}(h:Ew w c H w1 c1 H1)(k:Ew w1 c1 H1 w2 c2 H2):Ew w c H w2 c2 H2:=by
 refine⟨k.F.trans h.F,Nat.le_trans h.size k.size,fun b π hb=> ?_,fun cb hm=> ?_,fun cb ω hm=> ?_⟩
 ·obtain⟨AJ,j4,cZ⟩:=h.π b π hb
  obtain⟨OO,gZ,et⟩:=k.π b AJ j4
  refine⟨OO,gZ,?_⟩
  cases OO with
  |dead=>trivial
  |box ZT=>
   cases AJ with
   |dead=>exact et.elim
   |arr=>exact et.elim
   |iter=>exact et.elim
   |box ZU=>
    cases π with
    |dead=>exact cZ.elim
    |arr=>exact cZ.elim
    |iter=>exact cZ.elim
    |box cs=>exact⟨cZ.1.trans et.1,fun cb hc=>et.2 cb (cZ.2 cb hc)⟩
  |iter s2 p2=>
   cases AJ with
   |dead=>exact et.elim
   |arr=>exact et.elim
   |box=>exact et.elim
   |iter s1 p1=>
    cases π with
    |dead=>exact cZ.elim
    |arr=>exact cZ.elim
    |box=>exact cZ.elim
    |iter s p=>exact⟨et.1.trans cZ.1,fun cb hc=>et.2 cb (cZ.2 cb hc)⟩
  |arr e2 s2 z2 g2 l2=>
   cases AJ with
   |dead=>exact et.elim
   |box=>exact et.elim
   |iter=>exact et.elim
   |arr e1 s1 z1 g1 l1=>
    cases π with
    |dead=>exact cZ.elim
    |box=>exact cZ.elim
    |iter=>exact cZ.elim
    |arr e s z g l=>
     obtain⟨rfl,rfl,rfl,a0,a1,a2⟩:=cZ
     obtain⟨rfl,rfl,rfl,b0,b1,b2⟩:=et
     refine⟨rfl,rfl,rfl,Nat.le_trans a0 b0,Nat.le_trans a1 b1,fun he=> ?_⟩
     have e1:g=g1:=by omega
     have e2:g1=g2:=by omega
     obtain⟨a3,a4⟩:=a2 e1
     obtain⟨b3,b4⟩:=b2 e2
     refine⟨by omega,fun cb hc=> ?_⟩
     obtain⟨a5,a6⟩:=a4 cb hc
     obtain⟨b5,b6⟩:=b4 cb a5
     exact⟨b5,b6.trans a6⟩
 ·rcases k.sG cb hm with h1|h1
  ·exact h.sG cb h1
  ·exact .inr (Nat.le_trans h.size h1)
 ·have h1:=h.mem cb ω hm
  have h2:¬c1.O H1 cb:=fun hh=>(h.sG cb hh).elim hm (fun h=>by omega)
  exact(k.mem cb (Nat.lt_of_lt_of_le ω h.size) h2).trans h1
theorem Ev.of{w c H w' c' H'}(h:Ew w c H w' c' H')(hl:∀b π,H[b]?=some π→π.fix=true→c.G b=none→c'.G b=none):Ev w c H w' c' H':=⟨h.F,h.size,h.π,h.sG,h.mem,hl⟩
theorem Ev.trans{w c H w1 c1 H1 w2 c2 H2}(h:Ev w c H w1 c1 H1)(k:Ev w1 c1 H1 w2 c2 H2):Ev w c H w2 c2 H2:= .of (h.w.trans k.w) (Ev.Ut h k)
theorem Ev.RF{w c H w1 c1 H1 w2 c2 H2}(h:Ev w c H w1 c1 H1)(k:Ew w1 c1 H1 w2 c2 H2)(hl:∀b,b<H.length→c1.G b=none→c2.G b=none):Ev w c H w2 c2 H2:=
 .of (h.w.trans k) fun b π hb hf hg=>hl b (by
  rcases Nat.lt_or_ge b H.length with h1|h1
  ·exact h1
  ·simp[List.getElem?_eq_none h1]at hb) (h.late b π hb hf hg)
end Go.Proofs.YtcogcbplmkcojaaGreatDoor
namespace Go.Proofs.YtcogcbplmkcojaaGreatDoor
set_option linter.unusedVariables false
def Dm:Value→Option T
 | .bool b=>some (.bool b)
 | .int k n=>some (.int k n)
 | .string s=>some (.str s.data.toList)
 | .pointer none=>some .dj
 | .slice none 0 0=>some .af
 | .nilFunc=>some .mz
 | .nilIface=>some .my
 |_=>none
def oC:List Value→Option (List T)
 |[]=>some []
 |v::r=>match Dm v,oC r with|some x,some l=>some (x::l)|_,_=>none
def U0:Value→Option T
 | .agg cs=>(oC cs.toList).map .agg
 |v=>Dm v
structure il where
 d:TypeDesc
 size:Nat
 bytes:Nat
 zero:Option (List T)
 Ou:Prop
structure bi where
 f:TypeId→Option il
 stop:Bool
instance:CoeFun bi (fun _=>TypeId→Option il):=⟨bi.f⟩
def yN(P:Program):TypeId→Option il:=fun t=>
 match P.info? t,P.underlying t with
 |some i,some d=>some {d,size:=i.size,bytes:=i.bytes,zero:=i.zero.bind fun z=>oC z.cells.toList,Ou:=P.stoodInHeld t=false∧P.eqGuardType P.depth t=false}
 |_,_=>none
def O3(P:Program):bi:=⟨yN P,false⟩
def KA(P:Program):bi:=⟨yN P,true⟩
structure il.fits(P:Program)(t:TypeId)(y:il):Prop where
 d:P.underlying t=some y.d
 HU:∃i,P.info? t=some i∧i.size=y.size∧i.bytes=y.bytes∧∀l,y.zero=some l→∃z,i.zero=some z∧oC z.cells.toList=some l
 eq:y.Ou→P.stoodInHeld t=false∧P.eqGuardType P.depth t=false
def bl(P:Program)(tab:bi):Prop:=∀t y,tab t=some y→y.fits P t
theorem Bm(P:Program):∀t y,yN P t=some y→y.fits P t:=by
 intro t y h
 unfold yN at h
 split at h
 ·rename_i i d hi hd
  cases h
  refine⟨hd,⟨i,hi,rfl,rfl,fun l hl=> ?_⟩,fun h=>h⟩
  cases hz:i.zero with
  |none=>simp[hz]at hl
  |some z=>exact⟨z,rfl,by simpa[hz]using hl⟩
 ·cases h
theorem NC(P:Program):bl P (O3 P):=Bm P
theorem Kz(P:Program):bl P (KA P):=Bm P
def il.isAgg(y:il):Bool:=
 match y.d with
 | .struct _=>true
 | .array _ _=>true
 |_=>false
abbrev Br(c:Bool)(p q:Prop):Prop:= @Bool.rec (fun _=>Prop) q p c
abbrev Ck(c:Bool)(p:Prop):Prop:= @Bool.rec (fun _=>Prop) False p c
abbrev a7{α:Type}(o:Option α)(K:α→Prop):Prop:= @Option.rec α (fun _=>Prop) False K o
theorem U{c:Bool}{p q:Prop}(h:c=true→p)(k:c=false→q):Br c p q:=by
 cases c
 ·exact k rfl
 ·exact h rfl
theorem ε{c:Bool}{p:Prop}(h:c=true)(k:p):Ck c p:=by subst h;exact k
theorem ν{α:Type}{o:Option α}{K:α→Prop}{a:α}(h:o=some a)(k:K a):a7 o K:=by subst h;exact k
theorem ar{c:Bool}{p:Prop}:Ck c p↔c=true∧p:=by cases c<;>simp
theorem Ξ{α:Type}{o:Option α}{K:α→Prop}:a7 o K↔∃a,o=some a∧K a:=by cases o<;>simp
theorem lT{c:Bool}{p q:Prop}:Br c p q↔(c=true∧p)∨(c=false∧q):=by cases c<;>simp
def ir(st:Bool)(n:Int):Option Int:=
 match st with
 |false=>some n
 |true=>match Nat.beq n.natAbs n.natAbs with|true=>some n|false=>none
theorem MR(st:Bool)(n:Int):ir st n=some n:=by
 cases st with
 |false=>rfl
 |true=>simp only[ir,Nat.beq_refl]
theorem qT{st:Bool}{n:Int}{K:Int→Prop}:a7 (ir st n) K↔K n:=by rw[MR]
theorem δ{st:Bool}{e n:Int}{K:Int→Prop}(h:e=n)(k:K n):a7 (ir st e) K:=by subst h;exact qT.2 k
def lk:List (Nat×AV)→Nat→AV
 |[],_=> .bq
 |(a,v)::r,k=>match Nat.beq a k with|true=>v|false=>lk r k
structure St where
 env:List (Nat×AV)
 H:AH
def HG(v:Value):AV:=
 match U0 v with
 |some x=> .t x
 |none=> .bq
def aO(env:List (Nat×AV)):Operand→AV
 | .tmp t=>lk env t
 | .const v=>HG v
 | .global _=> .bq
 | .func f=> .t (.fn (.func f) [] [])
def isConst:Operand→Bool
 | .const _=>true
 |_=>false
def St.put(s:St)(d:Option Tmp)(v:AV)(H:AH):St:=
 match d with
 |some d=>⟨(d,v)::s.env,H⟩
 |none=>⟨s.env,H⟩
def Ag:List Nat→Nat→(Nat→Prop)→Prop
 |[],n,K=>K n
 |k::r,n,K=>match Nat.beq n k with|true=>K k|false=>Ag r n K
def BH(n:Nat)(K:Nat→Prop):Prop:=Ag [0,1,2,3,4,5,6,7,8,9,10,11,12,13,14,15,16,17,18,19,20,21,22,23,24,25,26,27,28,29,30,31,32] n K
def VN(k:IntKind)(K:IntKind→Prop):Prop:=
 match k with
 | .i8=>K .i8| .i16=>K .i16| .i32=>K .i32| .i64=>K .i64| .u8=>K .u8| .u16=>K .u16| .u32=>K .u32| .u64=>K .u64
def TN(x:T)(K:T→Prop):Prop:=
 match x with
 | .bool b=>K (.bool b)
 | .int k n=>VN k fun k=>K (.int k n)
 | .str s=>K (.str s)
 | .dj=>K .dj| .af=>K .af| .mz=>K .mz| .my=>K .my
 | .bg cs=>K (.bg cs)
 | .vec s l=>K (.vec s l)
 | .agg cs=>K (.agg cs)
 | .fn f a b=>K (.fn f a b)
 | .cG t v=>K (.cG t v)
 | .θ s l=>K (.θ s l)
def Gu(x:AV)(K:AV→Prop):Prop:=
 match x with
 | .t x=>TN x fun x=>K (.t x)
 | .ptr b g i o=>BH b fun b=>BH g fun g=>BH o fun o=>K (.ptr b g i o)
 | .sl b g i n=>BH b fun b=>BH g fun g=>K (.sl b g i n)
 | .agg cs=>K (.agg cs)
 | .aq vs=>K (.aq vs)
 | .fn f a b=>K (.fn f a b)
 | .cG t v=>K (.cG t v)
 | .own e s z l=>K (.own e s z l)
 | .dx=>K .dx
 | .bq=>K .bq
def BI:List AV→(List AV→Prop)→Prop
 |[],K=>K []
 |x::r,K=>Gu x fun x=>BI r fun r=>K (x::r)
def TL(x:AV)(K:AV→Prop):Prop:=
 match x with
 | .agg cs=>BI cs fun cs=>K (.agg cs)
 | .aq cs=>BI cs fun cs=>K (.aq cs)
 | .fn f a b=>BI a fun a=>BI b fun b=>K (.fn f a b)
 |x=>Gu x K
def Gt(b:Ω)(K:Ω→Prop):Prop:=
 match b with
 | .dead=>K .dead
 | .box cells=>BI cells fun cells=>K (.box cells)
 | .arr e s z g l=>BH s fun s=>BH g fun g=>(match z with|true=>K (.arr e s true g l)|false=>K (.arr e s false g l))
 | .iter s p=>K (.iter s p)
def PT:AH→(AH→Prop)→Prop
 |[],K=>K []
 |b::r,K=>Gt b fun b=>PT r fun r=>K (b::r)
def nV(s:St)(d:Option Tmp)(v:AV)(H:AH)(K:St→Prop):Prop:=
 TL v fun v=>PT H fun H=>
 match s,d with
 |⟨env,_⟩,some d=>K ⟨(d,v)::env,H⟩
 |⟨env,_⟩,none=>K ⟨env,H⟩
theorem Af(n:Nat)(K:Nat→Prop):∀l:List Nat,Ag l n K=K n
 |[]=>rfl
 |k::r=>by
  simp only[Ag]
  cases h:Nat.beq n k with
  |true=>rw[Nat.eq_of_beq_eq_true h]
  |false=>exact Af n K r
theorem LI(n:Nat)(K:Nat→Prop):BH n K=K n:=Af n K _
theorem TO(k:IntKind)(K:IntKind→Prop):VN k K=K k:=by cases k<;>rfl
theorem TM(x:T)(K:T→Prop):TN x K=K x:=by cases x<;>simp only[TN,TO]
theorem zi(x:AV)(K:AV→Prop):Gu x K=K x:=by
 cases x<;>simp only[Gu,TM,LI]
theorem En:∀(l:List AV) (K:List AV→Prop),BI l K=K l
 |[],K=>rfl
 |x::r,K=>by simp only[BI,zi,En r]
theorem TJ(x:AV)(K:AV→Prop):TL x K=K x:=by
 cases x<;>simp only[TL,zi,En]
theorem LK(b:Ω)(K:Ω→Prop):Gt b K=K b:=by
 cases b with
 |dead=>rfl
 |box cells=>simp only[Gt,En]
 |arr e s z g l=>cases z<;>simp only[Gt,LI]
 |iter s p=>simp only[Gt]
theorem LJ:∀(l:AH) (K:AH→Prop),PT l K=K l
 |[],K=>rfl
 |x::r,K=>by simp only[PT,LK,LJ r]
theorem yz(s:St)(d:Option Tmp)(v:AV)(H:AH)(K:St→Prop):nV s d v H K=K (s.put d v H):=by
 cases d<;>simp only[nV,TJ,LJ,St.put]
def JD{α:Type}:List α→(List α→Prop)→Prop
 |[],K=>K []
 |x::r,K=>JD r fun r=>K (x::r)
def TI(x:AV)(K:AV→Prop):Prop:=
 match x with
 | .agg cs=>JD cs fun cs=>K (.agg cs)
 |x=>Gu x K
def JH(b:Ω)(K:Ω→Prop):Prop:=
 match b with
 | .box cells=>JD cells fun cells=>K (.box cells)
 | .dead=>K .dead
 | .arr e s z g l=>K (.arr e s z g l)
 | .iter s p=>K (.iter s p)
def OZ:AH→(AH→Prop)→Prop
 |[],K=>K []
 |b::r,K=>JH b fun b=>OZ r fun r=>K (b::r)
def FQ:AH→(AH→Prop)→Prop
 |[],K=>K []
 |b::r,K=>
  match r with
  |[]=>Gt b fun b=>K [b]
  |_::_=>JH b fun b=>FQ r fun r=>K (b::r)
def WK:Op→Nat
 | .move _=>1
 | .load _ _=>1
 | .fieldAddr _ _ _=>1
 | .field _ _ _=>1
 | .indexAddr _ _ _=>1
 | .index _ _ _=>1
 | .binOp _ _ _ _ _=>1
 | .unOp _ _ _=>1
 | .convert _ _ _=>1
 | .slice _ _ _ _ _=>1
 | .pick _ _ _=>1
 | .store _ _ _=>2
 | .alloc _=>3
 | .box _ _=>3
 |_=>0
def CI(o:Op)(s:St)(d:Option Tmp)(v:AV)(H:AH)(K:St→Prop):Prop:=
 match WK o with
 |1=>TI v fun v=>match s,d with|⟨env,_⟩,some d=>K ⟨(d,v)::env,H⟩|⟨env,_⟩,none=>K ⟨env,H⟩
 |2=>OZ H fun H=>match s,d with|⟨env,_⟩,some d=>K ⟨(d,v)::env,H⟩|⟨env,_⟩,none=>K ⟨env,H⟩
 |3=>Gu v fun v=>FQ H fun H=>match s,d with|⟨env,_⟩,some d=>K ⟨(d,v)::env,H⟩|⟨env,_⟩,none=>K ⟨env,H⟩
 |_=>nV s d v H K
theorem CK{α:Type}:∀(l:List α) (K:List α→Prop),JD l K=K l
 |[],K=>rfl
 |x::r,K=>by simp only[JD,CK r]
theorem TH(x:AV)(K:AV→Prop):TI x K=K x:=by cases x<;>simp only[TI,zi,CK]
theorem JF(b:Ω)(K:Ω→Prop):JH b K=K b:=by cases b<;>simp only[JH,CK]
theorem JE:∀(l:AH) (K:AH→Prop),OZ l K=K l
 |[],K=>rfl
 |x::r,K=>by simp only[OZ,JF,JE r]
theorem JC:∀(l:AH) (K:AH→Prop),FQ l K=K l
 |[],K=>rfl
 |[x],K=>by simp only[FQ,LK]
 |x::y::r,K=>by rw[show FQ (x::y::r) K=JH x fun b=>FQ (y::r) fun r=>K (b::r)from rfl,JF];exact JC (y::r) _
theorem z_(o:Op)(s:St)(d:Option Tmp)(v:AV)(H:AH)(K:St→Prop):CI o s d v H K=K (s.put d v H):=by
 unfold CI
 split<;>first|exact yz _ _ _ _ _|(cases d<;>simp only[TH,JE,JC,zi,St.put])
def Sb:IntKind→Nat
 | .i8=>0| .i16=>1| .i32=>2| .i64=>3| .u8=>4| .u16=>5| .u32=>6| .u64=>7
def gk(a b:IntKind):Bool:=Nat.beq (Sb a) (Sb b)
theorem xO{a b:IntKind}(h:gk a b=true):a=b:=by cases a<;>cases b<;>first|rfl|(simp[gk,Sb]at h)
def ed(op:BinOp)(k:IntKind)(a b:Int):Int:=
 let x:=BitVec.ofInt k.bits a
 let y:=BitVec.ofInt k.bits b
 match op with
 | .and=>k.wrap ((x&&& y).toNat:Int)
 | .or=>k.wrap ((x|||y).toNat:Int)
 | .xor=>k.wrap ((x^^^y).toNat:Int)
 |_=>k.wrap ((x&&& ~~~y).toNat:Int)
def Cw(st:Bool)(op:BinOp)(k:IntKind)(a:Int)(k':IntKind)(b:Int)(K:T→Prop):Prop:=
 match op with
 | .shl=>Ck (decide (0≤b)) (a7 (ir st (k.wrap (a*2^(min b.toNat k.bits)))) fun n=>K (.int k n))
 | .shr=>Ck (decide (0≤b)) (a7 (ir st (a.fdiv (2^(min b.toNat k.bits)))) fun n=>K (.int k n))
 | .add=>Ck (gk k k') (a7 (ir st (k.wrap (a+b))) fun n=>K (.int k n))
 | .sub=>Ck (gk k k') (a7 (ir st (k.wrap (a - b))) fun n=>K (.int k n))
 | .mul=>Ck (gk k k') (a7 (ir st (k.wrap (a*b))) fun n=>K (.int k n))
 | .quo=>Ck (gk k k') (Ck (!decide (b=0)) (a7 (ir st (k.wrap (a.tdiv b))) fun n=>K (.int k n)))
 | .rem=>Ck (gk k k') (Ck (!decide (b=0)) (a7 (ir st (a.tmod b)) fun n=>K (.int k n)))
 | .and=>Ck (gk k k') (a7 (ir st (ed .and k a b)) fun n=>K (.int k n))
 | .or=>Ck (gk k k') (a7 (ir st (ed .or k a b)) fun n=>K (.int k n))
 | .xor=>Ck (gk k k') (a7 (ir st (ed .xor k a b)) fun n=>K (.int k n))
 | .andNot=>Ck (gk k k') (a7 (ir st (ed .andNot k a b)) fun n=>K (.int k n))
 | .eql=>Ck (gk k k') (K (.bool (a==b)))
 | .neq=>Ck (gk k k') (K (.bool (a !=b)))
 | .lss=>Ck (gk k k') (K (.bool (decide (a<b))))
 | .leq=>Ck (gk k k') (K (.bool (decide (a≤b))))
 | .gtr=>Ck (gk k k') (K (.bool (decide (a>b))))
 | .geq=>Ck (gk k k') (K (.bool (decide (a≥b))))
def Cp(op:BinOp)(a b:List UInt8)(K:T→Prop):Prop:=
 match op with
 | .add=>Ck (decide (a.length+b.length≤9223372036854775807)) (K (.str (a++b)))
 | .eql=>K (.bool (a==b))
 | .neq=>K (.bool (!(a==b)))
 | .lss=>K (.bool (Op.bytesLess a b))
 | .leq=>K (.bool (Op.bytesLess a b||a==b))
 | .gtr=>K (.bool (!(Op.bytesLess a b||a==b)))
 | .geq=>K (.bool (!(Op.bytesLess a b)))
 |_=>False
def zo:T→T→Option Bool
 | .bool a,.bool b=>some (a==b)
 | .int k a,.int k' b=>match gk k k' with|true=>some (a==b)|false=>none
 | .str a,.str b=>some (a==b)
 |_,_=>none
def wF:TypeDesc→T→Bool
 | .bool,.bool _=>true
 | .int _,.int _ _=>true
 | .string,.str _=>true
 |_,_=>false
def Ez(tab:bi)(xs ys:List T):List Field→Option Bool
 |[]=>some true
 |f::r=>
  match tab f.type,xs[f.offset]?,ys[f.offset]?with
  |some y,some a,some b=>
   match wF y.d a&&wF y.d b&& !decide (f.name= "_"),zo a b,Ez tab xs ys r with
   |true,some p,some q=>some (p&&q)
   |_,_,_=>none
  |_,_,_=>none
def z7:AV→Option T
 | .t x=>some x
 |_=>none
def jm:List AV→Option (List T)
 |[]=>some []
 |v::r=>match z7 v,jm r with|some x,some l=>some (x::l)|_,_=>none
def isNil(H:AH):AV→Option Bool
 | .t .dj=>some true
 | .t .af=>some true
 | .t .mz=>some true
 | .t .my=>some true
 | .t (.bg _)=>some false
 | .t (.vec _ _)=>some false
 | .t (.fn _ _ _)=>some false
 | .t (.cG _ _)=>some false
 | .fn _ _ _=>some false
 | .cG _ _=>some false
 | .dx=>some false
 | .ptr b g _ _=>
  match H[b]?with
  |some (.box _)=>some false
  |some (.arr _ _ _ gen _)=>match Nat.beq g gen with|true=>some false|false=>none
  |_=>none
 | .sl b g _ _=>
  match H[b]?with
  |some (.arr _ _ z gen l)=>match Nat.beq g gen with|true=>some (z&&Nat.beq l.length 0)|false=>none
  |_=>none
 |_=>none
def Un:TypeDesc→Bool
 | .slice _=>true
 | .pointer _=>true
 | .func _ _ _=>true
 | .interface _=>true
 |_=>false
def kg:TypeDesc→AV→Bool
 | .slice _,.t .af=>true
 | .pointer _,.t .dj=>true
 | .func _ _ _,.t .mz=>true
 | .interface _,.t .my=>true
 |_,_=>false
def jR:TypeDesc→AV→Bool
 | .slice _,.t .af=>true
 | .slice _,.t (.vec _ _)=>true
 | .slice _,.sl _ _ _ _=>true
 | .slice _,.dx=>true
 | .pointer _,.t .dj=>true
 | .pointer _,.t (.bg _)=>true
 | .pointer _,.ptr _ _ _ _=>true
 | .func _ _ _,.t .mz=>true
 | .func _ _ _,.t (.fn _ _ _)=>true
 | .func _ _ _,.fn _ _ _=>true
 | .interface _,.t .my=>true
 | .interface _,.t (.cG _ _)=>true
 | .interface _,.cG _ _=>true
 |_,_=>false
def x5:TypeDesc→Bool
 | .interface _=>true
 |_=>false
def u6(tab:bi)(ty:TypeId)(H:AH)(x y:AV)(yc:Bool)(K:Bool→Prop):Prop:=
 a7 (tab ty) fun i=>
 match x,y with
 | .t (.bool a),.t (.bool b)=>Ck (match i.d with| .bool=>true|_=>false) (K (a==b))
 | .t (.agg a),.t (.agg b)=>
  match i.d with
  | .struct fs=>i.Ou∧a7 (Ez tab a b fs.toList) K
  |_=>False
 |x,y=>Ck (Un i.d&&kg i.d y&&jR i.d x&&(yc|| !x5 i.d)) (a7 (isNil H x) K)
def jL:AV→AV
 | .agg cs=>match jm cs with|some l=> .t (.agg l)|none=> .agg cs
 |v=>v
def tB(tab:bi)(op:BinOp)(ty:TypeId)(H:AH)(x y:AV)(yc:Bool)(K:T→Prop):Prop:=
 match x,y with
 | .t (.int k a),.t (.int k' b)=>Cw tab.stop op k a k' b K
 | .t (.str a),.t (.str b)=>Cp op a b K
 |x,y=>
  match op with
  | .eql=>u6 tab ty H (jL x) (jL y) yc fun b=>K (.bool b)
  | .neq=>u6 tab ty H (jL x) (jL y) yc fun b=>K (.bool (!b))
  |_=>False
def FH(st:Bool)(op:UnOp)(x:AV)(K:T→Prop):Prop:=
 match op,x with
 | .neg,.t (.int k a)=>a7 (ir st (k.wrap (0 - a))) fun n=>K (.int k n)
 | .xor,.t (.int k a)=>a7 (ir st (ed .xor k (if k.signed then -1 else k.max) a)) fun n=>K (.int k n)
 | .not,.t (.bool b)=>K (.bool (!b))
 |_,_=>False
def o_(y:il)(cells:List AV)(o:Nat)(K:AV→Prop):Prop:=
 match y.isAgg with
 |true=>Ck (Nat.ble (o+y.size) cells.length) (K (.agg ((cells.drop o).take y.size)))
 |false=>a7 cells[o]? K
def oZ(y:il)(cells:List T)(o:Nat)(K:T→Prop):Prop:=
 match y.isAgg with
 |true=>Ck (Nat.ble (o+y.size) cells.length) (K (.agg ((cells.drop o).take y.size)))
 |false=>a7 cells[o]? K
def setAt{α:Type}:List α→Nat→List α→List α
 |[],_,_=>[]
 |y::l,o+1,xs=>y::setAt l o xs
 |y::l,0,[]=>y::l
 |_::l,0,x::xs=>x::setAt l 0 xs
theorem iO{α:Type}:∀(l:List α) (o:Nat),setAt l o []=l
 |[],_=>rfl
 |y::l,o+1=>congrArg (y::·) (iO l o)
 |y::l,0=>rfl
theorem li{α:Type}(x:α)(r:List α):∀(l:List α) (o:Nat),setAt l o (x::r)=setAt (l.set o x) (o+1) r
 |[],_=>rfl
 |y::l,o+1=>congrArg (y::·) (li x r l o)
 |y::l,0=>rfl
def oR(tab:bi)(ty:TypeId)(H:AH)(a:AV)(K:AV→Prop):Prop:=
 a7 (tab ty) fun y=>
 match a with
 | .t (.bg cells)=>oZ y cells 0 fun x=>K (.t x)
 | .ptr b g i o=>
  match H[b]?with
  |some (.box cells)=>o_ y cells o K
  |some (.arr _ _ _ gen (.ts l))=>Ck (Nat.beq g gen) (a7 l[i]? fun e=>oZ y e.cells o fun x=>K (.t x))
  |some (.arr _ _ _ gen (.vs l))=>Ck (Nat.beq g gen) (a7 l[i]? fun e=>o_ y e.cells o K)
  |_=>False
 |_=>False
def setCells(e:T)(o:Nat)(cs:List T):T:=
 match e with
 | .agg l=> .agg (setAt l o cs)
 |_=>match cs with|[c]=>c|_=>e
def kF(e:AV)(o:Nat)(cs:List AV):AV:=
 match e with
 | .agg l=> .agg (setAt l o cs)
 | .t (.agg l)=> .agg (setAt (l.map .t) o cs)
 |_=>match cs with|[c]=>c|_=>e
def Cq(tab:bi)(ty:TypeId)(H:AH)(a v:AV)(K:AH→Prop):Prop:=
 a7 (tab ty) fun y=>
 match a with
 | .ptr b g i o=>
  match H[b]?with
  |some (.box cells)=>Ck (Nat.beq v.cells.length y.size&&Nat.ble (o+y.size) cells.length&&v.cells.all AV.one) (K (H.set b (.box (setAt cells o v.cells))))
  |some (.arr e s z gen (.ts l))=>
   Ck (Nat.beq g gen) (a7 l[i]? fun x=>
    match jm v.cells with
    |some cs=>Ck (Nat.beq cs.length y.size&&Nat.ble (o+y.size) x.cells.length&&cs.all T.one) (K (H.set b (.arr e s z gen (.ts (l.set i (setCells x o cs))))))
    |none=>Ck (Nat.beq v.cells.length y.size&&Nat.ble (o+y.size) x.cells.length&&v.cells.all AV.one) (K (H.set b (.arr e s z gen (.vs ((l.map .t).set i (kF (.t x) o v.cells)))))))
  |some (.arr e s z gen (.vs l))=>
   Ck (Nat.beq g gen) (a7 l[i]? fun x=>
    Ck (Nat.beq v.cells.length y.size&&Nat.ble (o+y.size) x.cells.length&&v.cells.all AV.one) (K (H.set b (.arr e s z gen (.vs (l.set i (kF x o v.cells)))))))
  |_=>False
 |_=>False
def wT(y:il)(k:Nat):Option Field:=
 match y.d with
 | .struct fs=>fs[k]?
 |_=>none
def gL(tab:bi)(ty:TypeId)(H:AH)(a:AV)(k:Nat)(K:AV→Prop):Prop:=
 a7 (tab ty) fun y=>a7 (wT y k) fun f=>a7 (tab f.type) fun z=>Ck (Nat.ble 1 z.size)
 (match a with
  | .t (.bg cells)=>K (.t (.bg (cells.drop f.offset)))
  | .ptr b g i o=>
   (match H[b]?with
    |some (.box _)=>K (.ptr b g i (o+f.offset))
    |some (.arr _ _ _ gen _)=>Ck (Nat.beq g gen) (K (.ptr b g i (o+f.offset)))
    |_=>False)
  |_=>False)
def sR(tab:bi)(ty:TypeId)(a:AV)(k:Nat)(K:AV→Prop):Prop:=
 a7 (tab ty) fun y=>a7 (wT y k) fun f=>a7 (tab f.type) fun z=>
 match a with
 | .t (.agg cs)=>oZ z cs f.offset fun x=>K (.t x)
 | .agg cs=>o_ z cs f.offset K
 |_=>False
def rq(i:Int)(n:Nat):Bool:=decide (0≤i)&&decide (i<(n:Int))
def gJ(tab:bi)(ty:TypeId)(H:AH)(a:AV)(ix:AV)(K:AV→Prop):Prop:=
 a7 (tab ty) fun y=>
 match ix with
 | .t (.int _ i)=>
  match y.d,a with
  | .slice e,.t (.vec s l)=>a7 (tab e) fun z=>Ck (Nat.beq s z.size&&decide (0≤i)) (a7 l[i.toNat]? fun x=>K (.t (.bg x.cells)))
  | .slice e,.t (.θ s l)=>a7 (tab e) fun z=>Ck (Nat.beq s z.size&&decide (0≤i)) (a7 l[i.toNat]? fun x=>K (.t (.bg x.cells)))
  | .slice e,.sl b g j len=>a7 (tab e) fun z=>
   (match H[b]?with
    |some (.arr _ s _ gen _)=>Ck (Nat.beq g gen&&Nat.beq s z.size&&rq i len) (K (.ptr b g (j+i.toNat) 0))
    |_=>False)
  | .array n e,.ptr b g j o=>a7 (tab e) fun z=>Ck (rq i n)
   (match H[b]?with
    |some (.box _)=>K (.ptr b g j (o+i.toNat*z.size))
    |some (.arr _ _ _ gen _)=>Ck (Nat.beq g gen) (K (.ptr b g j (o+i.toNat*z.size)))
    |_=>False)
  | .array n e,.t (.bg cells)=>a7 (tab e) fun z=>Ck (rq i n) (K (.t (.bg (cells.drop (i.toNat*z.size)))))
  |_,_=>False
 |_=>False
def sQ(tab:bi)(ty:TypeId)(a:AV)(ix:AV)(K:AV→Prop):Prop:=
 a7 (tab ty) fun y=>
 match ix with
 | .t (.int _ i)=>
  match y.d,a with
  | .string,.t (.str s)=>Ck (decide (0≤i)) (a7 s[i.toNat]? fun c=>K (.t (.int .u8 c.toNat)))
  | .array n e,.t (.agg cs)=>a7 (tab e) fun z=>Ck (rq i n) (oZ z cs (i.toNat*z.size) fun x=>K (.t x))
  | .array n e,.agg cs=>a7 (tab e) fun z=>Ck (rq i n) (o_ z cs (i.toNat*z.size) K)
  |_,_=>False
 |_=>False
def f_(v:Option AV)(Oy:Nat)(oD:Nat)(K:Nat→Prop):Prop:=
 match v with
 |none=>K Oy
 |some (.t (.int _ n))=>Ck (decide (0≤n)&&decide (n≤(oD:Int))) (K n.toNat)
 |_=>False
def room(gen s i n len:Nat):Nat:=match Nat.beq (gen%2) 1&&Nat.ble 1 s with|true=>len - i|false=>n
def mX(tab:bi)(ty:TypeId)(H:AH)(a:AV)(lo hi mx:Option AV)(K:AV→Prop):Prop:=
 a7 (tab ty) fun y=>
 match mx with
 |some m=>
  match y.d,lo,hi,m with
  | .slice e,some (.t (.int _ 0)),some (.t (.int _ 0)),.t (.int _ 0)=>a7 (tab e) fun _=>
   (match a with
   | .t .af=>K (.t .af)
   | .t (.vec _ _)=>K .dx
   | .dx=>K .dx
   | .sl b g _ _=>
    (match H[b]?with
     |some (.arr _ _ z gen l)=>Ck (Nat.beq g gen) (Br (z&&Nat.beq l.length 0) (K (.t .af)) (K .dx))
     |_=>False)
   |_=>False)
  |_,_,_,_=>False
 |none=>
  match y.d,a with
  | .string,.t (.str s)=>f_ hi s.length s.length fun h=>f_ lo 0 h fun l=>K (.t (.str ((s.drop l).take (h - l))))
  | .slice e,.t (.vec s l)=>a7 (tab e) fun z=>Ck (Nat.beq s z.size) (f_ hi l.length l.length fun h=>f_ lo 0 h fun o=>K (.t (.vec s ((l.drop o).take (h - o)))))
  | .slice e,.t .af=>a7 (tab e) fun _=>f_ hi 0 0 fun h=>f_ lo 0 h fun _=>K (.t .af)
  | .slice e,.t (.θ s l)=>a7 (tab e) fun z=>Ck (Nat.beq s z.size) (f_ hi l.length l.length fun h=>f_ lo 0 h fun o=>K (.t (.θ s ((l.drop o).take (h - o)))))
  | .slice e,.sl b g i n=>a7 (tab e) fun z=>
   (match H[b]?with
    |some (.arr _ s _ gen l)=>Ck (Nat.beq g gen&&Nat.beq s z.size) (f_ hi n (room gen s i n l.length) fun h=>f_ lo 0 h fun o=>K (.sl b g (i+o) (h - o)))
    |_=>False)
  |_,_=>False
def wC(place:Nat→Option (Nat×Nat))(cells:List AV):List (Nat×AV)→(AV→Prop)→Prop
 |[],K=>K (.agg cells)
 |(k,v)::r,K=>a7 (place k) fun p=>
  Ck (Nat.beq v.cells.length p.2&&Nat.ble (p.1+v.cells.length) cells.length&&v.cells.all AV.one) (wC place (setAt cells p.1 v.cells) r K)
def sS(tab:bi)(ty:TypeId)(parts:List (Nat×AV))(K:AV→Prop):Prop:=
 a7 (tab ty) fun y=>a7 y.zero fun zs=>Ck (zs.all T.one)
 (match y.d with
 | .struct fs=>Ck (fs.toList.all fun f=>(tab f.type).isSome) (wC (fun k=>fs[k]?.bind fun f=>(tab f.type).map fun z=>(f.offset,z.size)) (zs.map .t) parts K)
 | .array _ e=>a7 (tab e) fun z=>wC (fun k=>some (k*z.size,z.size)) (zs.map .t) parts K
 |_=>False)
def ep(s:Nat)(cs:List T):T:=
 match s,cs with
 |1,[c]=>c
 |_,_=> .agg cs
def wN(s:Nat)(cs:List AV):AV:=
 match s,cs with
 |1,[c]=>c
 |_,_=>match jm cs with|some l=> .t (.agg l)|none=> .agg cs
def ph(s:Nat)(n:Nat):List (Nat×AV)→Option (List AV)
 |[]=>some []
 |(k,v)::r=>
  match Nat.beq k n&&Nat.beq v.cells.length s&&v.cells.all AV.one,ph s (n+1) r with
  |true,some l=>some (wN s v.cells::l)
  |_,_=>none
def oT(l:List AV):Sq:=
 match jm l with
 |some l=> .ts l
 |none=> .vs l
def oS(tab:bi)(ty:TypeId)(len:Nat)(parts:List (Nat×AV))(H:AH)(K:AV→AH→Prop):Prop:=
 a7 (tab ty) fun y=>
 match y.d with
 | .slice e=>a7 (tab e) fun z=>a7 (ph z.size 0 parts) fun l=>
  Ck (Nat.beq l.length len&&Nat.ble 1 z.size&&Nat.ble (len*z.size) 16777216&&z.zero.isSome) (K (.sl H.length 0 0 len) (H++[.arr e z.size false 0 (oT l)]))
 |_=>False
def jH(tab:bi)(src dst:TypeId)(x:AV)(H:AH)(K:AV→Prop):Prop:=
 a7 (tab dst) fun y=>a7 (tab src) fun w=>
 match y.d,x with
 | .int k,.t (.int _ n)=>a7 (ir tab.stop (k.wrap n)) fun n=>K (.t (.int k n))
 | .string,.t (.str s)=>K (.t (.str s))
 | .string,.t .af=>(match w.d with| .slice e=>a7 (tab e) fun z=>(match z.d with| .int .u8=>K (.t (.str []))|_=>False)|_=>False)
 | .string,.t (.vec s l)=>(match w.d with
  | .slice e=>a7 (tab e) fun z=>(match z.d with| .int .u8=>Ck (Nat.beq s 1) (∃bs:List UInt8,l=bs.map (fun b=>T.int .u8 (b.toNat:Int))∧K (.t (.str bs)))|_=>False)
  |_=>False)
 | .string,.t (.θ s l)=>(match w.d with
  | .slice e=>a7 (tab e) fun z=>(match z.d with| .int .u8=>Ck (Nat.beq s 1) (∃bs:List UInt8,l=bs.map (fun b=>T.int .u8 (b.toNat:Int))∧K (.t (.str bs)))|_=>False)
  |_=>False)
 | .string,.sl b g i n=>(match w.d with
  | .slice e=>a7 (tab e) fun z=>(match z.d with
   | .int .u8=>(match H[b]?with
    |some (.arr _ s _ gen (.ts l))=>Ck (Nat.beq g gen&&Nat.beq s 1) (∃bs:List UInt8,(l.drop i).take n=bs.map (fun b=>T.int .u8 (b.toNat:Int))∧K (.t (.str bs)))
    |_=>False)
   |_=>False)
  |_=>False)
 |_,_=>False
def qx(tab:bi)(ty:TypeId)(len cap:AV)(H:AH)(K:AV→AH→Prop):Prop:=
 a7 (tab ty) fun y=>
 match y.d,len,cap with
 | .slice e,.t (.int _ n),.t (.int _ c)=>a7 (tab e) fun z=>a7 z.zero fun zs=>
  Ck (decide (0≤n)&&decide (n≤c)&&decide (c*(z.bytes:Int)≤140737488355328)&&decide (c≤9223372036854775807)&&Nat.ble 1 z.size&&Nat.beq zs.length z.size&&zs.all T.one)
   (Br (decide (n<c)) (K (.sl H.length 1 0 n.toNat) (H++[.arr e z.size false 1 (.ts (List.replicate c.toNat (ep z.size zs)))])) (K (.sl H.length 0 0 n.toNat) (H++[.arr e z.size false 0 (.ts (List.replicate n.toNat (ep z.size zs)))])))
 |_,_,_=>False
def oh(x:AV)(i:Nat)(K:AV→Prop):Prop:=
 match x with
 | .aq vs=>a7 vs[i]? K
 |_=>False
def wB(c a b:AV)(K:AV→Prop):Prop:=
 match c with
 | .t (.bool c)=>
  match a,b with
  | .t (.bool x),.t (.bool y)=>K (.t (.bool (cond c x y)))
  |_,_=>Br c (K a) (K b)
 |_=>False
def zX(tab:bi)(ty:TypeId)(x:AV)(H:AH)(K:AV→AH→Prop):Prop:=
 match x with
 | .t .af=>
  (match tab ty with
   |some y=>(match y.d with
    | .slice e=>(match tab e with
     |some z=>(match Nat.ble 1 z.size with|true=>K (.sl H.length 0 0 0) (H++[.arr e z.size true 0 (.ts [])])|false=>K x H)
     |none=>K x H)
    |_=>K x H)
   |none=>K x H)
 |_=>K x H
def uf(H:AH):AV→Option Nat
 | .t (.str s)=>some s.length
 | .t (.vec _ l)=>some l.length
 | .t (.θ _ l)=>some l.length
 | .t .af=>some 0
 | .sl b g _ n=>
  match H[b]?with
  |some (.arr _ _ _ gen _)=>match Nat.beq g gen with|true=>some n|false=>none
  |_=>none
 | .dx=>some 0
 |_=>none
def HL:TypeDesc→Bool
 | .string=>true
 | .slice _=>true
 |_=>false
def yV:AV→Bool
 | .t (.str _)=>true
 |_=>false
def DE:TypeDesc→Bool
 | .string=>true
 |_=>false
def tA(tab:bi)(ty:TypeId)(H:AH)(x:AV)(K:AV→Prop):Prop:=
 a7 (tab ty) fun y=>
 match y.d with
 | .array n _=>K (.t (.int .i64 n))
 |_=>Ck (HL y.d&&(DE y.d==yV x)) (a7 (uf H x) fun n=>K (.t (.int .i64 n)))
def uE(H:AH)(s:Nat):AV→Option Sq
 | .t (.str l)=>match Nat.beq s 1 with|true=>some (.ts (l.map fun c=> .int .u8 (c.toNat:Int)))|false=>none
 | .t (.vec s' l)=>match Nat.beq s s' with|true=>some (.ts l)|false=>none
 | .t (.θ s' l)=>match Nat.beq s s' with|true=>some (.ts l)|false=>none
 | .t .af=>some (.ts [])
 | .sl b g i n=>
  match H[b]?with
  |some (.arr _ s' _ gen l)=>match Nat.beq g gen&&Nat.beq s s' with|true=>some (l.part i n)|false=>none
  |_=>none
 | .dx=>some (.ts [])
 |_=>none
def cI(n bytes:Nat):Bool:=decide (n≤9223372036854775807)&&(decide (n*bytes≤140737488355328)||decide ((n+n/4+192)*bytes≤281474976710656))
def zY(tab:bi)(ty:TypeId)(H:AH)(a x:AV)(K:AV→AH→Prop):Prop:=
 a7 (tab ty) fun y=>
 match y.d with
 | .slice e=>a7 (tab e) fun z=>a7 z.zero fun zs=>a7 (uE H z.size x) fun news=>
  Ck (Nat.ble 1 z.size&&Nat.beq zs.length z.size)
  (match a with
  | .t .af=>Ck (cI news.length z.bytes) (K (.sl H.length 0 0 news.length) (H++[.arr e z.size true 0 news]))
  | .dx=>Ck (cI news.length z.bytes) (K (.sl H.length 0 0 news.length) (H++[.arr e z.size false 0 news]))
  | .sl b g i n=>
   (match H[b]?with
    |some (.arr e' s z' gen l)=>
     Ck (Nat.beq g gen&&Nat.beq i 0&&Nat.beq e e'&&Nat.beq s z.size) ((n=l.length∧Ck (cI (n+news.length) z.bytes)
      (K (.sl b (gen+2 - gen%2) 0 (n+news.length)) (H.set b (.arr e' s z' (gen+2 - gen%2) (l.kV news)))))∨
      Ck (Nat.ble 1 l.length&&Nat.ble (n+news.length) l.length) (K (.sl b gen 0 (n+news.length)) (H.set b (.arr e' s z' gen (l.put n news)))))
    |_=>False)
  |_=>False)
 |_=>False
def xE(tab:bi)(ty:TypeId)(a x:AV)(H:AH)(K:AV→AH→Prop):Prop:=
 a7 (tab ty) fun y=>
 match y.d with
 | .slice e=>a7 (tab e) fun z=>a7 z.zero fun zs=>
  (match a,x with
  | .t .af,.t (.int k n)=>
   Ck (gk k .i64&&decide (0<n)&&cI n.toNat z.bytes&&Nat.ble 1 z.size&&Nat.beq zs.length z.size&&zs.all T.one)
    (K (.sl H.length 0 0 n.toNat) (H++[.arr e z.size true 0 (.ts (List.replicate n.toNat (ep z.size zs)))]))
  |_,_=>False)
 |_=>False
def MB(tab:bi)(ty:TypeId)(H:AH)(x:AV)(K:AV→Prop):Prop:=
 a7 (tab ty) fun y=>
 match y.d,x with
 | .slice _,.t .af=>K (.t (.int .i64 0))
 | .slice _,.sl b g i n=>
  (match H[b]?with
   |some (.arr _ s z gen l)=>Ck (Nat.beq g gen) (Br (z&&Nat.beq l.length 0) (K (.t (.int .i64 0))) (Ck (Nat.beq (gen%2) 1&&Nat.ble 1 s) (K (.t (.int .i64 ((l.length - i:Nat):Int))))))
   |_=>False)
 |_,_=>False
def GQ(tab:bi)(ty:TypeId)(a x:AV)(H:AH)(K:AV→AH→Prop):Prop:=
 a7 (tab ty) fun y=>
 match y.d with
 | .slice e=>a7 (tab e) fun z=>
  (match a with
  | .t .af=>Ck (!yV x) (a7 (uf H x) fun _=>K (.t (.int .i64 0)) H)
  | .sl b g i n=>
   (match H[b]?with
    |some (.arr e' s z' gen l)=>a7 (uE H z.size x) fun news=>
     Ck (Nat.beq g gen&&Nat.beq s z.size&&Nat.ble 1 z.size&&Nat.ble 1 l.length) (Ck (Nat.ble news.length n) (K (.t (.int .i64 news.length)) (H.set b (.arr e' s z' gen (l.put i news)))))
    |_=>False)
  |_=>False)
 |_=>False
def DF:TypeDesc→Bool
 | .int _=>true
 |_=>false
def mI(mx:Bool)(x y:AV)(K:AV→Prop):Prop:=
 match x,y with
 | .t (.int k a),.t (.int k' b)=>Ck (gk k k') (K (.t (.int k (match mx with|true=>max a b|false=>min a b))))
 |_,_=>False
abbrev kB:=FuncId→List AV→AH→(AV→AH→Prop)→Prop
def yp(tab:bi)(call:kB)(c:Call)(ty:TypeId)(env:List (Nat×AV))(H:AH)(K:AV→AH→Prop):Prop:=
 match c.callee with
 | .builtin b=>
  (match b,c.argTypes.toList,c.args.toList with
  | .len,[t],[x]=>tA tab t H (aO env x) fun v=>K v H
  | .append,[t,u],[x,y]=>a7 (tab u) fun z=>(match DF z.d with|true=>xE tab t (aO env x) (aO env y) H K|false=>zY tab t H (aO env x) (aO env y) K)
  | .cap,[t],[x]=>MB tab t H (aO env x) fun v=>K v H
  | .copy,[t,_],[x,y]=>GQ tab t (aO env x) (aO env y) H K
  | .min,_,[x,y]=>mI false (aO env x) (aO env y) fun v=>K v H
  | .max,_,[x,y]=>mI true (aO env x) (aO env y) fun v=>K v H
  |_,_,_=>False)
 | .value f=>
  (match aO env f with
  | .t (.fn (.func g) first captured)=>call g (first.map .t++(c.args.toList.map (aO env)++captured.map .t)) H K
  | .fn (.func g) first captured=>call g (first++(c.args.toList.map (aO env)++captured)) H K
  |_=>False)
 | .invoke _ _=>False
def iJ(H:AH)(x:AV)(K:AV→Prop):Prop:=
 match x with
 | .t (.bg c)=>K x
 | .ptr b g i o=>
  (match H[b]?with
   |some (.box _)=>K x
   |some (.arr _ _ _ gen _)=>Ck (Nat.beq g gen) (K x)
   |_=>False)
 | .t (.fn (.func f) a b)=>K x
 | .fn (.func f) a b=>K x
 |_=>False
def Cr(tab:bi)(ty:TypeId)(x:AV)(H:AH)(K:AV→AH→Prop):Prop:=
 a7 (tab ty) fun y=>
 match y.d,x with
 | .string,.t (.str s)=>K (.ptr H.length 0 0 0) (H++[.iter s 0])
 |_,_=>False
def GP(x:AV)(st:Bool)(H:AH)(K:AV→AH→Prop):Prop:=
 match x with
 | .ptr b _ _ o=>
  (match H[b]?with
   |some (.iter s p)=>Ck (st&&Nat.beq o 0)
    (match s[p]?with
    |some c=>Ck (Nat.blt c.toNat 128) (K (.aq [.t (.bool true),.t (.int .i64 p),.t (.int .i32 c.toNat)]) (H.set b (.iter s (p+1))))
    |none=>K (.aq [.t (.bool false)]) H)
   |_=>False)
 |_=>False
def rR(tab:bi)(call:kB)(o:Oper)(env:List (Nat×AV))(H:AH)(K:AV→AH→Prop):Prop:=
 match o.op with
 | .move x=>K (aO env x) H
 | .assign x=>zX tab o.type (aO env x) H K
 | .pick c a b=>wB (aO env c) (aO env a) (aO env b) fun v=>K v H
 | .alloc e=>a7 (tab e) fun y=>a7 y.zero fun zs=>Ck (zs.all T.one&&Nat.beq zs.length y.size)
  (match Nat.ble 300 y.size with|true=>K (.ptr H.length 0 0 0) (H++[.arr e y.size false 0 (.ts [.agg zs])])|false=>K (.ptr H.length 0 0 0) (H++[.box (zs.map .t)]))
 | .box e x=>Ck ((aO env x).cells.all AV.one) (K (.ptr H.length 0 0 0) (H++[.box (aO env x).cells]))
 | .build t parts=>sS tab t (parts.toList.map fun p=>(p.1,aO env p.2)) fun v=>K v H
 | .buildSlice t n parts=>oS tab t n (parts.toList.map fun p=>(p.1,aO env p.2)) H K
 | .load t a=>oR tab t H (aO env a) fun v=>K v H
 | .store t a x=>Cq tab t H (aO env a) (aO env x) fun H'=>K (.aq []) H'
 | .nilCheck x=>iJ H (aO env x) fun v=>K v H
 | .binOp op t x y _=>tB tab op t H (aO env x) (aO env y) (isConst y) fun v=>K (.t v) H
 | .unOp op _ x=>FH tab.stop op (aO env x) fun v=>K (.t v) H
 | .convert s d x=>jH tab s d (aO env x) H fun v=>K v H
 | .makeInterface t x=>a7 (tab t) fun y=>Ck (match y.d with| .interface _=>false|_=>true)
  (match aO env x with| .t v=>K (.t (.cG t v)) H|v=>K (.cG t v) H)
 | .makeFunc f first captured=>K (.fn f (first.toList.map (aO env)) (captured.toList.map (aO env))) H
 | .makeSlice t l c=>qx tab t (aO env l) (aO env c) H K
 | .slice t x lo hi mx=>mX tab t H (aO env x) (lo.map (aO env)) (hi.map (aO env)) (mx.map (aO env)) fun v=>K v H
 | .fieldAddr t x k=>gL tab t H (aO env x) k fun v=>K v H
 | .field t x k=>sR tab t (aO env x) k fun v=>K v H
 | .indexAddr t x i=>gJ tab t H (aO env x) (aO env i) fun v=>K v H
 | .index t x i=>sQ tab t (aO env x) (aO env i) fun v=>K v H
 | .extract x i=>oh (aO env x) i fun v=>K v H
 | .call c=>yp tab call c o.type env H K
 | .range t x=>Cr tab t (aO env x) H K
 | .next x st=>GP (aO env x) st H K
 |_=>False
def dc(ops:Array Oper)(j:Nat):Option Nat:=(ops[j]?).bind (·.dst)
def lJ(tab:bi)(call:kB)(ops:Array Oper)(o:Oper)(s:St)(K:St→Prop):Prop:=
 match s with
 |⟨env,H⟩=>
 match o.guard with
 |none=>rR tab call o env H fun v H=>CI o.op ⟨env,H⟩ o.dst v H K
 |some (j,want)=>
  a7 (dc ops j) fun d=>
  match lk env d with
  | .t (.bool c)=>
   (match want with
   |true=>Br c (rR tab call o ((d,.t (.bool true))::env) H fun v H'=>CI o.op ⟨(d,.t (.bool true))::env,H⟩ o.dst v H' K) (nV ⟨(d,.t (.bool false))::env,H⟩ o.dst (.aq []) H K)
   |false=>Br c (nV ⟨(d,.t (.bool true))::env,H⟩ o.dst (.aq []) H K) (rR tab call o ((d,.t (.bool false))::env) H fun v H'=>CI o.op ⟨(d,.t (.bool false))::env,H⟩ o.dst v H' K))
  | .aq []=>nV ⟨env,H⟩ o.dst (.aq []) H K
  |_=>False
noncomputable def Rx(tab:bi)(call:kB)(ops:Array Oper)(l:List Oper):St→(St→Prop)→Prop:=
 @List.rec Oper (fun _=>St→(St→Prop)→Prop) (fun s K=>K s) (fun o _ ih s K=>lJ tab call ops o s fun s'=>ih s' K) l
inductive Ex where
 |normal|exit (id:Nat)|ret
end Go.Proofs.YtcogcbplmkcojaaGreatDoor
namespace Go.Proofs.YtcogcbplmkcojaaGreatDoor
open Go.RowKit
set_option linter.unusedVariables false
def Cx.new(c:Cx)(n cb:Nat):Cx:=⟨c.F,fun b=>if b=n then some cb else c.G b⟩
theorem bw{α:Type}{l:List α}{x:α}{i:Nat}(h:i<l.length):(l++[x])[i]?=l[i]?:=by
 rw[List.getElem?_append_left h]
theorem ij{α:Type}{l:List α}{x:α}:(l++[x])[l.length]?=some x:=by simp
theorem HS.TX{w c H B}(h:HS w c H B):c.G H.length=none:=by
 cases hg:c.G H.length with
 |none=>rfl
 |some cb=>have:=h.kz _ _ hg;omega
theorem κ{α:Type}{l:List α}{i:Nat}{x:α}(h:l[i]?=some x):i<l.length:=by
 rcases Nat.lt_or_ge i l.length with h1|h1
 ·exact h1
 ·simp[List.getElem?_eq_none h1]at h
theorem dI(w:World)(o:Obj)(i:Nat)(h:i<w.heap.size):(w.alloc o).heap[i]?=w.heap[i]?:=Below.heap_alloc w o i h
theorem nG{w:World}{c:Cx}{H:AH}{B:Nat}(hs:HS w c H B)(o:Obj)(π:Ω):Ev w c H (w.alloc o) (c.new H.length w.heap.size) (H++[π]):=by
 refine⟨rfl,by simp,fun b bk hb=>⟨bk,by rw[bw (κ hb)];exact hb,?_⟩,fun cb hm=> ?_,fun cb ω _=>dI w _ cb ω,
  fun b bk hb _ hg=>by have:=κ hb;simp only[Cx.new,if_neg (show b≠H.length by omega)];exact hg⟩
 ·have au:b≠H.length:=by have:=κ hb;omega
  cases bk with
  |dead=>trivial
  |box cs=>exact⟨rfl,fun cb hc=>by simp only[Cx.new,if_neg au];exact hc⟩
  |iter s p=>exact⟨rfl,fun cb hc=>by simp only[Cx.new,if_neg au];exact hc⟩
  |arr e s z g l=>
   refine⟨rfl,rfl,rfl,Nat.le_refl _,Nat.le_refl _,fun _=>⟨rfl,fun cb hc=>⟨by simp only[Cx.new,if_neg au];exact hc,?_⟩⟩⟩
   unfold dX
   rw[dI w _ cb (hs.base b cb hc).2]
 ·rcases hm with⟨b,bk,hb,hl,hg⟩
  ·simp only[Cx.new]at hg
   split at hg
   ·exact .inr (by simp at hg;omega)
   ·rename_i au
    refine .inl ⟨b,bk,?_,hl,hg⟩
    have:=κ hb
    simp at this
    rwa [bw (by omega)]at hb
theorem jG{w:World}{B:Nat}(hB:B≤w.heap.size)(o:Obj):Below B w (w.alloc o):=(Below.refl B w).alloc hB o
theorem dE.ew{w c H w' c' H' s}{l:Sq}{arr:Array Value}(h:dE w c H s l arr)(ev:Ew w c H w' c' H'):dE w' c' H' s l arr:=fun i x hi=>⟨(h i x hi).1,fun j y hj=>by
 obtain⟨v,b1,b2,b3,b4⟩:=(h i x hi).2 j y hj
 exact⟨v,b1,b2,b3.ew ev,b4⟩⟩
theorem dE.ev{w c H w' c' H' s}{l:Sq}{arr:Array Value}(h:dE w c H s l arr)(ev:Ev w c H w' c' H'):dE w' c' H' s l arr:=h.ew ev.w
theorem HS.yS{w c H B w' c' H'}(h:HS w c H B)(ev:Ew w c H w' c' H')(x8:∀b b' cb,c'.G b=some cb→c'.G b'=some cb→b=b')
 (pg:∀b cb,c'.G b=some cb→B≤cb∧cb<w'.heap.size) (vW:∀b cb,c'.G b=some cb→b<H'.length)
 (Ed:∀b cb cells,H'[b]?=some (.box cells)→c'.G b=some cb→(H[b]?=some (.box cells)∧c.G b=some cb∧w'.heap[cb]?=w.heap[cb]?)∨
  ∃arr e,w'.heap[cb]?=some (.cells arr e (0,0))∧arr.size=cells.length∧∀(j:Nat) x v,cells[j]?=some x→arr[j]?=some v→x.one=true∧RA w' c' H' x v∧v.oneCell'=true)
 (fF:∀b cb e s z g l,H'[b]?=some (.arr e s z g l)→c'.G b=some cb→(H[b]?=some (.arr e s z g l)∧c.G b=some cb∧w'.heap[cb]?=w.heap[cb]?)∨
  ∃arr cap,w'.heap[cb]?=some (.cells arr e (0,0))∧arr.size=cap*s∧(l.length≤cap∧(g%2=1→l.length=cap))∧cap≤maxLen∧dE w' c' H' s l arr)
 (H8:∀b cb s p,H'[b]?=some (.iter s p)→c'.G b=some cb→(H[b]?=some (.iter s p)∧c.G b=some cb∧w'.heap[cb]?=w.heap[cb]?)∨∃bs:ByteArray,w'.heap[cb]?=some (.stringIter bs p)∧bs.data.toList=s)
 (uh:∀b cb,c'.G b=some cb→(∃b',c.G b'=some cb)∨w.heap.size≤cb:=by
  first
   |exact fun b cb h=> .inl ⟨b,h⟩
   |(intro b cb h;simp only[Cx.new]at h;split at h<;>first|exact .inl ⟨_,h⟩|exact .inr (by simp at h;omega))):
 HS w' c' H' B:=by
 refine⟨x8,pg,fun cb hf=>by
  rw[ev.F]at hf
  have h1:=h.fb cb hf
  exact⟨Nat.lt_of_lt_of_le h1.1 ev.size,fun b hb=>(uh b cb hb).elim (fun⟨b',h2⟩=>h1.2 b' h2) fun h2=>by omega⟩,Nat.le_trans h.hB ev.size,vW,fun b cb cells hb hg=> ?_,fun b cb e s z g l hb hg=> ?_,fun b cb s p hb hg=> ?_⟩
 ·rcases Ed b cb cells hb hg with⟨h1,h2,h3⟩|h1
  ·obtain⟨arr,e,a1,a2,a3⟩:=h.box b cb cells h1 h2
   exact⟨arr,e,h3.trans a1,a2,fun j x v hj hv=>⟨(a3 j x v hj hv).1,(a3 j x v hj hv).2.1.ew ev,(a3 j x v hj hv).2.2⟩⟩
  ·exact h1
 ·rcases fF b cb e s z g l hb hg with⟨h1,h2,h3⟩|h1
  ·obtain⟨arr,cap,a1,a2,a3,a4,a5⟩:=h.arr b cb e s z g l h1 h2
   exact⟨arr,cap,h3.trans a1,a2,a3,a4,a5.ew ev⟩
  ·exact h1
 ·rcases H8 b cb s p hb hg with⟨h1,h2,h3⟩|h1
  ·obtain⟨bs,a1,a2⟩:=h.iter b cb s p h1 h2
   exact⟨bs,h3.trans a1,a2⟩
  ·exact h1
theorem HS.az{w c H B w' c' H'}(h:HS w c H B)(ev:Ev w c H w' c' H')(x8:∀b b' cb,c'.G b=some cb→c'.G b'=some cb→b=b')
 (pg:∀b cb,c'.G b=some cb→B≤cb∧cb<w'.heap.size) (vW:∀b cb,c'.G b=some cb→b<H'.length)
 (Ed:∀b cb cells,H'[b]?=some (.box cells)→c'.G b=some cb→(H[b]?=some (.box cells)∧c.G b=some cb∧w'.heap[cb]?=w.heap[cb]?)∨
  ∃arr e,w'.heap[cb]?=some (.cells arr e (0,0))∧arr.size=cells.length∧∀(j:Nat) x v,cells[j]?=some x→arr[j]?=some v→x.one=true∧RA w' c' H' x v∧v.oneCell'=true)
 (fF:∀b cb e s z g l,H'[b]?=some (.arr e s z g l)→c'.G b=some cb→(H[b]?=some (.arr e s z g l)∧c.G b=some cb∧w'.heap[cb]?=w.heap[cb]?)∨
  ∃arr cap,w'.heap[cb]?=some (.cells arr e (0,0))∧arr.size=cap*s∧(l.length≤cap∧(g%2=1→l.length=cap))∧cap≤maxLen∧dE w' c' H' s l arr)
 (H8:∀b cb s p,H'[b]?=some (.iter s p)→c'.G b=some cb→(H[b]?=some (.iter s p)∧c.G b=some cb∧w'.heap[cb]?=w.heap[cb]?)∨∃bs:ByteArray,w'.heap[cb]?=some (.stringIter bs p)∧bs.data.toList=s)
 (uh:∀b cb,c'.G b=some cb→(∃b',c.G b'=some cb)∨w.heap.size≤cb:=by
  first
   |exact fun b cb h=> .inl ⟨b,h⟩
   |(intro b cb h;simp only[Cx.new]at h;split at h<;>first|exact .inl ⟨_,h⟩|exact .inr (by simp at h;omega))):
 HS w' c' H' B:=h.yS ev.w x8 pg vW Ed fF H8 uh
theorem Ar{w c H B}(hs:HS w c H B)(o:Obj):∀b b' cb,(c.new H.length w.heap.size).G b=some cb→(c.new H.length w.heap.size).G b'=some cb→b=b':=by
 intro b b' cb h h'
 simp only[Cx.new]at h h'
 split at h<;>split at h'
 ·omega
 ·have:=(hs.base b' cb h').2;simp at h;omega
 ·have:=(hs.base b cb h).2;simp at h';omega
 ·exact hs.inj b b' cb h h'
theorem xV{w c H B}(hs:HS w c H B)(o:Obj):∀b cb,(c.new H.length w.heap.size).G b=some cb→B≤cb∧cb<(w.alloc o).heap.size:=by
 intro b cb h
 simp only[Cx.new]at h⊢
 split at h
 ·simp at h;subst h;exact⟨hs.hB,by simp⟩
 ·have:=hs.base b cb h;exact⟨this.1,by simp;omega⟩
theorem As{w c H B}(hs:HS w c H B)(π:Ω):∀b cb,(c.new H.length w.heap.size).G b=some cb→b<(H++[π]).length:=by
 intro b cb h
 simp only[Cx.new]at h
 split at h
 ·simp;omega
 ·have:=hs.kz b cb h;simp;omega
theorem QH{w:World}{c:Cx}{H:AH}{B:Nat}(hs:HS w c H B)(e:TypeId)(cells:List AV)(arr:Array Value)(hl:arr.size=cells.length)
 (hc:∀(j:Nat) x v,cells[j]?=some x→arr[j]?=some v→x.one=true∧RA w c H x v∧v.oneCell'=true):
 HS (w.alloc (.cells arr e)) (c.new H.length w.heap.size) (H++[.box cells]) B:=by
 have ev:=nG hs (.cells arr e) (.box cells)
 refine hs.az ev (Ar hs (.cells arr e)) (xV hs (.cells arr e)) (As hs (.box cells)) (fun b cb cs hb hg=> ?_) (fun b cb e s z g l hb hg=> ?_) (fun b cb s p hb hg=> ?_)
 ·by_cases aD:b=H.length
  ·subst aD
   simp only[Cx.new,if_true]at hg
   simp at hb hg
   subst hb hg
   exact .inr ⟨arr,e,heap_alloc_new w _,hl,fun j x v hj hv=>⟨(hc j x v hj hv).1,(hc j x v hj hv).2.1.ev ev,(hc j x v hj hv).2.2⟩⟩
  ·simp only[Cx.new,if_neg aD]at hg
   have h1:=κ hb
   simp at h1
   rw[bw (by omega)]at hb
   exact .inl ⟨hb,hg,dI w _ cb (hs.base b cb hg).2⟩
 ·by_cases aD:b=H.length
  ·subst aD;simp at hb
  ·simp only[Cx.new,if_neg aD]at hg
   have h1:=κ hb
   simp at h1
   rw[bw (by omega)]at hb
   exact .inl ⟨hb,hg,dI w _ cb (hs.base b cb hg).2⟩
 ·by_cases aD:b=H.length
  ·subst aD;simp at hb
  ·simp only[Cx.new,if_neg aD]at hg
   have h1:=κ hb
   simp at h1
   rw[bw (by omega)]at hb
   exact .inl ⟨hb,hg,dI w _ cb (hs.base b cb hg).2⟩
theorem wL{w:World}{c:Cx}{H:AH}{B:Nat}(hs:HS w c H B)(e s:Nat)(z:Bool)(g:Nat)(l:Sq)(arr:Array Value)(cap:Nat)
 (bE:arr.size=cap*s) (hl:l.length≤cap∧(g%2=1→l.length=cap)) (hm:cap≤maxLen)
 (hc:dE w c H s l arr):
 HS (w.alloc (.cells arr e)) (c.new H.length w.heap.size) (H++[.arr e s z g l]) B:=by
 have ev:=nG hs (.cells arr e) (.arr e s z g l)
 refine hs.az ev (Ar hs (.cells arr e)) (xV hs (.cells arr e)) (As hs (.arr e s z g l)) (fun b cb cs hb hg=> ?_) (fun b cb e s z g l hb hg=> ?_) (fun b cb s p hb hg=> ?_)
 ·by_cases aD:b=H.length
  ·subst aD;simp at hb
  ·simp only[Cx.new,if_neg aD]at hg
   have h1:=κ hb
   simp at h1
   rw[bw (by omega)]at hb
   exact .inl ⟨hb,hg,dI w _ cb (hs.base b cb hg).2⟩
 ·by_cases aD:b=H.length
  ·subst aD
   simp only[Cx.new,if_true]at hg
   simp at hb hg
   obtain⟨rfl,rfl,rfl,rfl,rfl⟩:=hb
   subst hg
   exact .inr ⟨arr,cap,heap_alloc_new w _,bE,hl,hm,hc.ev ev⟩
  ·simp only[Cx.new,if_neg aD]at hg
   have h1:=κ hb
   simp at h1
   rw[bw (by omega)]at hb
   exact .inl ⟨hb,hg,dI w _ cb (hs.base b cb hg).2⟩
 ·by_cases aD:b=H.length
  ·subst aD;simp at hb
  ·simp only[Cx.new,if_neg aD]at hg
   have h1:=κ hb
   simp at h1
   rw[bw (by omega)]at hb
   exact .inl ⟨hb,hg,dI w _ cb (hs.base b cb hg).2⟩
theorem Nz{w:World}{c:Cx}{H:AH}{B:Nat}(hs:HS w c H B)(bs:ByteArray)(pos:Nat):
 HS (w.alloc (.stringIter bs pos)) (c.new H.length w.heap.size) (H++[.iter bs.data.toList pos]) B:=by
 have ev:=nG hs (.stringIter bs pos) (.iter bs.data.toList pos)
 refine hs.az ev (Ar hs (.stringIter bs pos)) (xV hs (.stringIter bs pos)) (As hs (.iter bs.data.toList pos)) (fun b cb cs hb hg=> ?_) (fun b cb e s z g l hb hg=> ?_) (fun b cb s p hb hg=> ?_)
 ·by_cases aD:b=H.length
  ·subst aD;simp at hb
  ·simp only[Cx.new,if_neg aD]at hg
   have h1:=κ hb
   simp at h1
   rw[bw (by omega)]at hb
   exact .inl ⟨hb,hg,dI w _ cb (hs.base b cb hg).2⟩
 ·by_cases aD:b=H.length
  ·subst aD;simp at hb
  ·simp only[Cx.new,if_neg aD]at hg
   have h1:=κ hb
   simp at h1
   rw[bw (by omega)]at hb
   exact .inl ⟨hb,hg,dI w _ cb (hs.base b cb hg).2⟩
 ·by_cases aD:b=H.length
  ·subst aD
   simp only[Cx.new,if_true]at hg
   simp at hb hg
   obtain⟨rfl,rfl⟩:=hb
   subst hg
   exact .inr ⟨bs,heap_alloc_new w _,rfl⟩
  ·simp only[Cx.new,if_neg aD]at hg
   have h1:=κ hb
   simp at h1
   rw[bw (by omega)]at hb
   exact .inl ⟨hb,hg,dI w _ cb (hs.base b cb hg).2⟩
theorem q_{w:World}{c:Cx}{H:AH}{B:Nat}(hs:HS w c H B)(π:Ω):Ev w c H w c (H++[π])∧HS w c (H++[π]) B:=by
 have vW:=hs.TX
 have ev:Ev w c H w c (H++[π]):=by
  refine⟨rfl,Nat.le_refl _,fun b bk hb=>⟨bk,by rw[bw (κ hb)];exact hb,?_⟩,fun cb hm=> ?_,fun _ _ _=>rfl,fun _ _ _ _ h=>h⟩
  ·cases bk with
   |dead=>trivial
   |box cs=>exact⟨rfl,fun _ h=>h⟩
   |iter s p=>exact⟨rfl,fun _ h=>h⟩
   |arr=>exact⟨rfl,rfl,rfl,Nat.le_refl _,Nat.le_refl _,fun _=>⟨rfl,fun _ h=>⟨h,rfl⟩⟩⟩
  ·rcases hm with⟨b,bk,hb,hl,hg⟩
   ·refine .inl ⟨b,bk,?_,hl,hg⟩
    rwa [bw (hs.kz b cb hg)]at hb
 refine⟨ev,hs.az ev hs.inj hs.base (fun b cb h=>by have:=hs.kz b cb h;simp;omega) (fun b cb cs hb hg=> ?_) (fun b cb e s z g l hb hg=> ?_) (fun b cb s p hb hg=> ?_)⟩
 ·rw[bw (hs.kz b cb hg)]at hb;exact .inl ⟨hb,hg,rfl⟩
 ·rw[bw (hs.kz b cb hg)]at hb;exact .inl ⟨hb,hg,rfl⟩
 ·rw[bw (hs.kz b cb hg)]at hb;exact .inl ⟨hb,hg,rfl⟩
theorem lN{w:World}{c:Cx}{H:AH}(π:Ω):(H++[π])[H.length]?=some π∧(c.new H.length w.heap.size).G H.length=some w.heap.size:=by
 simp[Cx.new]
theorem jY(w:World)(arr:Array Value)(e:TypeId):dX (w.alloc (.cells arr e)) w.heap.size=arr.size:=by
 unfold dX;rw[heap_alloc_new]
theorem kill{w:World}{c:Cx}{H:AH}{B:Nat}(hs:HS w c H B)(b:Nat):Ev w c H w c (H.set b .dead)∧HS w c (H.set b .dead) B:=by
 have get:∀(i:Nat) bk,H[i]?=some bk→(H.set b .dead)[i]?=some (if i=b then .dead else bk):=by
  intro i bk hi
  have:=κ hi
  by_cases h:b=i
  ·subst h;simp[this]
  ·rw[List.getElem?_set_ne h,hi,if_neg (fun e=>h e.symm)]
 have back:∀(i:Nat) bk,(H.set b .dead)[i]?=some bk→bk≠.dead→H[i]?=some bk:=by
  intro i bk hi au
  by_cases h:b=i
  ·subst h
   have:=κ hi
   simp at this
   simp[this]at hi
   exact(au hi.symm).elim
  ·rwa [List.getElem?_set_ne h]at hi
 have ev:Ev w c H w c (H.set b .dead):=by
  refine⟨rfl,Nat.le_refl _,fun i bk hi=>⟨_,get i bk hi,?_⟩,fun cb hm=> ?_,fun _ _ _=>rfl,fun _ _ _ _ h=>h⟩
  ·split
   ·cases bk<;>trivial
   ·cases bk with
    |dead=>trivial
    |box cs=>exact⟨rfl,fun _ h=>h⟩
    |iter s p=>exact⟨rfl,fun _ h=>h⟩
    |arr=>exact⟨rfl,rfl,rfl,Nat.le_refl _,Nat.le_refl _,fun _=>⟨rfl,fun _ h=>⟨h,rfl⟩⟩⟩
  ·rcases hm with⟨i,bk,hi,hl,hg⟩
   ·exact .inl ⟨i,bk,back i bk hi (by rintro rfl;simp[Ω.live]at hl),hl,hg⟩
 refine⟨ev,hs.az ev hs.inj hs.base (fun b cb h=>by have:=hs.kz b cb h;simp;omega) (fun i cb cs hi hg=> ?_) (fun i cb e s z g l hi hg=> ?_) (fun i cb s p hi hg=> ?_)⟩
 ·exact .inl ⟨back i _ hi (by simp),hg,rfl⟩
 ·exact .inl ⟨back i _ hi (by simp),hg,rfl⟩
 ·exact .inl ⟨back i _ hi (by simp),hg,rfl⟩
end Go.Proofs.YtcogcbplmkcojaaGreatDoor
namespace Go.Proofs.YtcogcbplmkcojaaGreatDoor
open Go.RowKit
set_option linter.unusedVariables false
set_option linter.unusedSimpArgs false
theorem AE{w w':World}(h:w'.heap=w.heap)(c:Cx)(H:AH):Ev w c H w' c H:=by
 refine⟨rfl,by rw[h];exact Nat.le_refl _,fun b π hb=>⟨π,hb,?_⟩,fun _ h=> .inl h,fun _ _ _=>by rw[h],fun _ _ _ _ h=>h⟩
 cases π with
 |dead=>trivial
 |box cs=>exact⟨rfl,fun _ h=>h⟩
 |iter s p=>exact⟨rfl,fun _ h=>h⟩
 |arr=>exact⟨rfl,rfl,rfl,Nat.le_refl _,Nat.le_refl _,fun _=>⟨rfl,fun cb hc=>⟨hc,by simp only[dX,h]⟩⟩⟩
theorem HS.same{w w':World}{c H B}(hs:HS w c H B)(h:w'.heap=w.heap):HS w' c H B:=by
 refine hs.az (AE h c H) hs.inj (fun b cb hg=>by rw[h];exact hs.base b cb hg) hs.kz (fun b cb cells hb hg=> .inl ⟨hb,hg,by rw[h]⟩) (fun b cb e s z g l hb hg=> .inl ⟨hb,hg,by rw[h]⟩) (fun b cb s p hb hg=> .inl ⟨hb,hg,by rw[h]⟩)
theorem zA{w:World}{B:Nat}:Below B w w.drew:=(Below.refl B w).drew
theorem UW{w:World}{c:Cx}{H:AH}{B:Nat}(hs:HS w c H B){b cb:Nat}{π aA:Ω}(hb:H[b]?=some π)(hl:π.live=true)(hg:c.G b=some cb)
 {arr dU:Array Value} {e:TypeId} (hc:w.heap[cb]?=some (.cells arr e (0,0))) (bE:dU.size=arr.size)
 (goes:Ω.goes w c (w.setRow cb dU) c b π aA):Ev w c H (w.setRow cb dU) c (H.set b aA):=by
 have ω:=κ hb
 refine⟨rfl,by simp,fun i bk hi=> ?_,fun k hm=> ?_,fun k _ hm=>setRow_other w cb k dU (fun e=>hm (⟨b,π,hb,hl,by rw[e];exact hg⟩)),fun _ _ _ _ h=>h⟩
 ·by_cases h:b=i
  ·subst h
   rw[hb]at hi
   cases hi
   exact⟨aA,by simp[ω],goes⟩
  ·refine⟨bk,by rw[List.getElem?_set_ne h];exact hi,?_⟩
   cases bk with
   |dead=>trivial
   |box cs=>exact⟨rfl,fun _ h=>h⟩
   |iter s p=>exact⟨rfl,fun _ h=>h⟩
   |arr=>
    refine⟨rfl,rfl,rfl,Nat.le_refl _,Nat.le_refl _,fun _=>⟨rfl,fun Mc Lp=>⟨Lp,?_⟩⟩⟩
    have au:Mc≠cb:=fun e=>h (hs.inj b i cb hg (by rw[←e];exact Lp))
    simp only[dX,setRow_other w cb Mc dU au]
 ·rcases hm with⟨i,bk,hi,iB,cS⟩
  ·by_cases h:b=i
   ·subst h
    rw[cS]at hg;cases hg
    exact .inl ⟨b,π,hb,hl,cS⟩
   ·rw[List.getElem?_set_ne h]at hi
    exact .inl ⟨i,bk,hi,iB,cS⟩
theorem Qv{w:World}{c:Cx}{H:AH}{B:Nat}(hs:HS w c H B){b cb:Nat}{cells wk:List AV}(hb:H[b]?=some (.box cells))(hg:c.G b=some cb)
 {arr dU:Array Value} {e:TypeId} (hc:w.heap[cb]?=some (.cells arr e (0,0))) (bE:dU.size=arr.size) (Sy:arr.size=cells.length) (bn:wk.length=cells.length)
 (hn:∀(j:Nat) x v,wk[j]?=some x→dU[j]?=some v→x.one=true∧RA w c H x v∧v.oneCell'=true):
 Ev w c H (w.setRow cb dU) c (H.set b (.box wk))∧HS (w.setRow cb dU) c (H.set b (.box wk)) B:=by
 have ev:Ev w c H (w.setRow cb dU) c (H.set b (.box wk)):=UW hs hb rfl hg hc bE ⟨bn.symm,fun _ h=>h⟩
 have ω:=κ hb
 refine⟨ev,hs.az ev hs.inj (fun b cb h=>by simp;exact hs.base b cb h) (fun b cb h=>by simp;exact hs.kz b cb h) (fun i k cs hi cS=> ?_) (fun i k e s z g l hi cS=> ?_) (fun i k s p hi cS=> ?_)⟩
 ·by_cases h:b=i
  ·subst h
   rw[cS]at hg;cases hg
   simp[ω]at hi
   subst hi
   exact .inr ⟨dU,e,setRow_heap w _ arr dU e _ hc,by omega,fun j x v hj hv=>⟨(hn j x v hj hv).1,(hn j x v hj hv).2.1.ev ev,(hn j x v hj hv).2.2⟩⟩
  ·rw[List.getElem?_set_ne h]at hi
   exact .inl ⟨hi,cS,setRow_other w cb k dU (fun e=>h (hs.inj b i cb hg (by rw[←e];exact cS)))⟩
 ·by_cases h:b=i
  ·subst h;simp[ω]at hi
  ·rw[List.getElem?_set_ne h]at hi
   exact .inl ⟨hi,cS,setRow_other w cb k dU (fun e=>h (hs.inj b i cb hg (by rw[←e];exact cS)))⟩
 ·by_cases h:b=i
  ·subst h;simp[ω]at hi
  ·rw[List.getElem?_set_ne h]at hi
   exact .inl ⟨hi,cS,setRow_other w cb k dU (fun e=>h (hs.inj b i cb hg (by rw[←e];exact cS)))⟩
theorem sU{w:World}{c:Cx}{H:AH}{B:Nat}(hs:HS w c H B){b cb e s g g' cap:Nat}{z:Bool}{l l':Sq}(hb:H[b]?=some (.arr e s z g l))(hg:c.G b=some cb)
 {arr dU:Array Value} (hc:w.heap[cb]?=some (.cells arr e (0,0))) (bE:dU.size=arr.size) (Sy:arr.size=cap*s) (eu:l'.length≤cap∧(g'%2=1→l'.length=cap)) (hm:cap≤maxLen)
 (gh:g≤g') (gX:l.length≤l'.length) (S5:g=g'→l'.length=l.length)
 (hn:dE w c H s l' dU):
 Ev w c H (w.setRow cb dU) c (H.set b (.arr e s z g' l'))∧HS (w.setRow cb dU) c (H.set b (.arr e s z g' l')) B:=by
 have ev:Ev w c H (w.setRow cb dU) c (H.set b (.arr e s z g' l')):=UW hs hb rfl hg hc bE
  ⟨rfl,rfl,rfl,gX,gh,fun h=>⟨S5 h,fun k hk=>⟨hk,by rw[hk]at hg;cases hg;simp only[dX,setRow_heap w cb arr dU e _ hc,hc,bE]⟩⟩⟩
 have ω:=κ hb
 refine⟨ev,hs.az ev hs.inj (fun b cb h=>by simp;exact hs.base b cb h) (fun b cb h=>by simp;exact hs.kz b cb h) (fun i k cs hi cS=> ?_) (fun i k e s z g l hi cS=> ?_) (fun i k s p hi cS=> ?_)⟩
 ·by_cases h:b=i
  ·subst h;simp[ω]at hi
  ·rw[List.getElem?_set_ne h]at hi
   exact .inl ⟨hi,cS,setRow_other w cb k dU (fun e=>h (hs.inj b i cb hg (by rw[←e];exact cS)))⟩
 ·by_cases h:b=i
  ·subst h
   rw[cS]at hg;cases hg
   simp[ω]at hi
   obtain⟨rfl,rfl,rfl,rfl,rfl⟩:=hi
   refine .inr ⟨dU,cap,setRow_heap w _ arr dU _ _ hc,by omega,eu,hm,fun i x hi=>⟨(hn i x hi).1,fun j y hj=> ?_⟩⟩
   obtain⟨v,b1,b2,b3,b4⟩:=(hn i x hi).2 j y hj
   exact⟨v,b1,b2,b3.ev ev,b4⟩
  ·rw[List.getElem?_set_ne h]at hi
   exact .inl ⟨hi,cS,setRow_other w cb k dU (fun e=>h (hs.inj b i cb hg (by rw[←e];exact cS)))⟩
 ·by_cases h:b=i
  ·subst h;simp[ω]at hi
  ·rw[List.getElem?_set_ne h]at hi
   exact .inl ⟨hi,cS,setRow_other w cb k dU (fun e=>h (hs.inj b i cb hg (by rw[←e];exact cS)))⟩
theorem NB{w:World}{c:Cx}{H:AH}{B:Nat}(hs:HS w c H B){b e s g g' cap:Nat}{z:Bool}{l l':Sq}(hb:H[b]?=some (.arr e s z g l))
 (dU:Array Value) (Sy:dU.size=cap*s) (eu:l'.length≤cap∧(g'%2=1→l'.length=cap)) (hm:cap≤maxLen) (gX:l.length≤l'.length) (S7:Ω.fix (.arr e s z g l)=true→c.G b≠none) (gh:g<g')
 (hn:dE w c H s l' dU):
 Ev w c H (w.drew.alloc (.cells dU e)) (c.new b w.heap.size) (H.set b (.arr e s z g' l'))∧
 HS (w.drew.alloc (.cells dU e)) (c.new b w.heap.size) (H.set b (.arr e s z g' l')) B:=by
 have ω:=κ hb
 have hold:∀k,k<w.heap.size→(w.drew.alloc (.cells dU e)).heap[k]?=w.heap[k]?:=fun k hk=>dI w.drew _ k hk
 have uh:(w.drew.alloc (.cells dU e)).heap[w.heap.size]?=some (.cells dU e):=heap_alloc_new w.drew _
 have ev:Ev w c H (w.drew.alloc (.cells dU e)) (c.new b w.heap.size) (H.set b (.arr e s z g' l')):=by
  refine⟨rfl,by simp,fun i bk hi=> ?_,fun k hm=> ?_,fun k hk _=>hold k hk,fun i bk hi XU hg=> ?_⟩
  ·by_cases h:b=i
   ·subst h
    rw[hb]at hi;cases hi
    exact⟨.arr e s z g' l',by simp[ω],rfl,rfl,rfl,gX,by omega,fun he=>by omega⟩
   ·refine⟨bk,by rw[List.getElem?_set_ne h];exact hi,?_⟩
    cases bk with
    |dead=>trivial
    |box cs=>exact⟨rfl,fun cb hc=>by simp only[Cx.new,if_neg (Ne.symm h)];exact hc⟩
    |iter s p=>exact⟨rfl,fun cb hc=>by simp only[Cx.new,if_neg (Ne.symm h)];exact hc⟩
    |arr=>
     refine⟨rfl,rfl,rfl,Nat.le_refl _,Nat.le_refl _,fun _=>⟨rfl,fun cb hc=>⟨by simp only[Cx.new,if_neg (Ne.symm h)];exact hc,?_⟩⟩⟩
     simp only[dX,hold cb (hs.base _ _ hc).2]
  ·rcases hm with⟨i,bk,hi,hl,cS⟩
   ·simp only[Cx.new]at cS
    split at cS
    ·exact .inr (by simp at cS;omega)
    ·rename_i h
     rw[List.getElem?_set_ne (Ne.symm h)]at hi
     exact .inl ⟨i,bk,hi,hl,cS⟩
  ·have au:i≠b:=fun e=>by subst e;rw[hb]at hi;cases hi;exact S7 XU hg
   simp only[Cx.new,if_neg au];exact hg
 refine⟨ev,hs.az ev (fun i i' cb h h'=> ?_) (fun i cb h=> ?_) (fun i cb h=> ?_) (fun i k cs hi cS=> ?_) (fun i k e1 s1 z1 g1 l1 hi cS=> ?_) (fun i k s1 p1 hi cS=> ?_)⟩
 ·simp only[Cx.new]at h h'
  split at h<;>split at h'
  ·omega
  ·have:=(hs.base i' cb h').2;simp at h;omega
  ·have:=(hs.base i cb h).2;simp at h';omega
  ·exact hs.inj i i' cb h h'
 ·simp only[Cx.new]at h
  split at h
  ·simp at h;subst h;exact⟨hs.hB,by simp⟩
  ·have:=hs.base i cb h;exact⟨this.1,by simp;omega⟩
 ·simp only[Cx.new]at h
  split at h
  ·simp;omega
  ·have:=hs.kz i cb h;simp;omega
 ·by_cases h:b=i
  ·subst h;simp[ω]at hi
  ·rw[List.getElem?_set_ne h]at hi
   simp only[Cx.new,if_neg (Ne.symm h)]at cS
   exact .inl ⟨hi,cS,hold k (hs.base _ _ cS).2⟩
 ·by_cases h:b=i
  ·subst h
   simp only[Cx.new,if_true]at cS
   simp at cS
   subst cS
   simp[ω]at hi
   obtain⟨rfl,rfl,rfl,rfl,rfl⟩:=hi
   refine .inr ⟨dU,cap,uh,Sy,eu,hm,fun i x hi=>⟨(hn i x hi).1,fun j y hj=> ?_⟩⟩
   obtain⟨v,b1,b2,b3,b4⟩:=(hn i x hi).2 j y hj
   exact⟨v,b1,b2,b3.ev ev,b4⟩
  ·rw[List.getElem?_set_ne h]at hi
   simp only[Cx.new,if_neg (Ne.symm h)]at cS
   exact .inl ⟨hi,cS,hold k (hs.base _ _ cS).2⟩
 ·by_cases h:b=i
  ·subst h;simp[ω]at hi
  ·rw[List.getElem?_set_ne h]at hi
   simp only[Cx.new,if_neg (Ne.symm h)]at cS
   exact .inl ⟨hi,cS,hold k (hs.base _ _ cS).2⟩
theorem MU{w:World}{c:Cx}{H:AH}{B:Nat}(hs:HS w c H B){b cb:Nat}{s:List UInt8}{p:Nat}(hb:H[b]?=some (.iter s p))(hg:c.G b=some cb)
 {bs:ByteArray} (hc:w.heap[cb]?=some (.stringIter bs p)) (xv:bs.data.toList=s) (q:Nat):
 Ev w c H {w with heap:=w.heap.setIfInBounds cb (.stringIter bs q)} c (H.set b (.iter s q))∧HS {w with heap:=w.heap.setIfInBounds cb (.stringIter bs q)} c (H.set b (.iter s q)) B∧Below B w {w with heap:=w.heap.setIfInBounds cb (.stringIter bs q)}:=by
 have ω:=κ hb
 have pg:=hs.base b cb hg
 have other:∀k,k≠cb→({w with heap:=w.heap.setIfInBounds cb (.stringIter bs q)}:World).heap[k]?=w.heap[k]?:=fun k hk=>by
  show(w.heap.setIfInBounds cb _)[k]?=_
  rw[Array.getElem?_setIfInBounds]
  simp[Ne.symm hk]
 have here:({w with heap:=w.heap.setIfInBounds cb (.stringIter bs q)}:World).heap[cb]?=some (.stringIter bs q):=by
  show(w.heap.setIfInBounds cb _)[cb]?=_
  rw[Array.getElem?_setIfInBounds]
  simp[pg.2]
 have size:({w with heap:=w.heap.setIfInBounds cb (.stringIter bs q)}:World).heap.size=w.heap.size:=by simp
 have ev:Ev w c H {w with heap:=w.heap.setIfInBounds cb (.stringIter bs q)} c (H.set b (.iter s q)):=by
  refine⟨rfl,by rw[size];exact Nat.le_refl _,fun i bk hi=> ?_,fun k hm=> ?_,fun k _ hm=>other k (fun e=>hm (⟨b,_,hb,rfl,by rw[e];exact hg⟩)),fun _ _ _ _ h=>h⟩
  ·by_cases h:b=i
   ·subst h
    rw[hb]at hi
    cases hi
    exact⟨.iter s q,by simp[ω],rfl,fun _ h=>h⟩
   ·refine⟨bk,by rw[List.getElem?_set_ne h];exact hi,?_⟩
    cases bk with
    |dead=>trivial
    |box cs=>exact⟨rfl,fun _ h=>h⟩
    |iter s p=>exact⟨rfl,fun _ h=>h⟩
    |arr=>
     refine⟨rfl,rfl,rfl,Nat.le_refl _,Nat.le_refl _,fun _=>⟨rfl,fun Mc Lp=>⟨Lp,?_⟩⟩⟩
     have au:Mc≠cb:=fun e=>h (hs.inj b i cb hg (by rw[←e];exact Lp))
     simp only[dX,other Mc au]
  ·rcases hm with⟨i,bk,hi,iB,cS⟩
   ·by_cases h:b=i
    ·subst h
     rw[cS]at hg;cases hg
     exact .inl ⟨b,_,hb,rfl,cS⟩
    ·rw[List.getElem?_set_ne h]at hi
     exact .inl ⟨i,bk,hi,iB,cS⟩
 refine⟨ev,hs.az ev hs.inj (fun b cb h=>by rw[size];exact hs.base b cb h) (fun b cb h=>by simp;exact hs.kz b cb h) (fun i k cs hi cS=> ?_) (fun i k e s z g l hi cS=> ?_) (fun i k s p hi cS=> ?_),?_⟩
 ·by_cases h:b=i
  ·subst h;simp[ω]at hi
  ·rw[List.getElem?_set_ne h]at hi
   exact .inl ⟨hi,cS,other k (fun e=>h (hs.inj b i cb hg (by rw[←e];exact cS)))⟩
 ·by_cases h:b=i
  ·subst h;simp[ω]at hi
  ·rw[List.getElem?_set_ne h]at hi
   exact .inl ⟨hi,cS,other k (fun e=>h (hs.inj b i cb hg (by rw[←e];exact cS)))⟩
 ·by_cases h:b=i
  ·subst h
   rw[cS]at hg;cases hg
   simp[ω]at hi
   obtain⟨rfl,rfl⟩:=hi
   exact .inr ⟨bs,here,xv⟩
  ·rw[List.getElem?_set_ne h]at hi
   exact .inl ⟨hi,cS,other k (fun e=>h (hs.inj b i cb hg (by rw[←e];exact cS)))⟩
 ·exact⟨rfl,rfl,rfl,by rw[size];exact Nat.le_refl _,fun k hk=>other k (by have:=pg.1;omega)⟩
section
variable {P : Program} (w : World)
structure Reads(P:Program)(w:World)(size n:Nat)(x:Value)(news:List Value):Prop where
 len:∀w':World,(Builtin.lenOf x).run P w'= .ok n w'
 get:∀w':World,w'.heap=w.heap→(Builtin.firstCells size n x).run P w'= .ok news.toArray w'
 num:news.length=n*size
 one:∀u∈news,u.oneCell'=true
theorem oX{size n c:Nat}{a:Addr}{news:List Value}(hl:news.length=n*size)(h:∀(j:Nat) v,news[j]?=some v→w.cell? (a.add j)=some v)(h1:∀u∈news,u.oneCell'=true):
 Reads P w size n (.slice (some a) n c) news:=
 ⟨fun w'=>rfl,fun w' hw=>run_firstCells_some w' size n a n c news hl (fun j v hj=>by rw[←h j v hj];simp only[World.cell?,hw]),hl,h1⟩
theorem vo{size:Nat}:Reads P w size 0 (.slice none 0 0) []:=
 ⟨fun w'=>rfl,fun w' hw=>run_firstCells_none w' size 0 0 0,by simp,by simp⟩
theorem lL{size:Nat}(a:Addr)(c:Nat):Reads P w size 0 (.slice (some a) 0 c) []:=
 oX w (by simp) (by simp) (by simp)
theorem JS(s:ByteArray):Reads P w 1 s.size (.string s) (s.data.toList.map fun b=> .int .u8 (b.toNat:Int)):=by
 refine⟨fun w'=>rfl,fun w' _=> ?_,by rw[List.length_map,Nat.mul_one];rfl,fun u hu=>by obtain⟨b,_,rfl⟩:=List.mem_map.1 hu;rfl⟩
 have hx:s.extract 0 s.size=s:=by
  apply ByteArray.ext
  rw[ByteArray.data_extract]
  exact Array.extract_size
 simp only[Builtin.firstCells,hx,Sem.run_pure]
 congr 1
 apply Array.ext'
 simp
theorem CS(t u ty e:TypeId)(i:TypeInfo)(z:Value)(ht:P.underlying t=some (.slice e))(hu:∃d,P.underlying u=some d∧∀k,d≠.int k)(hi:P.info? e=some i)(hz:i.zero=some z)
 (base:Option Addr) (dP ia:Nat) (lI:List Value) (ho:∀w':World,w'.heap=w.heap→(Builtin.firstCells i.size dP (.slice base dP ia)).run P w'= .ok lI.toArray w')
 (x:Value) (n:Nat) (news:List Value) (hx:Reads P w i.size n x news)
 (hg:ia<dP+n) (VJ:dP+n≤9223372036854775807) (bx:(dP+n)*i.bytes≤140737488355328∨((dP+n)+(dP+n)/4+192)*i.bytes≤281474976710656):
 (Builtin.append_ #[t,u] ty #[.slice base dP ia,x]).run P w=
  .ok (.slice (some ⟨w.heap.size,0,none⟩) (dP+n) (grownCap w (dP+n) ia e))
   (w.drew.alloc (.cells (lI.toArray++news.toArray++Builtin.zeroCells z.cells (grownCap w (dP+n) ia e - (dP+n))) e)):=by
 obtain⟨d,hu,hd⟩:=hu
 have hn:¬(dP+n≤ia):=by omega
 have Of:¬(9223372036854775807<((dP:Int)+(n:Int))):=by omega
 have UC:Builtin.nextslicecap (dP+n) ia*i.bytes≤281474976710656:=bx.elim (growslice_fits (by omega:ia<dP+n)) (growslice_fits_wide (by omega:ia<dP+n))
 have Og:¬(281474976710656<Builtin.nextslicecap (dP+n) ia*i.bytes):=by omega
 have hf:=hx.get w.drew rfl
 have XG:=ho w.drew rfl
 have x7:(match d with|TypeDesc.int _=>true|_=>false)=false:=by cases d<;>first|rfl|exact(hd _ rfl).elim
 simp[Builtin.append_,run_underlying ht,run_underlying hu,x7,sizeOf,typeInfo,zeroValue,hi,hz,hx.len,hn,Of,Og,Question.forced,hf,XG,newRow,grownCap]
 congr 2
 apply Array.ext'
 simp[List.append_assoc]
theorem vj(t u ty e:TypeId)(i:TypeInfo)(ht:P.underlying t=some (.slice e))(hu:∃d,P.underlying u=some d∧∀k,d≠.int k)(hi:P.info? e=some i)
 (g dP ia:Nat) (wg:Array Value) (hg:w.heap[g]?=some (.cells wg e (0,0)))
 (x:Value) (n:Nat) (news:List Value) (hx:Reads P w i.size n x news)
 (y3:dP+n≤ia) (bx:dP*i.size+news.length≤wg.size):
 (Builtin.append_ #[t,u] ty #[.slice (some ⟨g,0,none⟩) dP ia,x]).run P w=
  .ok (.slice (some ⟨g,0,none⟩) (dP+n) ia) (w.setRow g (wg.toList.take (dP*i.size)++news++wg.toList.drop (dP*i.size+news.length)).toArray):=by
 obtain⟨d,hu,hd⟩:=hu
 have hf:=hx.get w rfl
 have iT:=run_storeCells_at P g (dP*i.size) e news 0 wg w hg (by simpa using bx) hx.one
 simp only[Nat.add_zero]at iT
 have x7:(match d with|TypeDesc.int _=>true|_=>false)=false:=by cases d<;>first|rfl|exact(hd _ rfl).elim
 simp[Builtin.append_,run_underlying ht,run_underlying hu,x7,sizeOf,typeInfo,hi,hx.len,y3,hf,Addr.add_lit,iT]
theorem vk(t u ty e:TypeId)(i:TypeInfo)(ht:P.underlying t=some (.slice e))(hu:∃d,P.underlying u=some d∧∀k,d≠.int k)(hi:P.info? e=some i)
 (x:Value) (news:List Value) (hx:Reads P w i.size 0 x news):
 (Builtin.append_ #[t,u] ty #[.slice none 0 0,x]).run P w= .ok (.slice none 0 0) w:=by
 obtain⟨d,hu,hd⟩:=hu
 have hf:=hx.get w rfl
 have x7:(match d with|TypeDesc.int _=>true|_=>false)=false:=by cases d<;>first|rfl|exact(hd _ rfl).elim
 simp[Builtin.append_,run_underlying ht,run_underlying hu,x7,sizeOf,typeInfo,hi,hx.len,hf]
theorem vl(t u ty e:TypeId)(i:TypeInfo)(ht:P.underlying t=some (.slice e))(hu:∃d,P.underlying u=some d∧∀k,d≠.int k)(hi:P.info? e=some i)
 (a:Addr) (x:Value) (news:List Value) (hx:Reads P w i.size 0 x news):
 (Builtin.append_ #[t,u] ty #[.slice (some a) 0 0,x]).run P w= .ok (.slice (some a) 0 0) w:=by
 obtain⟨d,hu,hd⟩:=hu
 have hf:=hx.get w rfl
 have iC:=hx.num
 have:news=[]:=List.eq_nil_of_length_eq_zero (by simpa using iC)
 subst this
 have x7:(match d with|TypeDesc.int _=>true|_=>false)=false:=by cases d<;>first|rfl|exact(hd _ rfl).elim
 simp[Builtin.append_,run_underlying ht,run_underlying hu,x7,sizeOf,typeInfo,hi,hx.len,hf,storeCells]
end
end Go.Proofs.YtcogcbplmkcojaaGreatDoor
namespace Go.Proofs.YtcogcbplmkcojaaGreatDoor
open Go.RowKit
set_option linter.unusedVariables false
set_option linter.unusedSimpArgs false
def jB(P:Program)(m:Sem Value)(w:World)(c:Cx)(H:AH)(B:Nat)(K:AV→AH→Prop):Prop:=
 ∃v val w' c' H',m.run P w= .ok val w'∧RA w' c' H' v val∧HS w' c' H' B∧Ev w c H w' c' H'∧Below B w w'∧K v H'
theorem jB.here{P:Program}{m:Sem Value}{w c H B K v val}(hs:HS w c H B)(hr:m.run P w= .ok val w)(ha:RA w c H v val)(k:K v H):jB P m w c H B K:=
 ⟨v,val,w,c,H,hr,ha,hs,Ev.refl _ _ _,Below.refl _ _,k⟩
theorem jB.data{P:Program}{m:Sem Value}{w c H B}{K:AV→AH→Prop}{x:T}{val:Value}(hs:HS w c H B)(hr:m.run P w= .ok val w)(ha:RT w (c.M H) x val)(k:K (.t x) H):jB P m w c H B K:=
 .here hs hr (.t _ _ ha) k
theorem RA.int{w c H k n v}(h:RA w c H (.t (.int k n)) v):v= .int k n:=by cases h with|t _ _ h=>cases h;rfl
theorem RA.bool{w c H b v}(h:RA w c H (.t (.bool b)) v):v= .bool b:=by cases h with|t _ _ h=>cases h;rfl
theorem RA.str{w c H l v}(h:RA w c H (.t (.str l)) v):∃s:ByteArray,v= .string s∧s.data.toList=l:=by
 cases h with
 |t _ _ h=>cases h with|str s=>exact⟨s,rfl,rfl⟩
section
variable {P : Program} {w : World}
theorem Qc{st:Bool}{op:BinOp}{k k':IntKind}{a b:Int}{K:T→Prop}(h:Cw st op k a k' b K)(ty:TypeId):
 ∃x val,(binOp op ty (.int k a) (.int k' b)).run P w= .ok val w∧(∀w M,RT w M x val)∧K x:=by
 cases op<;>simp only[Cw,ar,qT,ed]at h<;>
  first
  |(obtain⟨hk,h⟩:=h
    obtain rfl:=xO hk
    first
    |(obtain⟨hb,h⟩:=h
      simp at hb
      exact⟨_,_,by simp[binOp,Op.intDiv,hb],fun _ _=> .int _ _,h⟩)
    |exact⟨_,_,by simp[binOp,Op.intArith,Op.intBits,Op.intCmp],fun _ _=> .int _ _,h⟩
    |exact⟨_,_,by simp[binOp,Op.intArith,Op.intBits,Op.intCmp],fun _ _=> .bool _,h⟩)
  |(obtain⟨hb,h⟩:=h
    have aD:¬b<0:=by simpa using hb
    exact⟨_,_,by simp[binOp,Op.shift,aD],fun _ _=> .int _ _,h⟩)
theorem P9{op:BinOp}{a b:List UInt8}{K:T→Prop}(h:Cp op a b K)(ty:TypeId)(s u:ByteArray)(hs:s.data.toList=a)(hu:u.data.toList=b):
 ∃x val,(binOp op ty (.string s) (.string u)).run P w= .ok val w∧(∀w M,RT w M x val)∧K x:=by
 have h1:s.toList=a:=by rw[ByteArray.toList_eq,hs]
 have h2:u.toList=b:=by rw[ByteArray.toList_eq,hu]
 have z1:s.size=a.length:=by rw[←hs];rfl
 have z2:u.size=b.length:=by rw[←hu];rfl
 cases op<;>simp only[Cp,ar]at h<;>
  first
  |exact h.elim
  |(obtain⟨hb,h⟩:=h
    have aD:¬(((s.size+u.size:Nat):Int)>IntKind.i64.max):=by simp at hb⊢;omega
    refine⟨.str (a++b),.string (s++u),by simp only[binOp,Op.stringOp,if_neg aD,Sem.run_pure],fun _ _=> ?_,h⟩
    have e:(s++u).data.toList=a++b:=by simp[hs,hu]
    rw[←e];exact .str _)
  |exact⟨_,_,by simp[binOp,Op.stringOp,h1,h2],fun _ _=> .bool _,h⟩
theorem Rw{st:Bool}{op:UnOp}{x:AV}{K:T→Prop}{c H v}(h:FH st op x K)(hv:RA w c H x v):
 ∃y val,(Op.unary op v).run P w= .ok val w∧(∀w M,RT w M y val)∧K y:=by
 unfold FH at h
 split at h
 ·obtain rfl:=hv.int;exact⟨_,_,by simp[Op.unary,Op.intArith],fun _ _=> .int _ _,qT.1 h⟩
 ·obtain rfl:=hv.int;exact⟨_,_,by simp[Op.unary,Op.intBits,ed],fun _ _=> .int _ _,qT.1 h⟩
 ·obtain rfl:=hv.bool;exact⟨_,_,by simp[Op.unary],fun _ _=> .bool _,h⟩
 ·exact h.elim
theorem TT{tab:bi}(hT:bl P tab){ty:TypeId}{y:il}(hy:tab ty=some y){a b:T}{u v:Value}{M:Nat→Prop}(ha:RT w M a u)(hb:RT w M b v)(h1:wF y.d a=true)(h2:wF y.d b=true)
 {p:Bool} (he:zo a b=some p) (d:Nat):(Op.equalIn (d+1) ty u v).run P w= .ok p w∧(isAgg ty).run P w= .ok false w:=by
 have hd:=(hT ty y hy).d
 cases j0:y.d<;>rw[j0]at hd h1 h2<;>cases a<;>simp[wF]at h1<;>cases b<;>simp[wF]at h2<;>simp[zo]at he
 ·cases ha;cases hb;subst he;exact⟨by simp[Op.equalIn,run_underlying hd],by simp[isAgg,run_underlying hd]⟩
 ·cases ha;cases hb
  split at he
  ·rename_i hk
   obtain rfl:=xO hk
   simp at he
   subst he
   exact⟨by simp[Op.equalIn,run_underlying hd],by simp[isAgg,run_underlying hd]⟩
  ·cases he
 ·cases ha with
  |str s=>
  cases hb with
  |str s'=>
  subst he
  refine⟨?_,by simp[isAgg,run_underlying hd]⟩
  simp[Op.equalIn,run_underlying hd,beq_toListBytes,ByteArray.toList_eq]
theorem A4{ty:TypeId}(h:(isAgg ty).run P w= .ok false w){cs:Array Value}{off:Nat}{v:Value}(hv:cs[off]?=some v):(part ty cs off).run P w= .ok v w:=by
 simp[part,h,hv]
theorem GD{tab:bi}(hT:bl P tab){xs ys:List T}{us vs:Array Value}{M:Nat→Prop}(nv:xs.length=us.size)(La:ys.length=vs.size)
 (hx:∀(i:Nat) c v,xs[i]?=some c→us[i]?=some v→RT w M c v) (hy:∀(i:Nat) c v,ys[i]?=some c→vs[i]?=some v→RT w M c v) (d:Nat):
 ∀(fs:List Field) (p:Bool),Ez tab xs ys fs=some p→(Op.eqFields (d+1) us vs fs).run P w= .ok p w
 |[],p,h=>by simp[Ez]at h;subst h;simp[Op.eqFields]
 |f::r,p,h=>by
  simp only[Ez]at h
  split at h
  ·rename_i y a b W5 ha hb
   split at h
   ·rename_i p1 q hc he hq
    simp at h hc
    obtain⟨u,hu⟩:∃u,us[f.offset]?=some u:=by
     have:=κ ha
     exact⟨us[f.offset]'(by omega),Array.getElem?_eq_getElem _⟩
    obtain⟨v,hv⟩:∃v,vs[f.offset]?=some v:=by
     have:=κ hb
     exact⟨vs[f.offset]'(by omega),Array.getElem?_eq_getElem _⟩
    obtain⟨r1,r2⟩:=TT hT W5 (hx _ _ _ ha hu) (hy _ _ _ hb hv) hc.1.1 hc.1.2 he d
    have ih:=GD hT nv La hx hy d r q hq
    simp only[Op.eqFields,ne_eq,hc.2,not_false_eq_true,if_true,Sem.run_bind,A4 r2 hu,A4 r2 hv,Result.andThen_ok,r1,Sem.run_ite]
    cases p1
    ·simp at h;subst h;simp
    ·simp at h;subst h;simp[ih]
   ·cases h
  ·cases h
theorem xz{t:TypeId}{fs:Array Field}(h:P.underlying t=some (.struct fs)):P.fieldsOf t=fs:=by simp[Program.fieldsOf,h]
def qZ:TypeDesc→Bool→Value→Prop
 | .slice _,p,u=>∃a n m,u= .slice a n m∧a.isNone=p
 | .pointer _,p,u=>∃a,u= .pointer a∧a.isNone=p
 | .func _ _ _,p,u=>(p=true∧u= .nilFunc)∨(p=false∧∃f a b,u= .func f a b)
 | .interface _,p,u=>(p=true∧u= .nilIface)∨(p=false∧∃t v,u= .iface t v)
 |_,_,_=>False
theorem Fs{d:TypeDesc}{c H x u p}(hx:RA w c H x u)(h:jR d x=true)(hp:isNil H x=some p):qZ d p u:=by
 cases hx with
 |t x u hx=>
  cases hx<;>cases d<;>first
   |(simp[jR]at h;done)
   |(simp[isNil]at hp;subst hp;simp[qZ])
 |ptr b g i o v π hb hm=>
  cases d<;>first
   |(simp[jR]at h;done)
   |skip
  simp only[isNil,hb]at hp
  cases π with
  |box cells=>
   obtain⟨cb,_,rfl⟩:=hm
   simp at hp;subst hp
   exact⟨_,rfl,rfl⟩
  |dead=>simp at hp
  |iter=>simp at hp
  |arr e s z gen l=>
   simp only at hp
   split at hp
   ·rename_i hg
    obtain⟨cb,_,rfl⟩:=hm.2 (Nat.eq_of_beq_eq_true hg)
    simp at hp;subst hp
    exact⟨_,rfl,rfl⟩
   ·cases hp
 |sl b g i n v π hb hm=>
  cases d<;>first
   |(simp[jR]at h;done)
   |skip
  simp only[isNil,hb]at hp
  cases π with
  |box cells=>simp at hp
  |dead=>simp at hp
  |iter=>simp at hp
  |arr e s z gen l=>
   simp only at hp
   split at hp
   ·rename_i hg
    have hg:=Nat.eq_of_beq_eq_true hg
    simp at hp
    obtain⟨_,h2⟩:=hm.2 hg
    rcases h2 with⟨z1,l1,rfl⟩|⟨z1,l1,ad,rfl⟩|⟨z1,cb,cap,off,_,rfl,_⟩
    ·exact⟨_,_,_,rfl,by rw[←hp];simp[z1,l1]⟩
    ·exact⟨_,_,_,rfl,by rw[←hp];simp[z1]⟩
    ·refine⟨_,_,_,rfl,?_⟩
     rw[←hp]
     by_cases hz:z=true
     ·have au:¬l.length=0:=fun e=>z1 ⟨hz,e⟩
      have:Nat.beq l.length 0=false:=by rw[Bool.eq_false_iff];exact fun e=>au (Nat.eq_of_beq_eq_true e)
      simp[hz,this]
     ·simp[hz]
   ·cases hp
 |dx a=>
  cases d<;>first
   |(simp[jR]at h;done)
   |skip
  simp[isNil]at hp;subst hp;exact⟨_,_,_,rfl,rfl⟩
 |fn f a b x y=>cases d<;>first
  |(simp[jR]at h;done)
  |(simp[isNil]at hp;subst hp;simp[qZ])
 |cG t x v=>cases d<;>first
  |(simp[jR]at h;done)
  |(simp[isNil]at hp;subst hp;simp[qZ])
 |agg=>simp[isNil]at hp
 |aq=>simp[isNil]at hp
 |bq=>simp[isNil]at hp
theorem jO{ty:TypeId}{u v:Value}{p:Bool}(he:∀d,(Op.equalIn (d+1) ty u v).run P w= .ok p w)
 (h1:binOp .eql ty u v=(do pure (.bool (←Op.equal ty u v)))) (h2:binOp .neq ty u v=(do pure (.bool (!(←Op.equal ty u v))))):
 (binOp .eql ty u v).run P w= .ok (.bool p) w∧(binOp .neq ty u v).run P w= .ok (.bool (!p)) w:=by
 have e:(Op.equal ty u v).run P w= .ok p w:=he 9999
 rw[h1,h2]
 simp only[Sem.run_bind,e,Result.andThen_ok,Sem.run_pure,and_self]
theorem xZ{tab:bi}(hT:bl P tab){ty:TypeId}{y:il}(hy:tab ty=some y){c H x n u v}(hx:RA w c H x u)(hn:RA w c H n v)(h1:kg y.d n=true)(h2:jR y.d x=true)
 {p:Bool} (hp:isNil H x=some p) (yc:Bool) (hc:(yc|| !x5 y.d)=true) (o:BinOp) (xo yo:Operand) (KW:yc=isConst yo):
 (eqGuard o ty xo yo u v).run P w= .ok () w∧(binOp .eql ty u v).run P w= .ok (.bool p) w∧(binOp .neq ty u v).run P w= .ok (.bool (!p)) w:=by
 have hd:=(hT ty y hy).d
 have fo:=Fs (d:=y.d) hx h2 hp
 cases j0:y.d<;>rw[j0]at hd h1 fo hc<;>(try (simp[qZ]at fo;done))
 case slice e=>
  obtain⟨a,k,m,rfl,rfl⟩:=fo
  have hv:v= .slice none 0 0:=by
   cases n<;>simp[kg]at h1
   rename_i x;cases x<;>simp[kg]at h1
   cases hn with|t _ _ hn=>cases hn;rfl
  subst hv
  cases a<;>exact⟨by rw[eqGuard_at_slice];rfl,jO (fun d=>by simp[Op.equalIn,run_underlying hd]) rfl rfl⟩
 case pointer e=>
  obtain⟨a,rfl,rfl⟩:=fo
  have hv:v= .pointer none:=by
   cases n<;>simp[kg]at h1
   rename_i x;cases x<;>simp[kg]at h1
   cases hn with|t _ _ hn=>cases hn;rfl
  subst hv
  cases a<;>exact⟨by rw[eqGuard_at_pointer];rfl,jO (fun d=>by simp[Op.equalIn,run_underlying hd]) rfl rfl⟩
 case func p1 p2 p3=>
  have hv:v= .nilFunc:=by
   cases n<;>simp[kg]at h1
   rename_i x;cases x<;>simp[kg]at h1
   cases hn with|t _ _ hn=>cases hn;rfl
  subst hv
  rcases fo with⟨rfl,rfl⟩|⟨rfl,f,a,b,rfl⟩
  ·exact⟨by rw[eqGuard_at_nilFunc];rfl,jO (fun d=>by simp[Op.equalIn,run_underlying hd]) rfl rfl⟩
  ·exact⟨by rw[eqGuard_at_func];rfl,jO (fun d=>by simp[Op.equalIn,run_underlying hd]) rfl rfl⟩
 case interface ms=>
  have hv:v= .nilIface:=by
   cases n<;>simp[kg]at h1
   rename_i x;cases x<;>simp[kg]at h1
   cases hn with|t _ _ hn=>cases hn;rfl
  subst hv
  simp[x5]at hc
  subst hc
  obtain⟨cv,rfl⟩:∃cv,yo= .const cv:=by cases yo<;>simp[isConst]at KW;exact⟨_,rfl⟩
  rcases fo with⟨rfl,rfl⟩|⟨rfl,t,b,rfl⟩
  ·exact⟨by rw[eqGuard_nil_constR];rfl,jO (fun d=>by simp[Op.equalIn,run_underlying hd]) rfl rfl⟩
  ·exact⟨by rw[eqGuard_at_iface];rfl,jO (fun d=>by simp[Op.equalIn,run_underlying hd]) rfl rfl⟩
theorem RA.jL{c H x v}(h:RA w c H x v):RA w c H (jL x) v:=by
 cases x<;>simp only[Go.Proofs.YtcogcbplmkcojaaGreatDoor.jL]<;>try exact h
 rename_i cs
 split
 ·rename_i l hl
  have key:∀(cs:List AV) (l:List T),jm cs=some l→l.length=cs.length∧∀(i:Nat) y,l[i]?=some y→cs[i]?=some (.t y):=by
   intro cs
   induction cs with
   |nil=>intro l h;simp[jm]at h;subst h;simp
   |cons a r ih=>
    intro l h
    simp only[jm]at h
    split at h
    ·rename_i x l' hx tj
     cases h
     obtain⟨h1,h2⟩:=ih l' tj
     have ha:a= .t x:=by cases a<;>simp[z7]at hx;rw[hx]
     refine⟨by simp[h1],fun i y hi=> ?_⟩
     cases i with
     |zero=>simp at hi⊢;rw[ha,hi]
     |succ i=>simp at hi⊢;exact h2 i y hi
    ·cases h
  obtain⟨k1,k2⟩:=key cs l hl
  cases h with
  |agg _ vs hlen h1 hr=>
   refine .t _ _ (.agg l vs (by omega) (fun i y hi=> ?_) (fun i y v hi hv=> ?_))
   ·have:=h1 i _ (k2 i y hi);simpa[AV.one]using this
   ·have:=hr i _ v (k2 i y hi) hv
    cases this with|t _ _ h=>exact h
 ·exact h
theorem I4{tab:bi}(hT:bl P tab){ty:TypeId}{c H x y u v}{yc:Bool}{K:Bool→Prop}(h:u6 tab ty H x y yc K)(hx:RA w c H x u)(hy:RA w c H y v)
 (xo yo:Operand) (KW:yc=isConst yo):∃p,(∀o,(eqGuard o ty xo yo u v).run P w= .ok () w)∧(binOp .eql ty u v).run P w= .ok (.bool p) w∧(binOp .neq ty u v).run P w= .ok (.bool (!p)) w∧K p:=by
 unfold u6 at h
 rw[Ξ]at h
 obtain⟨i,hi,h⟩:=h
 have hd:=(hT ty i hi).d
 split at h
 ·obtain rfl:=hx.bool;obtain rfl:=hy.bool
  rename_i a b
  rw[ar]at h
  obtain⟨hc,h⟩:=h
  have hb:i.d= .bool:=by cases XM:i.d<;>simp[XM]at hc<;>rfl
  rw[hb]at hd
  have e:=jO (P:=P) (w:=w) (ty:=ty) (u:= .bool a) (v:= .bool b) (p:=a==b) (fun d=>by simp[Op.equalIn,run_underlying hd]) rfl rfl
  exact⟨a==b,fun o=>by rw[eqGuard_at_bool];rfl,e.1,e.2,h⟩
 ·rename_i a b
  split at h
  ·rename_i fs hf
   obtain⟨cd,h⟩:=h
   rw[Ξ]at h
   obtain⟨p,hp,h⟩:=h
   obtain⟨k1,k2⟩:=(hT ty i hi).eq cd
   rw[hf]at hd
   cases hx with|t _ _ hx=>cases hx with|agg _ us nv _ fL=>
   cases hy with|t _ _ hy=>cases hy with|agg _ vs La _ BA=>
   have e:=GD hT nv La fL BA 9998 fs.toList p hp
   have e2:(Op.equalIn 10000 ty (.agg us) (.agg vs)).run P w= .ok p w:=by
    rw[run_equalIn_struct w 9999 ty us vs (by rw[xz hd];exact hd) k1,xz hd];exact e
   exact⟨p,fun o=>run_eqGuard_agg w o ty xo yo us vs k2,by rw[run_eql_struct,e2];rfl,by rw[run_neq_struct,e2];rfl,h⟩
  ·exact h.elim
 ·rw[ar]at h
  obtain⟨hc,h⟩:=h
  simp at hc
  rw[Ξ]at h
  obtain⟨p,hp,h⟩:=h
  exact⟨p,fun o=>(xZ hT hi hx hy hc.1.1.2 hc.1.2 hp yc (by simpa using hc.2) o xo yo KW).1,(xZ hT hi hx hy hc.1.1.2 hc.1.2 hp yc (by simpa using hc.2) .eql xo yo KW).2.1,(xZ hT hi hx hy hc.1.1.2 hc.1.2 hp yc (by simpa using hc.2) .eql xo yo KW).2.2,h⟩
end
end Go.Proofs.YtcogcbplmkcojaaGreatDoor
namespace Go.Proofs.YtcogcbplmkcojaaGreatDoor
open Go.RowKit
set_option linter.unusedVariables false
set_option linter.unusedSimpArgs false
section
variable {P : Program} {w : World}
theorem rZ{tab:bi}(hT:bl P tab){t:TypeId}{y:il}(hy:tab t=some y)(w:World):(isAgg t).run P w= .ok y.isAgg w:=by
 have hd:=(hT t y hy).d
 simp only[isAgg,Sem.run_bind,run_underlying hd,Result.andThen_ok,il.isAgg]
 cases y.d<;>rfl
theorem run_sizeOf{tab:bi}(hT:bl P tab){t:TypeId}{y:il}(hy:tab t=some y)(w:World):(sizeOf t).run P w= .ok y.size w:=by
 obtain⟨i,hi,hs,_⟩:=(hT t y hy).HU
 simp[sizeOf,typeInfo,hi,hs]
theorem rY{tab:bi}(hT:bl P tab){t:TypeId}{y:il}(hy:tab t=some y)(ha:y.isAgg=true){b off:Nat}{vals:List Value}(hl:vals.length=y.size)
 (h:∀(j:Nat) v,vals[j]?=some v→w.cell? ⟨b,off+j,none⟩=some v):(loadVar t ⟨b,off,none⟩).run P w= .ok (.agg vals.toArray) w:=by
 have e:=run_loadCells_list (P:=P) w ⟨b,off,none⟩ vals (fun j v hj=>by rw[Addr.add_lit];exact h j v hj)
 rw[hl]at e
 simp[loadVar,rZ hT hy,ha,run_sizeOf hT hy,e]
theorem rX{tab:bi}(hT:bl P tab){t:TypeId}{y:il}(hy:tab t=some y)(ha:y.isAgg=false){b off:Nat}{v:Value}
 (h:w.cell? ⟨b,off,none⟩=some v):(loadVar t ⟨b,off,none⟩).run P w= .ok v w:=by
 simp[loadVar,rZ hT hy,ha,h]
theorem vh{tab:bi}(hT:bl P tab){t:TypeId}{y:il}(hy:tab t=some y)(ha:y.isAgg=true)(cs:Array Value)(off:Nat):
 (part t cs off).run P w= .ok (.agg (cs.extract off (off+y.size))) w:=by
 simp[part,rZ hT hy,ha,run_sizeOf hT hy]
theorem vg{tab:bi}(hT:bl P tab){t:TypeId}{y:il}(hy:tab t=some y)(ha:y.isAgg=false){cs:Array Value}{off:Nat}{v:Value}(h:cs[off]?=some v):
 (part t cs off).run P w= .ok v w:=by
 simp[part,rZ hT hy,ha,h]
theorem bu{α:Type}{l:List α}{o n i:Nat}{x:α}(h:((l.drop o).take n)[i]?=some x):i<n∧l[o+i]?=some x:=by
 rw[List.getElem?_take]at h
 split at h
 ·rw[List.getElem?_drop]at h;exact⟨‹_›,h⟩
 ·cases h
theorem iI{α:Type}{a:Array α}{i:Nat}(h:i<a.size):∃v,a[i]?=some v:=⟨a[i],Array.getElem?_eq_getElem h⟩
theorem C9{tab:bi}(hT:bl P tab){t:TypeId}{y:il}(hy:tab t=some y){c H}{cells:List AV}{vs:Array Value}(hl:cells.length=vs.size)(h1:∀(i:Nat) x,cells[i]?=some x→x.one=true)
 (hr:∀(i:Nat) x v,cells[i]?=some x→vs[i]?=some v→RA w c H x v) {o:Nat} {K:AV→Prop} (h:o_ y cells o K):
 ∃x val,(part t vs o).run P w= .ok val w∧RA w c H x val∧K x:=by
 unfold o_ at h
 split at h
 ·rename_i ha
  rw[ar]at h
  obtain⟨hb,k⟩:=h
  have hb:=Nat.le_of_ble_eq_true hb
  refine⟨_,_,vh hT hy ha vs o,.agg _ _ (by simp;omega) (fun i x hi=>h1 _ x (bu hi).2) (fun i x v hi hv=> ?_),k⟩
  obtain⟨ω,hi⟩:=bu hi
  refine hr _ x v hi ?_
  rw[Array.getElem?_extract]at hv
  split at hv
  ·exact hv
  ·cases hv
 ·rename_i ha
  rw[Ξ]at h
  obtain⟨x,hx,k⟩:=h
  obtain⟨v,hv⟩:=iI (a:=vs) (i:=o) (by have:=κ hx;omega)
  exact⟨x,v,vg hT hy ha hv,hr o x v hx hv,k⟩
theorem C8{tab:bi}(hT:bl P tab){t:TypeId}{y:il}(hy:tab t=some y){M:Nat→Prop}{cells:List T}{vs:Array Value}(hl:cells.length=vs.size)(h1:∀(i:Nat) x,cells[i]?=some x→x.one=true)
 (hr:∀(i:Nat) x v,cells[i]?=some x→vs[i]?=some v→RT w M x v) {o:Nat} {K:T→Prop} (h:oZ y cells o K):
 ∃x val,(part t vs o).run P w= .ok val w∧RT w M x val∧K x:=by
 unfold oZ at h
 split at h
 ·rename_i ha
  rw[ar]at h
  obtain⟨hb,k⟩:=h
  have hb:=Nat.le_of_ble_eq_true hb
  refine⟨_,_,vh hT hy ha vs o,.agg _ _ (by simp;omega) (fun i x hi=>h1 _ x (bu hi).2) (fun i x v hi hv=> ?_),k⟩
  obtain⟨ω,hi⟩:=bu hi
  refine hr _ x v hi ?_
  rw[Array.getElem?_extract]at hv
  split at hv
  ·exact hv
  ·cases hv
 ·rename_i ha
  rw[Ξ]at h
  obtain⟨x,hx,k⟩:=h
  obtain⟨v,hv⟩:=iI (a:=vs) (i:=o) (by have:=κ hx;omega)
  exact⟨x,v,vg hT hy ha hv,hr o x v hx hv,k⟩
theorem Dy{tab:bi}(hT:bl P tab){t:TypeId}{y:il}(hy:tab t=some y){c H}{cells:List AV}{b off:Nat}(vals:Nat→Value)
 (hr:∀(i:Nat) x,cells[i]?=some x→x.one=true∧w.cell? ⟨b,off+i,none⟩=some (vals i)∧RA w c H x (vals i)) {o:Nat} {K:AV→Prop} (h:o_ y cells o K):
 ∃x val,(loadVar t ⟨b,off+o,none⟩).run P w= .ok val w∧RA w c H x val∧K x:=by
 unfold o_ at h
 split at h
 ·rename_i ha
  rw[ar]at h
  obtain⟨hb,k⟩:=h
  have hb:=Nat.le_of_ble_eq_true hb
  have cell:∀j,j<y.size→w.cell? ⟨b,off+o+j,none⟩=some (vals (o+j)):=fun j hj=>by
   have:=(hr (o+j) _ (List.getElem?_eq_getElem (by omega))).2.1
   rw[Nat.add_assoc];exact this
  refine⟨_,_,rY hT hy ha (vals:=(List.range y.size).map fun j=>vals (o+j)) (by simp) (fun j v hj=> ?_),.agg _ _ (by simp;omega) (fun i x hi=>(hr _ x (bu hi).2).1) (fun i x v hi hv=> ?_),k⟩
  ·simp only[List.getElem?_map,Option.map_eq_some_iff]at hj
   obtain⟨k,hk,rfl⟩:=hj
   have:=κ hk
   rw[List.length_range]at this
   rw[List.getElem?_range this]at hk
   cases hk
   exact cell _ this
  ·obtain⟨ω,hi⟩:=bu hi
   have:v=vals (o+i):=by simp[ω]at hv;exact hv.symm
   subst this
   exact(hr _ x hi).2.2
 ·rename_i ha
  rw[Ξ]at h
  obtain⟨x,hx,k⟩:=h
  exact⟨x,_,rX hT hy ha (hr o x hx).2.1,(hr o x hx).2.2,k⟩
theorem Dx{tab:bi}(hT:bl P tab){t:TypeId}{y:il}(hy:tab t=some y){M:Nat→Prop}{cells:List T}{b off:Nat}(vals:Nat→Value)
 (hr:∀(i:Nat) x,cells[i]?=some x→x.one=true∧w.cell? ⟨b,off+i,none⟩=some (vals i)∧RT w M x (vals i)) {o:Nat} {K:T→Prop} (h:oZ y cells o K):
 ∃x val,(loadVar t ⟨b,off+o,none⟩).run P w= .ok val w∧RT w M x val∧K x:=by
 unfold oZ at h
 split at h
 ·rename_i ha
  rw[ar]at h
  obtain⟨hb,k⟩:=h
  have hb:=Nat.le_of_ble_eq_true hb
  have cell:∀j,j<y.size→w.cell? ⟨b,off+o+j,none⟩=some (vals (o+j)):=fun j hj=>by
   have:=(hr (o+j) _ (List.getElem?_eq_getElem (by omega))).2.1
   rw[Nat.add_assoc];exact this
  refine⟨_,_,rY hT hy ha (vals:=(List.range y.size).map fun j=>vals (o+j)) (by simp) (fun j v hj=> ?_),.agg _ _ (by simp;omega) (fun i x hi=>(hr _ x (bu hi).2).1) (fun i x v hi hv=> ?_),k⟩
  ·simp only[List.getElem?_map,Option.map_eq_some_iff]at hj
   obtain⟨k,hk,rfl⟩:=hj
   have:=κ hk
   rw[List.length_range]at this
   rw[List.getElem?_range this]at hk
   cases hk
   exact cell _ this
  ·obtain⟨ω,hi⟩:=bu hi
   have:v=vals (o+i):=by simp[ω]at hv;exact hv.symm
   subst this
   exact(hr _ x hi).2.2
 ·rename_i ha
  rw[Ξ]at h
  obtain⟨x,hx,k⟩:=h
  exact⟨x,_,rX hT hy ha (hr o x hx).2.1,(hr o x hx).2.2,k⟩
theorem kT{cb j:Nat}{arr:Array Value}{e:TypeId}{fz:Nat×Nat}(h:w.heap[cb]?=some (.cells arr e fz)):w.cell? ⟨cb,j,none⟩=arr[j]?:=by
 simp[World.cell?,h]
theorem Cv{tab:bi}(hT:bl P tab){t:TypeId}{c H B a v}{K:AV→Prop}(hs:HS w c H B)(h:oR tab t H a K)(ha:RA w c H a v):
 ∃x val,(Instr.loadAt t v).run P w= .ok val w∧RA w c H x val∧K x:=by
 unfold oR at h
 rw[Ξ]at h
 obtain⟨y,hy,h⟩:=h
 split at h
 ·rename_i cells
  cases ha with|t _ _ ha=>cases ha with|bg _ b off vals hM hc hr=>
  obtain⟨x,val,r,rt,k⟩:=Dx (w:=w) hT hy (M:=c.M H) (b:=b) (off:=off) vals (fun i x hi=>⟨(hc i x hi).2,(hc i x hi).1,hr i x hi⟩) h
  exact⟨.t x,val,by simpa[Instr.loadAt,Instr.sureAddr]using r,.t _ _ rt,k⟩
 ·rename_i b g i o
  cases ha with|ptr _ _ _ _ _ π hb hm=>
  rw[hb]at h
  cases π with
  |dead=>exact h.elim
  |iter=>exact h.elim
  |box cells=>
   obtain⟨cb,hg,rfl⟩:=hm
   obtain⟨arr,e,h1,h2,h3⟩:=hs.box b cb cells hb hg
   obtain⟨x,val,r,rt,k⟩:=Dy (w:=w) hT hy (c:=c) (H:=H) (b:=cb) (off:=0) (fun i=>arr.getD i undef) (fun i x hi=>by
    obtain⟨v,hv⟩:=iI (a:=arr) (i:=i) (by have:=κ hi;omega)
    have:=h3 i x v hi hv
    refine⟨this.1,by rw[Nat.zero_add,kT h1,hv];simp[Array.getD_eq_getD_getElem?,hv],by simpa[Array.getD_eq_getD_getElem?,hv]using this.2.1⟩) h
   rw[Nat.zero_add]at r
   exact⟨x,val,by simpa[Instr.loadAt,Instr.sureAddr]using r,rt,k⟩
  |arr e s z gen l=>
   cases l with
   |vs l=>
    simp only at h
    rw[ar]at h
    obtain⟨gh,h⟩:=h
    rw[Ξ]at h
    obtain⟨x0,eO,h⟩:=h
    obtain⟨cb,hg,rfl⟩:=hm.2 (Nat.eq_of_beq_eq_true gh)
    obtain⟨arr,cap,h1,h2,h3,h4,h5⟩:=hs.arr b cb e s z gen _ hb hg
    obtain⟨h6,h7⟩:=h5 i x0 eO
    obtain⟨x,val,r,rt,k⟩:=Dy (w:=w) hT hy (c:=c) (H:=H) (b:=cb) (off:=i*s) (fun j=>arr.getD (i*s+j) undef) (fun j y hj=>by
     obtain⟨v,hv,b2,b3,b4⟩:=h7 j y hj
     exact⟨b2,by rw[kT h1,hv];simp[Array.getD_eq_getD_getElem?,hv],by simpa[Array.getD_eq_getD_getElem?,hv]using b3⟩) h
    exact⟨x,val,by simpa[Instr.loadAt,Instr.sureAddr]using r,rt,k⟩
   |ts l=>
    simp only at h
    rw[ar]at h
    obtain⟨gh,h⟩:=h
    rw[Ξ]at h
    obtain⟨x0,eO,h⟩:=h
    obtain⟨cb,hg,rfl⟩:=hm.2 (Nat.eq_of_beq_eq_true gh)
    obtain⟨arr,cap,h1,h2,h3,h4,h5⟩:=hs.arr b cb e s z gen _ hb hg
    obtain⟨h6,h7⟩:=dE.ts.1 h5 i x0 eO
    obtain⟨x,val,r,rt,k⟩:=Dx (w:=w) hT hy (M:=c.M H) (b:=cb) (off:=i*s) (fun j=>arr.getD (i*s+j) undef) (fun j y hj=>by
     obtain⟨v,hv,b2,b3,b4⟩:=h7 j y hj
     exact⟨b2,by rw[kT h1,hv];simp[Array.getD_eq_getD_getElem?,hv],by simpa[Array.getD_eq_getD_getElem?,hv]using b3⟩) h
    exact⟨.t x,val,by simpa[Instr.loadAt,Instr.sureAddr]using r,.t _ _ rt,k⟩
 ·exact h.elim
theorem zl{y:il}{k:Nat}{f:Field}(h:wT y k=some f):∃fs,y.d= .struct fs∧fs[k]?=some f:=by
 unfold wT at h
 split at h
 ·exact⟨_,‹_›,h⟩
 ·cases h
theorem B6{tab:bi}(hT:bl P tab){t:TypeId}{c H a v k}{K:AV→Prop}(h:gL tab t H a k K)(ha:RA w c H a v):
 ∃x val,(Instr.fieldAt t v k).run P w= .ok val w∧RA w c H x val∧K x:=by
 unfold gL at h
 rw[Ξ]at h
 obtain⟨y,hy,h⟩:=h
 rw[Ξ]at h
 obtain⟨f,hf,h⟩:=h
 rw[Ξ]at h
 obtain⟨z,hz,h⟩:=h
 rw[ar]at h
 obtain⟨bE,h⟩:=h
 have bE:=Nat.le_of_ble_eq_true bE
 obtain⟨fs,Lk,D_⟩:=zl hf
 have hd:=(hT t y hy).d
 rw[Lk]at hd
 have run:∀b o,(Instr.fieldAt t (.pointer (some ⟨b,o,none⟩)) k).run P w= .ok (.pointer (some ⟨b,o+f.offset,none⟩)) w:=by
  intro b o
  have au:¬z.size=0:=by omega
  simp[Instr.fieldAt,run_underlying hd,D_,Instr.sureAddr,fieldPlace,run_sizeOf hT hz,au,Addr.add_lit]
 split at h
 ·rename_i cells
  cases ha with|t _ _ ha=>cases ha with|bg _ b off vals hM hc hr=>
  refine⟨_,_,run b off,.t _ _ (.bg _ b (off+f.offset) (fun i=>vals (f.offset+i)) (fun au=>hM (fun e=>au (by simp[e]))) (fun i x hi=> ?_) (fun i x hi=> ?_)),h⟩
  ·rw[List.getElem?_drop]at hi;rw[Nat.add_assoc];exact hc _ x hi
  ·rw[List.getElem?_drop]at hi;exact hr _ x hi
 ·rename_i b g i o
  cases ha with|ptr _ _ _ _ _ π hb hm=>
  rw[hb]at h
  cases π with
  |dead=>exact h.elim
  |iter=>exact h.elim
  |box cells=>
   obtain⟨cb,hg,rfl⟩:=hm
   exact⟨_,_,run cb o,.ptr _ _ _ _ _ _ hb ⟨cb,hg,rfl⟩,h⟩
  |arr e s z gen l=>
   simp only at h
   rw[ar]at h
   obtain⟨gh,h⟩:=h
   obtain⟨cb,hg,rfl⟩:=hm.2 (Nat.eq_of_beq_eq_true gh)
   exact⟨_,_,run cb _,.ptr _ _ _ _ _ _ hb ⟨hm.1,fun _=>⟨cb,hg,by rw[Nat.add_assoc]⟩⟩,h⟩
 ·exact h.elim
theorem I3{tab:bi}(hT:bl P tab){t:TypeId}{c H a v k}{K:AV→Prop}(h:sR tab t a k K)(ha:RA w c H a v):
 ∃x val,(Instr.field t v k).run P w= .ok val w∧RA w c H x val∧K x:=by
 unfold sR at h
 rw[Ξ]at h
 obtain⟨y,hy,h⟩:=h
 rw[Ξ]at h
 obtain⟨f,hf,h⟩:=h
 rw[Ξ]at h
 obtain⟨z,hz,h⟩:=h
 obtain⟨fs,Lk,D_⟩:=zl hf
 have hd:=(hT t y hy).d
 rw[Lk]at hd
 split at h
 ·cases ha with|t _ _ ha=>cases ha with|agg _ vs hl h1 hr=>
  obtain⟨x,val,r,rt,k⟩:=C8 (w:=w) hT hz hl h1 hr h
  exact⟨.t x,val,by simpa[Instr.field,run_underlying hd,D_,asAgg]using r,.t _ _ rt,k⟩
 ·cases ha with|agg _ vs hl h1 hr=>
  obtain⟨x,val,r,rt,k⟩:=C9 (w:=w) hT hz hl h1 hr h
  exact⟨x,val,by simpa[Instr.field,run_underlying hd,D_,asAgg]using r,rt,k⟩
 ·exact h.elim
theorem rp{i:Int}{n:Nat}(h:rq i n=true):0≤i∧i<n∧i.toNat<n∧(i.toNat:Int)=i:=by
 simp[rq]at h;omega
theorem B4{tab:bi}(hT:bl P tab){t:TypeId}{c H a v ix iv}{K:AV→Prop}(h:gJ tab t H a ix K)(ha:RA w c H a v)(hi:RA w c H ix iv):
 ∃x val,(Instr.indexAt t v iv).run P w= .ok val w∧RA w c H x val∧K x:=by
 unfold gJ at h
 rw[Ξ]at h
 obtain⟨y,hy,h⟩:=h
 have hd:=(hT t y hy).d
 split at h
 ·rename_i k i
  obtain rfl:=hi.int
  split at h
  ·rename_i e s l j0
   rw[j0]at hd
   rw[Ξ]at h
   obtain⟨z,hz,h⟩:=h
   rw[ar]at h
   obtain⟨hb,h⟩:=h
   simp at hb
   rw[Ξ]at h
   obtain⟨x,hx,h⟩:=h
   cases ha with|t _ _ ha=>cases ha with|vec _ _ b off cap sp vals hM eu jh lD hc hr=>
   obtain rfl:=jh (fun e=>by subst e;simp at hx)
   have ω:=κ hx
   have aL:0≤i∧i<(l.length:Int):=by omega
   have bE:=run_sizeOf hT hz w
   refine⟨_,.pointer (some ⟨b,off+i.toNat*z.size,none⟩),?_,.t _ _ (.bg x.cells b _ (fun j=>vals i.toNat j) (fun au=> ?_) (fun j y hj=> ?_) (fun j y hj=> ?_)),h⟩
   ·simp[Instr.indexAt,asIntOf,run_underlying hd,aL,bE,Addr.add_lit]
   ·refine hM (fun e=>by simp[e]at ω) ?_
    have:=lD _ x hx
    have:x.cells.length≠0:=fun e=>au (List.eq_nil_of_length_eq_zero e)
    omega
   ·have:=hc _ x j y hx hj
    rw[←hb.1];exact this
   ·exact hr _ x j y hx hj
  ·rename_i e s l j0
   rw[j0]at hd
   rw[Ξ]at h
   obtain⟨z,hz,h⟩:=h
   rw[ar]at h
   obtain⟨hb,h⟩:=h
   simp at hb
   rw[Ξ]at h
   obtain⟨x,hx,h⟩:=h
   cases ha with|t _ _ ha=>
   obtain⟨ha⟩:Nonempty (RT w (c.M H) (.vec s l) v):=by
    cases ha with
    |km=>simp at hx
    |θ _ _ _ ha=>exact⟨ha⟩
   cases ha with|vec _ _ b off cap sp vals hM eu jh lD hc hr=>
   obtain rfl:=jh (fun e=>by subst e;simp at hx)
   have ω:=κ hx
   have aL:0≤i∧i<(l.length:Int):=by omega
   have bE:=run_sizeOf hT hz w
   refine⟨_,.pointer (some ⟨b,off+i.toNat*z.size,none⟩),?_,.t _ _ (.bg x.cells b _ (fun j=>vals i.toNat j) (fun au=> ?_) (fun j y hj=> ?_) (fun j y hj=> ?_)),h⟩
   ·simp[Instr.indexAt,asIntOf,run_underlying hd,aL,bE,Addr.add_lit]
   ·refine hM (fun e=>by simp[e]at ω) ?_
    have:=lD _ x hx
    have:x.cells.length≠0:=fun e=>au (List.eq_nil_of_length_eq_zero e)
    omega
   ·have:=hc _ x j y hx hj
    rw[←hb.1];exact this
   ·exact hr _ x j y hx hj
  ·rename_i e b g j len j0
   rw[j0]at hd
   rw[Ξ]at h
   obtain⟨z,hz,h⟩:=h
   cases ha with|sl _ _ _ _ _ π hb hm=>
   rw[hb]at h
   cases π with
   |dead=>exact h.elim
   |box=>exact h.elim
   |iter=>exact h.elim
   |arr e' s z' gen l=>
    simp only at h
    rw[ar]at h
    obtain⟨hc,h⟩:=h
    simp only[Bool.and_eq_true]at hc
    obtain⟨⟨tl,dC⟩,aL⟩:=hc
    have tl:=Nat.eq_of_beq_eq_true tl
    have dC:=Nat.eq_of_beq_eq_true dC
    obtain⟨i0,i1,i2,i3⟩:=rp aL
    obtain⟨hlen,hm⟩:=hm.2 tl
    rcases hm with⟨_,l0,_⟩|⟨_,l0,_⟩|⟨_,cb,cap,off,hg,rfl,ug,eu,ti,nt,ns⟩
    ·omega
    ·omega
    ·have wQ:off=j*s:=nt.resolve_left (by omega)
     subst wQ
     have bE:=run_sizeOf hT hz w
     have Wi:0≤i∧i<(len:Int):=⟨i0,i1⟩
     refine⟨_,.pointer (some ⟨cb,j*s+i.toNat*z.size,none⟩),?_,.ptr _ _ _ _ _ _ hb ⟨by omega,fun _=>⟨cb,hg,?_⟩⟩,h⟩
     ·simp[Instr.indexAt,asIntOf,run_underlying hd,Wi,bE,Addr.add_lit]
     ·rw[←dC,Nat.add_mul,Nat.add_zero]
  ·rename_i n e b g j o j0
   rw[j0]at hd
   rw[Ξ]at h
   obtain⟨z,hz,h⟩:=h
   rw[ar]at h
   obtain⟨aL,h⟩:=h
   obtain⟨i0,i1,i2,i3⟩:=rp aL
   have bE:=run_sizeOf hT hz w
   have run:∀cb q,(Instr.indexAt t (.pointer (some ⟨cb,q,none⟩)) (.int k i)).run P w= .ok (.pointer (some ⟨cb,q+i.toNat*z.size,none⟩)) w:=by
    intro cb q
    simp[Instr.indexAt,asIntOf,run_underlying hd,Instr.sureAddr,i0,i1,bE,Addr.add_lit]
   cases ha with|ptr _ _ _ _ _ π hb hm=>
   rw[hb]at h
   cases π with
   |dead=>exact h.elim
   |iter=>exact h.elim
   |box cells=>
    obtain⟨cb,hg,rfl⟩:=hm
    exact⟨_,_,run cb o,.ptr _ _ _ _ _ _ hb ⟨cb,hg,rfl⟩,h⟩
   |arr e' s z' gen l=>
    simp only at h
    rw[ar]at h
    obtain⟨gh,h⟩:=h
    obtain⟨cb,hg,rfl⟩:=hm.2 (Nat.eq_of_beq_eq_true gh)
    exact⟨_,_,run cb _,.ptr _ _ _ _ _ _ hb ⟨hm.1,fun _=>⟨cb,hg,by rw[Nat.add_assoc]⟩⟩,h⟩
  ·rename_i n e cells j0
   rw[j0]at hd
   rw[Ξ]at h
   obtain⟨z,hz,h⟩:=h
   rw[ar]at h
   obtain⟨aL,h⟩:=h
   obtain⟨i0,i1,i2,i3⟩:=rp aL
   have bE:=run_sizeOf hT hz w
   cases ha with|t _ _ ha=>cases ha with|bg _ b off vals hM hc hr=>
   refine⟨_,.pointer (some ⟨b,off+i.toNat*z.size,none⟩),?_,.t _ _ (.bg _ b _ (fun j=>vals (i.toNat*z.size+j)) (fun au=>hM (fun e=>au (by simp[e]))) (fun j x hj=> ?_) (fun j x hj=> ?_)),h⟩
   ·simp[Instr.indexAt,asIntOf,run_underlying hd,Instr.sureAddr,i0,i1,bE,Addr.add_lit]
   ·rw[List.getElem?_drop]at hj;rw[Nat.add_assoc];exact hc _ x hj
   ·rw[List.getElem?_drop]at hj;exact hr _ x hj
  ·exact h.elim
 ·exact h.elim
theorem I1{tab:bi}(hT:bl P tab){t:TypeId}{c H a v ix iv}{K:AV→Prop}(h:sQ tab t a ix K)(ha:RA w c H a v)(hi:RA w c H ix iv):
 ∃x val,(Instr.index t v iv).run P w= .ok val w∧RA w c H x val∧K x:=by
 unfold sQ at h
 rw[Ξ]at h
 obtain⟨y,hy,h⟩:=h
 have hd:=(hT t y hy).d
 split at h
 ·rename_i k i
  obtain rfl:=hi.int
  split at h
  ·rename_i s j0
   rw[j0]at hd
   rw[ar]at h
   obtain⟨hb,h⟩:=h
   simp at hb
   rw[Ξ]at h
   obtain⟨x,hx,h⟩:=h
   obtain⟨bs,rfl,rfl⟩:=ha.str
   have ω:=κ hx
   have Ay:i.toNat<bs.size:=ω
   have eX:bs[i.toNat]?=some x:=by
    rw[getElem?_pos bs i.toNat Ay]
    have:bs.data.toList[i.toNat]?=some bs[i.toNat]:=by
     show bs.data.toList[i.toNat]?=some bs.data[i.toNat]
     simp
    rw[this]at hx
    exact hx
   exact⟨_,.int .u8 x.toNat,by simp[Instr.index,asIntOf,run_underlying hd,hb,eX],.t _ _ (.int _ _),h⟩
  ·rename_i n e cs j0
   rw[j0]at hd
   rw[Ξ]at h
   obtain⟨z,hz,h⟩:=h
   rw[ar]at h
   obtain⟨aL,h⟩:=h
   obtain⟨i0,i1,i2,i3⟩:=rp aL
   have bE:=run_sizeOf hT hz w
   cases ha with|t _ _ ha=>cases ha with|agg _ vs hl h1 hr=>
   obtain⟨x,val,r,rt,k⟩:=C8 (w:=w) hT hz hl h1 hr h
   exact⟨.t x,val,by simpa[Instr.index,asIntOf,run_underlying hd,i0,i1,bE]using r,.t _ _ rt,k⟩
  ·rename_i n e cs j0
   rw[j0]at hd
   rw[Ξ]at h
   obtain⟨z,hz,h⟩:=h
   rw[ar]at h
   obtain⟨aL,h⟩:=h
   obtain⟨i0,i1,i2,i3⟩:=rp aL
   have bE:=run_sizeOf hT hz w
   cases ha with|agg _ vs hl h1 hr=>
   obtain⟨x,val,r,rt,k⟩:=C9 (w:=w) hT hz hl h1 hr h
   exact⟨x,val,by simpa[Instr.index,asIntOf,run_underlying hd,i0,i1,bE]using r,rt,k⟩
  ·exact h.elim
 ·exact h.elim
end
end Go.Proofs.YtcogcbplmkcojaaGreatDoor
namespace Go.Proofs.YtcogcbplmkcojaaGreatDoor
open Go.RowKit
set_option linter.unusedVariables false
set_option linter.unusedSimpArgs false
section
variable {P : Program} {w : World}
theorem sA{v:AV}{d oD:Nat}{K:Nat→Prop}(h:f_ (some v) d oD K){c H u}(hv:RA w c H v u):∃k n,u= .int k n∧0≤n∧n≤(oD:Int)∧K n.toNat:=by
 unfold f_ at h
 split at h
 ·rename_i h0;cases h0
 ·rename_i k n h0
  cases h0
  rw[ar]at h
  obtain⟨hc,h⟩:=h
  simp at hc
  exact⟨_,_,hv.int,hc.1,hc.2,h⟩
 ·exact h.elim
inductive RO(w:World)(c:Cx)(H:AH):Option AV→Option Value→Prop
 |no:RO w c H none none
 |yes (a v) (h:RA w c H a v):RO w c H (some a) (some v)
theorem iK{lo hi:Option AV}{lv hv:Option Value}{c H}{n oD:Nat}{K:Nat→Nat→Prop}(WV:Bool)
 (nu:RO w c H lo lv) (vS:RO w c H hi hv)
 (hn:n≤oD) (cap:Nat) (Y3:oD≤cap) (h:f_ hi n oD fun h=>f_ lo 0 h fun l=>K l h):
 ∃l h,l≤h∧h≤oD∧(Instr.sliceBounds WV n cap lv hv none).run P w= .ok (l,h,cap) w∧K l h:=by
 cases vS with
 |no=>
  replace h:f_ lo 0 n fun l=>K l n:=h
  cases nu with
  |no=>exact⟨0,n,Nat.zero_le _,hn,by simp[Instr.sliceBounds],h⟩
  |yes a u hu=>
   obtain⟨k,m,rfl,h0,h1,h2⟩:=sA h hu
   exact⟨m.toNat,n,by omega,hn,by simp[Instr.sliceBounds,run_sliceBound w k m n _ h0 (by omega)],h2⟩
 |yes b v hv=>
  obtain⟨k',m',rfl,LD,VL,VK⟩:=sA h hv
  cases nu with
  |no=>exact⟨0,m'.toNat,Nat.zero_le _,by omega,by simp[Instr.sliceBounds,run_sliceBound w k' m' cap _ LD (by omega)],VK⟩
  |yes a u hu=>
   obtain⟨k,m,rfl,h0,h1,h2⟩:=sA VK hu
   exact⟨m.toNat,m'.toNat,by omega,by omega,by simp[Instr.sliceBounds,run_sliceBound w k' m' cap _ LD (by omega),run_sliceBound w k m m'.toNat _ h0 (by omega)],h2⟩
theorem tK(gen s i n len:Nat):room gen s i n len=n∨(gen%2=1∧1≤s∧room gen s i n len=len - i):=by
 unfold room
 split
 ·rename_i h
  simp only[Bool.and_eq_true]at h
  exact .inr ⟨Nat.eq_of_beq_eq_true h.1,Nat.le_of_ble_eq_true h.2,rfl⟩
 ·exact .inl rfl
theorem RO.NT{c H k v}(h:RO w c H (some (.t (.int k 0))) v):v=some (.int k 0):=by cases h with|yes _ _ h=>rw[h.int]
theorem IY{tab:bi}(hT:bl P tab){t:TypeId}{c H B a v}{lo hi mx:Option AV}{lv hv mv:Option Value}{K:AV→Prop}(hs:HS w c H B)(h:mX tab t H a lo hi mx K)(ha:RA w c H a v)
 (nu:RO w c H lo lv) (vS:RO w c H hi hv) (ti:RO w c H mx mv):
 ∃x val,(Instr.sliceAt t v lv hv mv).run P w= .ok val w∧RA w c H x val∧K x:=by
 unfold mX at h
 rw[Ξ]at h
 obtain⟨y,hy,h⟩:=h
 have hd:=(hT t y hy).d
 split at h
 ·rename_i m
  split at h
  ·rename_i e k1 k2 k3 he
   rw[he]at hd
   rw[Ξ]at h
   obtain⟨z,hz,h⟩:=h
   obtain rfl:=nu.NT
   obtain rfl:=vS.NT
   obtain rfl:=ti.NT
   have jx:=run_sizeOf hT hz w
   have run:∀a0 n cap,(Instr.sliceAt t (.slice a0 n cap) (some (.int k1 0)) (some (.int k2 0)) (some (.int k3 0))).run P w= .ok (.slice a0 0 0) w:=by
    intro a0 n cap
    simp[Instr.sliceAt,Instr.slice,run_underlying hd,Instr.sliceBounds,Instr.sliceBound,asIntOf,jx]
   split at h
   ·cases ha with|t _ _ ha=>cases ha;exact⟨_,_,run _ _ _,.t _ _ .af,h⟩
   ·cases ha with|t _ _ ha=>cases ha;exact⟨_,_,run _ _ _,.dx _,h⟩
   ·cases ha;exact⟨_,_,run _ _ _,.dx _,h⟩
   ·rename_i b g i n
    cases ha with|sl _ _ _ _ _ π hb hm=>
    rw[hb]at h
    cases π with
    |dead=>exact h.elim
    |box=>exact h.elim
    |iter=>exact h.elim
    |arr e' s z' gen l0=>
     simp only at h
     rw[ar]at h
     obtain⟨hc,h⟩:=h
     obtain⟨hlen,ku⟩:=hm.2 (Nat.eq_of_beq_eq_true hc)
     rw[lT]at h
     rcases ku with⟨z1,l1,rfl⟩|⟨z1,l1,ad,rfl⟩|⟨au,cb,cap,off,hg,rfl,_⟩
     ·rcases h with⟨_,h⟩|⟨h0,_⟩
      ·exact⟨_,_,run _ _ _,.t _ _ .af,h⟩
      ·simp[z1,l1]at h0
     ·rcases h with⟨h0,_⟩|⟨_,h⟩
      ·simp[z1]at h0
      ·exact⟨_,_,run _ _ _,.dx _,h⟩
     ·rcases h with⟨h0,_⟩|⟨_,h⟩
      ·simp at h0;exact(au h0).elim
      ·exact⟨_,_,run _ _ _,.dx _,h⟩
   ·exact h.elim
  ·exact h.elim
 ·cases ti
  split at h
  ·rename_i s he
   rw[he]at hd
   obtain⟨bs,rfl,rfl⟩:=ha.str
   obtain⟨l,h',hl,hh,run,k⟩:=iK (P:=P) false nu vS (Nat.le_refl _) bs.size (Nat.le_of_eq rfl) h
   refine⟨_,.string (bs.extract l h'),by simp[Instr.sliceAt,Instr.slice,run_underlying hd,run],.t _ _ ?_,k⟩
   have e:(bs.data.toList.drop l).take (h' - l)=(bs.extract l h').data.toList:=by
    rw[ByteArray.data_extract];simp[List.extract,Array.toList_extract]
   rw[e];exact .str _
  ·rename_i e s l0 he
   rw[he]at hd
   rw[Ξ]at h
   obtain⟨z,hz,h⟩:=h
   rw[ar]at h
   obtain⟨bE,h⟩:=h
   have bE:=Nat.eq_of_beq_eq_true bE
   cases ha with|t _ _ ha=>cases ha with|vec _ _ b off cap sp vals hM eu jh lD hc hr=>
   obtain⟨l,h',hl,hh,run,k⟩:=iK (P:=P) true nu vS (Nat.le_refl _) cap eu h
   have jx:=run_sizeOf hT hz w
   by_cases gX:l0=[]
   ·subst gX
    have e1:h'=0:=by simpa using hh
    have e2:l=0:=by omega
    subst e1 e2
    have gC:(Instr.sliceAt t (.slice (some ⟨b,off,sp⟩) ([]:List T).length cap) lv hv none).run P w= .ok (.slice (some ⟨b,off,sp⟩) ([]:List T).length cap) w:=by
     have MY:(Instr.sliceBounds true 0 cap lv hv none).run P w= .ok (0,0,cap) w:=run
     simp[Instr.sliceAt,Instr.slice,run_underlying hd,MY,jx,Addr.add]
    exact⟨_,_,gC,.t _ _ (.vec s _ b off cap sp vals hM eu jh lD hc hr),k⟩
   obtain rfl:=jh gX
   have gC:(Instr.sliceAt t (.slice (some ⟨b,off,none⟩) l0.length cap) lv hv none).run P w= .ok (.slice (if cap=l then some ⟨b,off,none⟩else some ⟨b,off+l*z.size,none⟩) (h' - l) (cap - l)) w:=by
    simp[Instr.sliceAt,Instr.slice,run_underlying hd,run,jx,Addr.add_lit]
   have hlen:((l0.drop l).take (h' - l)).length=h' - l:=by simp;omega
   by_cases bn:cap=l
   ·have:h' - l=0:=by omega
    refine⟨_,_,gC,.t _ _ ?_,k⟩
    have e0:(l0.drop l).take (h' - l)=[]:=List.eq_nil_of_length_eq_zero (by omega)
    rw[e0,if_pos bn,this]
    exact .vec s [] b off (cap - l) none (fun _ _=>undef) (by simp) (by simp) (by simp) (by simp) (by simp) (by simp)
   ·refine⟨_,_,gC,.t _ _ ?_,k⟩
    rw[if_neg bn]
    have:=RT.vec (w:=w) (M:=c.M H) s ((l0.drop l).take (h' - l)) b (off+l*z.size) (cap - l) none (fun i j=>vals (l+i) j) (fun au=>hM (fun e=>au (by simp[e]))) (by omega) (fun _=>rfl)
     (fun i e hi=>lD _ e (bu hi).2)
     (fun i e j x hi hj=>by
      have:=hc _ e j x (bu hi).2 hj
      rw[←bE,show off+l*s+i*s+j=off+(l+i)*s+j by rw[Nat.add_mul];omega]
      exact this)
     (fun i e j x hi hj=>hr _ e j x (bu hi).2 hj)
    rw[hlen]at this
    exact this
  ·rename_i e he
   rw[he]at hd
   rw[Ξ]at h
   obtain⟨z,hz,h⟩:=h
   cases ha with|t _ _ ha=>
   cases ha
   obtain⟨l,h',hl,hh,run,k⟩:=iK (P:=P) (K:=fun _ _=>K (.t .af)) true nu vS (Nat.le_refl _) 0 (Nat.le_refl _) h
   have l0:l=0:=by omega
   have h0:h'=0:=by omega
   subst l0 h0
   exact⟨_,_,by simp[Instr.sliceAt,Instr.slice,run_underlying hd,run,run_sizeOf hT hz w],.t _ _ .af,k⟩
  ·rename_i e s l0 he
   rw[he]at hd
   rw[Ξ]at h
   obtain⟨z,hz,h⟩:=h
   rw[ar]at h
   obtain⟨bE,h⟩:=h
   have bE:=Nat.eq_of_beq_eq_true bE
   cases ha with|t _ _ ha=>cases ha with
   |km=>
    obtain⟨l,h',hl,hh,run,k⟩:=iK (P:=P) true nu vS (Nat.le_refl _) 0 (Nat.le_refl _) h
    have ZD:h'≤0:=hh
    have l0:l=0:=by omega
    have h0:h'=0:=by omega
    subst l0 h0
    have run:(Instr.sliceBounds true 0 0 lv hv none).run P w= .ok (0,0,0) w:=run
    exact⟨_,_,by simp[Instr.sliceAt,Instr.slice,run_underlying hd,run,run_sizeOf hT hz w],.t _ _ (.km s),k⟩
   |θ _ _ _ ha=>
   cases ha with|vec _ _ b off cap sp vals hM eu jh lD hc hr=>
   obtain⟨l,h',hl,hh,run,k⟩:=iK (P:=P) true nu vS (Nat.le_refl _) cap eu h
   have jx:=run_sizeOf hT hz w
   by_cases gX:l0=[]
   ·subst gX
    have e1:h'=0:=by simpa using hh
    have e2:l=0:=by omega
    subst e1 e2
    have gC:(Instr.sliceAt t (.slice (some ⟨b,off,sp⟩) ([]:List T).length cap) lv hv none).run P w= .ok (.slice (some ⟨b,off,sp⟩) ([]:List T).length cap) w:=by
     have MY:(Instr.sliceBounds true 0 cap lv hv none).run P w= .ok (0,0,cap) w:=run
     simp[Instr.sliceAt,Instr.slice,run_underlying hd,MY,jx,Addr.add]
    exact⟨_,_,gC,.t _ _ (.θ _ _ _ (.vec s _ b off cap sp vals hM eu jh lD hc hr)),k⟩
   obtain rfl:=jh gX
   have gC:(Instr.sliceAt t (.slice (some ⟨b,off,none⟩) l0.length cap) lv hv none).run P w= .ok (.slice (if cap=l then some ⟨b,off,none⟩else some ⟨b,off+l*z.size,none⟩) (h' - l) (cap - l)) w:=by
    simp[Instr.sliceAt,Instr.slice,run_underlying hd,run,jx,Addr.add_lit]
   have hlen:((l0.drop l).take (h' - l)).length=h' - l:=by simp;omega
   by_cases bn:cap=l
   ·have:h' - l=0:=by omega
    refine⟨_,_,gC,.t _ _ ?_,k⟩
    have e0:(l0.drop l).take (h' - l)=[]:=List.eq_nil_of_length_eq_zero (by omega)
    rw[e0,if_pos bn,this]
    refine .θ _ _ _ ?_
    exact .vec s [] b off (cap - l) none (fun _ _=>undef) (by simp) (by simp) (by simp) (by simp) (by simp) (by simp)
   ·refine⟨_,_,gC,.t _ _ ?_,k⟩
    rw[if_neg bn]
    have:=RT.vec (w:=w) (M:=c.M H) s ((l0.drop l).take (h' - l)) b (off+l*z.size) (cap - l) none (fun i j=>vals (l+i) j) (fun au=>hM (fun e=>au (by simp[e]))) (by omega) (fun _=>rfl)
     (fun i e hi=>lD _ e (bu hi).2)
     (fun i e j x hi hj=>by
      have:=hc _ e j x (bu hi).2 hj
      rw[←bE,show off+l*s+i*s+j=off+(l+i)*s+j by rw[Nat.add_mul];omega]
      exact this)
     (fun i e j x hi hj=>hr _ e j x (bu hi).2 hj)
    rw[hlen]at this
    exact .θ _ _ _ this
  ·rename_i e b g i n he
   rw[he]at hd
   rw[Ξ]at h
   obtain⟨z,hz,h⟩:=h
   cases ha with|sl _ _ _ _ _ π hb hm=>
   rw[hb]at h
   cases π with
   |dead=>exact h.elim
   |box=>exact h.elim
   |iter=>exact h.elim
   |arr e' s z' gen l0=>
    simp only at h
    rw[ar]at h
    obtain⟨hc,h⟩:=h
    simp only[Bool.and_eq_true]at hc
    have tl:=Nat.eq_of_beq_eq_true hc.1
    have dC:=Nat.eq_of_beq_eq_true hc.2
    have jx:=run_sizeOf hT hz w
    obtain⟨hlen,ku⟩:=hm.2 tl
    rcases ku with⟨z1,l1,rfl⟩|⟨z1,l1,ad,rfl⟩|⟨au,cb,cap,off,hg,rfl,ug,eu,ti,nt,ns⟩
    ·have nY:n=0:=by rw[l1]at hlen;simp at hlen;omega
     have vR:i=0:=by rw[l1]at hlen;simp at hlen;omega
     subst nY vR
     have dS:room gen s 0 0 l0.length=0:=by rcases tK gen s 0 0 l0.length with h|⟨_,_,h⟩<;>omega
     rw[dS]at h
     obtain⟨l,h',hl,hh,run,k⟩:=iK (P:=P) true nu vS (Nat.le_refl _) 0 (Nat.le_refl _) h
     have Sa:l=0:=by omega
     have h0:h'=0:=by omega
     subst Sa h0
     exact⟨_,.slice none 0 0,by simp[Instr.sliceAt,Instr.slice,run_underlying hd,run,jx],.sl _ _ _ _ _ _ hb ⟨hm.1,fun _=>⟨by simp[l1],.inl ⟨z1,l1,rfl⟩⟩⟩,k⟩
    ·have nY:n=0:=by rw[l1]at hlen;simp at hlen;omega
     have vR:i=0:=by rw[l1]at hlen;simp at hlen;omega
     subst nY vR
     have dS:room gen s 0 0 l0.length=0:=by rcases tK gen s 0 0 l0.length with h|⟨_,_,h⟩<;>omega
     rw[dS]at h
     obtain⟨l,h',hl,hh,run,k⟩:=iK (P:=P) true nu vS (Nat.le_refl _) 0 (Nat.le_refl _) h
     have Sa:l=0:=by omega
     have h0:h'=0:=by omega
     subst Sa h0
     exact⟨_,.slice (some ad) 0 0,by simp[Instr.sliceAt,Instr.slice,run_underlying hd,run,jx],.sl _ _ _ _ _ _ hb ⟨hm.1,fun _=>⟨by simp[l1],.inr (.inl ⟨z1,l1,ad,rfl⟩)⟩⟩,k⟩
    ·obtain⟨wo,OG,Ei,LC,TA,Yo,Ym⟩:=hs.arr b cb e' s z' gen l0 hb hg
     have Pe:n≤room gen s i n l0.length∧room gen s i n l0.length≤cap∧i+room gen s i n l0.length≤l0.length:=by
      rcases tK gen s i n l0.length with h|⟨ny,fp,h⟩
      ·omega
      ·have:i+cap=OG:=by
        simp only[dX,Ei]at ug
        rw[LC]at ug
        exact Nat.eq_of_mul_eq_mul_right (by omega) ug
       have:=TA.2 ny
       omega
     obtain⟨l,h',hl,hh,run,k⟩:=iK (P:=P) true nu vS Pe.1 cap Pe.2.1 h
     have gC:(Instr.sliceAt t (.slice (some ⟨cb,off,none⟩) n cap) lv hv none).run P w= .ok (.slice (if cap=l then some ⟨cb,off,none⟩else some ⟨cb,off+l*z.size,none⟩) (h' - l) (cap - l)) w:=by
      simp[Instr.sliceAt,Instr.slice,run_underlying hd,run,jx,Addr.add_lit]
     refine⟨_,_,gC,.sl _ _ _ _ _ _ hb ⟨hm.1,fun _=>⟨by omega,.inr <| .inr ⟨au,cb,cap - l,(if cap=l then off else off+l*z.size),hg,by split<;>rfl,?_,by omega,by omega,?_,?_⟩⟩⟩,k⟩
     ·rw[←ug];congr 1;omega
     ·by_cases bn:cap=l
      ·left;omega
      ·right;rw[if_neg bn,nt.resolve_left (by omega),←dC,Nat.add_mul]
     ·intro qu
      have:i=0:=by omega
      have gX:l=0:=by omega
      subst this gX
      simp[ns rfl]
  ·exact h.elim
theorem E9{c H x v i}{K:AV→Prop}(h:oh x i K)(hx:RA w c H x v):∃y val,(Instr.extract v i).run P w= .ok val w∧RA w c H y val∧K y:=by
 unfold oh at h
 split at h
 ·rename_i vs
  rw[Ξ]at h
  obtain⟨a,ha,h⟩:=h
  cases hx with|aq _ us hl hr=>
  obtain⟨u,hu⟩:=iI (a:=us) (i:=i) (by have:=κ ha;omega)
  exact⟨a,u,by simp[Instr.extract,hu],hr i a u ha hu,h⟩
 ·exact h.elim
theorem RT.kf{M x v}(h:RT w M x v)(h1:x.one=true):v.oneCell'=true∧v.cells= #[v]:=by
 cases h<;>first|exact⟨rfl,rfl⟩|(simp[T.one]at h1;done)|(rename_i h;cases h;exact⟨rfl,rfl⟩)
theorem RA.kf{c H x v}(h:RA w c H x v)(h1:x.one=true):v.oneCell'=true∧v.cells= #[v]:=by
 cases h with
 |t x v hx=>exact hx.kf h1
 |ptr b g i o v π hb hm hv=>obtain⟨a,rfl⟩:=hv;exact⟨rfl,rfl⟩
 |sl b g i n v π hb hm hv=>obtain⟨a,n,m,rfl⟩:=hv;exact⟨rfl,rfl⟩
 |agg=>simp[AV.one]at h1
 |aq=>simp[AV.one]at h1
 |bq=>simp[AV.one]at h1
 |fn=>exact⟨rfl,rfl⟩
 |cG=>exact⟨rfl,rfl⟩
 |dx=>exact⟨rfl,rfl⟩
theorem RA.cells{c H x v}(h:RA w c H x v)(h1:x.cells.all AV.one=true):x.cells.length=v.cells.size∧
 ∀(j:Nat) y u,x.cells[j]?=some y→v.cells[j]?=some u→y.one=true∧RA w c H y u∧u.oneCell'=true:=by
 have all:∀(j:Nat) y,x.cells[j]?=some y→y.one=true:=fun j y hj=>by
  rw[List.all_eq_true]at h1
  exact h1 y (List.mem_of_getElem? hj)
 have single:x.cells=[x]→x.cells.length=v.cells.size∧∀(j:Nat) y u,x.cells[j]?=some y→v.cells[j]?=some u→y.one=true∧RA w c H y u∧u.oneCell'=true:=by
  intro hx
  have kJ:=all 0 x (by rw[hx];rfl)
  obtain⟨o1,o2⟩:=h.kf kJ
  rw[hx,o2]
  refine⟨rfl,fun j y u hj hu=> ?_⟩
  cases j with
  |zero=>simp at hj hu;subst hj hu;exact⟨kJ,h,o1⟩
  |succ j=>simp at hj
 cases h with
 |agg cs vs hl h2 hr=>
  exact⟨hl,fun j y u hj hu=>⟨all j y hj,hr j y u hj hu,((hr j y u hj hu).kf (all j y hj)).1⟩⟩
 |t x v hx=>
  cases hx with
  |agg cs vs hl h2 hr=>
   refine⟨by simp only[AV.cells,List.length_map];exact hl,fun j y u hj hu=> ?_⟩
   have hy:=all j y hj
   simp only[AV.cells,List.getElem?_map,Option.map_eq_some_iff]at hj
   obtain⟨z,hz,rfl⟩:=hj
   exact⟨hy,.t _ _ (hr j z u hz hu),((hr j z u hz hu).kf hy).1⟩
  |_=>exact single rfl
 |_=>exact single rfl
theorem kE:∀{cs:List AV} {l:List T},jm cs=some l→cs=l.map .t
 |[],l,h=>by simp[jm]at h;subst h;rfl
 |a::r,l,h=>by
  simp only[jm]at h
  split at h
  ·rename_i x l' hx tj
   cases h
   have ha:a= .t x:=by cases a<;>simp[z7]at hx;rw[hx]
   rw[ha,kE tj];rfl
  ·cases h
theorem Mu{c H x y z u v t}{K:AV→Prop}(h:wB x y z K)(hx:RA w c H x u)(hy:RA w c H y v)(hz:RA w c H z t)(ρu:asBool u=pure true∨asBool u=pure false∨True):
 ∃b a val,u= .bool b∧val=(if b then v else t)∧RA w c H a val∧K a:=by
 unfold wB at h
 split at h
 ·rename_i b
  obtain rfl:=hx.bool
  split at h
  ·rename_i p q
   obtain rfl:=hy.bool
   obtain rfl:=hz.bool
   cases b
   ·exact⟨_,_,_,rfl,rfl,hz,h⟩
   ·exact⟨_,_,_,rfl,rfl,hy,h⟩
  ·rw[lT]at h
   rcases h with⟨rfl,h⟩|⟨rfl,h⟩
   ·exact⟨_,_,_,rfl,rfl,hy,h⟩
   ·exact⟨_,_,_,rfl,rfl,hz,h⟩
 ·exact h.elim
theorem GS{tab:bi}{t:TypeId}{c H B x v}{K:AV→AH→Prop}(hs:HS w c H B)(h:zX tab t x H K)(hx:RA w c H x v):jB P (pure v) w c H B K:=by
 have az:K x H→jB P (pure v) w c H B K:=fun k=> .here hs rfl hx k
 unfold zX at h
 split at h
 ·split at h
  ·split at h
   ·split at h
    ·split at h
     ·rename_i x1 y hy x2 e he x3 z hz x4 hb
      cases hx with|t _ _ hx=>
      cases hx
      obtain⟨ev,aK⟩:=q_ hs (.arr e z.size true 0 (.ts []))
      exact⟨_,_,w,c,_,rfl,.sl H.length 0 0 0 _ (.arr e z.size true 0 (.ts [])) ij ⟨Nat.le_refl _,fun _=>⟨by simp[Sq.length],.inl ⟨rfl,rfl,rfl⟩⟩⟩,aK,ev,Below.refl _ _,h⟩
     ·exact az h
    ·exact az h
   ·exact az h
  ·exact az h
 ·exact az h
def tq:Value→Bool
 | .pointer none=>false
 | .nilIface=>false
 | .nilFunc=>false
 | .func (.method _) _ _=>false
 |_=>true
theorem Ca{ρ:Operand→Value}{o:Oper}{x:Operand}(ho:o.op= .nilCheck x)(h:tq (ρ x)=true):execOp ρ o=pure (.value (ρ x)):=by
 unfold execOp
 rw[ho]
 simp only[]
 generalize ρ x=u at h⊢
 cases u with
 |pointer a=>cases a<;>first|rfl|(simp[tq]at h)
 |nilIface=>simp[tq]at h
 |nilFunc=>simp[tq]at h
 |func f a b=>cases f<;>first|rfl|(simp[tq]at h)
 |_=>rfl
theorem Ct{c H x v}{K:AV→Prop}(h:iJ H x K)(hx:RA w c H x v):tq v=true∧K x:=by
 unfold iJ at h
 split at h
 ·cases hx with|t _ _ hx=>
  cases hx
  exact⟨rfl,h⟩
 ·cases hx with|ptr _ _ _ _ _ π hb hm hv=>
  rw[hb]at h
  cases π with
  |dead=>exact h.elim
  |iter=>exact h.elim
  |box cells=>obtain⟨cb,_,rfl⟩:=hm;exact⟨rfl,h⟩
  |arr e s z gen l=>
   simp only at h
   rw[ar]at h
   obtain⟨hg,h⟩:=h
   obtain⟨cb,_,rfl⟩:=hm.2 (Nat.eq_of_beq_eq_true hg)
   exact⟨rfl,h⟩
 ·cases hx with|t _ _ hx=>
  cases hx
  exact⟨rfl,h⟩
 ·cases hx
  exact⟨rfl,h⟩
 ·exact h.elim
theorem kG{α:Type}:∀(cs l:List α) (o:Nat),(setAt l o cs).length=l.length
 |[],l,o=>by rw[iO]
 |x::r,l,o=>by rw[li,kG r,List.length_set]
theorem px{α:Type}:∀(cs l:List α) (o i:Nat),o+cs.length≤l.length→(setAt l o cs)[i]?=if o≤i∧i<o+cs.length then cs[i - o]?else l[i]?
 |[],l,o,i,_=>by simp[iO];intro h1 h2;omega
 |x::r,l,o,i,h=>by
  rw[li]
  rw[px r (l.set o x) (o+1) i (by simp at h⊢;omega)]
  simp only[List.length_cons]at h⊢
  by_cases h1:i=o
  ·subst h1
   have:¬(i+1≤i∧i<i+1+r.length):=by omega
   rw[if_neg this,if_pos (by omega),List.getElem?_set_self (by omega)]
   simp
  ·by_cases h2:o+1≤i∧i<o+1+r.length
   ·rw[if_pos h2,if_pos (by omega)]
    rw[show i - o=(i - (o+1))+1 by omega,List.getElem?_cons_succ]
   ·rw[if_neg h2,if_neg (by omega),List.getElem?_set_ne (by omega)]
theorem qL{vs:List Value}{arr:Array Value}{o i:Nat}(h:o+vs.length≤arr.size):
 (arr.toList.take o++vs++arr.toList.drop (o+vs.length)).toArray[i]?=if o≤i∧i<o+vs.length then vs[i - o]?else arr[i]?:=by
 simp only[List.getElem?_toArray]
 by_cases h1:i<o
 ·rw[if_neg (by omega),List.append_assoc,List.getElem?_append_left (by simp;omega),List.getElem?_take_of_lt h1];simp
 ·by_cases h2:i<o+vs.length
  ·rw[if_pos (by omega),List.append_assoc,List.getElem?_append_right (by simp;omega),List.getElem?_append_left (by simp;omega)]
   congr 1;simp;omega
  ·rw[if_neg (by omega),List.getElem?_append_right (by simp;omega),List.getElem?_drop]
   simp only[List.length_append,List.length_take,Array.length_toList,Array.getElem?_toList]
   congr 1;omega
theorem mr{vs:List Value}{arr:Array Value}{o:Nat}(h:o+vs.length≤arr.size):(arr.toList.take o++vs++arr.toList.drop (o+vs.length)).toArray.size=arr.size:=by
 simp;omega
theorem vf{tab:bi}(hT:bl P tab){t:TypeId}{y:il}(hy:tab t=some y){cb o:Nat}{arr:Array Value}{e:TypeId}(hc:w.heap[cb]?=some (.cells arr e (0,0))){v:Value}
 (bE:v.cells.size=y.size) (bx:o+y.size≤arr.size) (h1:∀u∈v.cells.toList,u.oneCell'=true):
 (storeVar t ⟨cb,o,none⟩ v).run P w= .ok () (w.setRow cb (arr.toList.take o++v.cells.toList++arr.toList.drop (o+v.cells.toList.length)).toArray):=by
 have iT:=run_storeCells_at P cb o e v.cells.toList 0 arr w hc (by simp;omega) h1
 simp only[Nat.add_zero]at iT
 simp only[storeVar,Sem.run_bind,run_sizeOf hT hy,Result.andThen_ok,bE,ne_eq,not_true_eq_false,if_false]
 exact iT
theorem j5{w:World}{B cb:Nat}(h:B≤cb)(arr:Array Value):Below B w (w.setRow cb arr):=
 ⟨rfl,rfl,rfl,by simp,fun k hk=>setRow_other w cb k arr (by omega)⟩
theorem T.iZ{x:T}(h:x.one=true):x.cells=[x]:=by cases x<;>first|rfl|(simp[T.one]at h)
theorem Ae{x:T}{o:Nat}{cs:List T}(h:o+cs.length≤x.cells.length)(h1:cs.all T.one=true):(setCells x o cs).cells=setAt x.cells o cs:=by
 cases x with
 |agg l=>rfl
 |_=>
  cases cs with
  |nil=>rw[iO];rfl
  |cons c r=>
   have hr:r=[]:=by
    cases r with
    |nil=>rfl
    |cons=>exfalso;simp[T.cells]at h;omega
   subst hr
   have ho:o=0:=by simp[T.cells]at h;exact h
   subst ho
   simp at h1
   simp only[setCells,T.iZ h1]
   rfl
theorem AY{α β:Type}(f:α→β):∀(cs l:List α) (o:Nat),(setAt l o cs).map f=setAt (l.map f) o (cs.map f)
 |[],l,o=>by rw[List.map_nil,iO,iO]
 |c::r,l,o=>by rw[List.map_cons,li,li,AY f r,List.map_set]
def Nr(x:AV):List AV→AV
 |[c]=>c
 |_=>x
theorem xM{x:AV}{o:Nat}{cs:List AV}(h:o+cs.length≤x.cells.length)(h1:cs.all AV.one=true)(hx:x.cells=[x]):(Nr x cs).cells=setAt x.cells o cs:=by
 cases cs with
 |nil=>rw[iO];rfl
 |cons c r=>
  have hl:x.cells.length=1:=by rw[hx];rfl
  have hr:r=[]:=List.length_eq_zero_iff.1 (by simp at h;omega)
  subst hr
  have ho:o=0:=by simp at h;omega
  subst ho
  simp only[List.all_cons,List.all_nil,Bool.and_true]at h1
  rw[hx]
  simp only[setAt,Nr]
  cases c with
  |t c=>rw[T.dK,T.iZ h1];rfl
  |agg=>simp[AV.one]at h1
  |aq=>simp[AV.one]at h1
  |bq=>simp[AV.one]at h1
  |own=>simp[AV.one]at h1
  |_=>rfl
theorem rW{x:AV}{o:Nat}{cs:List AV}(h:o+cs.length≤x.cells.length)(h1:cs.all AV.one=true):(kF x o cs).cells=setAt x.cells o cs:=by
 have he:∀{x:AV},(∀o cs,kF x o cs=Nr x cs)→x.cells=[x]→o+cs.length≤x.cells.length→(kF x o cs).cells=setAt x.cells o cs:=fun e hx h=>by
  rw[e];exact xM h h1 hx
 cases x with
 |agg l=>rfl
 |t x=>cases x<;>first|rfl|exact he (fun _ _=>rfl) rfl h
 |_=>exact he (fun _ _=>rfl) rfl h
theorem IX{tab:bi}(hT:bl P tab){t:TypeId}{c H B a x v u}{K:AH→Prop}(hs:HS w c H B)(h:Cq tab t H a x K)(ha:RA w c H a v)(hx:RA w c H x u):
 ∃w' H',(Instr.storeAt t v u).run P w= .ok () w'∧HS w' c H' B∧Ev w c H w' c H'∧Below B w w'∧K H':=by
 unfold Cq at h
 rw[Ξ]at h
 obtain⟨y,hy,h⟩:=h
 split at h
 ·rename_i b g i o
  cases ha with|ptr _ _ _ _ _ π hb hm hv=>
  rw[hb]at h
  cases π with
  |dead=>exact h.elim
  |iter=>exact h.elim
  |box cells=>
   simp only at h
   rw[ar]at h
   obtain⟨hc,h⟩:=h
   simp only[Bool.and_eq_true]at hc
   have c1:=Nat.eq_of_beq_eq_true hc.1.1
   have c2:=Nat.le_of_ble_eq_true hc.1.2
   obtain⟨cl,cr⟩:=hx.cells hc.2
   obtain⟨cb,hg,rfl⟩:=hm
   obtain⟨arr,e,h1,h2,h3⟩:=hs.box b cb cells hb hg
   have vL:∀z∈u.cells.toList,z.oneCell'=true:=fun z hz=>by
    obtain⟨j,hj,rfl⟩:=List.getElem_of_mem hz
    have pP:j<u.cells.size:=by simpa using hj
    exact(cr j _ _ (List.getElem?_eq_getElem (by omega)) (by simp[pP])).2.2
   have bx:o+u.cells.toList.length≤arr.size:=by simp;omega
   have run:=vf (P:=P) hT hy h1 (o:=o) (by omega) (by omega) vL
   obtain⟨ev,aK⟩:=Qv hs hb hg h1 (mr bx) h2 (kG x.cells cells o) (fun j y' v' hj kr=>by
    rw[px _ _ _ _ (by omega)]at hj
    rw[qL bx]at kr
    have hlen:x.cells.length=u.cells.toList.length:=by simpa using cl
    by_cases aL:o≤j∧j<o+x.cells.length
    ·rw[if_pos aL]at hj
     rw[if_pos (by omega)]at kr
     exact cr _ _ _ hj (by simpa using kr)
    ·rw[if_neg aL]at hj
     rw[if_neg (by omega)]at kr
     exact h3 j y' v' hj kr)
   exact⟨_,_,by simpa[Instr.storeAt,Instr.sureAddr]using run,aK,ev,j5 (hs.base b cb hg).1 _,h⟩
  |arr e s z gen l=>
   have row:∀x0 x' l',g.beq gen=true→l.get i=some x0→l'.length=l.length→(∀k,l'.get k=if k=i then some x' else l.get k)→x'.cells=setAt x0.cells o x.cells→
    x.cells.length=y.size→o+y.size≤x0.cells.length→x.cells.all AV.one=true→K (H.set b (.arr e s z gen l'))→
    ∃w' H',(Instr.storeAt t v u).run P w= .ok () w'∧HS w' c H' B∧Ev w c H w' c H'∧Below B w w'∧K H':=by
    intro x0 x' l' gh eO vN eX zc c1 c2 bZ h
    obtain⟨cl,cr⟩:=hx.cells bZ
    obtain⟨cb,hg,rfl⟩:=hm.2 (Nat.eq_of_beq_eq_true gh)
    obtain⟨arr,cap,h1,h2,h3,h4,h5⟩:=hs.arr b cb e s z gen l hb hg
    obtain⟨h6,h7⟩:=h5 i x0 eO
    have vL:∀z∈u.cells.toList,z.oneCell'=true:=fun z hz=>by
     obtain⟨j,hj,rfl⟩:=List.getElem_of_mem hz
     have pP:j<u.cells.size:=by simpa using hj
     exact(cr j _ _ (List.getElem?_eq_getElem (by omega)) (by simp[pP])).2.2
    have qu:=Sq.vY eO
    have qg:i*s+s≤arr.size:=by
     rw[h2,←Nat.succ_mul];exact Nat.mul_le_mul_right _ (by omega)
    have bx:i*s+o+u.cells.toList.length≤arr.size:=by simp;omega
    have run:=vf (P:=P) hT hy h1 (o:=i*s+o) (by omega) (by omega) vL
    have Zs:u.cells.toList.length=x.cells.length:=by simp;omega
    obtain⟨ev,aK⟩:=sU hs hb hg h1 (mr bx) h2 (l':=l') (g':=gen) (by rw[vN];exact h3) h4 (Nat.le_refl _) (by rw[vN];exact Nat.le_refl _) (fun _=>vN) (fun k z hk=>by
     rw[eX]at hk
     by_cases Ld:k=i
     ·subst Ld
      rw[if_pos rfl]at hk
      cases hk
      rw[zc]
      refine⟨by rw[kG];exact h6,fun j y' hj=> ?_⟩
      have Lh:j<s:=by have:=κ hj;rw[kG]at this;omega
      rw[px _ _ _ _ (by omega)]at hj
      rw[qL bx]
      by_cases aL:o≤j∧j<o+x.cells.length
      ·rw[if_pos aL]at hj
       rw[if_pos (by omega)]
       obtain⟨q,hq⟩:=iI (a:=u.cells) (i:=j - o) (by omega)
       refine⟨q,by rw[show k*s+j - (k*s+o)=j - o by omega];simpa using hq,?_⟩
       exact cr (j - o) y' q hj hq
      ·rw[if_neg aL]at hj
       rw[if_neg (by omega)]
       exact h7 j y' hj
     ·rw[if_neg Ld]at hk
      obtain⟨q1,q2⟩:=h5 k z hk
      refine⟨q1,fun j y' hj=> ?_⟩
      have Lh:j<s:=by have:=κ hj;omega
      rw[qL bx,if_neg]
      ·exact q2 j y' hj
      ·intro hh
       have:u.cells.toList.length≤s - o:=by omega
       rcases Nat.lt_or_ge k i with ω|fa
       ·have:k*s+s≤i*s:=by rw[←Nat.succ_mul];exact Nat.mul_le_mul_right _ ω
        omega
       ·have:i*s+s≤k*s:=by rw[←Nat.succ_mul];exact Nat.mul_le_mul_right _ (by omega)
        omega)
    exact⟨_,_,by simpa[Instr.storeAt,Instr.sureAddr]using run,aK,ev,j5 (hs.base b cb hg).1 _,h⟩
   have CM:∀{α:Type} {l:List α} {x0 x':α},l[i]?=some x0→∀k,(l.set i x')[k]?=if k=i then some x' else l[k]?:=by
    intro α l x0 x' eO k
    by_cases hk:k=i
    ·subst hk;rw[if_pos rfl,List.getElem?_set_self (κ eO)]
    ·rw[if_neg hk,List.getElem?_set_ne (Ne.symm hk)]
   cases l with
   |ts l=>
    simp only at h
    rw[ar]at h
    obtain⟨gh,h⟩:=h
    rw[Ξ]at h
    obtain⟨x0,eO,h⟩:=h
    split at h
    ·rename_i cs lS
     rw[ar]at h
     obtain⟨hc,h⟩:=h
     simp only[Bool.and_eq_true]at hc
     have c1:=Nat.eq_of_beq_eq_true hc.1.1
     have c2:=Nat.le_of_ble_eq_true hc.1.2
     have c3:=hc.2
     have Ss:=kE lS
     refine row (.t x0) (.t (setCells x0 o cs)) (.ts (l.set i (setCells x0 o cs))) gh (by simp[Sq.get,eO]) (by simp[Sq.length]) (fun k=> ?_) ?_ (by rw[Ss];simpa using c1) (by rw[T.dK];simpa using c2) (by rw[Ss,List.all_map];exact c3) h
     ·simp only[Sq.get]
      rw[CM eO k]
      split<;>rfl
     ·rw[T.dK,T.dK,Ae (by omega) c3,Ss,AY]
    ·rw[ar]at h
     obtain⟨hc,h⟩:=h
     simp only[Bool.and_eq_true]at hc
     have c1:=Nat.eq_of_beq_eq_true hc.1.1
     have c2:=Nat.le_of_ble_eq_true hc.1.2
     have V4:(l.map AV.t)[i]?=some (.t x0):=by simp[eO]
     refine row (.t x0) _ (.vs ((l.map .t).set i (kF (.t x0) o x.cells))) gh (by simp[Sq.get,eO]) (by simp[Sq.length]) (fun k=> ?_) (rW (by rw[T.dK];simp;omega) hc.2) c1 (by rw[T.dK];simpa using c2) hc.2 h
     ·simp only[Sq.get]
      rw[CM V4 k,List.getElem?_map]
   |vs l=>
    simp only at h
    rw[ar]at h
    obtain⟨gh,h⟩:=h
    rw[Ξ]at h
    obtain⟨x0,eO,h⟩:=h
    rw[ar]at h
    obtain⟨hc,h⟩:=h
    simp only[Bool.and_eq_true]at hc
    have c1:=Nat.eq_of_beq_eq_true hc.1.1
    have c2:=Nat.le_of_ble_eq_true hc.1.2
    exact row x0 _ (.vs (l.set i (kF x0 o x.cells))) gh eO (by simp[Sq.length]) (fun k=>by simp only[Sq.get];exact CM eO k) (rW (by omega) hc.2) c1 c2 hc.2 h
 ·exact h.elim
end
end Go.Proofs.YtcogcbplmkcojaaGreatDoor
namespace Go.Proofs.YtcogcbplmkcojaaGreatDoor
open Go.RowKit
set_option linter.unusedVariables false
set_option linter.unusedSimpArgs false
section
variable {P : Program} {w : World}
theorem F0{M:Nat→Prop}{v:Value}{x:T}(h:Dm v=some x):RT w M x v:=by
 unfold Dm at h
 split at h<;>first|(cases h;constructor)|cases h
theorem oB{M:Nat→Prop}:∀{vs:List Value} {l:List T},oC vs=some l→l.length=vs.length∧∀(i:Nat) x v,l[i]?=some x→vs[i]?=some v→RT w M x v
 |[],l,h=>by simp[oC]at h;subst h;simp
 |v::r,l,h=>by
  simp only[oC]at h
  split at h
  ·rename_i x l' hx hl
   cases h
   obtain⟨h1,h2⟩:=oB (M:=M) hl
   refine⟨by simp[h1],fun i y u hi hu=> ?_⟩
   cases i with
   |zero=>simp at hi hu;subst hi hu;exact F0 hx
   |succ i=>simp at hi hu;exact h2 i y u hi hu
  ·cases h
theorem Nu{c H}(v:Value):RA w c H (HG v) v:=by
 unfold HG
 split
 ·rename_i x hx
  cases v with
  |agg cs=>
   simp only[U0,Option.map_eq_some_iff]at hx
   obtain⟨l,hl,rfl⟩:=hx
   obtain⟨h1,h2⟩:=oB (w:=w) (M:=c.M H) hl
   refine .t _ _ (.agg l cs (by simpa using h1) (fun i y hi=> ?_) (fun i y u hi hu=>h2 i y u hi (by simpa using hu)))
   have ω:=κ hi
   have e:cs.toList[i]?=some (cs.toList[i]'(by omega)):=List.getElem?_eq_getElem _
   have vL:∀{vs:List Value} {l:List T},oC vs=some l→∀(i:Nat) y,l[i]?=some y→y.one=true:=by
    intro vs
    induction vs with
    |nil=>intro l h;simp[oC]at h;subst h;simp
    |cons v r ih=>
     intro l h
     simp only[oC]at h
     split at h
     ·rename_i x l' aC tj
      cases h
      intro i y hi
      cases i with
      |zero=>
       simp at hi;subst hi
       unfold Dm at aC
       split at aC<;>first|(cases aC;rfl)|cases aC
      |succ i=>simp at hi;exact ih tj i y hi
     ·cases h
   exact vL hl i y hi
  |_=>exact .t _ _ (F0 hx)
 ·exact .bq v
theorem jN{tab:bi}(hT:bl P tab){t:TypeId}{y:il}(hy:tab t=some y){zs:List T}(hz:y.zero=some zs):
 ∃z:Value,(zeroValue t).run P w= .ok z w∧oC z.cells.toList=some zs∧∃i,P.info? t=some i∧i.zero=some z∧i.size=y.size∧i.bytes=y.bytes:=by
 obtain⟨i,hi,hs,hb,jx⟩:=(hT t y hy).HU
 obtain⟨z,qp,Sp⟩:=jx zs hz
 exact⟨z,by simp[zeroValue,typeInfo,hi,qp],Sp,i,hi,qp,hs,hb⟩
theorem Bk{c H B}(hs:HS w c H B)(e:TypeId){x:AV}{v:Value}(hx:RA w c H x v)(h1:x.cells.all AV.one=true):
 RA (w.alloc (.cells v.cells e)) (c.new H.length w.heap.size) (H++[.box x.cells]) (.ptr H.length 0 0 0) (.pointer (some ⟨w.heap.size,0,none⟩))∧
 HS (w.alloc (.cells v.cells e)) (c.new H.length w.heap.size) (H++[.box x.cells]) B∧
 Ev w c H (w.alloc (.cells v.cells e)) (c.new H.length w.heap.size) (H++[.box x.cells])∧Below B w (w.alloc (.cells v.cells e)):=by
 obtain⟨cl,cr⟩:=hx.cells h1
 exact⟨.ptr _ _ _ _ _ _ (lN (w:=w) (c:=c) _).1 ⟨_,(lN (.box x.cells)).2,rfl⟩,QH hs e x.cells v.cells cl.symm cr,nG hs _ _,jG hs.hB _⟩
theorem Qe{c H B x v}{K:AV→AH→Prop}(hs:HS w c H B)(e:TypeId)(hx:RA w c H x v)(h1:x.cells.all AV.one=true)(k:K (.ptr H.length 0 0 0) (H++[.box x.cells])):
 jB P (Instr.box e v) w c H B K:=by
 obtain⟨r,h,ev,b⟩:=Bk hs e hx h1
 exact⟨_,_,_,_,_,by simp[Instr.box,newVar,newRow],r,h,ev,b,k⟩
theorem pn{c H}{z:Value}{zs:List T}(h:oC z.cells.toList=some zs)(h1:zs.all T.one=true):RA w c H (.agg (zs.map .t)) (.agg z.cells):=by
 obtain⟨k1,k2⟩:=oB (w:=w) (M:=c.M H) h
 refine .agg _ _ (by simpa using k1) (fun i x hi=> ?_) (fun i x v hi hv=> ?_)
 ·simp only[List.getElem?_map,Option.map_eq_some_iff]at hi
  obtain⟨y,hy,rfl⟩:=hi
  rw[List.all_eq_true]at h1
  exact h1 y (List.mem_of_getElem? hy)
 ·simp only[List.getElem?_map,Option.map_eq_some_iff]at hi
  obtain⟨y,hy,rfl⟩:=hi
  exact .t _ _ (k2 i y v hy (by simpa using hv))
theorem I8{tab:bi}(hT:bl P tab){t:TypeId}{y:il}(hy:tab t=some y){zs:List T}(hz:y.zero=some zs)(h1:zs.all T.one=true){c H B}{K:AV→AH→Prop}(hs:HS w c H B)
 (k:K (.ptr H.length 0 0 0) (H++[.box (zs.map .t)])) (yK:Value):jB P (Instr.alloc t true yK) w c H B K:=by
 obtain⟨z,r,hz,_⟩:=jN (w:=w) hT hy hz
 have ha:=pn (w:=w) (c:=c) (H:=H) hz h1
 have bZ:(AV.agg (zs.map .t)).cells.all AV.one=true:=by simp only[AV.cells,List.all_map];exact h1
 obtain⟨r1,h,ev,b⟩:=Bk hs t ha bZ
 refine⟨_,_,_,_,_,?_,r1,h,ev,b,k⟩
 simp[Instr.alloc,r,newVar,newRow]
 rfl
theorem BW{c:Cx}{H:AH}{z:Value}{zs:List T}{n:Nat}(hz:oC z.cells.toList=some zs)(h1:zs.all T.one=true)(hl:zs.length=n):z.cells.size=n∧dE w c H n (.ts [.agg zs]) z.cells:=by
 have ha:=pn (w:=w) (c:=c) (H:=H) hz h1
 have bZ:(AV.agg (zs.map .t)).cells.all AV.one=true:=by simp only[AV.cells,List.all_map];exact h1
 obtain⟨cl,cr⟩:=ha.cells bZ
 have bE:z.cells.size=n:=by
  have:(Value.agg z.cells).cells.size=z.cells.size:=rfl
  rw[←this,←cl]
  simp only[AV.cells,List.length_map,hl]
 refine⟨bE,?_⟩
 intro i x hi
 match i with
 |0=>
  obtain rfl:AV.t (.agg zs)=x:=by simpa[Sq.get]using hi
  refine⟨by simp[AV.cells,hl],fun j u hj=> ?_⟩
  have pP:(AV.agg (zs.map .t)).cells[j]?=some u:=hj
  have eQ:j<z.cells.size:=by
   have h2:=(List.getElem?_eq_some_iff.1 pP).1
   simp only[AV.cells,List.length_map,hl]at h2
   omega
  have hv:z.cells[j]?=some z.cells[j]:=Array.getElem?_eq_getElem eQ
  have:=cr j u _ pP hv
  exact⟨_,by rw[Nat.zero_mul,Nat.zero_add];exact hv,this⟩
 |i+1=>simp[Sq.get]at hi
theorem Cz{tab:bi}(hT:bl P tab){t:TypeId}{y:il}(hy:tab t=some y){zs:List T}(hz:y.zero=some zs)(h1:zs.all T.one=true)(hl:zs.length=y.size){c H B}{K:AV→AH→Prop}(hs:HS w c H B)
 (k:K (.ptr H.length 0 0 0) (H++[.arr t y.size false 0 (.ts [.agg zs])])) (yK:Value):jB P (Instr.alloc t true yK) w c H B K:=by
 obtain⟨z,r,hz,_⟩:=jN (w:=w) hT hy hz
 obtain⟨bE,hR⟩:=BW (w:=w) (c:=c) (H:=H) hz h1 hl
 refine⟨_,_,_,_,_,?_,.ptr _ _ _ _ _ _ (lN (w:=w) (c:=c) (.arr t y.size false 0 (.ts [.agg zs]))).1 ⟨Nat.le_refl _,fun _=>⟨_,(lN (.arr t y.size false 0 (.ts [.agg zs]))).2,by rw[Nat.zero_mul]⟩⟩,
  wL hs t y.size false 0 (.ts [.agg zs]) z.cells 1 (by omega) ⟨Nat.le_refl _,fun h=>by cases h⟩ (by decide) hR,nG hs _ _,jG hs.hB _,k⟩
 simp[Instr.alloc,r,newVar,newRow]
theorem I0{tab:bi}(hT:bl P tab){t:TypeId}{c H B x v}{K:AV→AH→Prop}(hs:HS w c H B)(h:Cr tab t x H K)(hx:RA w c H x v):jB P (Instr.range t v) w c H B K:=by
 unfold Cr at h
 rw[Ξ]at h
 obtain⟨y,hy,h⟩:=h
 have hd:=(hT t y hy).d
 split at h
 ·rename_i s he
  rw[he]at hd
  cases hx with|t _ _ hx=>
  cases hx with|str bs=>
  exact⟨_,_,w.alloc (.stringIter bs 0),_,_,run_range_string w t bs hd,.ptr _ _ _ _ _ _ (lN (w:=w) (c:=c) (.iter bs.data.toList 0)).1 ⟨_,(lN (.iter bs.data.toList 0)).2,rfl⟩,Nz hs bs 0,nG hs _ _,jG hs.hB _,h⟩
 ·exact h.elim
theorem Mw{c H B x v st}{K:AV→AH→Prop}(hs:HS w c H B)(h:GP x st H K)(hx:RA w c H x v)(ty:TypeId):jB P (Instr.next v st ty) w c H B K:=by
 unfold GP at h
 split at h
 ·rename_i b g i o
  cases hx with|ptr _ _ _ _ _ π hb hm hv=>
  rw[hb]at h
  cases π with
  |dead=>exact h.elim
  |box=>exact h.elim
  |arr=>exact h.elim
  |iter s p=>
   simp only at h
   rw[ar]at h
   obtain⟨hc,h⟩:=h
   simp only[Bool.and_eq_true]at hc
   obtain⟨rfl,ho⟩:=hc
   have ho:=Nat.eq_of_beq_eq_true ho
   subst ho
   obtain⟨cb,hg,rfl⟩:=hm
   obtain⟨bs,h1,rfl⟩:=hs.iter b cb s p hb hg
   split at h
   ·rename_i ch so
    rw[ar]at h
    obtain⟨ha,h⟩:=h
    have ha:ch.toNat<128:=by simpa[Nat.blt_eq]using ha
    have hp:p<bs.size:=κ so
    have Ti:bs[p]'hp=ch:=by
     rw[List.getElem?_eq_getElem hp]at so
     exact Option.some.inj so
    obtain⟨ev,aK,Mh⟩:=MU hs hb hg h1 rfl (p+1)
    refine⟨_,.tuple #[.bool true,.int .i64 p,.int .i32 ch.toNat],_,_,_,?_,?_,aK,ev,Mh,h⟩
    ·simp only[Instr.next,getObj,setObj,Sem.run_bind,Sem.run,h1,Result.andThen,hp,if_true,decode_ascii bs p hp (by rw[Ti];exact ha),Ti]
     simp[goInt,Sem.run,h1]
    ·refine .aq _ _ rfl (fun i x v hi hv=> ?_)
     match i,hi,hv with
     |0,hi,hv=>simp at hi hv;subst hi hv;exact .t _ _ (.bool _)
     |1,hi,hv=>simp at hi hv;subst hi hv;exact .t _ _ (.int _ _)
     |2,hi,hv=>simp at hi hv;subst hi hv;exact .t _ _ (.int _ _)
     |i+3,hi,hv=>simp at hi
   ·rename_i so
    have hp:¬p<bs.size:=fun hp=>by
     rw[List.getElem?_eq_getElem hp]at so
     cases so
    refine⟨_,.tuple #[.bool false],w,c,H,?_,?_,hs,Ev.refl _ _ _,Below.refl _ _,h⟩
    ·simp[Instr.next,getObj,Sem.run,h1,hp]
    ·refine .aq _ _ rfl (fun i x v hi hv=> ?_)
     match i,hi,hv with
     |0,hi,hv=>simp at hi hv;subst hi hv;exact .t _ _ (.bool _)
     |i+1,hi,hv=>simp at hi
 ·exact h.elim
theorem tp(o:Nat):∀(l:List (Value×Nat)) (cs:Array Value),(l.foldl (fun cs p=>cs.setIfInBounds (o+p.2) p.1) cs).size=cs.size
 |[],cs=>rfl
 |p::r,cs=>by simp[tp o r]
theorem uX(o:Nat):∀(vs:List Value) (n:Nat) (cs:Array Value) (i:Nat),o+n+vs.length≤cs.size→
 ((vs.zipIdx n).foldl (fun cs (p:Value×Nat)=>cs.setIfInBounds (o+p.2) p.1) cs)[i]?=if o+n≤i∧i<o+n+vs.length then vs[i - (o+n)]?else cs[i]?
 |[],n,cs,i,_=>by simp;intro h1 h2;omega
 |v::r,n,cs,i,h=>by
  simp only[List.zipIdx_cons,List.foldl_cons,List.length_cons]at h⊢
  rw[uX o r (n+1) _ i (by simp;omega)]
  by_cases h1:i=o+n
  ·subst h1
   rw[if_neg (by omega),if_pos (by omega),Array.getElem?_setIfInBounds_self_of_lt (by omega)]
   simp
  ·by_cases h2:o+(n+1)≤i∧i<o+(n+1)+r.length
   ·rw[if_pos h2,if_pos (by omega),show i - (o+n)=(i - (o+(n+1)))+1 by omega,List.getElem?_cons_succ]
   ·rw[if_neg h2,if_neg (by omega),Array.getElem?_setIfInBounds_ne (by omega)]
def tO(cells:Array Value)(off:Nat)(v:Value):Array Value:=v.cells.zipIdx.foldl (fun cs (c,j)=>cs.setIfInBounds (off+j) c) cells
theorem vp(cells:Array Value)(off:Nat)(v:Value):(tO cells off v).size=cells.size:=by
 unfold tO
 rw[←Array.foldl_toList]
 exact tp off _ cells
theorem xR(cells:Array Value)(off:Nat)(v:Value)(h:off+v.cells.size≤cells.size)(i:Nat):
 (tO cells off v)[i]?=if off≤i∧i<off+v.cells.size then v.cells[i - off]?else cells[i]?:=by
 unfold tO
 rw[←Array.foldl_toList]
 have:=uX off v.cells.toList 0 cells i (by simpa using h)
 simpa using this
theorem BK{place:Nat→Option (Nat×Nat)}{cells:Array Value}{k:Nat}{v:Value}{r:List (Nat×Value)}{off size:Nat}(hp:place k=some (off,size))(hs:v.cells.size=size)(hf:off+v.cells.size≤cells.size):
 Instr.fill place cells ((k,v)::r)=Instr.fill place (tO cells off v) r:=by
 have h2:¬off+v.cells.size>cells.size:=by omega
 simp[Instr.fill,hp,hs,tO]
 intro h;omega
theorem RA.put{c H}{cells:List AV}{arr:Array Value}(ha:RA w c H (.agg cells) (.agg arr)){x:AV}{v:Value}(hx:RA w c H x v)(h1:x.cells.all AV.one=true){off:Nat}(hf:off+x.cells.length≤cells.length):
 RA w c H (.agg (setAt cells off x.cells)) (.agg (tO arr off v)):=by
 obtain⟨cl,cr⟩:=hx.cells h1
 cases ha with
 |agg _ _ hl h2 hr=>
  refine .agg _ _ (by rw[kG,vp];exact hl) (fun i y hi=> ?_) (fun i y u hi hu=> ?_)
  ·rw[px _ _ _ _ hf]at hi
   split at hi
   ·obtain⟨u,hu⟩:=iI (a:=v.cells) (i:=i - off) (by have:=κ hi;omega)
    exact(cr _ y u hi hu).1
   ·exact h2 i y hi
  ·rw[px _ _ _ _ hf]at hi
   rw[xR _ _ _ (by omega)]at hu
   by_cases aL:off≤i∧i<off+x.cells.length
   ·rw[if_pos aL]at hi
    rw[if_pos (by omega)]at hu
    exact(cr _ y u hi hu).2.1
   ·rw[if_neg aL]at hi
    rw[if_neg (by omega)]at hu
    exact hr i y u hi hu
inductive kX(w:World)(c:Cx)(H:AH):List (Nat×AV)→List (Nat×Value)→Prop
 |nil:kX w c H [] []
 |cons (k x v r s) (h:RA w c H x v) (t:kX w c H r s):kX w c H ((k,x)::r) ((k,v)::s)
theorem Cy{c H}{place:Nat→Option (Nat×Nat)}{parts:List (Nat×AV)}{vs:List (Nat×Value)}(hp:kX w c H parts vs):∀{cells:List AV} {arr:Array Value} {K:AV→Prop},
 RA w c H (.agg cells) (.agg arr)→wC place cells parts K→∃x r,Instr.fill place arr vs=some r∧RA w c H x (.agg r)∧K x:=by
 induction hp with
 |nil=>intro cells arr K ha h;exact⟨_,arr,rfl,ha,h⟩
 |cons k x v r s hx ht ih=>
  intro cells arr K ha h
  simp only[wC]at h
  rw[Ξ]at h
  obtain⟨p,kM,h⟩:=h
  rw[ar]at h
  obtain⟨hc,h⟩:=h
  simp only[Bool.and_eq_true]at hc
  have c1:=Nat.eq_of_beq_eq_true hc.1.1
  have c2:=Nat.le_of_ble_eq_true hc.1.2
  obtain⟨cl,cr⟩:=hx.cells hc.2
  have mS:cells.length=arr.size:=by cases ha with|agg _ _ hl _ _=>exact hl
  obtain⟨y,q,h1,h2,h3⟩:=ih (ha.put hx hc.2 c2) h
  exact⟨y,q,by rw[BK (off:=p.1) (size:=p.2) kM (by omega) (by omega)];exact h1,h2,h3⟩
theorem Ah{tab:bi}(hT:bl P tab)(fs:List Field)(h:∀f∈fs,(tab f.type).isSome=true):
 (fs.mapM fun f=>(do pure (f.offset,←sizeOf f.type):Sem (Nat×Nat))).run P w= .ok (fs.map fun f=>(f.offset,((tab f.type).map (·.size)).getD 0)) w:=by
 induction fs with
 |nil=>simp
 |cons f r ih=>
  have W0:=ih (fun g hg=>h g (by simp[hg]))
  obtain⟨y,hy⟩:=Option.isSome_iff_exists.1 (h f (by simp))
  simp only[List.mapM_cons,Sem.run_bind,run_sizeOf hT hy,Result.andThen_ok,Sem.run_pure,W0,List.map_cons,hy]
  rfl
theorem I7{tab:bi}(hT:bl P tab){t:TypeId}{c H}{parts:List (Nat×AV)}{vs:Array (Nat×Value)}{K:AV→Prop}(hp:kX w c H parts vs.toList)(h:sS tab t parts K):
 ∃x val,(Instr.build t vs).run P w= .ok val w∧RA w c H x val∧K x:=by
 unfold sS at h
 rw[Ξ]at h
 obtain⟨y,hy,h⟩:=h
 rw[Ξ]at h
 obtain⟨zs,hz,h⟩:=h
 rw[ar]at h
 obtain⟨h1,h⟩:=h
 obtain⟨z,r,hz,_⟩:=jN (w:=w) hT hy hz
 have ha:=pn (w:=w) (c:=c) (H:=H) hz h1
 have hd:=(hT t y hy).d
 split at h
 ·rename_i fs Lk
  rw[Lk]at hd
  rw[ar]at h
  obtain⟨bZ,h⟩:=h
  rw[List.all_eq_true]at bZ
  have hm:=Ah (w:=w) hT fs.toList bZ
  have SE:(fun k=>fs[k]?.bind fun f=>(tab f.type).map fun z=>(f.offset,z.size))=fun(k:Nat)=>(fs.toList.map fun f=>(f.offset,((tab f.type).map (·.size)).getD 0)).toArray[k]?:=by
   funext k
   simp only[List.getElem?_toArray,List.getElem?_map,Array.getElem?_toList]
   cases hk:fs[k]?with
   |none=>rfl
   |some f=>
    obtain⟨q,hq⟩:=Option.isSome_iff_exists.1 (bZ f (by rw[Array.mem_toList_iff];exact Array.mem_of_getElem? hk))
    simp[hq]
  obtain⟨x,q,e1,e2,k⟩:=Cy hp ha h
  refine⟨x,.agg q,?_,e2,k⟩
  rw[SE]at e1
  have K_:(fs.mapM fun f=>(do pure (f.offset,←sizeOf f.type):Sem (Nat×Nat))).run P w= .ok (fs.toList.map fun f=>(f.offset,((tab f.type).map (·.size)).getD 0)).toArray w:=by
   rw[Array.mapM_eq_mapM_toList]
   simp only[Sem.run_map,hm,Result.andThen_ok]
  simp only[Instr.build,Sem.run_bind,r,Result.andThen_ok,run_underlying hd,K_]
  rw[e1]
  rfl
 ·rename_i n e XW
  rw[XW]at hd
  rw[Ξ]at h
  obtain⟨q,hq,h⟩:=h
  obtain⟨x,u,e1,e2,k⟩:=Cy hp ha h
  refine⟨x,.agg u,?_,e2,k⟩
  simp only[Instr.build,Sem.run_bind,r,Result.andThen_ok,run_underlying hd,run_sizeOf hT hq]
  rw[e1]
  rfl
 ·exact h.elim
end
end Go.Proofs.YtcogcbplmkcojaaGreatDoor
namespace Go.Proofs.YtcogcbplmkcojaaGreatDoor
open Go.RowKit
set_option linter.unusedVariables false
set_option linter.unusedSimpArgs false
section
variable {P : Program} {w : World}
theorem nd{s:Nat}{cs:List T}(hl:cs.length=s)(h1:cs.all T.one=true)(hs:1≤s):(ep s cs).cells=cs:=by
 unfold ep
 split
 ·rename_i c
  simp at h1
  exact T.iZ h1
 ·rfl
theorem qy{w:World}{M:Nat→Prop}{s:Nat}{l:List T}{v:Value}(h:RT w M (.θ s l) v):(l=[]∧v= .slice none 0 0)∨RT w M (.vec s l) v:=by
 cases h with
 |km=>exact .inl ⟨rfl,rfl⟩
 |θ _ _ _ h=>exact .inr h
theorem RA.zw{c H x v}(h:RA w c H x v)(hj:x≠.bq)(ht:∀l,x≠.aq l):x.cells.length=v.cells.toList.length∧
 ∀(i:Nat) y u,x.cells[i]?=some y→v.cells.toList[i]?=some u→RA w c H y u:=by
 have single:∀{x:AV} {v:Value},RA w c H x v→x.cells=[x]→v.cells= #[v]→x.cells.length=v.cells.toList.length∧
  ∀(i:Nat) y u,x.cells[i]?=some y→v.cells.toList[i]?=some u→RA w c H y u:=by
  intro x v h hx hv
  rw[hx,hv]
  refine⟨rfl,fun i y u hi hu=> ?_⟩
  cases i with
  |zero=>simp at hi hu;subst hi hu;exact h
  |succ i=>simp at hi
 cases h with
 |agg xs us hl _ pN=>exact⟨hl,fun i y u hi hu=>pN i y u hi (by rw[←Array.getElem?_toList];exact hu)⟩
 |t x v hx=>
  cases hx with
  |agg xs us hl _ pN=>
   refine⟨by simp only[AV.cells,List.length_map];exact hl,fun i y u hi hu=> ?_⟩
   simp only[AV.cells,List.getElem?_map,Option.map_eq_some_iff]at hi
   obtain⟨z,hz,rfl⟩:=hi
   exact .t _ _ (pN i z u hz (by rw[←Array.getElem?_toList];exact hu))
  |bool=>exact single (.t _ _ (.bool _)) rfl rfl
  |int=>exact single (.t _ _ (.int _ _)) rfl rfl
  |str=>exact single (.t _ _ (.str _)) rfl rfl
  |dj=>exact single (.t _ _ .dj) rfl rfl
  |af=>exact single (.t _ _ .af) rfl rfl
  |mz=>exact single (.t _ _ .mz) rfl rfl
  |my=>exact single (.t _ _ .my) rfl rfl
  |bg cells b off vals h1 h2 h3=>exact single (.t _ _ (.bg cells b off vals h1 h2 h3)) rfl rfl
  |vec s l b off cap sp vals h1 h2 h6 h3 h4 h5=>exact single (.t _ _ (.vec s l b off cap sp vals h1 h2 h6 h3 h4 h5)) rfl rfl
  |fn f a b x y h1 h2 h3 h4=>exact single (.t _ _ (.fn f a b x y h1 h2 h3 h4)) rfl rfl
  |cG t x v h1=>exact single (.t _ _ (.cG t x v h1)) rfl rfl
  |km s=>exact single (.t _ _ (.km s)) rfl rfl
  |θ s l v h=>
   have h':=RT.θ s l v h
   cases h with|vec=>exact single (.t _ _ h') rfl rfl
 |bq v=>exact(hj rfl).elim
 |aq cs=>exact(ht cs rfl).elim
 |fn f a b x y h1 h2 h3 h4=>exact single (.fn f a b x y h1 h2 h3 h4) rfl rfl
 |cG t x v h1=>exact single (.cG t x v h1) rfl rfl
 |ptr b g i o v π hb hm hv=>obtain⟨a,rfl⟩:=hv;exact single (.ptr b g i o _ π hb hm) rfl rfl
 |sl b g i m v π hb hm hv=>obtain⟨a,p,q,rfl⟩:=hv;exact single (.sl b g i m _ π hb hm) rfl rfl
 |dx ad=>exact single (.dx ad) rfl rfl
theorem kX.ev{c H c' H' w'}(ev:Ev w c H w' c' H'){p:List (Nat×AV)}{v:List (Nat×Value)}(h:kX w c H p v):kX w' c' H' p v:=by
 induction h with
 |nil=>exact .nil
 |cons k x v r s h t ih=>exact .cons k x v r s (h.ev ev) ih
theorem AV.iZ{x:AV}(h:x.one=true):x.cells=[x]:=by
 cases x with
 |t x=>rw[T.dK,T.iZ h];rfl
 |agg=>simp[AV.one]at h
 |aq=>simp[AV.one]at h
 |bq=>simp[AV.one]at h
 |own=>simp[AV.one]at h
 |_=>rfl
theorem B_{s:Nat}{cs:List AV}(h1:cs.all AV.one=true):(wN s cs).cells=cs:=by
 unfold wN
 split
 ·rename_i c
  simp at h1
  exact AV.iZ h1
 ·split
  ·rename_i l hl
   rw[kE hl]
   rfl
  ·rfl
theorem AZ(l:List AV)(i:Nat):(oT l).get i=l[i]?:=by
 unfold oT
 split
 ·rename_i l' hl
  rw[kE hl]
  simp[Sq.get]
 ·rfl
theorem ve(l:List AV):(oT l).length=l.length:=by
 unfold oT
 split
 ·rename_i l' hl
  rw[kE hl]
  simp[Sq.length]
 ·rfl
theorem yg{s:Nat}(dC:1≤s):∀{parts:List (Nat×AV)} {vs:List (Nat×Value)} {c H n} {arr:Array Value} {l:List AV},kX w c H parts vs→ph s n parts=some l→
 (n+l.length)*s≤arr.size→∃q,Instr.fill (fun i=>some (i*s,s)) arr vs=some q∧q.size=arr.size∧(∀j,j<n*s→q[j]?=arr[j]?)∧
  ∀(i:Nat) x,l[i]?=some x→x.cells.length=s∧∀(j:Nat) y,x.cells[j]?=some y→∃v,q[(n+i)*s+j]?=some v∧y.one=true∧RA w c H y v∧v.oneCell'=true
 |[],vs,c,H,n,arr,l,hp,h,bx=>by
  simp[ph]at h
  subst h
  cases hp
  exact⟨arr,rfl,rfl,fun _ _=>rfl,by simp⟩
 |(k,x)::r,vs,c,H,n,arr,l,hp,h,bx=>by
  cases hp with|cons _ _ v _ us hx ht=>
  simp only[ph]at h
  split at h
  ·rename_i l' hk hr
   cases h
   simp only[Bool.and_eq_true]at hk
   have dN:=Nat.eq_of_beq_eq_true hk.1.1
   subst dN
   have c1:=Nat.eq_of_beq_eq_true hk.1.2
   obtain⟨cl,cr⟩:=hx.cells hk.2
   have bE:v.cells.size=s:=by omega
   have H_:k*s+v.cells.size≤arr.size:=by
    have:(k+1)*s≤(k+(wN s x.cells::l').length)*s:=Nat.mul_le_mul_right _ (by simp)
    rw[Nat.succ_mul]at this;omega
   have za:(k+1+l'.length)*s≤(tO arr (k*s) v).size:=by
    rw[vp,show k+1+l'.length=k+(l'.length+1) by omega]
    simpa using bx
   obtain⟨q,q1,q2,q3,q4⟩:=yg dC (arr:=tO arr (k*s) v) ht hr za
   refine⟨q,by rw[BK (off:=k*s) (size:=s) rfl bE H_];exact q1,by rw[q2,vp],fun j hj=> ?_,fun i y hi=> ?_⟩
   ·rw[q3 j (by rw[Nat.succ_mul];omega),xR _ _ _ H_,if_neg (by omega)]
   ·cases i with
    |zero=>
     simp at hi
     subst hi
     rw[B_ hk.2]
     refine⟨c1,fun j z hj=> ?_⟩
     have Lh:=κ hj
     obtain⟨u,hu⟩:=iI (a:=v.cells) (i:=j) (by omega)
     refine⟨u,?_,cr j z u hj hu⟩
     rw[Nat.add_zero,q3 (k*s+j) (by rw[Nat.succ_mul];omega),xR _ _ _ H_,if_pos (by omega),show k*s+j - k*s=j by omega]
     exact hu
    |succ i=>
     simp at hi
     have:=q4 i y hi
     rw[show k+1+i=k+(i+1) by omega]at this
     exact this
  ·cases h
theorem Du(z:Array Value)(n k:Nat)(hk:k<n)(hz:0<z.size):(madeCells z n)[k]?=z[k%z.size]?:=by
 have:k%z.size<z.size:=Nat.mod_lt _ hz
 simp[madeCells,hk,this]
theorem sV{tab:bi}(hT:bl P tab){t:TypeId}{len:Nat}{e:TypeId}{z:il}{zs:List T}(hd:P.underlying t=some (.slice e))(hz:tab e=some z)(qo:z.zero=some zs)(c3:len*z.size≤16777216)(vs:Array (Nat×Value)):
 ∃wo:Array Value,wo.size=len*z.size∧∀q,Instr.fill (fun i=>some (i*z.size,z.size)) wo vs.toList=some q→
  (Instr.buildSlice t len vs).run P w= .ok (.slice (some ⟨w.heap.size,0,none⟩) len len) (w.alloc (.cells q e)):=by
 obtain⟨zv,r,jx,_⟩:=jN (w:=w) hT hz qo
 have Pj:¬len*z.size>16777216:=by omega
 have bE:=run_sizeOf hT hz w
 by_cases hn:len*z.size=0
 ·refine⟨(Array.range (len*z.size)).map ((#[]:Array Value)[·%(#[]:Array Value).size]!),by simp,fun q hq=> ?_⟩
  simp only[Instr.buildSlice,Sem.run_bind,run_underlying hd,Result.andThen_ok,bE,show(2:Nat)^24=16777216 by decide,if_neg Pj,Sem.run_pure,if_pos hn,Sem.run_ite,pure_bind]
  rw[hq]
  simp[newRow]
 ·refine⟨(Array.range (len*z.size)).map (zv.cells[·%zv.cells.size]!),by simp,fun q hq=> ?_⟩
  simp only[Instr.buildSlice,Sem.run_bind,run_underlying hd,Result.andThen_ok,bE,show(2:Nat)^24=16777216 by decide,if_neg Pj,Sem.run_pure,if_neg hn,Sem.run_ite,r,pure_bind]
  rw[hq]
  simp[newRow]
theorem zW{tab:bi}(hT:bl P tab){t:TypeId}{len:Nat}{c H B}{parts:List (Nat×AV)}{vs:Array (Nat×Value)}{K:AV→AH→Prop}(hs:HS w c H B)(hp:kX w c H parts vs.toList)
 (h:oS tab t len parts H K):jB P (Instr.buildSlice t len vs) w c H B K:=by
 unfold oS at h
 rw[Ξ]at h
 obtain⟨y,hy,h⟩:=h
 have hd:=(hT t y hy).d
 split at h
 ·rename_i e he
  rw[he]at hd
  rw[Ξ]at h
  obtain⟨z,hz,h⟩:=h
  rw[Ξ]at h
  obtain⟨l,vV,h⟩:=h
  rw[ar]at h
  obtain⟨hc,h⟩:=h
  simp only[Bool.and_eq_true]at hc
  have c1:=Nat.eq_of_beq_eq_true hc.1.1.1
  have c2:=Nat.le_of_ble_eq_true hc.1.1.2
  have c3:=Nat.le_of_ble_eq_true hc.1.2
  obtain⟨zs,qo⟩:=Option.isSome_iff_exists.1 hc.2
  obtain⟨wo,vX,gC⟩:=sV (P:=P) (w:=w) hT hd hz qo c3 vs
  obtain⟨q,q1,q2,q3,q4⟩:=yg c2 (arr:=wo) hp vV (by rw[vX,c1,Nat.zero_add];exact Nat.le_refl _)
  have N6:len≤maxLen:=by
   have:len*1≤len*z.size:=Nat.mul_le_mul_left _ c2
   simp[maxLen];omega
  have uN:=ve l
  have fp:=wL hs e z.size false 0 (oT l) q len (by rw[q2,vX]) (by omega) N6 (fun i x hi=>by rw[AZ]at hi;have:=q4 i x hi;rw[Nat.zero_add]at this;exact this)
  have LO:=nG hs (.cells q e) (.arr e z.size false 0 (oT l))
  refine⟨_,_,_,_,_,gC q q1,?_,fp,LO,jG hs.hB _,h⟩
  refine .sl _ _ _ _ _ _ (lN (w:=w) (c:=c) _).1 ⟨Nat.le_refl _,fun _=>⟨by omega,.inr <| .inr ⟨by simp,w.heap.size,len,0,(lN (.arr e z.size false 0 (oT l))).2,rfl,?_,Nat.le_refl _,by omega,.inr (by simp),fun _=>rfl⟩⟩⟩
  rw[jY,q2,vX,Nat.zero_add]
 ·exact h.elim
theorem B3{tab:bi}(hT:bl P tab){t:TypeId}{c H B a b u v}{K:AV→AH→Prop}(hs:HS w c H B)(ha:RA w c H a u)(hb:RA w c H b v)
 (h:qx tab t a b H K):jB P (Instr.makeSlice t u v) w c H B K:=by
 unfold qx at h
 rw[Ξ]at h
 obtain⟨y,hy,h⟩:=h
 have hd:=(hT t y hy).d
 split at h
 ·rename_i e k1 n k2 cp he
  rw[he]at hd
  obtain rfl:=ha.int
  obtain rfl:=hb.int
  rw[Ξ]at h
  obtain⟨z,hz,h⟩:=h
  rw[Ξ]at h
  obtain⟨zs,qo,h⟩:=h
  rw[ar]at h
  obtain⟨hc,h⟩:=h
  simp only[Bool.and_eq_true,decide_eq_true_eq]at hc
  obtain⟨⟨⟨⟨⟨⟨h0,SM⟩,oa⟩,ti⟩,dC⟩,nl⟩,qp⟩:=hc
  have dC:=Nat.le_of_ble_eq_true dC
  have nl:=Nat.eq_of_beq_eq_true nl
  obtain⟨zv,r,jx,i,hi,D4,pQ,nx⟩:=jN (w:=w) hT hz qo
  obtain⟨IW,IV⟩:=oB (w:=w) (M:=c.M H) jx
  have run:=run_make (P:=P) w t e i zv hd hi D4 k1 k2 n cp h0 SM (by rw[nx,Int.mul_comm];omega) (by omega)
  rw[pQ]at run
  have vH:zv.cells.size=z.size:=by simpa[nl]using IW.symm
  have vV:=nd nl qp dC
  have fin:∀(g m:Nat),n.toNat≤m→m≤cp.toNat→(g%2=1→m=cp.toNat)→K (.sl H.length g 0 n.toNat) (H++[.arr e z.size false g (.ts (List.replicate m (ep z.size zs)))])→jB P (Instr.makeSlice t (.int k1 n) (.int k2 cp)) w c H B K:=by
   intro g m sj ku Xv h
   have fp:=wL hs e z.size false g (.ts (List.replicate m (ep z.size zs))) (madeCells zv.cells (cp.toNat*z.size)) cp.toNat (by rw[size_madeCells]) (by simp only[Sq.length,List.length_replicate];exact⟨ku,Xv⟩) (by simp[maxLen];omega)
    (dE.ts.2 fun k x hk=>by
     have BD:=κ hk
     simp at BD
     have:x=ep z.size zs:=by simp[BD]at hk;exact hk.symm
     subst this
     rw[vV]
     refine⟨nl,fun j y' hj=> ?_⟩
     have eQ:=κ hj
     have ω:k*z.size+j<cp.toNat*z.size:=by
      have:(k+1)*z.size≤cp.toNat*z.size:=Nat.mul_le_mul_right _ (by omega)
      rw[Nat.succ_mul]at this;omega
     obtain⟨q,hq⟩:=iI (a:=zv.cells) (i:=j) (by omega)
     have tg:y'.one=true:=by rw[List.all_eq_true]at qp;exact qp y' (List.mem_of_getElem? hj)
     have rt:=IV j y' q hj (by simpa using hq)
     refine⟨q,?_,tg,rt,(rt.kf tg).1⟩
     rw[Du _ _ _ ω (by omega),vH,Nat.mul_comm k,Nat.mul_add_mod,Nat.mod_eq_of_lt (by omega)]
     exact hq)
   have LO:=nG hs (.cells (madeCells zv.cells (cp.toNat*z.size)) e) (.arr e z.size false g (.ts (List.replicate m (ep z.size zs))))
   refine⟨_,_,_,_,_,run,?_,fp,LO,jG hs.hB _,h⟩
   refine .sl _ _ _ _ _ _ (lN (w:=w) (c:=c) _).1 ⟨Nat.le_refl _,fun _=>⟨by simp[Sq.length];omega,.inr <| .inr ⟨by simp,w.heap.size,cp.toNat,0,(lN (.arr e z.size false g (.ts (List.replicate m (ep z.size zs))))).2,rfl,?_,by omega,by simp[maxLen];omega,.inr (by simp),fun _=>rfl⟩⟩⟩
   rw[jY,size_madeCells,Nat.zero_add]
  rw[lT]at h
  rcases h with⟨_,h⟩|⟨_,h⟩
  ·exact fin 1 cp.toNat (by omega) (Nat.le_refl _) (fun _=>rfl) h
  ·exact fin 0 n.toNat (Nat.le_refl _) (by omega) (by omega) h
 ·exact h.elim
theorem FD{bs:List UInt8}{i:Nat}{x:T}(h:(bs.map fun b=>T.int .u8 (b.toNat:Int))[i]?=some x):∃b,bs[i]?=some b∧x= .int .u8 (b.toNat:Int):=by
 simp only[List.getElem?_map,Option.map_eq_some_iff]at h
 obtain⟨b,hb,rfl⟩:=h
 exact⟨b,hb,rfl⟩
theorem qa(bs:List UInt8):(strOfNums (bs.map fun b=>(b.toNat:Int))).data.toList=bs:=by
 rw[strOfNums_data,List.map_map]
 have:((fun n:Int=>UInt8.ofNat n.toNat)∘fun b:UInt8=>(b.toNat:Int))=id:=by funext b;simp
 rw[this,List.map_id]
theorem E_{tab:bi}(hT:bl P tab){src dst:TypeId}{c H B x v}{K:AV→Prop}(hs:HS w c H B)(h:jH tab src dst x H K)(hx:RA w c H x v):
 ∃y val,(convert src dst v).run P w= .ok val w∧RA w c H y val∧K y:=by
 unfold jH at h
 rw[Ξ]at h
 obtain⟨y,hy,h⟩:=h
 rw[Ξ]at h
 obtain⟨z,hz,h⟩:=h
 have hd:=(hT dst y hy).d
 have nq:=(hT src z hz).d
 split at h
 ·rename_i k k' n he
  rw[he]at hd
  obtain rfl:=hx.int
  exact⟨_,_,by simp[convert,run_underlying nq,run_underlying hd,Conv.intToInt],.t _ _ (.int _ _),qT.1 h⟩
 ·rename_i s he
  rw[he]at hd
  obtain⟨bs,rfl,rfl⟩:=hx.str
  refine⟨_,.string bs,?_,.t _ _ (.str bs),h⟩
  simp only[convert,Sem.run_bind,run_underlying nq,run_underlying hd,Result.andThen_ok]
  cases z.d<;>rfl
 ·rename_i he
  rw[he]at hd
  cases hx with|t _ _ hx=>
  cases hx
  split at h
  ·rename_i e gn
   rw[gn]at nq
   rw[Ξ]at h
   obtain⟨q,hq,h⟩:=h
   split at h
   ·rename_i xp
    have qs:=(hT e q hq).d
    rw[xp]at qs
    exact⟨_,.string ByteArray.empty,run_convert_bytes_nil w src e nq qs 0 0 dst hd,.t _ _ (.str ByteArray.empty),h⟩
   ·exact h.elim
  ·exact h.elim
 ·rename_i s l he
  rw[he]at hd
  split at h
  ·rename_i e gn
   rw[gn]at nq
   rw[Ξ]at h
   obtain⟨q,hq,h⟩:=h
   split at h
   ·rename_i xp
    have qs:=(hT e q hq).d
    rw[xp]at qs
    rw[ar]at h
    obtain⟨dC,bs,rfl,h⟩:=h
    have dC:=Nat.eq_of_beq_eq_true dC
    subst dC
    cases hx with|t _ _ hx=>cases hx with|vec _ _ b off cap sp vals hM eu jh lD hc hr=>
    by_cases xv:bs=[]
    ·subst xv
     refine⟨_,.string ByteArray.empty,?_,.t _ _ (.str ByteArray.empty),h⟩
     rw[run_convert_bytes_string w src dst e _ _ _ nq qs hd]
     have hl:=run_loadCells_list (P:=P) w ⟨b,off,sp⟩ [] (fun j v hj=>by simp at hj)
     have hl:(loadCells ⟨b,off,sp⟩ 0).run P w= .ok #[] w:=hl
     simp[Conv.bytesToString,hl]
    obtain rfl:=jh (fun e=>xv (by simpa using e))
    have run:=run_convert_bytes_arg (P:=P) w src e nq qs b off (bs.map fun b=>T.int .u8 (b.toNat:Int)).length cap (bs.map fun b=>(b.toNat:Int)) (by simp) (fun i hi=>by
     simp at hi
     have zd:(bs.map fun b=>T.int .u8 (b.toNat:Int))[i]?=some (.int .u8 (bs[i].toNat:Int)):=by simp[hi]
     have h1:=(hc i _ 0 _ zd rfl).1
     rw[Nat.mul_one,Nat.add_zero]at h1
     rw[h1]
     have hv:vals i 0= .int .u8 (bs[i].toNat:Int):=by
      have:=hr i _ 0 _ zd rfl
      generalize vals i 0=q at this
      cases this;rfl
     rw[hv];simp[hi]) dst hd
    refine⟨_,_,run,.t _ _ ?_,h⟩
    have e0:=qa bs
    have:=RT.str (w:=w) (M:=c.M H) (strOfNums (bs.map fun b=>(b.toNat:Int)))
    rw[e0]at this
    exact this
   ·exact h.elim
  ·exact h.elim
 ·rename_i s l he
  rw[he]at hd
  split at h
  ·rename_i e gn
   rw[gn]at nq
   rw[Ξ]at h
   obtain⟨q,hq,h⟩:=h
   split at h
   ·rename_i xp
    have qs:=(hT e q hq).d
    rw[xp]at qs
    rw[ar]at h
    obtain⟨dC,bs,Od,h⟩:=h
    have dC:=Nat.eq_of_beq_eq_true dC
    subst dC
    cases hx with|t _ _ hx=>
    rcases qy hx with⟨gX,rfl⟩|hx
    ·obtain rfl:bs=[]:=by rw[gX]at Od;simpa using Od.symm
     exact⟨_,.string ByteArray.empty,run_convert_bytes_nil w src e nq qs 0 0 dst hd,.t _ _ (.str ByteArray.empty),h⟩
    subst Od
    cases hx with|vec _ _ b off cap sp vals hM eu jh lD hc hr=>
    by_cases xv:bs=[]
    ·subst xv
     refine⟨_,.string ByteArray.empty,?_,.t _ _ (.str ByteArray.empty),h⟩
     rw[run_convert_bytes_string w src dst e _ _ _ nq qs hd]
     have hl:=run_loadCells_list (P:=P) w ⟨b,off,sp⟩ [] (fun j v hj=>by simp at hj)
     have hl:(loadCells ⟨b,off,sp⟩ 0).run P w= .ok #[] w:=hl
     simp[Conv.bytesToString,hl]
    obtain rfl:=jh (fun e=>xv (by simpa using e))
    have run:=run_convert_bytes_arg (P:=P) w src e nq qs b off (bs.map fun b=>T.int .u8 (b.toNat:Int)).length cap (bs.map fun b=>(b.toNat:Int)) (by simp) (fun i hi=>by
     simp at hi
     have zd:(bs.map fun b=>T.int .u8 (b.toNat:Int))[i]?=some (.int .u8 (bs[i].toNat:Int)):=by simp[hi]
     have h1:=(hc i _ 0 _ zd rfl).1
     rw[Nat.mul_one,Nat.add_zero]at h1
     rw[h1]
     have hv:vals i 0= .int .u8 (bs[i].toNat:Int):=by
      have:=hr i _ 0 _ zd rfl
      generalize vals i 0=q at this
      cases this;rfl
     rw[hv];simp[hi]) dst hd
    refine⟨_,_,run,.t _ _ ?_,h⟩
    have e0:=qa bs
    have:=RT.str (w:=w) (M:=c.M H) (strOfNums (bs.map fun b=>(b.toNat:Int)))
    rw[e0]at this
    exact this
   ·exact h.elim
  ·exact h.elim
 ·rename_i b g i n he
  rw[he]at hd
  split at h
  ·rename_i e gn
   rw[gn]at nq
   rw[Ξ]at h
   obtain⟨q,hq,h⟩:=h
   split at h
   ·rename_i xp
    have qs:=(hT e q hq).d
    rw[xp]at qs
    cases hx with|sl _ _ _ _ _ π hb hm hv=>
    rw[hb]at h
    cases π with
    |dead=>exact h.elim
    |box=>exact h.elim
    |iter=>exact h.elim
    |arr e' s z' gen l=>
     cases l with
     |vs l=>exact h.elim
     |ts l=>
      simp only at h
      rw[ar]at h
      obtain⟨ig,bs,xv,h⟩:=h
      simp only[Bool.and_eq_true]at ig
      have tl:=Nat.eq_of_beq_eq_true ig.1
      have dC:=Nat.eq_of_beq_eq_true ig.2
      subst dC
      obtain⟨hlen,hm⟩:=hm.2 tl
      have hlen:i+n≤l.length:=hlen
      have uR:bs.length=n:=by have:=congrArg List.length xv;simp at this;omega
      rcases hm with⟨h1,h2,rfl⟩|⟨z1,h2,ad,rfl⟩|⟨au,cb,cap,off,hg,rfl,bE,eu,ti,nt,ns⟩
      ·have h2:l.length=0:=h2
       have:bs=[]:=List.eq_nil_of_length_eq_zero (by omega)
       subst this
       exact⟨_,.string ByteArray.empty,run_convert_bytes_nil w src e nq qs 0 0 dst hd,.t _ _ (.str ByteArray.empty),h⟩
      ·have h2:l.length=0:=h2
       have:bs=[]:=List.eq_nil_of_length_eq_zero (by omega)
       subst this
       refine⟨_,.string ByteArray.empty,?_,.t _ _ (.str ByteArray.empty),h⟩
       rw[run_convert_bytes_string w src dst e _ _ _ nq qs hd]
       have hl:=run_loadCells_list (P:=P) w ad [] (fun j v hj=>by simp at hj)
       have hl:(loadCells ad 0).run P w= .ok #[] w:=hl
       simp[Conv.bytesToString,hl]
      ·obtain⟨arr,mG,h1,h2,h3,h4,h5⟩:=hs.arr b cb e' _ z' gen _ hb hg
       have run:=run_convert_bytes_arg (P:=P) w src e nq qs cb off n cap (bs.map fun b=>(b.toNat:Int)) (by simpa using uR) (fun k hk=>by
        have Ld:k<bs.length:=by omega
        have zd:((l.drop i).take n)[k]?=some (.int .u8 (bs[k].toNat:Int)):=by rw[xv];simp[Ld]
        obtain⟨u,hu,_,rt,_⟩:=(dE.ts.1 h5 _ _ (bu zd).2).2 0 _ rfl
        have wQ:off=i*1:=nt.resolve_left (by omega)
        rw[kT h1,show off+k=(i+k)*1+0 by omega,hu]
        cases rt
        simp[Ld]) dst hd
       refine⟨_,_,run,.t _ _ ?_,h⟩
       have e0:=qa bs
       have:=RT.str (w:=w) (M:=c.M H) (strOfNums (bs.map fun b=>(b.toNat:Int)))
       rw[e0]at this
       exact this
   ·exact h.elim
  ·exact h.elim
 ·exact h.elim
theorem F2{c H x v n}(hx:RA w c H x v)(h:uf H x=some n):(∃s,v= .string s∧s.size=n∧yV x=true)∨(∃a m,v= .slice a n m∧yV x=false):=by
 unfold uf at h
 split at h
 ·cases h
  obtain⟨s,rfl,rfl⟩:=hx.str
  exact .inl ⟨s,rfl,rfl,rfl⟩
 ·cases h
  cases hx with|t _ _ hx=>cases hx with|vec=>exact .inr ⟨_,_,rfl,rfl⟩
 ·cases h
  cases hx with|t _ _ hx=>cases hx with
  |km=>exact .inr ⟨_,_,rfl,rfl⟩
  |θ _ _ _ hx=>cases hx with|vec=>exact .inr ⟨_,_,rfl,rfl⟩
 ·cases h
  cases hx with|t _ _ hx=>cases hx;exact .inr ⟨_,_,rfl,rfl⟩
 ·cases hx with|sl _ _ _ _ _ π hb hm hv=>
  rw[hb]at h
  cases π with
  |dead=>cases h
  |box=>cases h
  |iter=>cases h
  |arr e s z gen l=>
   simp only at h
   split at h
   ·rename_i hg
    cases h
    obtain⟨hlen,hm⟩:=hm.2 (Nat.eq_of_beq_eq_true hg)
    rcases hm with⟨h1,h2,rfl⟩|⟨z1,h2,ad,rfl⟩|⟨au,cb,cap,off,_,rfl,_⟩
    ·have:n=0:=by omega
     subst this
     exact .inr ⟨_,_,rfl,rfl⟩
    ·have:n=0:=by omega
     subst this
     exact .inr ⟨_,_,rfl,rfl⟩
    ·exact .inr ⟨_,_,rfl,rfl⟩
   ·cases h
 ·cases h
  cases hx;exact .inr ⟨_,_,rfl,rfl⟩
 ·cases h
theorem Qa{tab:bi}(hT:bl P tab){t:TypeId}{c H x v}{K:AV→Prop}(h:tA tab t H x K)(hx:RA w c H x v)(ty:TypeId):
 ∃y val,(Builtin.len_ #[t] ty #[v]).run P w= .ok val w∧RA w c H y val∧K y:=by
 unfold tA at h
 rw[Ξ]at h
 obtain⟨y,hy,h⟩:=h
 have hd:=(hT t y hy).d
 split at h
 ·rename_i n e he
  rw[he]at hd
  refine⟨_,.int .i64 n,?_,.t _ _ (.int _ _),h⟩
  simp only[Builtin.len_,Sem.run_bind]
  simp[run_underlying hd,goInt]
 ·rw[ar]at h
  obtain⟨hc,h⟩:=h
  rw[Ξ]at h
  obtain⟨n,hn,h⟩:=h
  simp only[Bool.and_eq_true]at hc
  rcases F2 hx hn with⟨s,rfl,rfl,hs⟩|⟨a,m,rfl,hs⟩
  ·have he:y.d= .string:=by
    cases j0:y.d<;>rw[j0]at hc<;>first|rfl|(simp[HL,DE,hs]at hc)
   rw[he]at hd
   exact⟨_,.int .i64 s.size,by simp[Builtin.len_,run_underlying hd,goInt],.t _ _ (.int _ _),h⟩
  ·obtain⟨e,he⟩:∃e,y.d= .slice e:=by
    cases j0:y.d<;>rw[j0]at hc<;>simp[HL,DE,hs]at hc
    exact⟨_,rfl⟩
   rw[he]at hd
   exact⟨_,.int .i64 n,by simp[Builtin.len_,run_underlying hd,goInt],.t _ _ (.int _ _),h⟩
theorem yn{c H x y u v}{mx:Bool}{K:AV→Prop}(h:mI mx x y K)(hx:RA w c H x u)(hy:RA w c H y v)(at_:Array TypeId)(ty:TypeId):
 ∃z val,(match mx with|true=>Builtin.max_ at_ ty #[u,v]|false=>Builtin.min_ at_ ty #[u,v]).run P w= .ok val w∧RA w c H z val∧K z:=by
 unfold mI at h
 split at h
 ·rename_i k a k' b
  obtain rfl:=hx.int
  obtain rfl:=hy.int
  rw[ar]at h
  obtain⟨hk,h⟩:=h
  cases mx
  ·refine⟨_,.int k (min a b),?_,.t _ _ (.int _ _),h⟩
   have:(if b<a then b else a)=min a b:=by omega
   simp[Builtin.min_,Builtin.min2,this]
  ·refine⟨_,.int k (max a b),?_,.t _ _ (.int _ _),h⟩
   have:(if a<b then b else a)=max a b:=by omega
   simp[Builtin.max_,Builtin.max2,this]
 ·exact h.elim
end
end Go.Proofs.YtcogcbplmkcojaaGreatDoor
namespace Go.Proofs.YtcogcbplmkcojaaGreatDoor
open Go.RowKit
set_option linter.unusedVariables false
set_option linter.unusedSimpArgs false
section
variable {P : Program} {w : World}
theorem sC{s:Nat}(hs:1≤s){R:AV→Value→Prop}{l:Sq}{b off:Nat}(vals:Nat→Nat→Value)(hl:∀(i:Nat) x,l.get i=some x→x.cells.length=s)
 (hc:∀(i:Nat) x (j:Nat) y,l.get i=some x→x.cells[j]?=some y→w.cell? ⟨b,off+i*s+j,none⟩=some (vals i j)∧y.one=true∧R y (vals i j)∧(vals i j).oneCell'=true):
 ∃news:List Value,news.length=l.length*s∧(∀(k:Nat) v,news[k]?=some v→w.cell? (Addr.add ⟨b,off,none⟩ k)=some v)∧(∀u∈news,u.oneCell'=true)∧
  ∀(i:Nat) x,l.get i=some x→∀(j:Nat) y,x.cells[j]?=some y→∃v,news[i*s+j]?=some v∧y.one=true∧R y v∧v.oneCell'=true:=by
 have at_:∀k,k<l.length*s→∃x y,l.get (k/s)=some x∧x.cells[k%s]?=some y:=by
  intro k hk
  have hd:k/s<l.length:=Nat.div_lt_of_lt_mul (by rw[Nat.mul_comm];exact hk)
  obtain⟨x,hx⟩:=Sq.LF hd
  have hm:k%s<x.cells.length:=by rw[hl _ x hx];exact Nat.mod_lt _ hs
  exact⟨x,x.cells[k%s],hx,List.getElem?_eq_getElem hm⟩
 refine⟨(List.range (l.length*s)).map fun k=>vals (k/s) (k%s),by simp,fun k v hk=> ?_,fun u hu=> ?_,fun i x hi j y hj=> ?_⟩
 ·simp only[List.getElem?_map,Option.map_eq_some_iff]at hk
  obtain⟨q,hq,rfl⟩:=hk
  have ω:=κ hq
  rw[List.length_range]at ω
  rw[List.getElem?_range ω]at hq
  cases hq
  obtain⟨x,y,e1,e2⟩:=at_ k ω
  rw[Addr.add_lit]
  have:=(hc _ x _ _ e1 e2).1
  rw[show off+k/s*s+k%s=off+k by have:=Nat.div_add_mod k s;rw[Nat.mul_comm];omega]at this
  exact this
 ·simp only[List.mem_map,List.mem_range]at hu
  obtain⟨k,hk,rfl⟩:=hu
  obtain⟨x,y,e1,e2⟩:=at_ k hk
  exact(hc _ x _ _ e1 e2).2.2.2
 ·have Lh:j<s:=by have:=κ hj;have:=hl i x hi;omega
  have qu:=Sq.vY hi
  have ω:i*s+j<l.length*s:=by
   have:(i+1)*s≤l.length*s:=Nat.mul_le_mul_right _ qu
   rw[Nat.succ_mul]at this;omega
  obtain⟨_,h1,h2⟩:=hc i x j y hi hj
  refine⟨vals i j,?_,h1,h2⟩
  have hd:(i*s+j)/s=i:=by rw[Nat.mul_comm,Nat.mul_add_div (by omega),Nat.div_eq_of_lt Lh];rfl
  have hm:(i*s+j)%s=j:=by rw[Nat.mul_comm,Nat.mul_add_mod,Nat.mod_eq_of_lt Lh]
  simp only[List.getElem?_map,List.getElem?_range ω,Option.map_some,hd,hm]
def qn(w:World)(c:Cx)(H:AH)(s:Nat)(l:Sq)(vs:List Value):Prop:=
 ∀(i:Nat) x,l.get i=some x→x.cells.length=s∧∀(j:Nat) y,x.cells[j]?=some y→∃v,vs[i*s+j]?=some v∧y.one=true∧RA w c H y v∧v.oneCell'=true
theorem qS{l:List T}{i:Nat}{x:AV}(h:(Sq.ts l).get i=some x):∃e,l[i]?=some e∧x= .t e:=by
 simp only[Sq.get,Option.map_eq_some_iff]at h
 obtain⟨e,h,rfl⟩:=h
 exact⟨e,h,rfl⟩
theorem CG{e:T}{j:Nat}{y:AV}(h:(AV.t e).cells[j]?=some y):∃c,e.cells[j]?=some c∧y= .t c:=by
 rw[T.dK]at h
 simp only[List.getElem?_map,Option.map_eq_some_iff]at h
 obtain⟨c,h,rfl⟩:=h
 exact⟨c,h,rfl⟩
theorem jf{w c H s}{l:Sq}{vs:List Value}(h:l.length=0):qn w c H s l vs:=fun i x hi=>by
 have:=Sq.vY hi;omega
theorem xC{c H B x v s}{news:Sq}(hs:HS w c H B)(hx:RA w c H x v)(dC:1≤s)(h:uE H s x=some news):
 ∃vs,Reads P w s news.length v vs∧qn w c H s news vs:=by
 unfold uE at h
 split at h
 ·rename_i l
  split at h
  ·rename_i aK
   cases h
   have aK:=Nat.eq_of_beq_eq_true aK
   subst aK
   obtain⟨bs,rfl,rfl⟩:=hx.str
   refine⟨_,by simp only[Sq.length];rw[List.length_map];exact JS w bs,fun i y hi=> ?_⟩
   obtain⟨y,eH,rfl⟩:=qS hi
   obtain⟨b,hb,rfl⟩:=FD eH
   refine⟨rfl,fun j z hj=> ?_⟩
   obtain⟨z,pP,rfl⟩:=CG hj
   have S3:j=0:=by have:=κ pP;simp[T.cells]at this;exact this
   subst S3
   simp[T.cells]at pP
   subst pP
   exact⟨.int .u8 (b.toNat:Int),by simp only[List.getElem?_map,Nat.mul_one,Nat.add_zero,hb,Option.map_some],rfl,.t _ _ (.int _ _),rfl⟩
  ·cases h
 ·rename_i s' l
  split at h
  ·rename_i aK
   cases h
   have aK:=Nat.eq_of_beq_eq_true aK
   subst aK
   cases hx with|t _ _ hx=>cases hx with|vec _ _ b off cap sp vals hM eu jh lD hc hr=>
   by_cases gX:l=[]
   ·subst gX
    exact⟨[],lL w _ _,jf rfl⟩
   obtain rfl:=jh gX
   have DS:∀(i:Nat) x,(Sq.ts l).get i=some x→x.cells.length=s:=fun i x hi=>by
    obtain⟨e,eH,rfl⟩:=qS hi
    rw[T.dK,List.length_map];exact lD i e eH
   obtain⟨vs,h1,h2,h3,h4⟩:=sC (w:=w) dC (R:=RA w c H) (l:= .ts l) vals DS (fun i x j y hi hj=>by
    obtain⟨e,eH,rfl⟩:=qS hi
    obtain⟨d,pP,rfl⟩:=CG hj
    obtain⟨k1,k2⟩:=hc i e j d eH pP
    have k3:=hr i e j d eH pP
    exact⟨k1,k2,.t _ _ k3,(k3.kf k2).1⟩)
   exact⟨vs,oX w h1 h2 h3,fun i x hi=>⟨DS i x hi,h4 i x hi⟩⟩
  ·cases h
 ·rename_i s' l
  split at h
  ·rename_i aK
   cases h
   have aK:=Nat.eq_of_beq_eq_true aK
   subst aK
   cases hx with|t _ _ hx=>
   rcases qy hx with⟨rfl,rfl⟩|hx
   ·exact⟨[],vo w,jf rfl⟩
   cases hx with|vec _ _ b off cap sp vals hM eu jh lD hc hr=>
   by_cases gX:l=[]
   ·subst gX
    exact⟨[],lL w _ _,jf rfl⟩
   obtain rfl:=jh gX
   have DS:∀(i:Nat) x,(Sq.ts l).get i=some x→x.cells.length=s:=fun i x hi=>by
    obtain⟨e,eH,rfl⟩:=qS hi
    rw[T.dK,List.length_map];exact lD i e eH
   obtain⟨vs,h1,h2,h3,h4⟩:=sC (w:=w) dC (R:=RA w c H) (l:= .ts l) vals DS (fun i x j y hi hj=>by
    obtain⟨e,eH,rfl⟩:=qS hi
    obtain⟨d,pP,rfl⟩:=CG hj
    obtain⟨k1,k2⟩:=hc i e j d eH pP
    have k3:=hr i e j d eH pP
    exact⟨k1,k2,.t _ _ k3,(k3.kf k2).1⟩)
   exact⟨vs,oX w h1 h2 h3,fun i x hi=>⟨DS i x hi,h4 i x hi⟩⟩
  ·cases h
 ·cases h
  cases hx with|t _ _ hx=>
  cases hx
  exact⟨[],vo w,jf rfl⟩
 ·rename_i b g i n
  cases hx with|sl _ _ _ _ _ π hb hm hv=>
  rw[hb]at h
  cases π with
  |dead=>cases h
  |box=>cases h
  |iter=>cases h
  |arr e s' z gen l=>
   simp only at h
   split at h
   ·rename_i ig
    cases h
    simp only[Bool.and_eq_true]at ig
    have aK:=Nat.eq_of_beq_eq_true ig.2
    subst aK
    obtain⟨hlen,hm⟩:=hm.2 (Nat.eq_of_beq_eq_true ig.1)
    have xr:(l.part i n).length=n:=by rw[Sq.ke];omega
    rcases hm with⟨h1,h2,rfl⟩|⟨z1,h2,ad,rfl⟩|⟨au,cb,cap,off,hg,rfl,bE,eu,ti,nt,ns⟩
    ·have nY:n=0:=by omega
     subst nY
     rw[xr]
     exact⟨[],vo w,jf xr⟩
    ·have nY:n=0:=by omega
     subst nY
     rw[xr]
     exact⟨[],lL w _ _,jf xr⟩
    ·obtain⟨arr,mG,h1,h2,h3,h4,h5⟩:=hs.arr b cb e _ z gen l hb hg
     have eX:∀(k:Nat) x,(l.part i n).get k=some x→l.get (i+k)=some x:=fun k x hk=>by
      rw[Sq.qX]at hk
      split at hk
      ·exact hk
      ·cases hk
     have lD:∀(k:Nat) x,(l.part i n).get k=some x→x.cells.length=s:=fun k x hk=>(h5 _ x (eX k x hk)).1
     by_cases nY:n=0
     ·subst nY
      rw[xr]
      exact⟨[],lL w _ _,jf xr⟩
     ·have wQ:off=i*s:=nt.resolve_left (by omega)
      obtain⟨vs,k1,k2,k3,k4⟩:=sC (w:=w) dC (R:=RA w c H) (l:=l.part i n) (b:=cb) (off:=off) (fun k j=>arr.getD ((i+k)*s+j) undef) lD (fun k x j y hk hj=>by
       obtain⟨u,hu,q1,q2,q3⟩:=(h5 _ x (eX k x hk)).2 j y hj
       refine⟨?_,q1,by simp only[Array.getD_eq_getD_getElem?,hu,Option.getD_some];exact q2,by simp only[Array.getD_eq_getD_getElem?,hu,Option.getD_some];exact q3⟩
       rw[kT h1,show off+k*s+j=(i+k)*s+j by rw[wQ,Nat.add_mul],hu]
       simp[Array.getD_eq_getD_getElem?,hu])
      rw[xr]
      rw[xr]at k1
      exact⟨vs,oX w k1 k2 k3,fun k x hk=>⟨lD k x hk,k4 k x hk⟩⟩
   ·cases h
 ·cases h
  cases hx
  exact⟨[],lL w _ _,jf rfl⟩
 ·cases h
theorem xB{c H}{s:Nat}{l1 l2:Sq}{v1 v2:List Value}(h1:qn w c H s l1 v1)(h2:qn w c H s l2 v2)(hl:v1.length=l1.length*s):qn w c H s (l1.kV l2) (v1++v2):=by
 intro i x hi
 rw[Sq.AM]at hi
 by_cases ω:i<l1.length
 ·rw[if_pos ω]at hi
  obtain⟨a,b⟩:=h1 i x hi
  refine⟨a,fun j y hj=> ?_⟩
  obtain⟨v,hv,r⟩:=b j y hj
  exact⟨v,by rw[List.getElem?_append_left (κ hv)];exact hv,r⟩
 ·rw[if_neg ω]at hi
  obtain⟨a,b⟩:=h2 _ x hi
  refine⟨a,fun j y hj=> ?_⟩
  obtain⟨v,hv,r⟩:=b j y hj
  refine⟨v,?_,r⟩
  have e:i*s+j=v1.length+((i - l1.length)*s+j):=by
   rw[hl,←Nat.add_assoc,←Nat.add_mul,show l1.length+(i - l1.length)=i by omega]
  rw[e,List.getElem?_append_right (by omega),show v1.length+((i - l1.length)*s+j) - v1.length=(i - l1.length)*s+j by omega]
  exact hv
theorem uy{c H}{s:Nat}{l:Sq}{vs:List Value}{arr:Array Value}(h:qn w c H s l vs)(ha:∀(k:Nat) v,vs[k]?=some v→arr[k]?=some v):dE w c H s l arr:=by
 intro i x hi
 obtain⟨a,b⟩:=h i x hi
 refine⟨a,fun j y hj=> ?_⟩
 obtain⟨v,hv,r⟩:=b j y hj
 exact⟨v,ha _ _ hv,r⟩
theorem LV{c H B}(hs:HS w c H B){b e s:Nat}{z:Bool}{g g':Nat}{l l':Sq}(gh:g≤g')(ny:g'=g∨g'%2=0)(hb:H[b]?=some (.arr e s z g l))(h0:l.length=0)(LD:l'.length=0):
 Ev w c H w c (H.set b (.arr e s z g' l'))∧HS w c (H.set b (.arr e s z g' l')) B:=by
 have ω:=κ hb
 have ev:Ev w c H w c (H.set b (.arr e s z g' l')):=by
  refine⟨rfl,Nat.le_refl _,fun i bk hi=> ?_,fun cb hm=> ?_,fun _ _ _=>rfl,fun _ _ _ _ h=>h⟩
  ·by_cases h:b=i
   ·subst h
    rw[hb]at hi;cases hi
    exact⟨.arr e s z g' l',by simp[ω],rfl,rfl,rfl,by omega,gh,fun _=>⟨by omega,fun _ h=>⟨h,rfl⟩⟩⟩
   ·refine⟨bk,by rw[List.getElem?_set_ne h];exact hi,?_⟩
    cases bk with
    |dead=>trivial
    |box cs=>exact⟨rfl,fun _ h=>h⟩
    |iter s p=>exact⟨rfl,fun _ h=>h⟩
    |arr=>exact⟨rfl,rfl,rfl,Nat.le_refl _,Nat.le_refl _,fun _=>⟨rfl,fun _ h=>⟨h,rfl⟩⟩⟩
  ·rcases hm with⟨i,bk,hi,hl,hg⟩
   ·by_cases h:b=i
    ·subst h
     exact .inl ⟨b,_,hb,rfl,hg⟩
    ·rw[List.getElem?_set_ne h]at hi
     exact .inl ⟨i,bk,hi,hl,hg⟩
 refine⟨ev,hs.az ev hs.inj hs.base (fun i cb h=>by have:=hs.kz i cb h;simpa using this) (fun i cb cs hi hg=> ?_) (fun i cb e1 s1 z1 g1 l1 hi hg=> ?_) (fun i cb s1 p1 hi hg=> ?_)⟩
 ·by_cases h:b=i
  ·subst h;simp[ω]at hi
  ·rw[List.getElem?_set_ne h]at hi;exact .inl ⟨hi,hg,rfl⟩
 ·by_cases h:b=i
  ·subst h
   simp[ω]at hi
   obtain⟨rfl,rfl,rfl,rfl,rfl⟩:=hi
   obtain⟨arr,cap,a1,a2,a3,a4,a5⟩:=hs.arr b cb e s z g l hb hg
   exact .inr ⟨arr,cap,a1,a2,by omega,a4,fun k x hk=>by have:=Sq.vY hk;omega⟩
  ·rw[List.getElem?_set_ne h]at hi;exact .inl ⟨hi,hg,rfl⟩
 ·by_cases h:b=i
  ·subst h;simp[ω]at hi
  ·rw[List.getElem?_set_ne h]at hi;exact .inl ⟨hi,hg,rfl⟩
theorem v7{n bytes:Nat}(h:cI n bytes=true):n≤9223372036854775807∧(n*bytes≤140737488355328∨(n+n/4+192)*bytes≤281474976710656):=by simpa[cI]using h
theorem Fv{lI vs:List Value}{z:Array Value}{n:Nat}:(∀(k:Nat) v,(lI++vs)[k]?=some v→(lI.toArray++vs.toArray++Builtin.zeroCells z n)[k]?=some v):=by
 intro k v hk
 have ω:=κ hk
 rw[Array.getElem?_append_left (by simpa using ω)]
 rw[List.append_toArray,List.getElem?_toArray]
 exact hk
theorem AL{tab:bi}{c H B}(hs:HS w c H B)(e s:Nat)(z:Bool){news:Sq}{vs:List Value}(hc:qn w c H s news vs)(cap:Nat)(arr:Array Value)(ha:∀(k:Nat) v,vs[k]?=some v→arr[k]?=some v)
 (bE:arr.size=cap*s) (eu:news.length≤cap) (hm:cap≤maxLen) (au:¬news.length=0):
 RA (w.drew.alloc (.cells arr e)) (c.new H.length w.heap.size) (H++[.arr e s z 0 news]) (.sl H.length 0 0 news.length) (.slice (some ⟨w.heap.size,0,none⟩) news.length cap)∧
 HS (w.drew.alloc (.cells arr e)) (c.new H.length w.heap.size) (H++[.arr e s z 0 news]) B∧
 Ev w c H (w.drew.alloc (.cells arr e)) (c.new H.length w.heap.size) (H++[.arr e s z 0 news])∧Below B w (w.drew.alloc (.cells arr e)):=by
 have nq:HS w.drew c H B:=hs.same rfl
 have TS:Ev w c H w.drew c H:=AE (w':=w.drew) (w:=w) rfl c H
 have XR:qn w.drew c H s news vs:=fun i x hi=>⟨(hc i x hi).1,fun j y hj=>by
  obtain⟨v,h1,h2,h3,h4⟩:=(hc i x hi).2 j y hj
  exact⟨v,h1,h2,h3.ev TS,h4⟩⟩
 have fp:=wL nq e s z 0 news arr cap bE ⟨eu,by omega⟩ hm (uy XR ha)
 have LO:=nG nq (.cells arr e) (.arr e s z 0 news)
 refine⟨?_,fp,TS.trans LO,zA.trans (jG nq.hB _)⟩
 refine .sl _ _ _ _ _ (.arr e s z 0 news) ij ⟨Nat.le_refl _,fun _=>⟨by omega,.inr <| .inr ⟨fun hh=>au hh.2,w.heap.size,cap,0,by simp[Cx.new],rfl,?_,eu,by omega,.inr (by simp),fun _=>rfl⟩⟩⟩
 have:=jY w.drew arr e
 rw[show w.drew.heap.size=w.heap.size from rfl]at this
 rw[this,bE,Nat.zero_add]
theorem vn{c H}{s i:Nat}{l news:Sq}{vs:List Value}{arr:Array Value}(hr:dE w c H s l arr)(hc:qn w c H s news vs)(kp:vs.length=news.length*s)(hi:i+news.length≤l.length)(bE:l.length*s≤arr.size):
 dE w c H s (l.put i news) (arr.toList.take (i*s)++vs++arr.toList.drop (i*s+vs.length)).toArray:=by
 have bx:i*s+vs.length≤arr.size:=by
  have:(i+news.length)*s≤l.length*s:=Nat.mul_le_mul_right _ hi
  rw[Nat.add_mul]at this
  omega
 intro k x hk
 rw[Sq.Qz hi]at hk
 have yK:∀x,l.get k=some x→(k<i∨i+news.length≤k)→x.cells.length=s∧∀(j:Nat) y,x.cells[j]?=some y→
  ∃v,(arr.toList.take (i*s)++vs++arr.toList.drop (i*s+vs.length)).toArray[k*s+j]?=some v∧y.one=true∧RA w c H y v∧v.oneCell'=true:=by
  intro x hx hk
  obtain⟨h1,h2⟩:=hr k x hx
  refine⟨h1,fun j y hj=> ?_⟩
  obtain⟨v,b1,b2⟩:=h2 j y hj
  have eQ:=κ hj
  refine⟨v,?_,b2⟩
  rw[qL bx,if_neg ?_]
  ·exact b1
  ·rintro⟨c1,c2⟩
   rcases hk with hk|hk
   ·have:(k+1)*s≤i*s:=Nat.mul_le_mul_right _ (by omega)
    rw[Nat.succ_mul]at this;omega
   ·have:(i+news.length)*s≤k*s:=Nat.mul_le_mul_right _ hk
    rw[Nat.add_mul]at this;omega
 split at hk
 ·rename_i h1;exact yK x hk (.inl h1)
 ·split at hk
  ·rename_i h1 h2
   obtain⟨a1,a2⟩:=hc (k - i) x hk
   refine⟨a1,fun j y hj=> ?_⟩
   obtain⟨v,b1,b2⟩:=a2 j y hj
   have eQ:=κ hj
   refine⟨v,?_,b2⟩
   have ω:=κ b1
   have e:k*s=i*s+(k - i)*s:=by rw[←Nat.add_mul];congr 1;omega
   rw[qL bx,if_pos (by omega),show k*s+j - i*s=(k - i)*s+j by omega]
   exact b1
  ·rename_i h1 h2;exact yK x hk (.inr (by omega))
theorem GU{tab:bi}(hT:bl P tab){t u:TypeId}{c H B a x v y}{K:AV→AH→Prop}(hs:HS w c H B)(ha:RA w c H a v)(hx:RA w c H x y)
 (hu:∃d,P.underlying u=some d∧∀k,d≠.int k) (h:zY tab t H a x K) (ty:TypeId):jB P (Builtin.append_ #[t,u] ty #[v,y]) w c H B K:=by
 unfold zY at h
 rw[Ξ]at h
 obtain⟨i,hi,h⟩:=h
 have hd:=(hT t i hi).d
 split at h
 ·rename_i e he
  rw[he]at hd
  rw[Ξ]at h
  obtain⟨z,hz,h⟩:=h
  rw[Ξ]at h
  obtain⟨zs,qo,h⟩:=h
  rw[Ξ]at h
  obtain⟨news,HZ,h⟩:=h
  rw[ar]at h
  obtain⟨hc,h⟩:=h
  simp only[Bool.and_eq_true]at hc
  have dC:=Nat.le_of_ble_eq_true hc.1
  have nl:=Nat.eq_of_beq_eq_true hc.2
  obtain⟨zv,r,jx,inf,nw,D4,pQ,nx⟩:=jN (w:=w) hT hz qo
  have W2:zv.cells.size=z.size:=by
   obtain⟨q,_⟩:=oB (w:=w) (M:=c.M H) jx
   simpa[nl]using q.symm
  obtain⟨vs,reads,cont⟩:=xC (P:=P) hs hx dC HZ
  rw[←pQ]at reads
  have kp:vs.length=news.length*z.size:=by rw[←pQ];exact reads.num
  have grow:∀(base:Option Addr) (dP ia:Nat) (lI:List Value),lI.length=dP*z.size→(∀w':World,w'.heap=w.heap→(Builtin.firstCells inf.size dP (.slice base dP ia)).run P w'= .ok lI.toArray w')→
   ia<dP+news.length→cI (dP+news.length) z.bytes=true→∃arr cap,(Builtin.append_ #[t,u] ty #[.slice base dP ia,y]).run P w=
    .ok (.slice (some ⟨w.heap.size,0,none⟩) (dP+news.length) cap) (w.drew.alloc (.cells arr e))∧arr.size=cap*z.size∧dP+news.length≤cap∧cap≤maxLen∧∀(k:Nat) v,(lI++vs)[k]?=some v→arr[k]?=some v:=by
   intro base dP ia lI xq ho hg hf
   obtain⟨f1,f2⟩:=v7 hf
   have run:=CS (P:=P) w t u ty e inf zv hd hu nw D4 base dP ia lI ho y news.length vs reads hg f1 (by rw[nx];exact f2)
   have fa:=grownCap_ge w (dP+news.length) ia e
   have Th:grownCap w (dP+news.length) ia e≤maxLen:=grownCap_le_maxLen w _ ia e (by simp only[maxLen];omega)
   refine⟨_,_,run,?_,fa,Th,Fv⟩
   simp only[Array.size_append,List.size_toArray,size_zeroCells,W2,xq,kp,←Nat.add_mul]
   congr 1;omega
  split at h
  ·
   rw[ar]at h
   obtain⟨hf,h⟩:=h
   cases ha with|t _ _ ha=>
   cases ha
   by_cases au:news.length=0
   ·rw[au]at reads
    have By:vs=[]:=List.eq_nil_of_length_eq_zero (by rw[kp,au,Nat.zero_mul])
    have run:=vk (P:=P) w t u ty e inf hd hu nw y vs reads
    obtain⟨ev,aK⟩:=q_ hs (.arr e z.size true 0 news)
    exact⟨_,_,w,c,_,run,.sl _ _ _ _ _ (.arr e z.size true 0 news) ij ⟨Nat.le_refl _,fun _=>⟨by omega,.inl ⟨rfl,au,rfl⟩⟩⟩,aK,ev,Below.refl _ _,h⟩
   ·obtain⟨arr,cap,run,a1,a2,a3,a4⟩:=grow none 0 0 [] (by simp) (fun w' _=>run_firstCells_none w' _ _ _ _) (by omega) (by rw[Nat.zero_add];exact hf)
    simp only[Nat.zero_add,List.nil_append]at run a2 a4
    obtain⟨r1,r2,r3,r4⟩:=AL (tab:=tab) hs e z.size true cont cap arr a4 a1 a2 a3 au
    exact⟨_,_,_,_,_,run,r1,r2,r3,r4,h⟩
  ·
   rw[ar]at h
   obtain⟨hf,h⟩:=h
   cases ha with|dx ad=>
   by_cases au:news.length=0
   ·rw[au]at reads
    have By:vs=[]:=List.eq_nil_of_length_eq_zero (by rw[kp,au,Nat.zero_mul])
    have run:=vl (P:=P) w t u ty e inf hd hu nw ad y vs reads
    obtain⟨ev,aK⟩:=q_ hs (.arr e z.size false 0 news)
    exact⟨_,_,w,c,_,run,.sl _ _ _ _ _ (.arr e z.size false 0 news) ij ⟨Nat.le_refl _,fun _=>⟨by omega,.inr (.inl ⟨rfl,au,ad,rfl⟩)⟩⟩,aK,ev,Below.refl _ _,h⟩
   ·obtain⟨arr,cap,run,a1,a2,a3,a4⟩:=grow (some ad) 0 0 [] (by simp) (fun w' _=>run_firstCells_some w' _ 0 _ 0 0 [] (by simp) (by simp)) (by omega) (by rw[Nat.zero_add];exact hf)
    simp only[Nat.zero_add,List.nil_append]at run a2 a4
    obtain⟨r1,r2,r3,r4⟩:=AL (tab:=tab) hs e z.size false cont cap arr a4 a1 a2 a3 au
    exact⟨_,_,_,_,_,run,r1,r2,r3,r4,h⟩
  ·
   rename_i b g j n
   cases ha with|sl _ _ _ _ _ π hb hm hv=>
   rw[hb]at h
   cases π with
   |dead=>exact h.elim
   |box=>exact h.elim
   |iter=>exact h.elim
   |arr e' s' z' gen l=>
    simp only at h
    rw[ar]at h
    obtain⟨ig,h⟩:=h
    simp only[Bool.and_eq_true]at ig
    have vT:=Nat.eq_of_beq_eq_true ig.1.1.1
    have hj:=Nat.eq_of_beq_eq_true ig.1.1.2
    have Tc:=Nat.eq_of_beq_eq_true ig.1.2
    have lD:=Nat.eq_of_beq_eq_true ig.2
    subst vT hj Tc lD
    obtain⟨_,hm⟩:=hm.2 rfl
    have TS:Ev w c H w.drew c H:=AE (w':=w.drew) (w:=w) rfl c H
    have S7:Ω.fix (.arr e z.size z' g l)=true→c.G b≠none:=by
     intro hf
     simp only[Ω.fix,Bool.and_eq_true,Bool.not_eq_true',decide_eq_true_eq]at hf
     rcases hm with⟨z1,l1,_⟩|⟨z1,l1,_⟩|⟨_,cb,cap,off,hg,_⟩
     ·omega
     ·omega
     ·rw[hg];simp
    rcases h with⟨uQ,h⟩|h
    rotate_left
    ·
     rw[ar]at h
     obtain⟨aL,h⟩:=h
     simp only[Bool.and_eq_true]at aL
     have nv:=Nat.le_of_ble_eq_true aL.1
     have aL:=Nat.le_of_ble_eq_true aL.2
     rcases hm with⟨z1,l1,rfl⟩|⟨z1,l1,ad,rfl⟩|⟨H3,cb,cap,off,hg,rfl,bE,eu,ti,nt,ns⟩
     ·omega
     ·omega
     obtain rfl:=ns rfl
     obtain⟨arr,mG,h1,h2,h3,h4,h5⟩:=hs.arr b cb e z.size z' g l hb hg
     have Oc:mG=cap:=by
      simp only[dX,h1,Nat.zero_add]at bE
      rw[h2]at bE
      exact(Nat.eq_of_mul_eq_mul_right (by omega) bE).symm
     subst Oc
     have bx:n*inf.size+vs.length≤arr.size:=by rw[pQ,kp,h2,←Nat.add_mul];exact Nat.mul_le_mul_right _ (by omega)
     have run:=vj (P:=P) w t u ty e inf hd hu nw cb n mG arr h1 y news.length vs reads (by omega) bx
     rw[pQ]at run bx
     obtain⟨ev,aK⟩:=sU hs hb hg h1 (mr (vs:=vs) bx) h2 (l':=l.put n news) (g':=g) (by rw[Sq.ft aL];omega) h4 (Nat.le_refl _) (by rw[Sq.ft aL];exact Nat.le_refl _) (fun _=>Sq.ft aL)
      (vn h5 cont kp aL (by rw[h2];exact Nat.mul_le_mul_right _ h3.1))
     have ω:=κ hb
     refine⟨_,_,_,_,_,run,.sl _ _ _ _ _ (.arr e z.size z' g (l.put n news)) (by simp[ω]) ⟨Nat.le_refl _,fun _=>⟨by rw[Sq.ft aL];omega,.inr <| .inr ⟨fun hh=>H3 ⟨hh.1,by have:=hh.2;rw[Sq.ft aL]at this;exact this⟩,cb,mG,0,hg,rfl,?_,by omega,by omega,.inr (by simp),fun _=>rfl⟩⟩⟩,aK,ev,j5 (hs.base _ _ hg).1 _,h⟩
     simp only[dX,setRow_heap w cb arr _ e _ h1,mr (vs:=vs) bx,h2,Nat.zero_add]
    rw[ar]at h
    obtain⟨hf,h⟩:=h
    have move:∀(lI:List Value),lI.length=n*z.size→qn w c H z.size l lI→∀arr cap,arr.size=cap*z.size→n+news.length≤cap→cap≤maxLen→(∀(k:Nat) v,(lI++vs)[k]?=some v→arr[k]?=some v)→¬news.length=0→
     (Builtin.append_ #[t,u] ty #[v,y]).run P w= .ok (.slice (some ⟨w.heap.size,0,none⟩) (n+news.length) cap) (w.drew.alloc (.cells arr e))→jB P (Builtin.append_ #[t,u] ty #[v,y]) w c H B K:=by
     intro lI xq Py arr cap a1 a2 a3 a4 au run
     have mS:=Sq.e9 l news
     obtain⟨ev,aK⟩:=NB hs hb arr (l':=l.kV news) (g':=g+2 - g%2) (cap:=cap) a1 (by omega) a3 (by omega) S7 (by omega) (uy (xB Py cont (by rw[xq,uQ])) a4)
     have ω:=κ hb
     refine⟨_,_,_,_,_,run,.sl _ _ _ _ _ (.arr e z.size z' (g+2 - g%2) (l.kV news)) (by simp[ω]) ⟨Nat.le_refl _,fun _=>⟨by rw[Sq.e9];omega,.inr <| .inr ⟨fun hh=> ?_,w.heap.size,cap,0,by simp[Cx.new],rfl,?_,a2,by omega,.inr (by simp),fun _=>rfl⟩⟩⟩,aK,ev,zA.trans (jG (hs.same (w':=w.drew) rfl).hB _),h⟩
     ·have:=hh.2;omega
     ·have:=jY w.drew arr e
      rw[show w.drew.heap.size=w.heap.size from rfl]at this
      rw[this,a1,Nat.zero_add]
    have idle:news.length=0→l.length=0→(Builtin.append_ #[t,u] ty #[v,y]).run P w= .ok v w→((z'=true∧v= .slice none 0 0)∨(z'=false∧∃(ad:Addr),v= .slice (some ad) 0 0))→jB P (Builtin.append_ #[t,u] ty #[v,y]) w c H B K:=by
     intro h1 h2 run xn
     have nY:n=0:=by omega
     subst nY
     have gX:(l.kV news).length=0:=by rw[Sq.e9];omega
     obtain⟨ev,aK⟩:=LV (g':=g+2 - g%2) hs (by omega) (.inr (by omega)) hb h2 (l':=l.kV news) gX
     rw[h1,Nat.add_zero]at h
     have ω:=κ hb
     rcases xn with⟨k1,rfl⟩|⟨k1,ad,rfl⟩
     ·exact⟨_,_,w,c,_,run,.sl _ _ _ _ _ (.arr e z.size z' (g+2 - g%2) (l.kV news)) (by simp[ω]) ⟨Nat.le_refl _,fun _=>⟨by omega,.inl ⟨k1,gX,rfl⟩⟩⟩,aK,ev,Below.refl _ _,h⟩
     ·exact⟨_,_,w,c,_,run,.sl _ _ _ _ _ (.arr e z.size z' (g+2 - g%2) (l.kV news)) (by simp[ω]) ⟨Nat.le_refl _,fun _=>⟨by omega,.inr (.inl ⟨k1,gX,ad,rfl⟩)⟩⟩,aK,ev,Below.refl _ _,h⟩
    rcases hm with⟨z1,l1,rfl⟩|⟨z1,l1,ad,rfl⟩|⟨H3,cb,cap,off,hg,rfl,bE,eu,ti,nt,ns⟩
    ·have nY:n=0:=by omega
     subst nY
     by_cases au:news.length=0
     ·have By:vs=[]:=List.eq_nil_of_length_eq_zero (by rw[kp,au];simp)
      rw[au]at reads
      exact idle au l1 (vk (P:=P) w t u ty e inf hd hu nw y vs reads) (.inl ⟨z1,rfl⟩)
     ·obtain⟨arr,cap,run,a1,a2,a3,a4⟩:=grow none 0 0 [] (by simp) (fun w' _=>run_firstCells_none w' _ _ _ _) (by omega) hf
      exact move [] (by simp) (jf l1) arr cap a1 a2 a3 a4 au run
    ·have nY:n=0:=by omega
     subst nY
     by_cases au:news.length=0
     ·have By:vs=[]:=List.eq_nil_of_length_eq_zero (by rw[kp,au];simp)
      rw[au]at reads
      exact idle au l1 (vl (P:=P) w t u ty e inf hd hu nw ad y vs reads) (.inr ⟨z1,ad,rfl⟩)
     ·obtain⟨arr,cap,run,a1,a2,a3,a4⟩:=grow (some ad) 0 0 [] (by simp) (fun w' _=>run_firstCells_some w' _ 0 _ 0 0 [] (by simp) (by simp)) (by omega) hf
      exact move [] (by simp) (jf l1) arr cap a1 a2 a3 a4 au run
    ·have ho:=ns rfl
     subst ho
     obtain⟨arr,mG,h1,h2,h3,h4,h5⟩:=hs.arr b cb e z.size z' g l hb hg
     have Oc:mG=cap:=by
      simp only[dX,h1,Nat.zero_add]at bE
      rw[h2]at bE
      exact(Nat.eq_of_mul_eq_mul_right (by omega) bE).symm
     subst Oc
     have xq:(arr.toList.take (n*z.size)).length=n*z.size:=by
      have:n*z.size≤mG*z.size:=Nat.mul_le_mul_right _ (by omega)
      simp;omega
     have Py:qn w c H z.size l (arr.toList.take (n*z.size)):=fun i x hi=>⟨(h5 i x hi).1,fun j y hj=>by
      obtain⟨v,q1,q2,q3,q4⟩:=(h5 i x hi).2 j y hj
      refine⟨v,?_,q2,q3,q4⟩
      have eQ:=κ hj
      have qu:=Sq.vY hi
      have:=(h5 i x hi).1
      have ω:i*z.size+j<n*z.size:=by
       have:(i+1)*z.size≤n*z.size:=Nat.mul_le_mul_right _ (by omega)
       rw[Nat.succ_mul]at this;omega
      rw[List.getElem?_take_of_lt ω]
      simpa using q1⟩
     by_cases y3:n+news.length≤mG
     ·have bx:n*inf.size+vs.length≤arr.size:=by rw[pQ,kp,h2,←Nat.add_mul];exact Nat.mul_le_mul_right _ y3
      have run:=vj (P:=P) w t u ty e inf hd hu nw cb n mG arr h1 y news.length vs reads y3 bx
      rw[pQ]at run bx
      obtain⟨ev,aK⟩:=sU hs hb hg h1 (mr (vs:=vs) bx) h2 (l':=l.kV news) (g':=g+2 - g%2) (by rw[Sq.e9];omega) h4 (by omega) (by rw[Sq.e9];omega) (fun hh=>by rw[Sq.e9];omega)
       (uy (xB Py cont (by rw[xq,uQ])) (fun k v hk=>by
        rw[qL bx]
        by_cases ω:k<n*z.size
        ·rw[if_neg (by omega)]
         rw[List.getElem?_append_left (by omega),List.getElem?_take_of_lt ω]at hk
         simpa using hk
        ·rw[List.getElem?_append_right (by omega),xq]at hk
         have:=κ hk
         rw[if_pos (by omega)]
         exact hk))
      have ω:=κ hb
      refine⟨_,_,_,_,_,run,.sl _ _ _ _ _ (.arr e z.size z' (g+2 - g%2) (l.kV news)) (by simp[ω]) ⟨Nat.le_refl _,fun _=>⟨by rw[Sq.e9];omega,.inr <| .inr ⟨fun hh=>H3 ⟨hh.1,?_⟩,cb,mG,0,hg,rfl,?_,y3,by omega,.inr (by simp),fun _=>rfl⟩⟩⟩,aK,ev,j5 (hs.base b cb hg).1 _,h⟩
      ·have:=hh.2;rw[Sq.e9]at this;omega
      ·simp only[dX,setRow_heap w cb arr _ e _ h1,mr (vs:=vs) bx,h2,Nat.zero_add]
     ·have au:¬news.length=0:=fun e=>by omega
      obtain⟨Wx,Ww,run,a1,a2,a3,a4⟩:=grow (some ⟨cb,0,none⟩) n mG (arr.toList.take (n*z.size)) xq (fun w' hw=>run_firstCells_some w' _ n _ n mG _ (by rw[pQ];exact xq) (fun k v hk=>by
       have ω:=κ hk
       rw[xq]at ω
       rw[List.getElem?_take_of_lt ω]at hk
       rw[Addr.add_lit,Nat.zero_add]
       have:w'.cell? ⟨cb,k,none⟩=w.cell? ⟨cb,k,none⟩:=by simp only[World.cell?,hw]
       rw[this,kT h1]
       simpa using hk)) (by omega) hf
      exact move _ xq Py Wx Ww a1 a2 a3 a4 au run
  ·exact h.elim
 ·exact h.elim
theorem CR(t u ty e:TypeId)(i:TypeInfo)(zv:Value)(ht:P.underlying t=some (.slice e)){ki:IntKind}(hu:P.underlying u=some (.int ki))(hi:P.info? e=some i)(hz:i.zero=some zv)
 (n:Nat) (hn:0<n) (VJ:n≤9223372036854775807) (bx:n*i.bytes≤140737488355328∨(n+n/4+192)*i.bytes≤281474976710656) (h1:1≤i.size):
 (Builtin.append_ #[t,u] ty #[.slice none 0 0,.int .i64 (n:Int)]).run P w=
  .ok (.slice (some ⟨w.heap.size,0,none⟩) n (grownCap w n 0 e)) (w.drew.alloc (.cells (Builtin.zeroCells zv.cells n++Builtin.zeroCells zv.cells (grownCap w n 0 e - n)) e)):=by
 have hw:IntKind.i64.wrap (n:Int)=n:=by rw[IntKind.wrap_i64];omega
 have h0:¬((n:Int)<0):=by omega
 have hb:¬(281474976710656<(n:Int)*(i.bytes:Int)):=by
  have:n*i.bytes≤281474976710656:=by
   rcases bx with h|h
   ·omega
   ·exact Nat.le_trans (Nat.mul_le_mul_right _ (by omega)) h
  have:((n*i.bytes:Nat):Int)≤281474976710656:=by generalize n*i.bytes=q at this;omega
  rw[Int.natCast_mul]at this;omega
 have UC:Builtin.nextslicecap n 0*i.bytes≤281474976710656:=bx.elim (growslice_fits (by omega:0<n)) (growslice_fits_wide (by omega:0<n))
 have Og:¬(281474976710656<Builtin.nextslicecap n 0*i.bytes):=by omega
 have Of:¬(9223372036854775807<(n:Int)):=by omega
 have Pj:¬(n*i.size=0):=by
  intro e0
  rcases Nat.mul_eq_zero.1 e0 with e1|e1<;>omega
 have nY:¬n=0:=by omega
 have kL:¬i.size=0:=by omega
 simp[Builtin.append_,run_underlying ht,run_underlying hu,sizeOf,typeInfo,zeroValue,hi,hz,asInt,asIntOf,hw,h0,hb,nY,kL,Of,Og,Question.forced,Builtin.firstCells,newRow,grownCap]
 intro W4
 exact absurd W4 (by simpa using Pj)
theorem Fl(dT sT ty elem:TypeId)(i:TypeInfo)(g o OA Wt:Nat)(wg:Array Value)(t:TypeId)(hu:P.underlying dT=some (.slice elem))(hi:P.info? elem=some i)
 (x:Value) (n:Nat) (news:List Value) (hx:Reads P w i.size n x news) (hn:n≤OA) (hg:w.heap[g]?=some (.cells wg t (0,0))) (bx:o+news.length≤wg.size):
 (Builtin.copy_ #[dT,sT] ty #[.slice (some ⟨g,o,none⟩) OA Wt,x]).run P w= .ok (goInt n) (w.setRow g (wg.toList.take o++news++wg.toList.drop (o+news.length)).toArray):=by
 have iT:=run_storeCells_at P g o t news 0 wg w hg (by simpa using bx) hx.one
 have hm:Nat.min n OA=n:=Nat.min_eq_left hn
 have hf:=hx.get w rfl
 simp only[Nat.add_zero]at iT
 simp[Builtin.copy_,run_underlying hu,hx.len,hm,sizeOf,typeInfo,hi,hf,iT]
theorem Qd{tab:bi}(hT:bl P tab){t:TypeId}{c H B x v}{K:AV→Prop}(hs:HS w c H B)(h:MB tab t H x K)(hx:RA w c H x v)(ty:TypeId):
 ∃y val,(Builtin.cap_ #[t] ty #[v]).run P w= .ok val w∧RA w c H y val∧K y:=by
 unfold MB at h
 rw[Ξ]at h
 obtain⟨y,hy,h⟩:=h
 have hd:=(hT t y hy).d
 split at h
 ·rename_i e he
  rw[he]at hd
  cases hx with|t _ _ hx=>
  cases hx
  exact⟨_,.int .i64 0,by simp[Builtin.cap_,run_underlying hd,goInt],.t _ _ (.int _ _),h⟩
 ·rename_i e b g i n he
  rw[he]at hd
  cases hx with|sl _ _ _ _ _ π hb hm=>
  rw[hb]at h
  cases π with
  |dead=>exact h.elim
  |box=>exact h.elim
  |iter=>exact h.elim
  |arr e' s z gen l=>
   simp only at h
   rw[ar]at h
   obtain⟨gh,h⟩:=h
   obtain⟨hlen,ku⟩:=hm.2 (Nat.eq_of_beq_eq_true gh)
   rw[lT]at h
   rcases h with⟨h0,k⟩|⟨h0,h⟩
   ·simp only[Bool.and_eq_true]at h0
    have gX:l.length=0:=Nat.eq_of_beq_eq_true h0.2
    rcases ku with⟨z1,l1,rfl⟩|⟨z1,l1,ad,rfl⟩|⟨au,_⟩
    ·exact⟨_,.int .i64 0,by simp[Builtin.cap_,run_underlying hd,goInt],.t _ _ (.int _ _),k⟩
    ·rw[z1]at h0;simp at h0
    ·exact(au ⟨h0.1,gX⟩).elim
   ·rw[ar]at h
    obtain⟨fV,k⟩:=h
    simp only[Bool.and_eq_true]at fV
    have Wb:=Nat.eq_of_beq_eq_true fV.1
    have dC:=Nat.le_of_ble_eq_true fV.2
    rcases ku with⟨z1,l1,rfl⟩|⟨z1,l1,ad,rfl⟩|⟨au,cb,cap,off,hg,rfl,ug,eu,ti,nt,ns⟩
    ·rw[z1,l1]at h0;simp at h0
    ·refine⟨_,.int .i64 0,by simp[Builtin.cap_,run_underlying hd,goInt],.t _ _ (.int _ _),?_⟩
     rw[show l.length - i=0 by omega]at k
     exact k
    ·obtain⟨wo,OG,Ei,LC,TA,Yo,Ym⟩:=hs.arr b cb e' s z gen l hb hg
     have:i+cap=OG:=by
      simp only[dX,Ei]at ug
      rw[LC]at ug
      exact Nat.eq_of_mul_eq_mul_right (by omega) ug
     have:=TA.2 Wb
     refine⟨_,.int .i64 cap,by simp[Builtin.cap_,run_underlying hd,goInt],.t _ _ (.int _ _),?_⟩
     rw[show l.length - i=cap by omega]at k
     exact k
 ·exact h.elim
theorem Mz{tab:bi}(hT:bl P tab){t u:TypeId}{c H B a x v y}{K:AV→AH→Prop}(hs:HS w c H B)(ha:RA w c H a v)(hx:RA w c H x y)(h:GQ tab t a x H K)(ty:TypeId):
 jB P (Builtin.copy_ #[t,u] ty #[v,y]) w c H B K:=by
 unfold GQ at h
 rw[Ξ]at h
 obtain⟨i,hi,h⟩:=h
 have hd:=(hT t i hi).d
 split at h
 ·rename_i e he
  rw[he]at hd
  rw[Ξ]at h
  obtain⟨z,hz,h⟩:=h
  split at h
  ·rw[ar,Ξ]at h
   obtain⟨iT,m,hm,k⟩:=h
   cases ha with|t _ _ ha=>
   cases ha
   obtain⟨inf,nw,pQ,_⟩:=(hT e z hz).HU
   have hl:∀(x:Addr),(loadCells x 0).run P w= .ok #[] w:=fun x=>by simpa using run_loadCells_list (P:=P) w x [] (by simp)
   rcases F2 hx hm with⟨s,rfl,_,h1⟩|⟨a,q,rfl,_⟩
   ·rw[h1]at iT;cases iT
   ·refine .here hs (val:=goInt 0) ?_ (.t _ _ (.int _ _)) k
    cases a<;>simp[Builtin.copy_,run_underlying hd,Builtin.lenOf,Builtin.firstCells,sizeOf,typeInfo,nw,storeCells,hl]
  ·rename_i b g j n
   cases ha with|sl _ _ _ _ _ π hb hm hv=>
   rw[hb]at h
   cases π with
   |dead=>exact h.elim
   |box=>exact h.elim
   |iter=>exact h.elim
   |arr e' s' z' gen l=>
    simp only at h
    rw[Ξ]at h
    obtain⟨news,HZ,h⟩:=h
    rw[ar,ar]at h
    obtain⟨hc,hn,h⟩:=h
    simp only[Bool.and_eq_true]at hc
    have vT:=Nat.eq_of_beq_eq_true hc.1.1.1
    have lD:=Nat.eq_of_beq_eq_true hc.1.1.2
    have dC:=Nat.le_of_ble_eq_true hc.1.2
    have nv:=Nat.le_of_ble_eq_true hc.2
    have hn:=Nat.le_of_ble_eq_true hn
    subst vT lD
    obtain⟨uQ,hm⟩:=hm.2 rfl
    obtain⟨inf,nw,pQ,_⟩:=(hT e z hz).HU
    obtain⟨vs,reads,cont⟩:=xC (P:=P) hs hx dC HZ
    rw[←pQ]at reads
    have kp:vs.length=news.length*z.size:=by rw[←pQ];exact reads.num
    rcases hm with⟨z1,l1,rfl⟩|⟨z1,l1,ad,rfl⟩|⟨H3,cb,cap,off,hg,rfl,bE,eu,ti,nt,ns⟩
    ·omega
    ·omega
    have aL:j+news.length≤l.length:=by omega
    obtain⟨arr,mG,h1,h2,h3,h4,h5⟩:=hs.arr b cb e' z.size z' g l hb hg
    have Pb:l.length*z.size≤arr.size:=by rw[h2];exact Nat.mul_le_mul_right _ h3.1
    have eJ:(j+news.length)*z.size≤l.length*z.size:=Nat.mul_le_mul_right _ aL
    rw[Nat.add_mul]at eJ
    have ω:=κ hb
    by_cases UE:cap=0
    ·have nY:n=0:=by omega
     have BB:news.length=0:=by omega
     have By:vs=[]:=List.eq_nil_of_length_eq_zero (by rw[kp,BB,Nat.zero_mul])
     subst By
     have gC:(Builtin.copy_ #[t,u] ty #[.slice (some ⟨cb,off,none⟩) n cap,y]).run P w= .ok (goInt 0) w:=by
      have hf:=reads.get w rfl
      rw[BB]at hf
      have hlen:=reads.len
      rw[BB]at hlen
      simp[Builtin.copy_,run_underlying hd,hlen,sizeOf,typeInfo,nw,hf,storeCells]
     obtain⟨ev,aK⟩:=sU hs hb hg h1 rfl h2 (l':=l.put j news) (g':=g) (by rw[Sq.ft aL];omega) h4 (Nat.le_refl _) (by rw[Sq.ft aL];exact Nat.le_refl _) (fun _=>Sq.ft aL)
      (by have:=vn h5 cont kp aL Pb;simpa[List.take_append_drop]using this)
     rw[setRow_self w cb arr e' (0,0) h1]at ev aK
     rw[BB]at h
     exact⟨_,_,w,c,_,gC,.t _ _ (.int _ _),aK,ev,Below.refl _ _,h⟩
    have ho:off=j*z.size:=nt.resolve_left UE
    subst ho
    have bx:j*z.size+vs.length≤arr.size:=by omega
    have run:=Fl (P:=P) (w:=w) t u ty e inf cb (j*z.size) n cap arr e' hd nw y news.length vs reads hn h1 bx
    obtain⟨ev,aK⟩:=sU hs hb hg h1 (mr (vs:=vs) bx) h2 (l':=l.put j news) (g':=g) (by rw[Sq.ft aL];omega) h4 (Nat.le_refl _) (by rw[Sq.ft aL];exact Nat.le_refl _) (fun _=>Sq.ft aL)
     (vn h5 cont kp aL Pb)
    exact⟨_,_,_,_,_,run,.t _ _ (.int _ _),aK,ev,j5 (hs.base _ _ hg).1 _,h⟩
  ·exact h.elim
 ·exact h.elim
theorem Fe{tab:bi}(hT:bl P tab){t u:TypeId}{c H B a x v y}{K:AV→AH→Prop}(hs:HS w c H B)(ha:RA w c H a v)(hx:RA w c H x y){ki:IntKind}(hu:P.underlying u=some (.int ki))
 (h:xE tab t a x H K) (ty:TypeId):jB P (Builtin.append_ #[t,u] ty #[v,y]) w c H B K:=by
 unfold xE at h
 rw[Ξ]at h
 obtain⟨i,hi,h⟩:=h
 have hd:=(hT t i hi).d
 split at h
 ·rename_i e he
  rw[he]at hd
  rw[Ξ]at h
  obtain⟨z,hz,h⟩:=h
  rw[Ξ]at h
  obtain⟨zs,qo,h⟩:=h
  split at h
  ·rename_i k n
   rw[ar]at h
   obtain⟨hc,h⟩:=h
   simp only[Bool.and_eq_true,decide_eq_true_eq]at hc
   obtain⟨⟨⟨⟨⟨hk,h0⟩,hf⟩,dC⟩,nl⟩,qp⟩:=hc
   obtain rfl:=xO hk
   cases ha with|t _ _ ha=>
   cases ha
   obtain rfl:=hx.int
   have dC:=Nat.le_of_ble_eq_true dC
   have nl:=Nat.eq_of_beq_eq_true nl
   obtain⟨f1,f2⟩:=v7 hf
   obtain⟨zv,r,jx,inf,nw,D4,pQ,nx⟩:=jN (w:=w) hT hz qo
   obtain⟨IW,IV⟩:=oB (w:=w) (M:=c.M H) jx
   have vH:zv.cells.size=z.size:=by simpa[nl]using IW.symm
   obtain⟨m,rfl⟩:=Int.eq_ofNat_of_zero_le (Int.le_of_lt h0)
   have hm:((m:Int)).toNat=m:=rfl
   rw[hm]at f1 f2 h
   have run:=CR (P:=P) (w:=w) t u ty e inf zv hd hu nw D4 m (by omega) f1 (by rw[nx];exact f2) (by rw[pQ];exact dC)
   have vV:=nd nl qp dC
   have fa:=grownCap_ge w m 0 e
   have Th:grownCap w m 0 e≤maxLen:=grownCap_le_maxLen w _ 0 e (by simp only[maxLen];omega)
   have Y7:(Builtin.zeroCells zv.cells m).toList.length=m*z.size:=by simp[size_zeroCells,vH]
   have cont:qn w c H z.size (.ts (List.replicate m (ep z.size zs))) (Builtin.zeroCells zv.cells m).toList:=fun k x hk=>by
    obtain⟨e0,fW,rfl⟩:=qS hk
    have BD:=κ fW
    simp at BD
    have:e0=ep z.size zs:=by simp[BD]at fW;exact fW.symm
    subst this
    rw[T.dK,vV]
    refine⟨by simpa using nl,fun j y' hj=> ?_⟩
    simp only[List.getElem?_map,Option.map_eq_some_iff]at hj
    obtain⟨y',hj,rfl⟩:=hj
    have eQ:=κ hj
    have ω:k*z.size+j<m*z.size:=by
     have:(k+1)*z.size≤m*z.size:=Nat.mul_le_mul_right _ (by omega)
     rw[Nat.succ_mul]at this;omega
    obtain⟨q,hq⟩:=iI (a:=zv.cells) (i:=j) (by omega)
    have tg:y'.one=true:=by rw[List.all_eq_true]at qp;exact qp y' (List.mem_of_getElem? hj)
    have rt:=IV j y' q hj (by simpa using hq)
    refine⟨q,?_,tg,.t _ _ rt,(rt.kf tg).1⟩
    have Xy:(k*z.size+j)%zv.cells.size=j:=by rw[vH,Nat.mul_comm k,Nat.mul_add_mod,Nat.mod_eq_of_lt (by omega)]
    have Wd:k*z.size+j<m*zv.cells.size:=by rw[vH];exact ω
    simp only[Builtin.zeroCells,Array.toList_map,List.getElem?_map,Array.toList_range]
    rw[List.getElem?_range Wd]
    simp only[Option.map_some,Xy]
    rw[←hq]
    have:j<zv.cells.size:=by omega
    simp[this]
   obtain⟨r1,r2,r3,r4⟩:=AL (tab:=tab) hs e z.size true cont (grownCap w m 0 e) (Builtin.zeroCells zv.cells m++Builtin.zeroCells zv.cells (grownCap w m 0 e - m))
    (fun k v hk=>by rw[Array.getElem?_append_left (by have:=κ hk;simpa using this)];simpa using hk)
    (by simp only[Array.size_append,size_zeroCells,vH,←Nat.add_mul];congr 1;omega) (by simp[Sq.length];exact fa) Th (by simp[Sq.length];omega)
   have hlen:(Sq.ts (List.replicate m (ep z.size zs))).length=m:=by simp[Sq.length]
   rw[hlen]at r1
   exact⟨_,_,_,_,_,run,r1,r2,r3,r4,h⟩
  ·exact h.elim
 ·exact h.elim
end
end Go.Proofs.YtcogcbplmkcojaaGreatDoor
