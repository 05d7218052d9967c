/- A part of the proof of InstancesLastUptoSaid: see the last text. -/
import Derived.Test.YtpeialehpoilbaaGreatAc
import Derived.KernelRfl
import Derived.Test.YtpeialehpoilbaaGreatProg
import Derived.Test.YtpeialehpoilbaaGreatAd
import Derived.Laws.Strings
set_option linter.all false
noncomputable section
set_option maxRecDepth 100000
open Bool renaming false->G,true->Y
open Go.Am.ai renaming cells->K
open Go.IntKind renaming i64->zx,bits->xJ,signed->y9,wrap->xQ
open Go renaming Value->E,Code->yG,IntKind->yq,TypeId->zQ,binOp->wz,eqGuard->xR
open Go.Value renaming agg->yu,int->yV,string->zN,bool->zP,pointer->zM,slice->zL,func->zU
open List renaming length->I,mem_cons->zp,drop_eq_getElem_cons->yK,drop_eq_nil_of_le->yN,drop_zero->yY,getElem?_eq_getElem->zm,mem_iff_getElem->yk,take_of_length_le->yI,getElem?_eq_none_iff->vA,getElem?_set->tq,mem_flatMap->sI,append_inj->sX,any_eq_true->sJ,getElem_mem->zW,length_append->yD,mem_append->xX,mem_of_getElem?->vW,getElem?_cons_succ->wG,getElem?_eq_some_iff->yf
open Option renaming none->U,some->O
open Decidable renaming decide->yF
open Go.Code renaming block->zv,loop->yb,seq->zS
open Go.TypeDesc renaming slice->zf
open Or renaming inl->zq,inr->zt
open Go.Op renaming stringOp->tZ
open Go.ByteArray renaming toList_eq->vI
open Go.Fn renaming func->za,yield->yc
open Go.Instr renaming index->u5
open Go.Sem renaming bind->tR,pure->tT
open Nat renaming le_refl->zR,ble->ze,ble_eq_true_of_le->zb,add->zl,beq->zV,mul->z7,lor->zi
open Go.LoopState renaming exhausted->xU
open Go
open Go.Proofs.Tryz
variable{A:Type}
variable{c e:Int}
variable{n k m i j:Nat}
variable{l p:List Go.Value}
variable{v N:Go.Value}
variable{t s:Go.TypeId}
variable{f:Go.FuncId}
variable{b:Bool}
variable{x:Go.Code}
variable{R:A->List Go.Value}
variable{L:A->Prop}
variable{h g:Go.Am.H}
variable{B:Nat->Option Go.Am.ai}
variable{C:Go.Am.aV}
variable{r q:Go.Am.Tr Go.Value}
variable{V:Go.Am.zC->Go.Am.ag}
namespace Go.Am.Eu
section
open Go.Am
structure ga where
 index:Int
 plus:Int
structure aB where
 c:Int
 v:List ga
inductive zA where
 |mk (kind index:Int) (name:ByteArray) (levels:List aB) (kids:List zA)
namespace zA
def w:zA->Int|.mk k _ _ _ _=>k
def Q:zA->Int|.mk _ i _ _ _=>i
def F:zA->ByteArray|.mk _ _ n _ _=>n
def H:zA->List aB|.mk _ _ _ l _=>l
def M:zA->List zA|.mk _ _ _ _ k=>k
end zA
abbrev J(n:Int):E:=yV zx n
def cW(x:ga):E:=aAg [J x.index,J x.plus]
def fq(l:List ga):E:=cp (l.map cW) 0 (I l) []
def aT(x:aB):E:=aAg [J x.c,fq x.v]
def aO(l:List aB):E:=cp (l.map aT) 0 (I l) []
def bL(l:List ByteArray):E:=cp (l.map zN) 0 (I l) []
mutual
def D:zA->E
 |.mk k i n l ks=>aAg [J k,J i,zN n,aO l,cp (rp ks) 0 (I ks) []]
def rp:List zA->List E
 |[]=>[]
 |t::l=>D t::rp l
end
def ab2:∀l:List zA,rp l=l.map D
 |[]=>rfl
 |t::l=>by simp[rp,ab2 l]
def al(l:List zA):E:=cp (l.map D) 0 (I l) []
def By(k i:Int)(n:ByteArray)(l:List aB)(a:List zA):D (.mk k i n l a)=yu ⟨[J k,J i,zN n,aO l,al a]⟩:=by simp[D,ab2,al]
def eD(t:zA):D t=yu ⟨[J t.w,J t.Q,zN t.F,aO t.H,al t.M]⟩:=by cases t;exact By _ _ _ _ _
mutual
def zD:zA->Nat
 |.mk _ _ _ _ ks=>1+bA ks
def bA:List zA->Nat
 |[]=>0
 |t::l=>zD t+bA l
end
def kU{n:ByteArray}{l:List aB}{a:List zA}:zD (.mk c e n l a)=1+bA a:=by simp[zD]
def hG{t:zA}{l:List zA}:bA (t::l)=zD t+bA l:=by simp[bA]
def Gw:∀(a b:List zA),bA (a++b)=bA a+bA b
 |[],b=>by simp[bA]
 |t::a,b=>by simp[bA,Gw a b];omega
def Zn:∀{l:List zA}{t:zA},t∈l->zD t<=bA l
 |x::l,t,h=>by
  rw[hG];rcases zp.1 h with rfl|h
  .omega
  .have:=Zn h;omega
def mg{t x:zA}(h:x∈t.M):zD x<zD t:=by
 cases t with
 |mk k i n l a=>rw[kU];have:=Zn (l:=a) h;omega
def length_le:∀l:List zA,I l<=bA l
 |[]=>by simp
 |t::l=>by
  have:=length_le l;have a:1<=zD t:=by cases t;rw[kU];omega
  rw[hG,List.length_cons];omega
def ag3(t:zA):I t.M<zD t:=by
 cases t with
 |mk k i n l a=>rw[kU];have:=length_le a;show I a<_;omega
def ajF{x y:ga}(h:cW x=cW y):x=y:=by cases x;cases y;simp[cW]at h;simp[h]
def map_inj{c e:Type}{f:c->e}(d:∀x y,f x=f y->x=y):∀{a b:List c},a.map f=b.map f->a=b
 |[],[],_=>rfl
 |[],_::_,h=>by simp at h
 |_::_,[],h=>by simp at h
 |x::a,y::b,h=>by simp at h;rw[d x y h.1,map_inj d (a:=a) (b:=b) h.2]
def ah5{x y:List ga}(h:fq x=fq y):x=y:=by simp[fq]at h;exact map_inj (λ_ _=>ajF) h.2
def qC{x y:aB}(h:aT x=aT y):x=y:=by cases x;cases y;simp[aT]at h;simp[h.1,ah5 h.2]
def qy{x y:List aB}(h:aO x=aO y):x=y:=by simp[aO]at h;exact map_inj (λ_ _=>qC) h.2
def CA{x y:List ByteArray}(h:bL x=bL y):x=y:=by simp[bL]at h;exact map_inj (λ_ _ h=>by injection h) h.2
mutual
theorem cf:∀{x y:zA},D x=D y->x=y
 |.mk k i n l ks,.mk k' i' n' l' P7,h=>by simp[D]at h;let⟨h1,h2,h3,h4,_,h5⟩:=h;rw[h1,h2,h3,qy h4,abd h5]
theorem abd:∀{x y:List zA},rp x=rp y->x=y
 |[],[],_=>rfl
 |[],_::_,h=>by simp[rp]at h
 |_::_,[],h=>by simp[rp]at h
 |x::a,y::b,h=>by simp[rp]at h;rw[cf h.1,abd h.2]
end
def Rx(x:ga):bH (cW x):=.agg pZ
def map_pure{f:A->E}(a:∀x,bH (f x))(l:List A):bX (l.map f):=.of λv b=>by obtain⟨x,_,rfl⟩:=List.mem_map.1 b;exact a x
def ag4(l:List ga):bH (fq l):=.data _ _ _ _ (map_pure Rx l)
def kR(x:aB):bH (aT x):=.agg (.Cs bJ (.Cs (ag4 _) .Nl))
def jM(l:List aB):bH (aO l):=.data _ _ _ _ (map_pure kR l)
def lj(l:List ByteArray):bH (bL l):=.data _ _ _ _ (map_pure (λ_=>.Gd rfl) l)
mutual
theorem bg:∀t:zA,bH (D t)
 |.mk k i n l ks=>by rw[D];exact .agg (.Cs bJ (.Cs bJ (.Cs bJ (.Cs (jM _) (.Cs (.data _ _ _ _ (aak ks)) .Nl)))))
theorem aak:∀l:List zA,bX (rp l)
 |[]=>by rw[rp];exact .Nl
 |t::l=>by rw[rp];exact .Cs (bg t) (aak l)
end
end
section
open Go.Am
structure Meta where
 type:zA
 known:Bool
 value:zA
 e7:Bool
structure ir where
 ctx:List zA
 left:zA
 right:zA
 sub:Bool
structure ES where
 low:aB
 adI:aB
structure ET where
 KL:List Meta
 adJ:List ir
 bounds:List ES
 levels:Int
structure Dc where
 P8:Int
 names:List ByteArray
 ctx:List zA
 target:zA
structure OT where
 levels:List ByteArray
 store:ET
 aty:List Dc
 type:zA
 root:zA
abbrev tc(t:zA):List E:=[J t.w,J t.Q,zN t.F,aO t.H,al t.M]
abbrev lc(x:aB):List E:=[J x.c,fq x.v]
def dP{t:zA}:ah (D t)=tc t:=by rw[eD];rfl
def fE(x:Meta):E:=aAg (tc x.type++(zP x.known::(tc x.value++[zP x.e7])))
def aC(l:List Meta):E:=cp (l.map fE) 0 (I l) []
def dB(x:ir):E:=aAg (al x.ctx::(tc x.left++(tc x.right++[zP x.sub])))
def OU(l:List ir):E:=cp (l.map dB) 0 (I l) []
def Kl(x:ES):E:=aAg (lc x.low++lc x.adI)
def NX(l:List ES):E:=cp (l.map Kl) 0 (I l) []
abbrev sc(x:ET):List E:=[aC x.KL,OU x.adJ,NX x.bounds,J x.levels]
def Km(x:ET):E:=aAg (sc x)
abbrev gc(x:Dc):List E:=J x.P8::bL x.names::al x.ctx::tc x.target
def OV(x:Dc):E:=aAg (gc x)
def ab3(l:List Dc):E:=cp (l.map OV) 0 (I l) []
abbrev pc(x:OT):List E:=bL x.levels::(sc x.store++(ab3 x.aty::(tc x.type++tc x.root)))
def ab4(x:OT):E:=aAg (pc x)
def mN{x y:List zA}(h:al x=al y):x=y:=by simp[al]at h;exact map_inj (λ_ _=>cf) h.2
def CL{x y:zA}(h:tc x=tc y):x=y:=cf (by rw[eD,eD];exact congrArg (λl=>yu ⟨l⟩) h)
def zA.ext'{x y:zA}(a:x.w=y.w)(b:x.Q=y.Q)(c:x.F=y.F)(f:aO x.H=aO y.H)(g:al x.M=al y.M):x=y:=by have d:=qy f;have e:=mN g;cases x;cases y;simp[zA.w,zA.Q,zA.F,zA.H,zA.M]at a b c d e;rw[a,b,c,d,e]
def ajG{x y:Meta}(h:fE x=fE y):x=y:=by cases x;cases y;simp[fE]at h;let⟨a,c,e,f,g,b,c1,i,c3,c4,c5,d⟩:=h;rw[zA.ext' a c e f g,zA.ext' c1 i c3 c4 c5,b,d]
def Jw{x y:List Meta}(h:aC x=aC y):x=y:=by simp[aC]at h;exact map_inj (λ_ _=>ajG) h.2
def fb(l:List zA):bH (al l):=.data _ _ _ _ (map_pure bg l)
def ow(t:zA):bX (tc t):=.Cs bJ (.Cs bJ (.Cs bJ (.Cs (jM _) (.Cs (fb _) .Nl))))
def Ry(x:Meta):bH (fE x):=.agg ((ow _).append (.Cs bJ ((ow _).append dF)))
def Ab(l:List Meta):bH (aC l):=.data _ _ _ _ (map_pure Ry l)
def Zo(x:ir):bH (dB x):=.agg (.Cs (fb _) ((ow _).append ((ow _).append dF)))
end
section
open Go.Am
def Ew(c:Int):Bool:=yF ((97<=c/\c<=122)\/(65<=c/\c<=90)\/c=95)
def G3(b:Bool)(c:Int):Option Bool:=
 if Ew c=Y then O G else if b=Y then U else if c=46 then O Y else if(48<=c/\c<=57)\/c=39 then O G else U
def qK:List Int->Bool->Option Bool
 |[],b=>O b
 |c::l,b=>match G3 b c with
  |some a=>qK l a
  |none=>U
def qM(s:ByteArray):List Int:=s.data.toList.map λc=>(c.toNat:Int)
def oz(s:ByteArray):Bool:=yF (s.size<=64)&&yF (qK (qM s) Y=O G)
def Rz{s:ByteArray}:I (qM s)=s.size:=by show(s.data.toList.map λc=>(c.toNat:Int)).length=_;rw[List.length_map];rfl
def ah6(s:ByteArray)(a:i<s.size):(qM s)[i]'(by rw[Rz];exact a)=((s[i]'a).toNat:Int):=by unfold qM;rw[List.getElem_map];rfl
def qY(x:aB)(i:Nat)(h:i<I x.v):Prop:=
 (-65536<=x.v[i].index/\x.v[i].index<=7)/\(0<=x.v[i].plus/\x.v[i].plus<=100)/\(0<i->(x.v[i-1]'(by omega)).index<x.v[i].index)/\(0<x.c->x.v[i].plus<x.c)
def lu(x:aB):Prop:=(0<=x.c/\x.c<=100)/\∀i h,qY x i h
open Classical in
def fL(x:aB):Bool:=yF (lu x)
def mZ(k:Int):Nat:=if k=4\/k=5\/k=6\/k=7 then 2 else if k=8\/k=11 then 3 else if k=9\/k=10 then 1 else 0
def mn(k:Int)(i:Nat):Nat:=if(i=1/\(k=5\/k=6\/k=7))\/(i=2/\k=11)then 1 else 0
def Bz(t:zA):Prop:=
 (0<=t.w/\t.w<13)/\I t.M=mZ t.w/\(t.Q=0\/t.w=0\/t.w=12)/\(t.F=⟨#[]⟩\/t.w=3)/\(if t.w=2 then I t.H=1 else I t.H=0\/t.w=3)
open Classical in
def jX(t:zA):Bool:=yF (Bz t)
abbrev aL(n:Int):Int:=zx.wrap n
open Classical in
def ic(p l:Int)(x:aB):Int:=
 if¬lu x then 3 else if∃v∈x.v,p<=v.index then 15 else if∃v∈x.v,v.index<0/\l<=aL (-1-v.index)then 23 else 0
def mT(p l:Int):List aB->Int
 |[]=>0
 |x::r=>if ic p l x≠0 then ic p l x else mT p l r
def m6(v p m l:Int)(d:Nat)(t:zA):Int:=
 if jX t=G then 3 else if t.w=3/\oz t.F=G then 29 else if t.w=3/\8<I t.H then 6 else if mT p l t.H≠0 then mT p l t.H
 else if t.w=0/\(t.Q<0\/v<=aL (t.Q-d))then 24 else if t.w=12/\(t.Q<0\/m<=t.Q)then 23 else 0
mutual
def jG(v p m l:Int)(d:Nat):zA->Int
 |.mk k i n ls ks=>if m6 v p m l d (.mk k i n ls ks)≠0 then m6 v p m l d (.mk k i n ls ks)else pt v p m l d k 0 ks
def pt(v p m l:Int)(d:Nat)(k:Int)(i:Nat):List zA->Int
 |[]=>0
 |t::r=>if jG v p m l (d+mn k i) t≠0 then jG v p m l (d+mn k i) t else pt v p m l d k (i+1) r
end
mutual
def jA:zA->Nat
 |.mk _ _ _ _ ks=>mW ks+1
def mW:List zA->Nat
 |[]=>0
 |t::r=>max (jA t) (mW r)
end
def kX(v p m l:Int)(t:zA):Int:=if jG v p m l 0 t≠0 then jG v p m l 0 t else if 4096<zD t then 5 else if 200<jA t then 7 else 0
def TK{m l:Int}{t:zA}:jG c e m l n t=if m6 c e m l n t≠0 then m6 c e m l n t else pt c e m l n t.w 0 t.M:=by cases t;rw[jG];rfl
def aoX{m l:Int}{k:Int}:pt c e m l n k i []=0:=by rw[pt]
def aal{m l:Int}{k:Int}{t:zA}{r:List zA}:pt c e m l n k i (t::r)=if jG c e m l (n+mn k i) t≠0 then jG c e m l (n+mn k i) t else pt c e m l n k (i+1) r:=by rw[pt]
def Zp{t:zA}:jA t=mW t.M+1:=by cases t;rw[jA];rfl
def YD:mW []=0:=by rw[mW]
def Jh{t:zA}{r:List zA}:mW (t::r)=max (jA t) (mW r):=by rw[mW]
mutual
theorem al6:∀t:zA,jA t<=zD t
 |.mk k i n l ks=>by rw[jA,kU];have:=R1 ks;omega
theorem R1:∀l:List zA,mW l<=bA l
 |[]=>by simp[mW]
 |t::r=>by have:=al6 t;have:=R1 r;rw[mW,hG];exact Nat.max_le.2 ⟨by omega,by omega⟩
end
end
end Go.Am.Eu
namespace Go.Proofs.YtpeialehpoilbaaGreat
section
open Go.Am Go.Proofs
def Z:au:=acR prog
def tok:bM Z prog:=agW (by kernel_rfl)
end
section
open Go.Am Go.Proofs Go.Am.Sym Go.Am.Eu
theorem TT.abe:Z.u 29=O (zf 31):=by kernel_rfl
def ID:yG:=z f43 [Y,Y,G,Y,G,G]
theorem al7:f43.body=O (zS (z f43 pF0) (zS (z f43 pF1) (zS (zS (z f43 [Y,Y,G,G]) (zv 0 (yb ID))) (z f43 pT3)))):=rfl
theorem Tb(h:H)(b o:Nat):aX Z h 31 4 (O (zM (O ⟨b,o,U⟩)))=.v (zM (O ⟨b,o+4,U⟩)) h:=by kernel_rfl
theorem atz:Am.zK Z 29=O G:=by kernel_rfl
theorem KM:Am.zK Z 31=O Y:=by kernel_rfl
theorem oa:Am.zI Z 31=O 5:=by kernel_rfl
theorem ob(c:List E)(a:Nat):zE Z 29 c a=c[a]?:=dK atz c a
theorem ab5(t:zA):zE Z 31 (ah (D t)) 0=O (D t):=by rw[fV KM oa,eD];rfl
theorem nu{h:H}{l:List zA}{k:yq}{i:Nat}(a:i<I l):dI Z h (O (zf 31)) (O (al l)) (O (yV k (i:Int)))=.v (ar (D l[i]) 0) h:=
 np (e:=D l[i]) oa a (by simp[a]) (by rw[eD];rfl)
theorem R3(h:H)(e:zQ)(l:List zA):mX h (O (zf e)) (al l)=.v (yV zx (I l)) h:=rfl
theorem qE(t:zA):ah (D t)=[J t.w,J t.Q,zN t.F,aO t.H,al t.M]:=by rw[eD];rfl
def ao:Nat:=1099511627776
theorem dA(h:n<=ao):zx.wrap (n:Int)=n:=by unfold ao at h;simp[xQ,xJ,y9];omega
section
variable{ev:zC->ag}{t:zA}{i acc:Nat}{tm:Tr E}{h:H}(hb:h.b=0)(h0:ae h 0 (ad (ah (D t)) 31))
 (t1:aa tm 1 (pB 0))(t3:aa tm 3 (J acc))(t4:aa tm 4 (J i))
include hb h0 t1 t3 t4
theorem aoY(f:i<I t.M)(b:∀y,y∈t.M->∀h,ev (aj 43 [D y] h)=.r (J (zD y)) h U)(g:acc+zD t.M[i]<=ao)(c:i+1<=ao):
 ∃a,aF Z ev 43 ID tm h=.c .Nr ⟨a,[],h,U⟩/\aa a 1 (pB 0)/\aa a 3 (J (acc+zD t.M[i]:Nat))/\aa a 4 (J (i+1:Nat)):=by
 have d:=dA g;have e:=dA c;simp at d e;rw[qE]at h0;simp[ID,z,f43,t1,t3,t4,Tb,h0,hb,ob,ab5,R3,nu,TT.abe,f,b,d,e]
theorem arn(c:I t.M<=i):
 ∃a,aF Z ev 43 ID tm h=.c (.exit 0) ⟨a,[],h,U⟩/\aa a 3 (J acc):=by
 rw[qE]at h0;have b:¬i<I t.M:=by omega
 simp[ID,z,f43,t1,t3,t4,Tb,h0,hb,ob,R3,TT.abe,b]
end
theorem TT.aro:Z.f 43=O f43:=by kernel_rfl
theorem aam:aJ Z prog 43 (λt=>zD t<=ao) (λt=>[D t]) (λt=>J (zD t)):=by
 refine S9 zD λt A c h=>?_
 obtain⟨C,n,o⟩:∃C,aR Z prog C/\Has C 43 (λy=>zD y<zD t/\zD y<=ao) (λy=>[D y]) (λy=>J (zD y)):=
  ⟨_,aZ aW c,Has.Ad λx y e=>by simp at e;rw[cf e]⟩
 have f:1+bA t.M=zD t:=by cases t;rw[kU];rfl
 have p:=ag3 t;refine ox (v:=J (zD t)) (h1:=H.e.w (K (ah (D t)) 31 G)) tok C n (.Cs (bg t) .Nl) (I t.M+1) ?_ (.Pu (.Gd rfl)) h;refine dx TT.aro al7 rfl (vs:=[J (zD t)]) ?_;simp[z,f43];generalize q:aw Z _ _ (yb ID) _=X
 refine Exists.elim (al1 q 0
  (λj s=>∃i acc tm,j=I t.M-i/\s=⟨tm,[],H.e.w (K (ah (D t)) 31 G),U⟩/\acc+bA (t.M.drop i)=zD t/\i<=I t.M/\tm.g 1=O (zM (O ⟨0,0,U⟩))/\tm.g 3=O (J acc)/\tm.g 4=O (J i))
  (λa=>∃tm,a=.c (.exit 0) ⟨tm,[],H.e.w (K (ah (D t)) 31 G),U⟩/\tm.g 3=O (J (zD t)))
  (I t.M) ⟨0,1,_,rfl,rfl,by simpa using f,by omega,by simp,by simp,by simp⟩ (by omega) ?_) ?_
 .rintro j s m ⟨i,acc,tm,rfl,rfl,g,B,t1,t3,t4⟩-;by_cases d:i<I t.M
  .have F:bA (t.M.drop i)=zD t.M[i]+bA (t.M.drop (i+1)):=by rw[yK d,hG]
   let⟨b,e,r,u,w⟩:=aoY (ev:=af Z C m) (t:=t) (h:=H.e.w (K (ah (D t)) 31 G)) (by simp) (by simp) t1 t3 t4 d (λy l m=>o.ev _ ⟨mg l,by have:=mg l;omega⟩ m) (by omega) (by omega);exact zq ⟨_,_,e,by omega,i+1,acc+zD t.M[i],b,rfl,rfl,by omega,by omega,r,u,w⟩
  .let⟨b,e,k⟩:=arn (ev:=af Z C m) (t:=t) (h:=H.e.w (K (ah (D t)) 31 G)) (by simp) (by simp) t1 t3 t4 (by omega);refine zt ⟨_,_,e,by simp,b,rfl,?_⟩;rw[k];rw[yN (by omega)]at g;simp[bA]at g;rw[g]
 .rintro tm ⟨rfl,k⟩;simp[k]
end
end Go.Proofs.YtpeialehpoilbaaGreat
namespace Go.Am
section
variable{T:au}
namespace Sym
section
variable(h:H)(t:zQ)(x y:Operand)(a b:ByteArray)
@[simp] theorem aDU:fu T h .eql t x y (O (zN a)) (O (zN b))=.v (zP (a.toList==b.toList)) h:=by
  show jU h (dT T.prog (do xR .eql t x y (zN a) (zN b);wz .eql t (zN a) (zN b)))=_
  have:(do xR .eql t x y (zN a) (zN b);wz .eql t (zN a) (zN b):Sem E)=pure (zP (a.toList==b.toList)):=by simp[xR,wz,tZ]
  rw[this];rfl
@[simp] theorem aDV:fu T h .neq t x y (O (zN a)) (O (zN b))=.v (zP (!(a.toList==b.toList))) h:=by
  show jU h (dT T.prog (do xR .neq t x y (zN a) (zN b);wz .neq t (zN a) (zN b)))=_
  have:(do xR .neq t x y (zN a) (zN b);wz .neq t (zN a) (zN b):Sem E)=pure (zP (!(a.toList==b.toList))):=by simp[xR,wz,tZ]
  rw[this];rfl
end
end Sym
end
end Go.Am
namespace Go.Proofs.YtpeialehpoilbaaGreat
section
open Go.Am Go.Proofs Go.Am.Sym Go.Am.Eu
@[simp] theorem TT.u24:Z.u 29=O (zf 31):=by kernel_rfl
@[simp] theorem TT.u23:Z.u 28=O (zf 63):=by kernel_rfl
@[simp] theorem TT.u84:Z.u 61=O (zf 96):=by kernel_rfl
@[simp] theorem TT.u22:Z.u 24=O (zf 9):=by kernel_rfl
@[simp] theorem TT.u9:Z.u 9=O .string:=by kernel_rfl
def avF:Am.zK Z 3=O G:=by kernel_rfl
def avG:Am.zK Z 4=O G:=by kernel_rfl
def avH:Am.zK Z 9=O G:=by kernel_rfl
def atA:Am.zK Z 24=O G:=by kernel_rfl
def atB:Am.zK Z 28=O G:=by kernel_rfl
def atC:Am.zK Z 61=O G:=by kernel_rfl
def OW:Am.zK Z 63=O Y:=by kernel_rfl
def arp:Am.zK Z 96=O Y:=by kernel_rfl
def AZ:Am.zI Z 63=O 2:=by kernel_rfl
def UZ:Am.zI Z 96=O 2:=by kernel_rfl
def s9:Am.zI Z 9=O 1:=by kernel_rfl
def p3(c:List E)(a:Nat):zE Z 3 c a=c[a]?:=dK avF c a
def p4(c:List E)(a:Nat):zE Z 4 c a=c[a]?:=dK avG c a
def p9:zE Z 9 l n=l[n]?:=dK avH l n
def mG(c:List E)(a:Nat):zE Z 24 c a=c[a]?:=dK atA c a
def VY(c:List E)(a:Nat):zE Z 28 c a=c[a]?:=dK atB c a
def p84:zE Z 61 l n=l[n]?:=dK atC l n
def VZ{b:E}:zE Z 63 [v,b] 0=O (aAg [v,b]):=by rw[fV OW AZ];rfl
@[simp] theorem aF6(x:aB):zE Z 63 (ah (aT x)) 0=O (aT x):=by rw[fV OW AZ];rfl
@[simp] theorem aC8(x:ga):zE Z 96 (ah (cW x)) 0=O (cW x):=by rw[fV arp UZ];rfl
section
variable(h:H)(b o:Nat)(e:E)
@[simp] theorem aF7:aX Z h 31 0 (O (zM (O ⟨b,o,U⟩)))=.v (zM (O ⟨b,o+0,U⟩)) h:=by kernel_rfl
@[simp] theorem aF8:aX Z h 31 1 (O (zM (O ⟨b,o,U⟩)))=.v (zM (O ⟨b,o+1,U⟩)) h:=by kernel_rfl
@[simp] theorem aF9:aX Z h 31 2 (O (zM (O ⟨b,o,U⟩)))=.v (zM (O ⟨b,o+2,U⟩)) h:=by kernel_rfl
@[simp] theorem aGa:aX Z h 31 3 (O (zM (O ⟨b,o,U⟩)))=.v (zM (O ⟨b,o+3,U⟩)) h:=by kernel_rfl
@[simp] theorem aGb:aX Z h 63 0 (O (zM (O ⟨b,o,U⟩)))=.v (zM (O ⟨b,o+0,U⟩)) h:=by kernel_rfl
@[simp] theorem aGc:aX Z h 63 1 (O (zM (O ⟨b,o,U⟩)))=.v (zM (O ⟨b,o+1,U⟩)) h:=by kernel_rfl
@[simp] theorem aDW:aX Z h 96 0 (O (zM (O ⟨b,o,U⟩)))=.v (zM (O ⟨b,o+0,U⟩)) h:=by kernel_rfl
@[simp] theorem aDX:aX Z h 96 1 (O (zM (O ⟨b,o,U⟩)))=.v (zM (O ⟨b,o+1,U⟩)) h:=by kernel_rfl
@[simp] theorem aDY:aX Z h 96 0 (O (ar e o))=.v (ar e (o+0)) h:=by kernel_rfl
@[simp] theorem aDZ:aX Z h 96 1 (O (ar e o))=.v (ar e (o+1)) h:=by kernel_rfl
end
@[simp] theorem ajH{h:H}{l:List ga}{k:yq}(a:i<I l):dI Z h (O (zf 96)) (O (fq l)) (O (yV k (i:Int)))=.v (ar (cW l[i]) 0) h:=
  np (e:=cW l[i]) UZ a (by simp[a]) rfl
@[simp] theorem aan{h:H}{l:List aB}{k:yq}(a:i<I l):dI Z h (O (zf 63)) (O (aO l)) (O (yV k (i:Int)))=.v (ar (aT l[i]) 0) h:=
  np (e:=aT l[i]) AZ a (by simp[a]) rfl
@[simp] theorem al8{h:H}{l:List ByteArray}{k:yq}(a:i<I l):dI Z h (O (zf 9)) (O (bL l)) (O (yV k (i:Int)))=.v (ar (zN l[i]) 0) h:=
  np (e:=zN l[i]) s9 a (by simp[a]) rfl
@[simp] theorem aC9{h:H}{e:zQ}{l:List ga}:mX h (O (zf e)) (fq l)=.v (yV zx (I l)) h:=rfl
@[simp] theorem aD0{h:H}{e:zQ}{l:List aB}:mX h (O (zf e)) (aO l)=.v (yV zx (I l)) h:=rfl
@[simp] theorem aD1{h:H}{e:zQ}{l:List ByteArray}:mX h (O (zf e)) (bL l)=.v (yV zx (I l)) h:=rfl
@[simp] theorem aDa{h:H}{e:E}:loadAt Z h t (ar e n)=gk h (zE Z t (ah e) n):=rfl
@[simp] theorem aDb:ah (aAg l)=l:=rfl
@[simp] theorem aD2{h:H}{b:Nat}(x:ga):zG Z h 96 (cW x) (pB b)=ml h b 0 (ah (cW x)) (h.g b):=by show bN U (ml h b 0 (ah (cW x)) (h.g b)) (fits (ah (cW x)) (Am.zI Z 96))=_;rw[UZ];rfl
@[simp] theorem aGd{h:H}{b:Nat}{t:zA}:zG Z h 31 (D t) (pB b)=ml h b 0 (ah (D t)) (h.g b):=by show bN U (ml h b 0 (ah (D t)) (h.g b)) (fits (ah (D t)) (Am.zI Z 31))=_;rw[oa,qE];rfl
@[simp] theorem aBo{h:H}{b:Nat}(x:ga){e:zQ}{g:Bool}:ml h b 0 (ah (cW x)) (O (K [v,N] e g))=O (h.p b (K (ah (cW x)) e g)):=rfl
@[simp] theorem X5(h:H)(b:Nat)(t:zA)(u v w x y:E)(e:zQ)(g:Bool):ml h b 0 (ah (D t)) (O (K [u,v,w,x,y] e g))=O (h.p b (K (ah (D t)) e g)):=by rw[qE];rfl
@[simp] theorem aCh{h:H}{b:Nat}{t s:zA}{e:zQ}{g:Bool}:ml h b 0 (ah (D t)) (O (K (ah (D s)) e g))=O (h.p b (K (ah (D t)) e g)):=by rw[qE s,X5]
@[simp] theorem aD3(x:ga):zE Z 3 (ah (cW x)) 0=O (J x.index):=by rw[p3];rfl
@[simp] theorem aD4(x:ga):zE Z 3 (ah (cW x)) 1=O (J x.plus):=by rw[p3];rfl
@[simp] theorem aGe(x:aB):zE Z 3 (ah (aT x)) 0=O (J x.c):=by rw[p3];rfl
@[simp] theorem aD5(x:aB):zE Z 61 (ah (aT x)) 1=O (fq x.v):=by rw[p84];rfl
@[simp] theorem aHH{t:zA}:zE Z 3 (ah (D t)) 0=O (J t.w):=by rw[p3,qE];rfl
@[simp] theorem aHI{t:zA}:zE Z 3 (ah (D t)) 1=O (J t.Q):=by rw[p3,qE];rfl
@[simp] theorem aHJ{t:zA}:zE Z 9 (ah (D t)) 2=O (zN t.F):=by rw[p9,qE];rfl
@[simp] theorem aGf{t:zA}:zE Z 28 (ah (D t)) 3=O (aO t.H):=by rw[VY,qE];rfl
@[simp] theorem aGg{t:zA}:zE Z 29 (ah (D t)) 4=O (al t.M):=by rw[ob,qE];rfl
@[simp] theorem aHK{x:ByteArray}:zE Z 9 (ah (zN x)) 0=O (zN x):=by rw[p9];rfl
@[simp] theorem z26:zero Z 31=O (aAg [J 0,J 0,zN ⟨#[]⟩,zL U 0 0,zL U 0 0]):=by kernel_rfl
@[simp] theorem aIF:zero Z 96=O (aAg [J 0,J 0]):=by kernel_rfl
@[simp] theorem aIG{h:H}{x y:Operand}{a b:Bool}:fu Z h .eql 4 x y (O (zP a)) (O (zP b))=.v (zP (a==b)) h:=by kernel_rfl
@[simp] theorem avI{h:H}{b:Int}:qt Z h #[3,3] 3 [J c,J b] .max=.of (.v (J (if c<b then b else c)) h):=by kernel_rfl
def aoZ:Z.prog.underlying 9=O .string:=by kernel_rfl
attribute [simp] Tb ab5 nu R3
end
end Go.Proofs.YtpeialehpoilbaaGreat
namespace Go.Am
section
variable{T:au}{P:Program}
def ku(d:bM T P){l:Func}{args:List E}(C:aV)(o:aR T P C)(p:bX args)(r:bH v)(n:Nat)(s:T.f f=O l)(u:l.body=O x)
 (j:l.results.toList=[.tmp k])(a:aD (λb _=>b.g k=O v) (λb _=>b.g k=O v) (λ_ _ _=>False) (aw T (af T C (n+1)) ⟨f,U⟩ x ⟨bF args 0 .Nl,[],H.e,U⟩)):
 ∀h,bP T P (zU (za f) #[] #[]) args h U (.r v h U):=by
 intro h;rcases a.cases with⟨b,m,e,q⟩|⟨b,m,e,q⟩|⟨i,b,m,e,q⟩
 .exact ox d C o p (n+1) (dx s u j (vs:=[v]) (h2:=m) (by rw[e];simp[q])) (.Pu r) h
 .exact ox d C o p (n+1) (dx s u j (vs:=[v]) (h2:=m) (by rw[e];simp[q])) (.Pu r) h
 .cases q
def Td{a:A->E}(b:A->Nat)(step:∀x,L x->aJ T P f (λy=>b y<b x/\L y) R a->∀h,bP T P (zU (za f) #[] #[]) (R x) h U (.r (a x) h U)):
 aJ T P f L R a:=S9 b step
namespace Sym
@[simp] theorem bytes_beq(a b:ByteArray):(a.toList==b.toList)=yF (a=b):=by
  rw[vI,vI];by_cases h:a=b
  .subst h;simp
  .have:¬a.data.toList=b.data.toList:=λe=>h (by cases a;cases b;exact congrArg ByteArray.mk (Array.toList_inj.1 e))
   rw[decide_eq_false h];simpa using this
@[simp] theorem aAZ{a:ByteArray}:a.toList.isEmpty=yF (a=⟨#[]⟩):=by
  rw[<-bytes_beq];have:(⟨#[]⟩:ByteArray).toList=[]:=by rw[vI]
  rw[this];cases a.toList<;>rfl
@[simp] theorem aBp:qJ b (O undef)=O G:=rfl
def ah7(h:H)(t:zQ)(s:ByteArray)(k:yq)(i:Nat)(c:i<s.size)(d:T.prog.underlying t=O .string):indexOf T h t (O .string) (O (zN s)) (O (yV k i))=.v (yV .u8 ((s[i]'c).toNat:Int)) h:=by
 show jU h (dT T.prog (u5 t (zN s) (yV k i)))=_
 have e:dT T.prog (u5 t (zN s) (yV k i))=O (yV .u8 (s[i]'c).toNat):=by have g:∀{b j:Type}(m:Sem b)(f:b->Sem j),(m>>=f)=tR m f:=λ_ _=>rfl;have l:∀{b:Type}(a:b),(pure a:Sem b)=tT a:=λ_=>rfl;have n:∀{b:Type}(a:b),dT T.prog (tT a)=O a:=λ_=>rfl;have o:∀{b:Type}(f:Program->Sem b),dT T.prog (Sem.program f)=dT T.prog (f T.prog):=λ_=>rfl;simp[u5,g,l,underlying,program,asIntOf,tR,n,o,d,c]
 rw[e];rfl
end Sym
end
end Go.Am
namespace Go.Proofs.YtpeialehpoilbaaGreat
section
open Go.Am Go.Proofs Go.Am.Sym Go.Am.Eu
def F88:Z.f 88=O f88:=by kernel_rfl
def F87:Z.f 87=O f87:=by kernel_rfl
def F65:Z.f 65=O f65:=by kernel_rfl
def ajI:aJ Z prog 88 (λ_=>True) (λc=>[yV .u8 c]) (λc=>zP (Ew c)):=by refine λc _=>ku tok cg aW dF bJ 1 F88 rfl rfl ?_;simp+contextual [Ew];rcases Decidable.em (97<=c)with a|a<;>rcases Decidable.em (c<=122)with b|b<;>rcases Decidable.em (65<=c)with d|d<;>rcases Decidable.em (c<=90)with e|e<;>rcases Decidable.em (c=95)with f|f<;>simp[a,b,d,e,f]
def ao0:aJ Z prog 87 (λ_=>True) (λk=>[J k]) (λk=>J (mZ k:Nat)):=by refine λk _=>ku tok cg aW dF bJ 1 F87 rfl rfl ?_;simp+contextual [an];repeat' (first|omega|split|simp+contextual [an,mZ, *])
def al9:aJ Z prog 65 (λ_=>True) (λx:Int×Nat=>[J x.1,J (x.2:Nat)]) (λx=>J (mn x.1 x.2:Nat)):=by
 refine λ⟨k,i⟩ _=>ku tok cg aW pZ bJ 1 F65 rfl rfl ?_;have a:((i:Int)=1)=(i=1):=by apply propext;omega
 have b:((i:Int)=2)=(i=2):=by apply propext;omega
 simp+contextual [an,a,b];repeat' (first|omega|split|simp+contextual [mn, *])
end
section
open Go.Am Go.Proofs Go.Am.Sym Go.Am.Eu
@[simp] theorem TT.u31:Z.u 43=O (zf 42):=by kernel_rfl
@[simp] theorem TT.u32:Z.u 44=O (zf 73):=by kernel_rfl
@[simp] theorem TT.u33:Z.u 45=O (zf 70):=by kernel_rfl
def V0:Am.zI Z 42=O 12:=by kernel_rfl
def adK:Am.zI Z 73=O 12:=by kernel_rfl
def avJ:Am.zI Z 70=O 4:=by kernel_rfl
def V1:Am.zI Z 47=O 4:=by kernel_rfl
def atD:Am.zK Z 42=O Y:=by kernel_rfl
def arq:Am.zK Z 73=O Y:=by kernel_rfl
def ac1:Am.zK Z 47=O Y:=by kernel_rfl
def atE:Am.zK Z 43=O G:=by kernel_rfl
def atF:Am.zK Z 44=O G:=by kernel_rfl
def atG:Am.zK Z 45=O G:=by kernel_rfl
def p31:zE Z 43 l n=l[n]?:=dK atE l n
def p32:zE Z 44 l n=l[n]?:=dK atF l n
def p33:zE Z 45 l n=l[n]?:=dK atG l n
section
variable(h:H)(b o:Nat)(e:E)
@[simp] theorem aGi:aX Z h 47 0 (O (zM (O ⟨b,o,U⟩)))=.v (zM (O ⟨b,o+0,U⟩)) h:=by kernel_rfl
@[simp] theorem aGj:aX Z h 47 1 (O (zM (O ⟨b,o,U⟩)))=.v (zM (O ⟨b,o+1,U⟩)) h:=by kernel_rfl
@[simp] theorem aGl:aX Z h 47 2 (O (zM (O ⟨b,o,U⟩)))=.v (zM (O ⟨b,o+2,U⟩)) h:=by kernel_rfl
@[simp] theorem aGm:aX Z h 47 3 (O (zM (O ⟨b,o,U⟩)))=.v (zM (O ⟨b,o+3,U⟩)) h:=by kernel_rfl
@[simp] theorem aGn:aX Z h 42 0 (O (zM (O ⟨b,o,U⟩)))=.v (zM (O ⟨b,o+0,U⟩)) h:=by kernel_rfl
@[simp] theorem aGo:aX Z h 42 1 (O (zM (O ⟨b,o,U⟩)))=.v (zM (O ⟨b,o+5,U⟩)) h:=by kernel_rfl
@[simp] theorem aGp:aX Z h 42 2 (O (zM (O ⟨b,o,U⟩)))=.v (zM (O ⟨b,o+6,U⟩)) h:=by kernel_rfl
@[simp] theorem aGq:aX Z h 42 3 (O (zM (O ⟨b,o,U⟩)))=.v (zM (O ⟨b,o+11,U⟩)) h:=by kernel_rfl
@[simp] theorem aD6:aX Z h 73 0 (O (zM (O ⟨b,o,U⟩)))=.v (zM (O ⟨b,o+0,U⟩)) h:=by kernel_rfl
@[simp] theorem aD7:aX Z h 73 1 (O (zM (O ⟨b,o,U⟩)))=.v (zM (O ⟨b,o+1,U⟩)) h:=by kernel_rfl
@[simp] theorem aD8:aX Z h 73 2 (O (zM (O ⟨b,o,U⟩)))=.v (zM (O ⟨b,o+6,U⟩)) h:=by kernel_rfl
@[simp] theorem aD9:aX Z h 73 3 (O (zM (O ⟨b,o,U⟩)))=.v (zM (O ⟨b,o+11,U⟩)) h:=by kernel_rfl
@[simp] theorem aEa:aX Z h 70 0 (O (ar e o))=.v (ar e (o+0)) h:=by kernel_rfl
@[simp] theorem aEb:aX Z h 70 1 (O (ar e o))=.v (ar e (o+2)) h:=by kernel_rfl
end
@[simp] theorem GV{h:H}{l:List Meta}{k:yq}(a:i<I l):dI Z h (O (zf 42)) (O (aC l)) (O (yV k (i:Int)))=.v (ar (fE l[i]) 0) h:=
  np (e:=fE l[i]) V0 a (by simp[a]) rfl
@[simp] theorem aEc{h:H}{l:List ir}{k:yq}(a:i<I l):dI Z h (O (zf 73)) (O (OU l)) (O (yV k (i:Int)))=.v (ar (dB l[i]) 0) h:=
  np (e:=dB l[i]) adK a (by simp[a]) rfl
@[simp] theorem aCi{h:H}{l:List ES}{k:yq}(a:i<I l):dI Z h (O (zf 70)) (O (NX l)) (O (yV k (i:Int)))=.v (ar (Kl l[i]) 0) h:=
  np (e:=Kl l[i]) avJ a (by simp[a]) rfl
@[simp] theorem aDc{h:H}{e:zQ}{l:List Meta}:mX h (O (zf e)) (aC l)=.v (yV zx (I l)) h:=rfl
@[simp] theorem aEd{h:H}{e:zQ}{l:List ir}:mX h (O (zf e)) (OU l)=.v (yV zx (I l)) h:=rfl
@[simp] theorem aCj{h:H}{e:zQ}{l:List ES}:mX h (O (zf e)) (NX l)=.v (yV zx (I l)) h:=rfl
@[simp] theorem aDd{h:H}{e:zQ}{l:List Dc}:mX h (O (zf e)) (ab3 l)=.v (yV zx (I l)) h:=rfl
def Kn(t:zA)(a b:List E):zE Z 31 (a++(tc t++b)) (I a)=O (D t):=by rw[fV KM oa,nw (by simp),eD];simp[HI]
@[simp] theorem aEe(x:Meta):zE Z 42 (ah (fE x)) 0=O (fE x):=by rw[fV atD V0];rfl
@[simp] theorem aDe(x:Meta):zE Z 31 (ah (fE x)) 0=O (D x.type):=Kn x.type [] _
@[simp] theorem aEf(x:Meta):zE Z 4 (ah (fE x)) 5=O (zP x.known):=by rw[p4];rfl
@[simp] theorem aDf(x:Meta):zE Z 31 (ah (fE x)) 6=O (D x.value):=Kn x.value (tc x.type++[zP x.known]) [zP x.e7]
@[simp] theorem aDg(x:Meta):zE Z 4 (ah (fE x)) 11=O (zP x.e7):=by rw[p4];rfl
@[simp] theorem aEg(x:ir):zE Z 73 (ah (dB x)) 0=O (dB x):=by rw[fV arq adK];rfl
@[simp] theorem aEh(x:ir):zE Z 29 (ah (dB x)) 0=O (al x.ctx):=by rw[ob];rfl
@[simp] theorem aEi(x:ir):zE Z 31 (ah (dB x)) 1=O (D x.left):=Kn x.left [al x.ctx] _
@[simp] theorem aEj(x:ir):zE Z 31 (ah (dB x)) 6=O (D x.right):=Kn x.right (al x.ctx::tc x.left) _
@[simp] theorem aEk(x:ir):zE Z 4 (ah (dB x)) 11=O (zP x.sub):=by rw[p4];rfl
@[simp] theorem aCl(x:ES):zE Z 63 (ah (Kl x)) 0=O (aT x.low):=by rw[fV OW AZ];rfl
@[simp] theorem aCm(x:ES):zE Z 63 (ah (Kl x)) 2=O (aT x.adI):=by rw[fV OW AZ];rfl
@[simp] theorem aEl(x:Dc):zE Z 3 (ah (OV x)) 0=O (J x.P8):=by rw[p3];rfl
@[simp] theorem aDh(x:Dc):zE Z 24 (ah (OV x)) 1=O (bL x.names):=by rw[mG];rfl
@[simp] theorem aDi(x:Dc):zE Z 29 (ah (OV x)) 2=O (al x.ctx):=by rw[ob];rfl
@[simp] theorem aCn(x:ET):zE Z 43 (ah (Km x)) 0=O (aC x.KL):=by rw[p31];rfl
@[simp] theorem aCo(x:ET):zE Z 44 (ah (Km x)) 1=O (OU x.adJ):=by rw[p32];rfl
@[simp] theorem aCp(x:ET):zE Z 45 (ah (Km x)) 2=O (NX x.bounds):=by rw[p33];rfl
@[simp] theorem aDj(x:ET):zE Z 3 (ah (Km x)) 3=O (J x.levels):=by rw[p3];rfl
@[simp] theorem aCq(x:OT):zE Z 24 (ah (ab4 x)) 0=O (bL x.levels):=by rw[mG];rfl
@[simp] theorem aCr(x:OT):zE Z 47 (ah (ab4 x)) 1=O (Km x.store):=by rw[fV ac1 V1];rfl
end
end Go.Proofs.YtpeialehpoilbaaGreat
namespace Go.Am.Eu
section
open Go.Am
def up(k:Nat)(h:H)(b:Nat):Option ai:=if k<=b/\b<h.n then h.g b else U
def abf{o:ai}(q:up k h n=O o):k<=n/\n<h.n/\ae h n o:=by
 unfold up at q;split at q
 .rename_i c;exact⟨c.1,c.2,q⟩
 .cases q
def ac2(q:k<=n)(a:n<h.n):up k h n=h.g n:=if_pos ⟨q,a⟩
def atH(e:h.n<=g.n)(c:∀b,k<=b->b<h.n->g.g b=h.g b)(b:Nat)(o:ai)(q:up k h b=O o):up k g b=O o:=by let⟨a,d,q3⟩:=abf q;rw[ac2 a (by omega),c b a d];exact q3
mutual
theorem Zq{g g':Nat->Option ai}(hg:∀b o,g b=O o->g' b=O o):∀{v d:E},ej g v d->ej g' v d
 |_,_,.Pu h=>.Pu h
 |_,_,.agg h=>.agg (JI hg h)
 |_,_,.tuple h=>.tuple (JI hg h)
 |_,_,.iface t h=>.iface t (Zq hg h)
 |_,_,.cP=>.cP
 |_,_,.slice h1 ho hs hl hc h=>.slice (hg _ _ h1) ho hs hl hc (JI hg h)
theorem JI{g g':Nat->Option ai}(hg:∀b o,g b=O o->g' b=O o):∀{l d:List E},eV g l d->eV g' l d
 |_,_,.Nl=>.Nl
 |_,_,.Cs h hl=>.Cs (Zq hg h) (JI hg hl)
end
structure TC(g:Nat->Option ai)(c:List E)(t:zA):Prop where
 len:I c=5
 one:da c=Y
 lZ:eV g c (tc t)
def TC.mono{g :Nat->Option ai}{c:List E}{t:zA}(a:TC g c t)(d:∀b o,g b=O o->B b=O o):TC B c t:=⟨a.len,a.one,JI d a.lZ⟩
def EE(t:zA):da (tc t)=Y:=rfl
def TC.data(g:Nat->Option ai)(t:zA):TC g (tc t) t:=⟨rfl,rfl,eV.pure (ow t)⟩
def TC.tv(g:Nat->Option ai)(t:zA):TC g (ah (D t)) t:=by rw[dP];exact .data g t
def TC.val{c:List E}{t:zA}(a:TC B c t):ej B (aAg c) (D t):=by rw[eD];exact .agg a.lZ
def adL(h:I l=5):∃a b d e f,l=[a,b,d,e,f]:=by
 match l,h with
 |[a,b,d,e,f],_=>exact⟨a,b,d,e,f,rfl⟩
def TC.node{n:ByteArray}{b:List aB}{d:List zA}(h:da [N]=Y)(j:da [v]=Y)(l:ej B N (aO b))(m:ej B v (al d)):
 TC B [J c,J e,zN n,N,v] (.mk c e n b d):=by
 refine⟨rfl,?_,.Cs (.Pu (.Gd rfl)) (.Cs (.Pu (.Gd rfl)) (.Cs (.Pu (.Gd rfl)) (.Cs l (.Cs m .Nl))))⟩;rw[Ca.qm];intro a f;simp at f;rcases f with rfl|rfl|rfl|rfl|rfl
 .rfl
 .rfl
 .rfl
 .exact h
 .exact j
def R4{gr:Bool}{e:zQ}{cs:List (List E)}{a:List zA}(j:B k=O (K cs.flatten e gr))(d:I cs=I a)(f:n=I a)(l:n<=m)(h:∀(i:Nat) x t,cs[i]?=O x->a[i]?=O t->TC B x t):
 ej B (zL (pO k) n m) (al a):=by
 unfold al;rw[<-f];refine .slice (pre:=[]) (post:=[]) (es:=cs.map λx=>aAg x) (sz:=5) (e:=e) (gr:=gr) ?_ rfl (λx o=>?_) (by simp[d,f]) l ?_
 .rw[j];congr 2;simp[List.flatMap_map,ah]
 .obtain⟨y,p,rfl⟩:=List.mem_map.1 o;obtain⟨i,q,rfl⟩:=yk.1 p;exact(h i _ _ (zm q) (zm (by omega))).len
 .clear j f l;induction cs generalizing a with
  |nil=>cases a with
   |nil=>exact .Nl
   |cons _ _=>simp at d
  |cons x cs r=>cases a with
   |nil=>simp at d
   |cons t a=>
    refine .Cs ?_ (r (by simpa using d) λi x t s u=>h (i+1) x t (by simpa using s) (by simpa using u));rw[eD];exact .agg (h 0 x t rfl rfl).lZ
end
end Go.Am.Eu
namespace Go.Proofs.YtpeialehpoilbaaGreat
section
open Go.Am Go.Proofs Go.Am.Sym Go.Am.Eu
def mH:El Z 31 D 5:=⟨by omega,by kernel_rfl,by kernel_rfl,λx=>by rw[dP];rfl,λx=>by rw[dP];rfl⟩
def DD:El Z 9 zN 1:=⟨by omega,by kernel_rfl,by kernel_rfl,λ_=>rfl,λ_=>rfl⟩
def fh{c:List E}(h:I c=5):zE Z 31 c 0=O (aAg c):=by rw[fV KM oa,nw (by omega),yY,yI (by omega)];rfl
def fp{b:Nat}{c c0:List E}{g:Bool}(a:I c=5)(d:da c=Y)(f:ae h b (K c0 t g))(i:I c0=5):
 zG Z h 31 (aAg c) (pB b)=O (h.p b (K c t g)):=by
 have:=dY (v:=aAg c) (n:=5) (off:=0) oa a d f (by omega);rw[this];congr 2;simp[ah,i]
def ao1(h:H)(a b c d e f g i j k:E):iQ Z h 2 (O (zf 31)) (O [(0,aAg [a,b,c,d,e]),(1,aAg [f,g,i,j,k])])=.v (zL (pO h.n) 2 2) (h.w (ad [a,b,c,d,e,f,g,i,j,k] 31)):=by kernel_rfl
def ama(h:H)(a b c d e:E):iQ Z h 1 (O (zf 31)) (O [(0,aAg [a,b,c,d,e])])=.v (zL (pO h.n) 1 1) (h.w (ad [a,b,c,d,e] 31)):=by kernel_rfl
def bs2(h:H)(g:I l=5)(i:I p=5):iQ Z h 2 (O (zf 31)) (O [(0,aAg l),(1,aAg p)])=.v (zL (pO h.n) 2 2) (h.w (ad [l,p].flatten 31)):=by obtain⟨a,b,d,e,f,rfl⟩:=adL g;obtain⟨j,k,m,n,o,rfl⟩:=adL i;exact ao1 ..
def avK(h:H)(a:v=aAg l)(b:N=aAg p)(d:I l=5)(e:I p=5):iQ Z h 2 (O (zf 31)) (O [(0,v),(1,N)])=.v (zL (pO h.n) 2 2) (h.w (ad [l,p].flatten 31)):=by rw[a,b];exact bs2 h d e
def arr(t:zA):D t=yu ⟨tc t⟩:=eD t
def atI(h:H)(k:Int)(b n c:Nat):eK Z h 31 (O (aAg [J 0,J 0,zN ⟨#[]⟩,zL U 0 0,zL U 0 0])) (O [(0,J k),(4,zL (pO b) n c)])=.v (aAg [J k,J 0,zN ⟨#[]⟩,zL U 0 0,zL (pO b) n c]) h:=by kernel_rfl
def amb{b:Nat}{k:Int}{b' :Nat}{g:Bool}(a:ae h b (K l t g))(c:I l=5):
 zG Z h 31 (aAg [J k,J 0,zN ⟨#[]⟩,zL U 0 0,zL (pO b') n m]) (pB b)=O (h.p b (K [J k,J 0,zN ⟨#[]⟩,zL U 0 0,zL (pO b') n m] t g)):=
 fp rfl rfl a c
end
end Go.Proofs.YtpeialehpoilbaaGreat
namespace Go.Am.Eu
def cF:zA->List zA->zA
 |f,[]=>f
 |f,a::l=>cF (.mk 4 0 ⟨#[]⟩ [] [f,a]) l
def ag5{f:zA}{l:List zA}:∀{i:Nat},(b:i<I l)->cF f (l.take (i+1))=.mk 4 0 ⟨#[]⟩ [] [cF f (l.take i),l[i]]:=by
 induction l generalizing f with
 |nil=>intro i b;simp at b
 |cons a l c=>
  intro i b;cases i with
  |zero=>simp[cF]
  |succ i=>simp at b;simp[cF,c b]
end Go.Am.Eu
namespace Go.Proofs.YtpeialehpoilbaaGreat
section
open Go.Am Go.Proofs Go.Am.Sym Go.Am.Eu
abbrev z5:List E:=[J 0,J 0,zN ⟨#[]⟩,zL U 0 0,zL U 0 0]
def F79:Z.f 79=O f79:=by kernel_rfl
def H3:yG:=z f79 [Y,G,Y,G,G]
def ajJ:f79.body=O (zS (z f79 pF0) (zS (zS (z f79 [Y,G,G]) (zv 0 (yb H3))) (z f79 pT2))):=rfl
structure Fj(f:zA)(l:List zA)(i:Nat)(tm:Tr E)(h:H):Prop where
 base:h.b=0
 next:2<=h.n
 cell:∃c,ae h 0 (ad c 31)/\TC (up 2 h) c (cF f (l.take i))
 out:∃c,ae h 1 (ad c 31)/\I c=5
 t2:aa tm 2 (pB 0)
 t4:aa tm 4 (pB 1)
 t7:aa tm 7 (al l)
 t8:aa tm 8 (J (I l:Nat))
 t9:aa tm 9 (J i)
section
variable{ev:zC->ag}{f:zA}{l:List zA}{i:Nat}{tm:Tr E}{h:H}
def amc(A:Fj f l i tm h)(u:i<I l)(o:i+1<=ao):
 aD (λp a=>Fj f l (i+1) p a) ap bE (aF Z ev 79 H3 tm h):=by
 let⟨v,hn,⟨c,B,w⟩,⟨c1,r,C⟩,t2,t4,t7,t8,t9⟩:=A;have y:=dA o;simp at y;have F:¬0=h.n:=by omega
 have L:¬1=h.n:=by omega
 have T:¬0=h.n+1:=by omega
 have V:¬1=h.n+1:=by omega
 have s:=w.len;have M:∀a,iQ Z a 2 (O (zf 31)) (O [(0,aAg c),(1,D l[i])])=.v (zL (pO a.n) 2 2) (a.w (ad [c,tc l[i]].flatten 31)):=λa=>avK a rfl (arr _) s rfl;have N:=λa b'(q:H.g a 0=O (ad c 31))=>amb (h:=a) (b:=0) (k:=4) (b':=b') (n:=2) (m:=2) q s;simp+contextual [H3,z,ak,sub,f79,t2,t7,t8,t9,u,v,B,y,an,F,fh s,M,atI,N];have P:¬h.n=0:=by omega
 refine⟨by simp[v],by simp,⟨_,by simp;rfl,?_⟩,⟨c1,by simp[L,P,r],C⟩,by simp[t2],by simp[t4],by simp[t7],by simp[t8],by simp⟩;rw[ag5 u];refine TC.node rfl rfl .cP (R4 (cs:=[c,tc l[i]]) (gr:=G) (e:=31) ?_ rfl rfl (zR _) ?_)
 .rw[ac2 (by omega) (by simp)];simp
 .intro j x t d g
  match j with
  |0=>
   simp at d g;subst d;subst g;refine w.mono (atH (by simp;omega) λb W X=>?_);have Q:¬b=0:=by omega
   have R:¬b=h.n:=by omega
   have S:¬b=h.n+1:=by omega
   simp[Q,R,S]
  |1=>simp at d g;subst d;subst g;exact TC.data _ _
  |j+2=>simp at d
def ao2(c:Fj f l i tm h)(m:I l<=i):
 aD ap ap (λj a d=>j=0/\Fj f l i a d) (aF Z ev 79 H3 tm h):=by
 let⟨e,hn,g,k,t2,t4,t7,t8,t9⟩:=c;have b:¬i<I l:=by omega
 simp+contextual [H3,z,ak,sub,f79,t8,t9,b,an];exact⟨e,hn,g,k,by simp[t2],by simp[t4],by simp[t7],by simp[t8],by simp[t9]⟩
end
def J4:aJ Z prog 79 (λx:zA×List zA=>I x.2<ao) (λx=>[D x.1,al x.2]) (λx=>D (cF x.1 x.2)):=by
 rintro⟨f,l⟩ y h;have y:I l<ao:=y
 have s:∃v d,cB Z (af Z cg (I l+1+1)) 79 [D f,al l] H.e U (Z.f 79)=.r v d U/\ej d.g v (D (cF f l)):=by
  have code:aD (λ_ _=>False) (λtm h=>∃c,tm.g 4=O (zM (O ⟨1,0,U⟩))/\h.g 1=O (K c 31 G)/\h.b=0/\TC h.g c (cF f l)) (λ_ _ _=>False)
   (aw Z (af Z cg (I l+1+1)) ⟨79,U⟩ (zS (z f79 pF0) (zS (zS (z f79 [Y,G,G]) (zv 0 (yb H3))) (z f79 pT2))) ⟨bF [D f,al l] 0 .Nl,[],H.e,U⟩):=by
   refine aS (N':=λtm h=>h.b=0/\h.n=2/\h.g 0=O (K (ah (D f)) 31 G)/\h.g 1=O (K z5 31 G)/\tm.g 1=O (al l)/\tm.g 2=O (zM (O ⟨0,0,U⟩))/\tm.g 4=O (zM (O ⟨1,0,U⟩)))
    (by simp[z,f79]) λtm h⟨k,A,n,B,C,t,p⟩=>?_
   refine aS (N':=λtm h=>Fj f l (I l) tm h) (aS (N':=λtm h=>Fj f l 0 tm h) ?_ λtm h g=>?_) λtm h g=>?_
   .simp[z,f79,C];exact⟨k,by omega,⟨_,n,TC.tv _ _⟩,⟨_,B,rfl⟩,by simp[t],by simp[p],by simp,by simp,by simp⟩
   .refine fU 0 (λj tm h=>∃i,j=I l-i/\i<=I l/\Fj f l i tm h) (I l) ⟨0,by omega,by omega,g⟩ (by omega) ?_;rintro j tm h m ⟨i,rfl,Q,g⟩-;by_cases r:i<I l
    .exact(amc g r (by omega)).Mo (λF u q=>⟨_,by omega,i+1,rfl,r,q⟩) (λ_ _ q=>q.elim) (λ_ _ _ q=>q.elim)
    .exact(ao2 g (by omega)).Mo (λ_ _ q=>q.elim) (λ_ _ q=>q.elim) (λ_ _ _ q=>⟨q.1,by
      have:i=I l:=by omega
      subst this;exact q.2⟩)
   .let⟨k,A,⟨c,n,a⟩,⟨L,w,M⟩,t,p,t7,t8,t9⟩:=g;rw[List.take_length]at a;have N:=λu(q:H.g u 1=O (K L 31 G))=>fp (h:=u) (b:=1) a.len a.one q M;simp+contextual [z,ak,sub,f79,t,p,n,w,k,fh a.len,N];refine a.mono λb o q=>?_;let⟨R,S,q3⟩:=abf q;have P:¬b=1:=by omega
    simp[q3,P]
  rcases code.cases with⟨_,_,_,q⟩|⟨tm,d,e,c,p,n,k,a⟩|⟨_,_,_,_,q⟩
  .cases q
  .refine⟨aAg c,d,?_,a.val⟩;rw[dx (vs:=[aAg c]) (h2:=d) (ab:=U) F79 ajJ rfl (by rw[e];simp[f79,p,n,fh a.len,k])];rfl
  .cases q
 let⟨v,d,e,hd⟩:=s;exact ox tok cg aW (.Cs (bg f) (.Cs (fb l) .Nl)) (I l+2) e hd h
end
end Go.Proofs.YtpeialehpoilbaaGreat
namespace Go.Am
def CV(l:List A)(i:Nat)(L:List A):Prop:=I L=I l/\∀k,k<I l->L[k]?=if k<i\/I l-1-i<k then l[I l-1-k]? else l[k]?
theorem CV.zero(l:List A):CV l 0 l:=⟨rfl,λk a=>by rw[if_neg (by omega)]⟩
theorem CV.step{l L:List A}{i j:Nat}(a:CV l i L)(p:j=I l-1-i)(h:i<j)(e:i<I L)(b:j<I L):CV l (i+1) ((L.set i L[j]).set j L[i]):=by
 let⟨h1,d⟩:=a;refine⟨by simp[h1],λk m=>?_⟩;have n:L[i]?=l[i]?:=by rw[d i (by omega),if_neg (by omega)]
 have o:L[j]?=l[j]?:=by rw[d j (by omega),if_neg (by omega)]
 rw[tq,tq];by_cases f:j=k
 .subst f;rw[if_pos rfl,if_pos (by simpa using b),if_pos (by omega),<-zm e,n];congr 1;omega
 .rw[if_neg f];by_cases g:i=k
  .subst g;rw[if_pos rfl,if_pos e,if_pos (by omega),<-zm b,o];congr 1
  .rw[if_neg g,d k m];by_cases c:k<i\/I l-1-i<k
   .rw[if_pos c,if_pos (by omega)]
   .rw[if_neg c,if_neg (by omega)]
theorem CV.done{l L:List A}{i:Nat}(a:CV l i L)(h:I l<=2*i+1):L=l.reverse:=by
 let⟨h1,c⟩:=a;refine List.ext_getElem? λk=>?_;by_cases b:k<I l
 .rw[c k b,List.getElem?_reverse b];split
  .rfl
  .congr 1;omega
 .rw[vA.2 (by omega),vA.2 (by simp;omega)]
end Go.Am
namespace Go.Proofs.YtpeialehpoilbaaGreat
section
open Go.Am Go.Proofs Go.Am.Sym Go.Am.Eu
theorem F102:Z.f 102=O f102:=by kernel_rfl
def EU:yG:=z f102 [Y,G,G]
theorem YE:f102.body=O (zS (z f102 pF0) (zv 0 (yb EU))):=rfl
def bq:yG->Array Oper
 |.region _ a _=>a
 |_=> #[]
def KN:Array Oper:=bq (z f102 [Y,G,G,Y,G,G])
theorem ag6:EU=zS (z f102 [Y,G,G,G]) (zS (zv 1 (.region 3 KN Y)) (z f102 [Y,G,G,Y,Y])):=rfl
def EF:Tr Nat:=bj KN.toList 0 .Nl
theorem ajK:aN (aE EF 13) 7=Y:=by kernel_rfl
theorem ah8:aN (aE EF 13) 11=Y:=by kernel_rfl
theorem ajL:aN (aE EF 15) 7=Y:=by kernel_rfl
theorem ah9:aN (aE EF 15) 11=Y:=by kernel_rfl
theorem aia:aN (aE EF 15) 13=Y:=by kernel_rfl
theorem Ja{i j a b c d:Nat}(h:aN n j=Y):Am.apart n ⟨i,a,b⟩ ⟨j,c,d⟩=Y:=by unfold Am.apart;rw[h];rfl
theorem I5{x y:aG}{l:List aG}(a:Am.apart n x y=Y)(b:fe n x l=Y):fe n x (y::l)=Y:=by rw[x6,a,b];rfl
theorem Ha{h:H}{b a i:Nat}{k:yq}(c:i<a):dI Z h (O (zf 31)) (O (zL (pO b) a m)) (O (yV k (i:Int)))=.v (zM (O ⟨b,i*5,U⟩)) h:=by show Jd h ⟨b,0,U⟩ i a (Am.zI Z 31)=_;rw[oa];show cond (ze (Nat.succ i) a) (aK.v (zM (O ((⟨b,0,U⟩:Addr).add (i*5)))) h) .f=_;rw[zb c,kT,Nat.zero_add];rfl
theorem Te{l:List zA}{i:Nat}(a:i<I l):zE Z 31 (zF D l) (i*5)=O (D l[i]):=by
 have:i*5+5<=I (zF D l):=by rw[mH.ia];omega
 rw[fV KM oa,nw this,mH.aoT a,dP,eD];rfl
theorem Zr{h:H}{i:Nat}{l:List zA}{t:zA}{g:Bool}(hg:ae h k (K (zF D l) 31 g))(a:i<I l):
 zG Z h 31 (D t) (zM (O ⟨k,i*5,U⟩))=O (h.p k (K (zF D (l.set i t)) 31 g)):=by
 have:=dY (v:=D t) (n:=5) (off:=i*5) oa (mH.len t) (mH.one t) hg (by rw[mH.ia];omega);rw[this,mH.aai a]
section
variable{ev:zC->ag}{i j:Nat}{h:H}{L:List zA}{tm:Tr E}(hb:h.b=0)(cA:0<h.n)(hg:h.g 0=O (K (zF D L) 31 Y))
 (t0:tm.g 0=O (zL (O ⟨0,0,U⟩) (I L) (I L)))(t2:tm.g 2=O (J i))(t3:tm.g 3=O (J j))
include hb cA hg t0 t2 t3
theorem ajM(m:i<I L)(n:j<I L):
 aD (λf o=>o.b=0/\0<o.n/\o.g 0=O (K (zF D ((L.set i L[j]).set j L[i])) 31 Y)/\f.g 0=tm.g 0/\f.g 2=tm.g 2/\f.g 3=tm.g 3) (λ_ _=>False) (λ_ _ _=>False)
  (jN Z ev ⟨102,U⟩ KN Y ⟨tm,[],h,U⟩):=by
 rw[dJ];have g:=I5 (x:=⟨13,bit 0,bit 0⟩) (Ja (i:=13) (a:=bit 0) (b:=bit 0) (c:=bit 0) (d:=0) ah8) (I5 (Ja (i:=13) (a:=bit 0) (b:=bit 0) (c:=bit 0) (d:=0) ajK) (l:=[]) rfl);have k:=I5 (x:=⟨15,bit 0,bit 0⟩) (Ja (i:=15) (a:=bit 0) (b:=bit 0) (c:=bit 0) (d:=bit 0) aia) (I5 (Ja (i:=15) (a:=bit 0) (b:=bit 0) (c:=bit 0) (d:=0) ah9) (I5 (Ja (i:=15) (a:=bit 0) (b:=bit 0) (c:=bit 0) (d:=0) ajL) (l:=[]) rfl));have e:bj KN.toList 0 .Nl=EF:=rfl;rw[e];generalize EF=t at g k;have p:zG Z h.f 31 (D L[j]) (zM (O ⟨0,i*5,U⟩))=O (h.f.p 0 (K (zF D (L.set i L[j])) 31 Y)):=Zr (by simp;exact hg) m
 have q:zG Z (h.p 0 (K (zF D (L.set i L[j])) 31 Y)).f 31 (D L[i]) (zM (O ⟨0,j*5,U⟩))=O ((h.p 0 (K (zF D (L.set i L[j])) 31 Y)).f.p 0 (K (zF D ((L.set i L[j]).set j L[i])) 31 Y)):=
  Zr (by simp) (by simpa using n)
 have r:=Te m;have s:=Te n;generalize L[i]=x at*;generalize L[j]=y at*;generalize zF D ((L.set i y).set j x)=u at*;generalize zF D (L.set i y)=c1 at*;generalize zF D L=c at*;simp+contextual [KN,bq,z,ak,sub,f102,t0,t2,t3,hb,cA,hg,m,n,Ha,r,s,p,q,cV,g,k]
theorem ajN(f:i<j)(r:j<I L)(x:I L<=ao):
 aD (λa c=>c.b=0/\0<c.n/\c.g 0=O (K (zF D ((L.set i L[j]).set j (L[i]'(by omega)))) 31 Y)/\a.g 0=tm.g 0/\a.g 2=O (J (i+1:Nat))/\a.g 3=O (J (j-1:Nat))) (λ_ _=>False) (λ_ _ _=>False)
  (aw Z ev ⟨102,U⟩ EU ⟨tm,[],h,U⟩):=by
 rw[ag6];have g:=dA (n:=i+1) (by omega);have s:zx.wrap ((j:Int)-1)=(j-1:Nat):=by rw[<-dA (n:=j-1) (by omega)];congr 1;omega
 simp at g;refine aS (N':=λa c=>c=h/\a.g 0=tm.g 0/\a.g 2=tm.g 2/\a.g 3=tm.g 3) (by simp+contextual [z,ak,sub,f102,t0,t2,t3,f]) λa c⟨e,k,l,m⟩=>?_;subst e
 refine aS (N':=λb d=>d.b=0/\0<d.n/\d.g 0=O (K (zF D ((L.set i L[j]).set j (L[i]'(by omega)))) 31 Y)/\b.g 0=a.g 0/\b.g 2=a.g 2/\b.g 3=a.g 3) (by rw[hU];exact D8 ((ajM (tm:=a) hb cA hg (by rw[k,t0]) (by rw[l,t2]) (by rw[m,t3]) (by omega) r).Mo (λ_ _ q=>q) (λ_ _ q=>q) (λ_ _ _ q=>q.elim))) λb d⟨t,u,v,w,o,p⟩=>?_
 rw[l,t2]at o;rw[m,t3]at p;generalize zF D ((L.set i L[j]).set j (L[i]'(by omega)))=y at*;simp+contextual [z,ak,sub,f102,o,p,g,s];exact⟨t,u,v,by rw[w,k]⟩
end
theorem Zs{ev:zC->ag}{i:Nat}{h:H}{tm:Tr E}{j:Int}(t2:aa tm 2 (J i))(a:¬(i:Int)<j)(t3:aa tm 3 (J j)):
 aD ap ap (λk b c=>k=0/\c=h) (aF Z ev 102 EU tm h):=by
 simp+contextual [EU,z,ak,sub,f102,t2,t3,a]
theorem YF:AY Z prog 102 31 Y (λl:List zA=>I l<1073741824) (λb l=>[zL (O ⟨b,0,U⟩) (I l) (I l)]) (λl=>zF D l) (λl=>zF D l.reverse) (λ_=>.ret (.tuple #[])):=by
 intro l B h b hb;have B:I l<1073741824:=B;have M:zx.wrap ((I l:Int)-1)=(I l:Int)-1:=by simp[xQ,xJ,y9];omega
 have f:bX (zF D l):=bX.of λv p=>by let⟨x,_,g⟩:=sI.1 p;rw[dP]at g;exact(ow x).mem v g
 have d:bX (zF D l.reverse):=bX.of λv p=>by let⟨x,_,g⟩:=sI.1 p;rw[dP]at g;exact(ow x).mem v g
 have r:aD (λ_ a=>a.g 0=O (K (zF D l.reverse) 31 Y)) (λ_ _=>False) (λ_ _ _=>False)
  (aw Z (af Z cg (I l+1)) ⟨102,U⟩ (zS (z f102 pF0) (zv 0 (yb EU))) ⟨bF [zL (O ⟨0,0,U⟩) (I l) (I l)] 0 .Nl,[],H.e.w (K (zF D l) 31 Y),U⟩):=by
  generalize s:H.e.w (K (zF D l) 31 Y)=o;have t:o.b=0:=by rw[<-s];rfl
  have u:0<o.n:=by rw[<-s];simp
  have w:o.g 0=O (K (zF D l) 31 Y):=by rw[<-s];simp
  refine aS (N':=λc a=>a=o/\c.g 0=O (zL (O ⟨0,0,U⟩) (I l) (I l))/\c.g 2=O (J (0:Nat))/\c.g 3=O (J ((I l:Int)-1))) (by simp[z,f102,M]) λtm a⟨e,t0,t2,t3⟩=>?_;rw[e]
  refine fU 0 (λk tm a=>∃(i:Nat)(L:List zA),k=I l-i/\CV l i L/\a.b=0/\0<a.n/\a.g 0=O (K (zF D L) 31 Y)/\
   tm.g 0=O (zL (O ⟨0,0,U⟩) (I l) (I l))/\tm.g 2=O (J i)/\tm.g 3=O (J ((I l:Int)-1-i))) (I l) ⟨0,l,by omega,.zero l,t,u,w,t0,t2,by simpa using t3⟩ (by omega) ?_
  rintro k tm a m ⟨i,L,rfl,y,N,P,C,t0,t2,t3⟩-;have Q:=y.1;by_cases A:(i:Int)<(I l:Int)-1-i
  .have R:(I l:Int)-1-i=(I l-1-i:Nat):=by omega
   rw[R]at t3;have F:I l-1-i<I L:=by omega
   refine(ajN (i:=i) (j:=I l-1-i) N P C (by rw[Q];exact t0) t2 t3 (by omega) F (by unfold ao;omega)).Mo (λc h2 q=>?_) (λ_ _ q=>q.elim) (λ_ _ _ q=>q.elim);let⟨S,T,q3,q4,V,W⟩:=q;exact⟨I l-(i+1),by omega,i+1,_,rfl,y.step rfl (by omega) (by omega) F,S,T,q3,by rw[q4,t0],V,by rw[W];congr 2;omega⟩
  .exact(Zs t2 A t3).Mo (λ_ _ q=>q.elim) (λ_ _ q=>q.elim) (λ_ _ hz q=>⟨q.1,by rw[q.2,<-y.done (by omega)];exact C⟩)
 rcases r.cases with⟨tm,a,e,q⟩|⟨_,_,_,q⟩|⟨_,_,_,_,q⟩
 .have n:cB Z (af Z cg (I l+1)) 102 [zL (O ⟨0,0,U⟩) (I l) (I l)] (H.e.w (K (zF D l) 31 Y)) U (Z.f 102)=.r (aTu []) a U:=by rw[dx (vs:=[]) (h2:=a) (ab:=U) F102 YE rfl (by rw[e];simp[f102])];rfl
  exact RZ tok (pI tok aW (I l+1)) (.Cs (.slice 0 _ _) .nil) (λm X=>ajy m X) f n rfl q (DL.pure d) hb (.ret (.Tt .Nl))
 .cases q
 .cases q
end
end Go.Proofs.YtpeialehpoilbaaGreat
namespace Go.Am.Eu
def nQ:Nat->zA->List zA×zA
 |0,t=>([],t)
 |n+1,t=>match t.M with
  |[a,b]=>if t.w=6 then(a::(nQ n b).1,(nQ n b).2)else([],t)
  |_=>([],t)
def cQ(t:zA):List zA×zA:=nQ (zD t) t
def jb:Nat->zA->List zA×zA
 |0,t=>([],t)
 |n+1,t=>match t.M with
  |[a,b]=>if t.w=4 then(b::(jb n a).1,(jb n a).2)else([],t)
  |_=>([],t)
def aM(t:zA):zA:=(jb (zD t) t).2
def bt(t:zA):List zA:=(jb (zD t) t).1.reverse
def oQ{t a b:zA}(h:t.M=[a,b]):zD a+zD b+1=zD t:=by
 cases t with
 |mk k i n l c=>simp[zA.M]at h;subst h;simp[zD,bA];omega
def jx(t:zA):0<zD t:=by cases t;rw[kU];omega
def Zt:∀(n m:Nat)(t:zA),zD t<=n->zD t<=m->nQ n t=nQ m t
 |0,_,t,h,_=>by have:=jx t;omega
 |_,0,t,_,h=>by have:=jx t;omega
 |n+1,m+1,t,c,d=>by
  unfold nQ;split
  .rename_i a b e;have:=oQ e;have:=jx a;rw[Zt n m b (by omega) (by omega)]
  .rfl
def aao:∀(n m:Nat)(t:zA),zD t<=n->zD t<=m->jb n t=jb m t
 |0,_,t,h,_=>by have:=jx t;omega
 |_,0,t,_,h=>by have:=jx t;omega
 |n+1,m+1,t,c,d=>by
  unfold jb;split
  .rename_i a b e;have:=oQ e;have:=jx b;rw[aao n m a (by omega) (by omega)]
  .rfl
def Tf{t a b:zA}(c:t.w=6)(h:t.M=[a,b]):cQ t=(a::(cQ b).1,(cQ b).2):=by have e:=oQ h;have:=jx a;unfold cQ;obtain⟨n,d⟩:∃n,zD t=n+1:=⟨zD t-1,by omega⟩;rw[d,nQ,h];simp[c];rw[Zt n (zD b) b (by omega) (zR _)];exact⟨rfl,rfl⟩
def JJ{t:zA}(h:¬(t.w=6/\I t.M=2)):cQ t=([],t):=by
 unfold cQ;obtain⟨n,c⟩:∃n,zD t=n+1:=⟨zD t-1,by have:=jx t;omega⟩;rw[c,nQ];split
 .rename_i a b e;rw[if_neg (λq=>h ⟨q,by rw[e];rfl⟩)]
 .rfl
def Ko{t a b:zA}(c:t.w=4)(h:t.M=[a,b]):(jb (zD t) t)=(b::(jb (zD a) a).1,(jb (zD a) a).2):=by have e:=oQ h;have:=jx b;obtain⟨n,d⟩:∃n,zD t=n+1:=⟨zD t-1,by omega⟩;rw[d,jb,h];simp[c];rw[aao n (zD a) a (by omega) (zR _)];exact⟨rfl,rfl⟩
def J5{t:zA}(h:¬(t.w=4/\I t.M=2)):jb (zD t) t=([],t):=by
 obtain⟨n,c⟩:∃n,zD t=n+1:=⟨zD t-1,by have:=jx t;omega⟩;rw[c,jb];split
 .rename_i a b e;rw[if_neg (λq=>h ⟨q,by rw[e];rfl⟩)]
 .rfl
def Kq{l:List zA}(h:I l=2):∃a b,l=[a,b]:=by
 match l,h with
 |[a,b],_=>exact⟨a,b,rfl⟩
end Go.Am.Eu
namespace Go.Proofs.YtpeialehpoilbaaGreat
section
open Go.Am Go.Proofs Go.Am.Sym Go.Am.Eu
def F69:Z.f 69=O f69:=by kernel_rfl
def F76:Z.f 76=O f76:=by kernel_rfl
@[simp] theorem aEm{h:H}{t:zA}:iQ Z h 1 (O (zf 31)) (O [(0,D t)])=.v (zL (pO h.n) 1 1) (h.w (ad (ah (D t)) 31)):=by rw[eD];exact ama ..
@[simp] theorem aIr{h:H}{k:yq}{x:zA}{l:List zA}:dI Z h (O (zf 31)) (O (al (x::l))) (O (yV k 0))=.v (ar (D x) 0) h:=nu (l:=x::l) (i:=0) (by simp)
@[simp] theorem aIs{h:H}{k:yq}{x y:zA}{l:List zA}:dI Z h (O (zf 31)) (O (al (x::y::l))) (O (yV k 1))=.v (ar (D y) 0) h:=nu (l:=x::y::l) (i:=1) (by simp)
def Fk:yG:=z f69 [Y,Y,G,G,G]
def Fm:yG:=z f76 [Y,Y,G,G,G]
def ajO:f69.body=O (zS (z f69 pF0) (zS (z f69 pF1) (zS (zv 0 (yb Fk)) (z f69 pT3)))):=rfl
def ajP:f76.body=O (zS (z f76 pF0) (zS (z f76 pF1) (zS (zv 0 (yb Fm)) (zS (z f76 pF3) (z f76 pT4))))):=rfl
structure mC(a b:Nat)(bO:zA)(l:List zA)(tm:Tr E)(h:H):Prop where
 base:h.b=0
 next:2<=h.n
 cell:h.g 0=O (K (ah (D bO)) 31 G)
 out:h.g 1=O (K z5 31 G)
 ta:tm.g a=O (zM (O ⟨0,0,U⟩))
 tb:tm.g b=O (zM (O ⟨1,0,U⟩))
 t4:∃v,tm.g 4=O v/\eu D 31 v h l/\dz v 0/\dz v 1
section
variable{ev:zC->ag}{bO x y:zA}{l:List zA}{tm:Tr E}{h:H}
def Tg(n:h.b=0)(o:I l+1<=1073741824)(w:2<=h.n)(p:eu D 31 v h l)(c:dz v 0)(d:dz v 1):
 ∃b a,jO Z (h.w (ad (ah (D x)) 31)) (zL (pO h.n) 1 1) (O (zf 31)) (O (zf 31)) v (O 1)=.v b a/\eu D 31 b a (l++[x])/\a.b=0/\2<=a.n/\a.g 0=h.g 0/\a.g 1=h.g 1/\dz b 0/\dz b 1:=by
 have q:¬0=h.n:=by omega
 have r:¬1=h.n:=by omega
 have f:eu D 31 v (h.w (ad (ah (D x)) 31)) l:=p.OS (by simp) λj y=>by
  have:¬j=h.n:=by omega
  simp[this]
 let⟨b,a,e,s,t,u,A,i,k⟩:=f.oK (x:=zL (pO h.n) 1 1) (m:=[x]) (e2:=31) mH (by simp[n]) (by simpa using o) (mH.R0 (e':=31) (g:=G) (by simp));simp at u;exact⟨b,a,e,s,t,by omega,by rw[i 0 (by simp) c];simp[q],by rw[i 1 (by simp;omega) d];simp[r],k 0 (by simp) c,k 1 (by simp;omega) d⟩
def amd(o:mC 1 3 bO l tm h)(p:I l+1<=1073741824)(r:bO.w=6)(s:bO.M=[x,y]):
 aD (λa d=>mC 1 3 y (l++[x]) a d) ap bE (aF Z ev 69 Fk tm h):=by
 let⟨f,b,g,t,t1,t3,v,t4,c,u,w⟩:=o;let⟨A,d,e,B,i,C,k,m,n,F⟩:=Tg (x:=x) f p b c u w;rw[g]at k;rw[t]at m;have H:¬0=h.n:=by omega
 simp+contextual [Fk,z,ak,sub,f69,t1,t4,f,g,r,s,an,e,i,k]
 exact⟨by simp[i],by simpa using C,by simp,by simp[m],by simp[t1],by simp[t3],A,by simp,B.mono (by simp) λj L c=>by have:¬j=0:=λq=>c (q▸n);simp[this],n,F⟩
def ao3(n:mC 1 3 bO l tm h)(o:¬(bO.w=6/\I bO.M=2)):
 aD (λ_ _=>False) (λ_ _=>False) (λj a p=>j=0/\mC 1 3 bO l a p) (aw Z ev ⟨69,U⟩ Fk ⟨tm,[],h,U⟩):=by
 obtain⟨c,d,f,q,g,i,v,k,r,s,t⟩:=n;have b:∀a,a.g 1=tm.g 1->a.g 3=tm.g 3->a.g 4=tm.g 4->mC 1 3 bO l a h:=λa u w x=>⟨c,d,f,q,by rw[u];exact g,by rw[w];exact i,v,by rw[x];exact k,r,s,t⟩;by_cases m:bO.w=6
 .have y:¬(I bO.M:Int)=2:=λe=>o ⟨m,by omega⟩;simp+contextual [Fk,z,ak,sub,f69,g,i,k,c,f,m,y,an,b]
 .simp+contextual [Fk,z,ak,sub,f69,g,i,k,c,f,m,an,b]
def ame(o:mC 1 2 bO l tm h)(p:I l+1<=1073741824)(r:bO.w=4)(s:bO.M=[x,y]):
 aD (λa d=>mC 1 2 x (l++[y]) a d) ap bE (aF Z ev 76 Fm tm h):=by
 let⟨f,b,g,t,t1,t3,v,t4,c,u,w⟩:=o;let⟨A,d,e,B,i,C,k,m,n,F⟩:=Tg (x:=y) f p b c u w;rw[g]at k;rw[t]at m;have H:¬0=h.n:=by omega
 simp+contextual [Fm,z,ak,sub,f76,t1,t4,f,g,r,s,an,e,i,k]
 exact⟨by simp[i],by simpa using C,by simp,by simp[m],by simp[t1],by simp[t3],A,by simp,B.mono (by simp) λj L c=>by have:¬j=0:=λq=>c (q▸n);simp[this],n,F⟩
def ao4(n:mC 1 2 bO l tm h)(o:¬(bO.w=4/\I bO.M=2)):
 aD (λ_ _=>False) (λ_ _=>False) (λj a p=>j=0/\mC 1 2 bO l a p) (aw Z ev ⟨76,U⟩ Fm ⟨tm,[],h,U⟩):=by
 obtain⟨c,d,f,q,g,i,v,k,r,s,t⟩:=n;have b:∀a,a.g 1=tm.g 1->a.g 2=tm.g 2->a.g 4=tm.g 4->mC 1 2 bO l a h:=λa u w x=>⟨c,d,f,q,by rw[u];exact g,by rw[w];exact i,v,by rw[x];exact k,r,s,t⟩;by_cases m:bO.w=4
 .have y:¬(I bO.M:Int)=2:=λe=>o ⟨m,by omega⟩;simp+contextual [Fm,z,ak,sub,f76,g,i,k,c,f,m,y,an,b]
 .simp+contextual [Fm,z,ak,sub,f76,g,i,k,c,f,m,an,b]
end
def Sy(l:List zA):∀x∈l,bH (D x):=λx _=>bg x
def aap:∀(n:Nat)(t:zA),I (nQ n t).1+zD (nQ n t).2<=zD t
 |0,t=>by simp[nQ]
 |n+1,t=>by
  unfold nQ;split
  .rename_i a b e;have:=oQ e;have:=jx a;have:=aap n b;split
   .simp;omega
   .simp
  .simp
def OX:aJ Z prog 69 (λt=>zD t<1073741824) (λt=>[D t]) (λt=>aTu [al (cQ t).1,D (cQ t).2]):=by
 intro t n h;have n:zD t<1073741824:=n
 have code:aD (λ_ _=>False) (λtm h=>∃v,tm.g 2=O v/\tm.g 3=O (zM (O ⟨1,0,U⟩))/\h.b=0/\h.g 1=O (K (ah (D (cQ t).2)) 31 G)/\ej h.g v (al (cQ t).1)) (λ_ _ _=>False)
  (aw Z (af Z cg (zD t+1)) ⟨69,U⟩ (zS (z f69 pF0) (zS (z f69 pF1) (zS (zv 0 (yb Fk)) (z f69 pT3)))) ⟨bF [D t] 0 .Nl,[],H.e,U⟩):=by
  refine Ni (N':=λtm h=>mC 1 3 t [] tm h) ?_ λtm h a=>aS (N':=λtm h=>mC 1 3 (cQ t).2 (cQ t).1 tm h) ?_ λtm h a=>?_
  .simp[z,f69];exact⟨by simp,by simp,by simp,by simp,by simp,by simp,_,by simp,.nil _,λ_ _ _ q=>(by cases q),λ_ _ _ q=>(by cases q)⟩
  .refine fU 0 (λj tm h=>∃bO l,j=zD bO/\I l+zD bO<=zD t/\(l++(cQ bO).1,(cQ bO).2)=cQ t/\mC 1 3 bO l tm h) (zD t) ⟨t,[],rfl,by simp,rfl,a⟩ (by omega) ?_;rintro j tm h m ⟨bO,l,rfl,L,o,a⟩-;by_cases b:bO.w=6/\I bO.M=2
   .let⟨x,y,h2⟩:=Kq b.2;have M:=oQ h2;have N:=jx x;refine(amd a (by have:=jx bO;omega) b.1 h2).Mo (λd h' q=>⟨zD y,by omega,y,l++[x],rfl,by simp;omega,?_,q⟩) (λ_ _ q=>q.elim) (λ_ _ _ q=>q.elim);rw[<-o,Tf b.1 h2];simp
   .refine(ao3 a b).Mo (λ_ _ q=>q.elim) (λ_ _ q=>q.elim) (λi d h' q=>⟨q.1,?_⟩);rw[<-o,JJ b];simpa using q.2
  .let⟨f,p,g,r,t1,k,v,t4,s,P,u⟩:=a;have w:0<h.n:=by omega
   have A:1<h.n:=by omega
   simp+contextual [z,ak,sub,f69,t1,k,t4,f,g,r,w,A,cV,MC,MJ]
   exact(s.mono (h':=h.p 1 (K (ah (D (cQ t).2)) 31 G)) (by simp) λj Q c=>by have:¬j=1:=λq=>c (q▸u);simp[this]).lZ mH (Sy _)
 rcases code.cases with⟨_,_,_,q⟩|⟨tm,B,e,v,C,k,f,g,F⟩|⟨_,_,_,_,q⟩
 .cases q
 .refine ox (v:=aTu [v,D (cQ t).2]) tok cg aW (.Cs (bg t) .Nl) (zD t+1) ?_ (.tuple (.Cs F (.Cs (.Pu (bg _)) .Nl))) h;rw[dx (vs:=[v,D (cQ t).2]) (h2:=B) (ab:=U) F69 ajO rfl (by rw[e];simp[f69,C,k,g,f])];rfl
 .cases q
def abg:∀(n:Nat)(t:zA),I (jb n t).1+zD (jb n t).2<=zD t
 |0,t=>by simp[jb]
 |n+1,t=>by
  unfold jb;split
  .rename_i a b e;have:=oQ e;have:=jx b;have:=abg n a;split
   .simp;omega
   .simp
  .simp
def ajQ{l m:List zA}(h:zF D l=zF D m):l=m:=mH.G1 (λa b q=>by rw[dP,dP]at q;exact CL q) h
def ao5(i:∀h,C 102 [zL U 0 0] h=U)(n:Nat)(h:H):af Z C (n+2) (aj 102 [zL U 0 0] h)=.r (.tuple #[]) h U:=by
 rw[ll _ (i _)];have g:zx.wrap (0-1)= -1:=by decide
 have c:aD (λ_ a=>a=h) (λ_ _=>False) (λ_ _ _=>False) (aw Z (af Z C (n+1)) ⟨102,U⟩ (zS (z f102 pF0) (zv 0 (yb EU))) ⟨bF [zL U 0 0] 0 .Nl,[],h,U⟩):=by refine aS (N':=λb a=>a=h/\b.g 2=O (J (0:Nat))/\b.g 3=O (J (-1))) (by simp at g;simp[z,f102,g]) λtm a⟨e,d,f⟩=>?_;rw[e];refine fU 0 (λj tm a=>a=h/\tm.g 2=O (J (0:Nat))/\tm.g 3=O (J (-1))) 0 ⟨rfl,d,f⟩ (by omega) ?_;rintro j tm a m ⟨rfl,d,f⟩-;exact(Zs d (by omega) f).Mo (λ_ _ q=>q.elim) (λ_ _ q=>q.elim) (λ_ _ a q=>⟨q.1,q.2⟩)
 rcases c.cases with⟨tm,a,e,rfl⟩|⟨_,_,_,q⟩|⟨_,_,_,_,q⟩
 .rw[dx (vs:=[]) (h2:=a) (ab:=U) F102 YE rfl (by rw[e];simp[f102])];rfl
 .cases q
 .cases q
def NY:aJ Z prog 76 (λt=>zD t<1073741824) (λt=>[D t]) (λt=>aTu [D (aM t),al (bt t)]):=by
 intro t B h;have B:zD t<1073741824:=B
 obtain⟨C,M,N,g⟩:∃C,aR Z prog C/\bQ C 102 31 Y (λl:List zA=>I l<1073741824) (λb l=>[zL (O ⟨b,0,U⟩) (I l) (I l)]) (λl=>zF D l) (λl=>zF D l.reverse) (λ_=>.ret (.tuple #[]))/\∀h,C 102 [zL U 0 0] h=U:=
  ⟨_,iv aW YF,bQ.add λb b' x y e=>by
    simp at e
    exact⟨e.1,λq=>⟨rfl,by rw[ajQ q]⟩⟩,λh=>by rw[gC];unfold qW;rw[dif_neg];rintro⟨⟨x,b⟩,_,e,_⟩;simp at e⟩
 have hlen:=abg (zD t) t
 have code:aD (λ_ _=>False) (λtm h=>∃v,tm.g 3=O v/\tm.g 2=O (zM (O ⟨1,0,U⟩))/\h.b=0/\h.g 1=O (K (ah (D (aM t))) 31 G)/\ej h.g v (al (bt t))) (λ_ _ _=>False)
  (aw Z (af Z C (zD t+2)) ⟨76,U⟩ (zS (z f76 pF0) (zS (z f76 pF1) (zS (zv 0 (yb Fm)) (zS (z f76 pF3) (z f76 pT4))))) ⟨bF [D t] 0 .Nl,[],H.e,U⟩):=by
  refine Ni (N':=λtm h=>mC 1 2 t [] tm h) ?_ λtm h a=>aS (N':=λtm h=>mC 1 2 (aM t) (jb (zD t) t).1 tm h) ?_ λtm h a=>aS (N':=λtm h=>mC 1 2 (aM t) (bt t) tm h) ?_ λtm h a=>?_
  .simp[z,f76];exact⟨by simp,by simp,by simp,by simp,by simp,by simp,_,by simp,.nil _,λ_ _ _ q=>(by cases q),λ_ _ _ q=>(by cases q)⟩
  .refine fU 0 (λj tm h=>∃bO l,j=zD bO/\I l+zD bO<=zD t/\(l++(jb (zD bO) bO).1,(jb (zD bO) bO).2)=jb (zD t) t/\mC 1 2 bO l tm h) (zD t) ⟨t,[],rfl,by simp,rfl,a⟩ (by omega) ?_;rintro j tm h m ⟨bO,l,rfl,hn,F,a⟩-;by_cases k:bO.w=4/\I bO.M=2
   .let⟨x,y,h2⟩:=Kq k.2;have e1:=oQ h2;have e2:=jx y;refine(ame a (by have:=jx bO;omega) k.1 h2).Mo (λu h' q=>⟨zD x,by omega,x,l++[y],rfl,by simp;omega,?_,q⟩) (λ_ _ q=>q.elim) (λ_ _ _ q=>q.elim);rw[<-F,Ko k.1 h2];simp
   .refine(ao4 a k).Mo (λ_ _ q=>q.elim) (λ_ _ q=>q.elim) (λi u h' q=>⟨q.1,?_⟩);have:aM t=(jb (zD t) t).2:=rfl;rw[this,<-F,J5 k];simpa using q.2
  .let⟨c,n,d,r,t1,f,v,t4,w,s,o⟩:=a;rcases w with⟨A,rfl⟩|⟨b,P,rfl,Q⟩
   .have e:bt t=[]:=by unfold bt;rw[A];rfl
    simp+contextual [z,ak,sub,f76,t4,ao5 g];exact⟨c,n,d,r,by simp[t1],by simp[f],_,by simp[t4],zq ⟨e,rfl⟩,s,o⟩
   .have R:b≠0:=λq=>s b _ _ rfl q.symm;have S:b≠1:=λq=>o b _ _ rfl q.symm;have e:=N.ev (T:=Z) (zD t+2) (x:=(jb (zD t) t).1) (by have:=jx (jb (zD t) t).2;omega) Q;simp only[MO.bi]at e;generalize A:(jb (zD t) t).1=l at*;have L:bt t=l.reverse:=by unfold bt;rw[A]
    simp+contextual [z,ak,sub,f76,t4,e];refine⟨by simp[c],by simp;omega,?_,?_,by simp[t1],by simp[f],_,by simp[t4],zt ⟨b,by simp;omega,by rw[L];simp,by rw[L];simp⟩,s,o⟩
    .have:¬0=b:=λq=>R q.symm;simp[this,d]
    .have:¬1=b:=λq=>S q.symm;simp[this,r]
  .let⟨c,n,d,r,t1,f,v,t4,w,s,o⟩:=a;simp+contextual [z,ak,sub,f76,t1,f,t4,c,d,r]
   exact(w.mono (h':=h.p 1 (K (ah (D (aM t))) 31 G)) (by simp) λj hj p=>by have:¬j=1:=λq=>p (q▸o);simp[this]).lZ mH (Sy _)
 rcases code.cases with⟨_,_,_,q⟩|⟨tm,V,e,v,W,f,c,d,X⟩|⟨_,_,_,_,q⟩
 .cases q
 .refine ox (v:=aTu [D (aM t),v]) tok C M (.Cs (bg t) .Nl) (zD t+2) ?_ (.tuple (.Cs (.Pu (bg _)) (.Cs X .Nl))) h;rw[dx (vs:=[D (aM t),v]) (h2:=V) (ab:=U) F76 ajP rfl (by rw[e];simp[f76,W,f,d,c])];rfl
 .cases q
end
end Go.Proofs.YtpeialehpoilbaaGreat
namespace Go.Am.Eu
section
open Go.Am
structure gM where
 name:ByteArray
 type:zA
inductive Tree where
 |mk (kind:Int) (body:zA) (var:Int) (cb:List (ByteArray×Bool×Tree))
namespace Tree
def kind:Tree->Int|.mk k _ _ _=>k
def body:Tree->zA|.mk _ b _ _=>b
def var:Tree->Int|.mk _ _ v _=>v
def cb:Tree->List (ByteArray×Bool×Tree)|.mk _ _ _ l=>l
end Tree
structure fR where
 name:ByteArray
 type:zA
 arity:Int
 tree:Tree
structure Rec where
 params:Int
 type:zA
 rules:List zA
structure zB where
 k:Int
 n:ByteArray
 p:Int
 t:zA
 v:zA
 f:Int
 aY:List gM
 bD:Rec
 bk:List fR
structure cK where
 kind:Int
 decl:Int
 item:Int
 params:Int
 type:zA
def kA(x:gM):E:=aAg (zN x.name::tc x.type)
mutual
def du:Tree->List E
 |.mk k b v l=>J k::(tc b++[J v,cp (o7 l) 0 (I l) []])
def o7:List (ByteArray×Bool×Tree)->List E
 |[]=>[]
 |(n,a,t)::l=>aAg (zN n::zP a::du t)::o7 l
end
def dU(t:Tree):E:=aAg (du t)
def gA(x:ByteArray×Bool×Tree):E:=aAg (zN x.1::zP x.2.1::du x.2.2)
def abh:∀l,o7 l=l.map gA
 |[]=>rfl
 |(n,a,t)::l=>by rw[o7,abh l];rfl
def iH(t:Tree):du t=J t.kind::(tc t.body++[J t.var,eb gA t.cb]):=by
 cases t with
 |mk k b v l=>rw[du,abh];rfl
def kb(x:fR):List E:=zN x.name::(tc x.type++(J x.arity::du x.tree))
def kc(x:fR):E:=aAg (kb x)
abbrev recC(x:Rec):List E:=J x.params::(tc x.type++[al x.rules])
abbrev cN(d:zB):List E:=J d.k::zN d.n::J d.p::(tc d.t++(tc d.v++(J d.f::eb kA d.aY::(recC d.bD++[eb kc d.bk]))))
def bI(d:zB):E:=aAg (cN d)
abbrev bw(l:List zB):E:=eb bI l
abbrev ew(x:cK):List E:=J x.kind::J x.decl::J x.item::J x.params::tc x.type
def ee(x:cK):E:=aAg (ew x)
mutual
theorem MY:∀t:Tree,bX (du t)
 |.mk k b v l=>by rw[du];exact .Cs bJ ((ow b).append (.Cs bJ (.Cs (.data _ _ _ _ (Zu l)) .Nl)))
theorem Zu:∀l:List (ByteArray×Bool×Tree),bX (o7 l)
 |[]=>.Nl
 |(n,a,t)::l=>by rw[o7];exact .Cs (.agg (.Cs bJ (.Cs bJ (MY t)))) (Zu l)
end
def Cy(t:Tree):bH (dU t):=.agg (MY t)
def aaq(x:ByteArray×Bool×Tree):bH (gA x):=.agg (.Cs bJ (.Cs bJ (MY _)))
def R5{a:A->E}(h:∀x,bH (a x))(l:List A):bH (eb a l):=.data _ _ _ _ (map_pure h l)
def aib(x:gM):bH (kA x):=.agg (.Cs bJ (ow _))
def ajR(x:fR):bH (kc x):=.agg (.Cs bJ ((ow _).append (.Cs bJ (MY _))))
def ajS(x:Rec):bX (recC x):=.Cs bJ ((ow _).append (.Cs (fb _) .Nl))
def MZ(d:zB):bX (cN d):=
 .Cs bJ (.Cs bJ (.Cs bJ ((ow _).append ((ow _).append (.Cs bJ (.Cs (R5 aib _) ((ajS _).append (.Cs (R5 ajR _) .Nl))))))))
def kM(d:zB):bH (bI d):=.agg (MZ d)
def me(l:List zB):bH (bw l):=R5 kM l
def Ed(x:cK):bH (ee x):=.agg (.Cs bJ (.Cs bJ (.Cs bJ (.Cs bJ (ow _)))))
def Sz{a:A->E}(h:∀x y,a x=a y->x=y){l m:List A}(e:eb a l=eb a m):l=m:=by simp[eb]at e;exact map_inj h e.2
def I6{x y:zA}(h:tc x++l=tc y++p):x=y/\l=p:=by let⟨h1,a⟩:=sX h rfl;exact⟨CL h1,a⟩
mutual
theorem CB:∀{a b:Tree},du a=du b->a=b
 |.mk k x v l,.mk k' x' v' l',h=>by rw[du,du]at h;injection h with h1 h2;injection h1 with _ h1;let⟨e1,e2⟩:=I6 h2;injection e2 with e2 e3;injection e2 with _ e2;injection e3 with e3;injection e3 with _ e3;injection e3 with e3;rw[h1,e1,e2,aar e3]
theorem aar:∀{l m:List (ByteArray×Bool×Tree)},o7 l=o7 m->l=m
 |[],[],_=>rfl
 |[],(_,_,_)::_,h=>by rw[o7,o7]at h;cases h
 |(_,_,_)::_,[],h=>by rw[o7,o7]at h;cases h
 |(n,a,t)::l,(n',a',t')::m,h=>by rw[o7,o7]at h;injection h with h1 h2;injection h1 with h1;injection h1 with h1;injection h1 with e1 h1;injection e1 with e1;injection h1 with e2 h1;injection e2 with e2;rw[e1,e2,CB h1,aar h2]
end
def ajT{x y:gM}(h:kA x=kA y):x=y:=by cases x;cases y;unfold kA at h;injection h with h;injection h with h;injection h with a b;injection a with a;have c:=CL b;simp_all
def amf{x y:fR}(h:kc x=kc y):x=y:=by cases x;cases y;unfold kc kb at h;injection h with h;injection h with h;injection h with b c;injection b with b;let⟨e,a⟩:=I6 c;injection a with a d;injection a with _ a;have f:=CB d;simp_all
def afM{x y:Rec}(h:recC x++l=recC y++p):x=y/\l=p:=by let⟨a,d⟩:=sX h rfl;refine⟨?_,d⟩;cases x;cases y;injection a with c a;injection c with _ c;let⟨e,b⟩:=I6 a;injection b with b;have f:=mN b;simp_all
def Af{x y:zB}(h:bI x=bI y):x=y:=by cases x;cases y;unfold bI at h;injection h with h;injection h with h;injection h with a h;injection a with _ a;injection h with b h;injection b with b;injection h with c h;injection c with _ c;let⟨g,h⟩:=I6 h;let⟨i,h⟩:=I6 h;injection h with d h;injection d with _ d;injection h with e h;have j:=Sz (λ_ _=>ajT) e;let⟨k,h⟩:=afM h;injection h with f;have l:=Sz (λ_ _=>amf) f;simp_all
def pF{x y:List zB}(h:bw x=bw y):x=y:=Sz (λ_ _=>Af) h
end
end Go.Am.Eu
namespace Go.Proofs.YtpeialehpoilbaaGreat
section
open Go.Am Go.Proofs Go.Am.Sym Go.Am.Eu
def q29:zE Z 29 l n=l[n]?:=dK (show Am.zK Z 29=O G by kernel_rfl) l n
def q33:zE Z 33 l n=l[n]?:=dK (show Am.zK Z 33=O G by kernel_rfl) l n
def q36:zE Z 36 l n=l[n]?:=dK (show Am.zK Z 36=O G by kernel_rfl) l n
def avL:zE Z 143 l n=l[n]?:=dK (show Am.zK Z 143=O G by kernel_rfl) l n
def q3(c:List E)(a:Nat):zE Z 3 c a=c[a]?:=dK (show Am.zK Z 3=O G by kernel_rfl) c a
def q4(c:List E)(a:Nat):zE Z 4 c a=c[a]?:=dK (show Am.zK Z 4=O G by kernel_rfl) c a
def q9(c:List E)(a:Nat):zE Z 9 c a=c[a]?:=dK (show Am.zK Z 9=O G by kernel_rfl) c a
@[simp] theorem TT.aIH:Z.u 22=O (zf 38):=by kernel_rfl
@[simp] theorem TT.aII:Z.u 33=O (zf 142):=by kernel_rfl
@[simp] theorem TT.aIJ:Z.u 36=O (zf 147):=by kernel_rfl
@[simp] theorem TT.aIt:Z.u 143=O (zf 177):=by kernel_rfl
@[simp] theorem TT.aIK:Z.u 66=O (zf 3):=by kernel_rfl
@[simp] theorem TT.aIL:Z.u 43=O (zf 42):=by kernel_rfl
def qT(h:n+5<=I l):zE Z 31 l n=O (aAg ((l.drop n).take 5)):=by rw[fV KM oa,nw h];rfl
section
variable(h:H)(b o:Nat)(e:E)
@[simp] theorem aGr:aX Z h 38 0 (O (zM (O ⟨b,o,U⟩)))=.v (zM (O ⟨b,o+0,U⟩)) h:=by kernel_rfl
@[simp] theorem aGs:aX Z h 38 0 (O (ar e o))=.v (ar e (o+0)) h:=by kernel_rfl
@[simp] theorem aGu:aX Z h 38 1 (O (zM (O ⟨b,o,U⟩)))=.v (zM (O ⟨b,o+1,U⟩)) h:=by kernel_rfl
@[simp] theorem aGv:aX Z h 38 1 (O (ar e o))=.v (ar e (o+1)) h:=by kernel_rfl
@[simp] theorem aGw:aX Z h 38 2 (O (zM (O ⟨b,o,U⟩)))=.v (zM (O ⟨b,o+2,U⟩)) h:=by kernel_rfl
@[simp] theorem aGx:aX Z h 38 2 (O (ar e o))=.v (ar e (o+2)) h:=by kernel_rfl
@[simp] theorem aGy:aX Z h 38 3 (O (zM (O ⟨b,o,U⟩)))=.v (zM (O ⟨b,o+3,U⟩)) h:=by kernel_rfl
@[simp] theorem aGz:aX Z h 38 3 (O (ar e o))=.v (ar e (o+3)) h:=by kernel_rfl
@[simp] theorem aGA:aX Z h 38 4 (O (zM (O ⟨b,o,U⟩)))=.v (zM (O ⟨b,o+8,U⟩)) h:=by kernel_rfl
@[simp] theorem aGB:aX Z h 38 4 (O (ar e o))=.v (ar e (o+8)) h:=by kernel_rfl
@[simp] theorem aGC:aX Z h 38 5 (O (zM (O ⟨b,o,U⟩)))=.v (zM (O ⟨b,o+13,U⟩)) h:=by kernel_rfl
@[simp] theorem aGD:aX Z h 38 5 (O (ar e o))=.v (ar e (o+13)) h:=by kernel_rfl
@[simp] theorem aGE:aX Z h 38 6 (O (zM (O ⟨b,o,U⟩)))=.v (zM (O ⟨b,o+14,U⟩)) h:=by kernel_rfl
@[simp] theorem aGF:aX Z h 38 6 (O (ar e o))=.v (ar e (o+14)) h:=by kernel_rfl
@[simp] theorem aGG:aX Z h 38 7 (O (zM (O ⟨b,o,U⟩)))=.v (zM (O ⟨b,o+15,U⟩)) h:=by kernel_rfl
@[simp] theorem aGH:aX Z h 38 7 (O (ar e o))=.v (ar e (o+15)) h:=by kernel_rfl
@[simp] theorem aGI:aX Z h 38 8 (O (zM (O ⟨b,o,U⟩)))=.v (zM (O ⟨b,o+22,U⟩)) h:=by kernel_rfl
@[simp] theorem aGJ:aX Z h 38 8 (O (ar e o))=.v (ar e (o+22)) h:=by kernel_rfl
@[simp] theorem aEn:aX Z h 142 0 (O (zM (O ⟨b,o,U⟩)))=.v (zM (O ⟨b,o+0,U⟩)) h:=by kernel_rfl
@[simp] theorem aEo:aX Z h 142 0 (O (ar e o))=.v (ar e (o+0)) h:=by kernel_rfl
@[simp] theorem aEp:aX Z h 142 1 (O (zM (O ⟨b,o,U⟩)))=.v (zM (O ⟨b,o+1,U⟩)) h:=by kernel_rfl
@[simp] theorem aEq:aX Z h 142 1 (O (ar e o))=.v (ar e (o+1)) h:=by kernel_rfl
@[simp] theorem aEr:aX Z h 147 0 (O (zM (O ⟨b,o,U⟩)))=.v (zM (O ⟨b,o+0,U⟩)) h:=by kernel_rfl
@[simp] theorem aEs:aX Z h 147 0 (O (ar e o))=.v (ar e (o+0)) h:=by kernel_rfl
@[simp] theorem aEt:aX Z h 147 1 (O (zM (O ⟨b,o,U⟩)))=.v (zM (O ⟨b,o+1,U⟩)) h:=by kernel_rfl
@[simp] theorem aEu:aX Z h 147 1 (O (ar e o))=.v (ar e (o+1)) h:=by kernel_rfl
@[simp] theorem aEv:aX Z h 147 2 (O (zM (O ⟨b,o,U⟩)))=.v (zM (O ⟨b,o+6,U⟩)) h:=by kernel_rfl
@[simp] theorem aEw:aX Z h 147 2 (O (ar e o))=.v (ar e (o+6)) h:=by kernel_rfl
@[simp] theorem aEx:aX Z h 147 3 (O (zM (O ⟨b,o,U⟩)))=.v (zM (O ⟨b,o+7,U⟩)) h:=by kernel_rfl
@[simp] theorem aEy:aX Z h 147 3 (O (ar e o))=.v (ar e (o+7)) h:=by kernel_rfl
@[simp] theorem aGK:aX Z h 35 0 (O (zM (O ⟨b,o,U⟩)))=.v (zM (O ⟨b,o+0,U⟩)) h:=by kernel_rfl
@[simp] theorem aGL:aX Z h 35 0 (O (ar e o))=.v (ar e (o+0)) h:=by kernel_rfl
@[simp] theorem aGM:aX Z h 35 1 (O (zM (O ⟨b,o,U⟩)))=.v (zM (O ⟨b,o+1,U⟩)) h:=by kernel_rfl
@[simp] theorem aGN:aX Z h 35 1 (O (ar e o))=.v (ar e (o+1)) h:=by kernel_rfl
@[simp] theorem aGO:aX Z h 35 2 (O (zM (O ⟨b,o,U⟩)))=.v (zM (O ⟨b,o+6,U⟩)) h:=by kernel_rfl
@[simp] theorem aGP:aX Z h 35 2 (O (ar e o))=.v (ar e (o+6)) h:=by kernel_rfl
@[simp] theorem aEz:aX Z h 145 0 (O (zM (O ⟨b,o,U⟩)))=.v (zM (O ⟨b,o+0,U⟩)) h:=by kernel_rfl
@[simp] theorem aEA:aX Z h 145 0 (O (ar e o))=.v (ar e (o+0)) h:=by kernel_rfl
@[simp] theorem aEB:aX Z h 145 1 (O (zM (O ⟨b,o,U⟩)))=.v (zM (O ⟨b,o+1,U⟩)) h:=by kernel_rfl
@[simp] theorem aEC:aX Z h 145 1 (O (ar e o))=.v (ar e (o+1)) h:=by kernel_rfl
@[simp] theorem aED:aX Z h 145 2 (O (zM (O ⟨b,o,U⟩)))=.v (zM (O ⟨b,o+6,U⟩)) h:=by kernel_rfl
@[simp] theorem aEE:aX Z h 145 2 (O (ar e o))=.v (ar e (o+6)) h:=by kernel_rfl
@[simp] theorem aEF:aX Z h 145 3 (O (zM (O ⟨b,o,U⟩)))=.v (zM (O ⟨b,o+7,U⟩)) h:=by kernel_rfl
@[simp] theorem aEG:aX Z h 145 3 (O (ar e o))=.v (ar e (o+7)) h:=by kernel_rfl
@[simp] theorem aEH:aX Z h 177 0 (O (zM (O ⟨b,o,U⟩)))=.v (zM (O ⟨b,o+0,U⟩)) h:=by kernel_rfl
@[simp] theorem aEI:aX Z h 177 0 (O (ar e o))=.v (ar e (o+0)) h:=by kernel_rfl
@[simp] theorem aEJ:aX Z h 177 1 (O (zM (O ⟨b,o,U⟩)))=.v (zM (O ⟨b,o+1,U⟩)) h:=by kernel_rfl
@[simp] theorem aEK:aX Z h 177 1 (O (ar e o))=.v (ar e (o+1)) h:=by kernel_rfl
@[simp] theorem aEL:aX Z h 177 2 (O (zM (O ⟨b,o,U⟩)))=.v (zM (O ⟨b,o+2,U⟩)) h:=by kernel_rfl
@[simp] theorem aEM:aX Z h 177 2 (O (ar e o))=.v (ar e (o+2)) h:=by kernel_rfl
@[simp] theorem aEN:aX Z h 163 0 (O (zM (O ⟨b,o,U⟩)))=.v (zM (O ⟨b,o+0,U⟩)) h:=by kernel_rfl
@[simp] theorem aEO:aX Z h 163 0 (O (ar e o))=.v (ar e (o+0)) h:=by kernel_rfl
@[simp] theorem aEP:aX Z h 163 1 (O (zM (O ⟨b,o,U⟩)))=.v (zM (O ⟨b,o+1,U⟩)) h:=by kernel_rfl
@[simp] theorem aEQ:aX Z h 163 1 (O (ar e o))=.v (ar e (o+1)) h:=by kernel_rfl
@[simp] theorem aER:aX Z h 163 2 (O (zM (O ⟨b,o,U⟩)))=.v (zM (O ⟨b,o+2,U⟩)) h:=by kernel_rfl
@[simp] theorem aES:aX Z h 163 2 (O (ar e o))=.v (ar e (o+2)) h:=by kernel_rfl
@[simp] theorem aET:aX Z h 163 3 (O (zM (O ⟨b,o,U⟩)))=.v (zM (O ⟨b,o+3,U⟩)) h:=by kernel_rfl
@[simp] theorem aEU:aX Z h 163 3 (O (ar e o))=.v (ar e (o+3)) h:=by kernel_rfl
@[simp] theorem aEV:aX Z h 163 4 (O (zM (O ⟨b,o,U⟩)))=.v (zM (O ⟨b,o+4,U⟩)) h:=by kernel_rfl
@[simp] theorem aEW:aX Z h 163 4 (O (ar e o))=.v (ar e (o+4)) h:=by kernel_rfl
@[simp] theorem aGQ:aX Z h 27 0 (O (zM (O ⟨b,o,U⟩)))=.v (zM (O ⟨b,o+0,U⟩)) h:=by kernel_rfl
@[simp] theorem aGR:aX Z h 27 0 (O (ar e o))=.v (ar e (o+0)) h:=by kernel_rfl
@[simp] theorem aGS:aX Z h 27 1 (O (zM (O ⟨b,o,U⟩)))=.v (zM (O ⟨b,o+1,U⟩)) h:=by kernel_rfl
@[simp] theorem aGT:aX Z h 27 1 (O (ar e o))=.v (ar e (o+1)) h:=by kernel_rfl
@[simp] theorem aGU:aX Z h 27 2 (O (zM (O ⟨b,o,U⟩)))=.v (zM (O ⟨b,o+2,U⟩)) h:=by kernel_rfl
@[simp] theorem aGV:aX Z h 27 2 (O (ar e o))=.v (ar e (o+2)) h:=by kernel_rfl
@[simp] theorem aGW:aX Z h 27 3 (O (zM (O ⟨b,o,U⟩)))=.v (zM (O ⟨b,o+3,U⟩)) h:=by kernel_rfl
@[simp] theorem aGX:aX Z h 27 3 (O (ar e o))=.v (ar e (o+3)) h:=by kernel_rfl
@[simp] theorem aGY:aX Z h 27 4 (O (zM (O ⟨b,o,U⟩)))=.v (zM (O ⟨b,o+4,U⟩)) h:=by kernel_rfl
@[simp] theorem aGZ:aX Z h 27 4 (O (ar e o))=.v (ar e (o+4)) h:=by kernel_rfl
@[simp] theorem aG0:aX Z h 27 5 (O (zM (O ⟨b,o,U⟩)))=.v (zM (O ⟨b,o+5,U⟩)) h:=by kernel_rfl
@[simp] theorem aG1:aX Z h 27 5 (O (ar e o))=.v (ar e (o+5)) h:=by kernel_rfl
@[simp] theorem aG2:aX Z h 27 6 (O (zM (O ⟨b,o,U⟩)))=.v (zM (O ⟨b,o+6,U⟩)) h:=by kernel_rfl
@[simp] theorem aG3:aX Z h 27 6 (O (ar e o))=.v (ar e (o+6)) h:=by kernel_rfl
end
def Fo:Am.zI Z 38=O 23:=by kernel_rfl
def U0:Am.zK Z 38=O Y:=by kernel_rfl
def Us:Am.zI Z 142=O 6:=by kernel_rfl
def atJ:Am.zK Z 142=O Y:=by kernel_rfl
def Ut:Am.zI Z 147=O 15:=by kernel_rfl
def atK:Am.zK Z 147=O Y:=by kernel_rfl
def KO:Am.zI Z 145=O 8:=by kernel_rfl
def OY:Am.zK Z 145=O Y:=by kernel_rfl
def Uu:Am.zI Z 177=O 10:=by kernel_rfl
def atL:Am.zK Z 177=O Y:=by kernel_rfl
def OZ:Am.zI Z 163=O 9:=by kernel_rfl
def ac3:Am.zK Z 163=O Y:=by kernel_rfl
@[simp] theorem aCs(d:zB):ah (bI d)=cN d:=rfl
@[simp] theorem aCt(d:gM):ah (kA d)=zN d.name::tc d.type:=rfl
@[simp] theorem Zv(d:fR):ah (kc d)=kb d:=rfl
@[simp] theorem aCu(d:Tree):ah (dU d)=du d:=rfl
@[simp] theorem Ai(x:ByteArray×Bool×Tree):ah (gA x)=zN x.1::zP x.2.1::du x.2.2:=rfl
@[simp] theorem aDk(d:cK):ah (ee d)=ew d:=rfl
def JK(t:Tree):I (du t)=8:=by rw[iH];rfl
def Ei{t:zA}:O (yu ⟨tc t⟩)=O (D t):=by rw[eD]
@[simp] theorem aHL(d:zB):zE Z 3 (cN d) 0=O (J d.k):=by rw[q3];rfl
@[simp] theorem aHM(d:zB):zE Z 9 (cN d) 1=O (zN d.n):=by rw[q9];rfl
@[simp] theorem aEX(d:zB):zE Z 3 (cN d) 2=O (J d.p):=by rw[q3];rfl
@[simp] theorem aHN(d:zB):zE Z 31 (cN d) 3=O (D d.t):=by rw[qT (by show _<=23;omega),<-Ei];rfl
@[simp] theorem aG4(d:zB):zE Z 31 (cN d) 8=O (D d.v):=by rw[qT (by show _<=23;omega),<-Ei];rfl
@[simp] theorem aG5(d:zB):zE Z 3 (cN d) 13=O (J d.f):=by rw[q3];rfl
@[simp] theorem aG6(d:zB):zE Z 33 (cN d) 14=O (eb kA d.aY):=by rw[q33];rfl
@[simp] theorem aDl(d:zB):zE Z 3 (cN d) 15=O (J d.bD.params):=by rw[q3];rfl
@[simp] theorem aG7(d:zB):zE Z 31 (cN d) 16=O (D d.bD.type):=by rw[qT (by show _<=23;omega),<-Ei];rfl
@[simp] theorem aG8(d:zB):zE Z 29 (cN d) 21=O (al d.bD.rules):=by rw[q29];rfl
@[simp] theorem aHO(d:zB):zE Z 36 (cN d) 22=O (eb kc d.bk):=by rw[q36];rfl
@[simp] theorem aHP(d:zB):zE Z 38 (cN d) 0=O (bI d):=by rw[fV U0 Fo];rfl
@[simp] theorem aHQ(c:gM):zE Z 9 (zN c.name::tc c.type) 0=O (zN c.name):=by rw[q9];rfl
@[simp] theorem aHR(c:gM):zE Z 31 (zN c.name::tc c.type) 1=O (D c.type):=by rw[qT (by show _<=6;omega),<-Ei];rfl
@[simp] theorem aHS(c:gM):zE Z 142 (zN c.name::tc c.type) 0=O (kA c):=by rw[fV atJ Us];rfl
@[simp] theorem aHT(f:fR):zE Z 9 (kb f) 0=O (zN f.name):=by rw[q9];rfl
@[simp] theorem aHU(f:fR):zE Z 31 (kb f) 1=O (D f.type):=by rw[qT (by unfold kb;rw[iH];simp),<-Ei];rfl
@[simp] theorem aG9(f:fR):zE Z 3 (kb f) 6=O (J f.arity):=by rw[q3];rfl
@[simp] theorem aHV(f:fR):zE Z 145 (kb f) 7=O (dU f.tree):=by rw[fV OY KO];unfold kb;rw[iH];show O (yu _)=O (aAg (du _));rw[iH];rfl
@[simp] theorem aHW(f:fR):zE Z 147 (kb f) 0=O (kc f):=by rw[fV atK Ut];unfold kc kb;rw[iH];rfl
@[simp] theorem aHX(t:Tree):zE Z 3 (du t) 0=O (J t.kind):=by rw[q3,iH];rfl
@[simp] theorem aIu(t:Tree):zE Z 3 (du t) 6=O (J t.var):=by rw[q3,iH];rfl
@[simp] theorem aCv(t:Tree):zE Z 143 (du t) 7=O (eb gA t.cb):=by rw[avL,iH];rfl
@[simp] theorem aHY(t:Tree):zE Z 31 (du t) 1=O (D t.body):=by rw[qT (by rw[JK];omega),iH,<-Ei];rfl
@[simp] theorem aHZ(t:Tree):zE Z 145 (du t) 0=O (dU t):=by rw[fV OY KO,iH];show O (yu _)=O (aAg (du _));rw[iH];rfl
@[simp] theorem ars(x:ByteArray×Bool×Tree):zE Z 9 (zN x.1::zP x.2.1::du x.2.2) 0=O (zN x.1):=by rw[q9];rfl
@[simp] theorem amg(x:ByteArray×Bool×Tree):zE Z 4 (zN x.1::zP x.2.1::du x.2.2) 1=O (zP x.2.1):=by rw[q4];rfl
@[simp] theorem ab6(x:ByteArray×Bool×Tree):zE Z 145 (zN x.1::zP x.2.1::du x.2.2) 2=O (dU x.2.2):=by rw[fV OY KO,iH];show O (yu _)=O (aAg (du _));rw[iH];rfl
@[simp] theorem art(x:ByteArray×Bool×Tree):zE Z 177 (zN x.1::zP x.2.1::du x.2.2) 0=O (gA x):=by rw[fV atL Uu,iH];show O (yu _)=O (aAg _);rw[iH];rfl
@[simp] theorem aH0(e:cK):zE Z 3 (ew e) 0=O (J e.kind):=by rw[q3];rfl
@[simp] theorem aH1(e:cK):zE Z 3 (ew e) 1=O (J e.decl):=by rw[q3];rfl
@[simp] theorem aH2(e:cK):zE Z 3 (ew e) 2=O (J e.item):=by rw[q3];rfl
@[simp] theorem aEY(e:cK):zE Z 3 (ew e) 3=O (J e.params):=by rw[q3];rfl
@[simp] theorem aH3(e:cK):zE Z 31 (ew e) 4=O (D e.type):=by rw[qT (by show _<=9;omega),<-Ei];rfl
@[simp] theorem aru(e:cK):zE Z 163 (ew e) 0=O (ee e):=by rw[fV ac3 OZ];rfl
def DE:El Z 38 bI 23:=⟨by omega,by kernel_rfl,by kernel_rfl,λ_=>rfl,λ_=>rfl⟩
def elC:El Z 142 kA 6:=⟨by omega,by kernel_rfl,by kernel_rfl,λ_=>rfl,λ_=>rfl⟩
def R6(t:Tree):da (du t)=Y:=by rw[iH];rfl
def P9:El Z 147 kc 15:=⟨by omega,by kernel_rfl,by kernel_rfl,λx=>by rw[Zv];unfold kb;rw[iH];rfl,λx=>by rw[Zv];unfold kb;rw[iH];rfl⟩
def Qa:El Z 177 gA 10:=⟨by omega,by kernel_rfl,by kernel_rfl,λx=>by rw[Ai,iH];rfl,λx=>by rw[Ai,iH];rfl⟩
@[simp] theorem aEZ{h:H}{l:List (zB)}{k:yq}(a:i<I l):dI Z h (O (zf 38)) (O (eb bI l)) (O (yV k (i:Int)))=.v (ar (bI l[i]) 0) h:=
  np (e:=bI l[i]) DE.size a (by simp[a]) (DE.len _)
@[simp] theorem aE0{h:H}{l:List (gM)}{k:yq}(a:i<I l):dI Z h (O (zf 142)) (O (eb kA l)) (O (yV k (i:Int)))=.v (ar (kA l[i]) 0) h:=
  np (e:=kA l[i]) elC.size a (by simp[a]) (elC.len _)
@[simp] theorem aHa{h:H}{l:List (fR)}{k:yq}(a:i<I l):dI Z h (O (zf 147)) (O (eb kc l)) (O (yV k (i:Int)))=.v (ar (kc l[i]) 0) h:=
  np (e:=kc l[i]) P9.size a (by simp[a]) (P9.len _)
@[simp] theorem aH4{h:H}{l:List (ByteArray×Bool×Tree)}{k:yq}(a:i<I l):dI Z h (O (zf 177)) (O (eb gA l)) (O (yV k (i:Int)))=.v (ar (gA l[i]) 0) h:=
  np (e:=gA l[i]) Qa.size a (by simp[a]) (Qa.len _)
@[simp] theorem aE4{h:H}{e:zQ}(a:A->E)(l:List A):mX h (O (zf e)) (eb a l)=.v (yV zx (I l)) h:=rfl
end
section
open Go.Am Go.Proofs Go.Am.Sym Go.Am.Eu
def eW(l:List ByteArray)(s:ByteArray):Bool:=l.any λx=>yF (x=s)
theorem abi{l:List ByteArray}{s:ByteArray}{i:Nat}(a:i<I l)(h:l[i]=s):eW l s=Y:=by unfold eW;rw[sJ];exact⟨l[i],zW _,by simp[h]⟩
theorem abj{l:List ByteArray}{s:ByteArray}(h:∀i(a:i<I l),l[i]≠s):eW l s=G:=by unfold eW;rw[List.any_eq_false];intro x b;obtain⟨i,a,rfl⟩:=List.getElem_of_mem b;simp[h i a]
theorem amh{l:List ByteArray}{s:ByteArray}:eW l s=Y<->s∈l:=by unfold eW;rw[sJ];exact⟨λ⟨x,a,e⟩=>by simp at e;exact e▸a,λa=>⟨s,a,by simp⟩⟩
theorem F113:Z.f 113=O f113:=by kernel_rfl
theorem F90:Z.f 90=O f90:=by kernel_rfl
theorem F9:Z.f 9=O f9:=by kernel_rfl
abbrev nS:=List ByteArray×ByteArray
abbrev oD(x:nS):List E:=[bL x.1,zN x.2]
theorem ND{x y:nS}(h:oD x=oD y):x=y:=by let⟨a,b⟩:=x;let⟨c,d⟩:=y;simp at h;rw[CA h.1,h.2]
def BK(l:List ByteArray)(s:ByteArray)(i:Nat):Prop:=∀j(a:j<I l),j<i->l[j]≠s
theorem BK.next{l:List ByteArray}{s:ByteArray}{i:Nat}(h:BK l s i)(d:i<I l)(a:l[i]≠s):BK l s (i+1):=λj b c=>by
 by_cases e:j=i
 .subst e;exact a
 .exact h j b (by omega)
def HK:yG:=z f113 [Y,G,Y,G,G]
theorem aic:f113.body=O (zS (z f113 pF0) (zS (zS (z f113 [Y,G,G]) (zv 0 (yb HK))) (z f113 pT2))):=rfl
section
variable{ev:zC->ag}{l:List ByteArray}{s:ByteArray}{i:Nat}{tm:Tr E}{h:H}
 (t0:aa tm 0 (bL l))(t1:aa tm 1 (zN s))(t7:aa tm 7 (J (I l)))(t8:aa tm 8 (J i))
include t0 t1 t7 t8
theorem ajU(k:BK l s i)(b:i<I l)(d:i+1<=ao):
 aD (λa m=>m=h/\BK l s (i+1)/\aa a 0 (bL l)/\aa a 1 (zN s)/\aa a 7 (J (I l))/\aa a 8 (J (i+1:Nat))) (λa _=>∃v:Int,aa a 4 (J v)/\(0<=v<->eW l s=Y)) bE
  (aF Z ev 113 HK tm h):=by
 have j:=dA d;simp at j;by_cases c:l[i]=s
 .have f:=abi b c;simp+contextual [HK,z,ak,sub,f113,t0,t1,t7,t8,b,an,c,f]
 .have f:=k.next b c;have g:¬s=l[i]:=λe=>c e.symm;simp+contextual [HK,z,ak,sub,f113,t0,t1,t7,t8,b,j,an,g,f]
theorem ami(d:I l<=i):
 aD ap ap (λj b c=>j=0/\c=h) (aF Z ev 113 HK tm h):=by
 have a:¬i<I l:=by omega
 simp+contextual [HK,z,ak,sub,f113,t7,t8,a,an]
end
theorem amj:∃f:nS->Int,aJ Z prog 113 (λx=>I x.1<ao) oD (λx=>J (f x))/\∀x:nS,I x.1<ao->(0<=f x<->eW x.1 x.2=Y):=by
 refine iC J (λ(x:nS) v=>0<=v<->eW x.1 x.2=Y) λ⟨l,s⟩ c=>JV tok cg aW (.Cs (lj l) dF) (λ_=>.Gd rfl) (I l+1) F113 aic rfl ?_;have c:I l<ao:=c
 refine(aS (N':=λtm h=>h=H.e/\aa tm 0 (bL l)/\aa tm 1 (zN s)) ?_ λtm h⟨g,t0,t1⟩=>aS (aS (N':=λtm h=>h=H.e/\aa tm 0 (bL l)/\aa tm 1 (zN s)/\aa tm 7 (J (I l))/\aa tm 8 (J (0:Nat))) ?_ λtm h d=>
  fU (N:=λ_ _=>eW l s=G) 0 (λj tm h=>∃i:Nat,j=I l-i/\i<=I l/\h=H.e/\BK l s i/\aa tm 0 (bL l)/\aa tm 1 (zN s)/\aa tm 7 (J (I l))/\aa tm 8 (J i)) (I l) ⟨0,by omega,by omega,d.1,λ_ _ h=>by omega,d.2⟩ (by omega) ?_) λtm h k=>?_).Mo
  (N:=λ_ _=>False) (R:=λa _=>∃v:Int,aa a 4 (J v)/\(0<=v<->eW l s=Y)) (X:=λ_ _ _=>False) aP bT cS
 .simp[z,f113]
 .simp[z,f113,t0,t1,g]
 .rintro j tm h m ⟨i,rfl,o,rfl,e,t0,t1,t7,t8⟩-;by_cases b:i<I l
  .exact(ajU t0 t1 t7 t8 e b (by omega)).Mo (λa p q=>⟨_,by omega,i+1,rfl,b,q⟩) bT jr
  .exact(ami t0 t1 t7 t8 (by omega)).Mo aP aP (λ_ _ _ q=>⟨q.1,abj λj n=>e j n (by omega)⟩)
 .simp[z,f113,k]
theorem ag7:aJ Z prog 90 (λx:nS=>I x.1<ao) oD (λx=>zP (eW x.1 x.2)):=by
 let⟨c,d,f⟩:=amj
 obtain⟨C,g,i⟩:∃C,aR Z prog C/\Has C 113 (λx:nS=>I x.1<ao) oD (λy=>J (c y)):=
  ⟨_,aZ aW d,Has.Ad λx y e=>by rw[ND e]⟩
 intro⟨l,s⟩ b h;have b:I l<ao:=b;have a:=λn m=>i.ev (T:=Z) n (x:=(l,s)) b m;refine ox (v:=zP (eW l s)) (h1:=H.e) tok C g (.Cs (lj l) (.Cs (.Gd rfl) .Nl)) 2 (dx F90 rfl rfl (vs:=[zP (eW l s)]) ?_) (.Pu (.Gd rfl)) h;have:=f (l,s) b;simp only[oD]at a;simp+contextual [f90,a];cases j:eW l s<;>simp[j]at this⊢<;>omega
def IE:yG:=z f9 [Y,G,Y,G,G]
theorem amk:f9.body=O (zS (z f9 pF0) (zS (zS (z f9 [Y,G,G]) (zv 0 (yb IE))) (z f9 pT2))):=rfl
section
variable{ev:zC->ag}{l:List ByteArray}{s:ByteArray}{i:Nat}{tm:Tr E}{h:H}
 (t0:aa tm 0 (bL l))(t1:aa tm 1 (zN s))(t5:aa tm 5 (J i))
include t0 t1 t5
theorem ao6(g:BK l s i)(b:i<I l)(d:i+1<=ao):
 aD (λa j=>j=h/\BK l s (i+1)/\aa a 0 (bL l)/\aa a 1 (zN s)/\aa a 5 (J (i+1:Nat))) (λa _=>a.g 4=O (zP (eW l s))) bE
  (aF Z ev 9 IE tm h):=by
 have f:=dA d;simp at f;by_cases c:l[i]=s
 .have e:=abi b c;simp+contextual [IE,z,ak,sub,f9,t0,t1,t5,b,an,c,e]
 .have e:=g.next b c;simp+contextual [IE,z,ak,sub,f9,t0,t1,t5,b,f,an,c,e]
theorem arv(d:I l<=i):
 aD ap ap (λj b c=>j=0/\c=h) (aF Z ev 9 IE tm h):=by
 have a:¬i<I l:=by omega
 simp+contextual [IE,z,ak,sub,f9,t0,t5,a,an]
end
theorem Kr:aJ Z prog 9 (λx:nS=>I x.1<ao) oD (λx=>zP (eW x.1 x.2)):=by
 obtain⟨f,k,n⟩:∃f:nS->Bool,aJ Z prog 9 (λx:nS=>I x.1<ao) oD (λx=>zP (f x))/\∀x:nS,I x.1<ao->f x=eW x.1 x.2:=by
  refine iC zP (λ(x:nS) v=>v=eW x.1 x.2) λ⟨l,s⟩ c=>JV tok cg aW (.Cs (lj l) dF) (λ_=>.Gd rfl) (I l+1) F9 amk rfl ?_;have c:I l<ao:=c
  refine(aS (N':=λtm h=>h=H.e/\aa tm 0 (bL l)/\aa tm 1 (zN s)) ?_ λtm h⟨o,t0,t1⟩=>aS (aS (N':=λtm h=>h=H.e/\aa tm 0 (bL l)/\aa tm 1 (zN s)/\aa tm 5 (J (0:Nat))) ?_ λtm h d=>
   fU (N:=λ_ _=>eW l s=G) 0 (λj tm h=>∃i:Nat,j=I l-i/\i<=I l/\h=H.e/\BK l s i/\aa tm 0 (bL l)/\aa tm 1 (zN s)/\aa tm 5 (J i)) (I l) ⟨0,by omega,by omega,d.1,λ_ _ h=>by omega,d.2⟩ (by omega) ?_) λtm h p=>?_).Mo
   (N:=λ_ _=>False) (R:=λa _=>a.g 4=O (zP (eW l s))) (X:=λ_ _ _=>False) aP (λ_ _ q=>⟨_,q,rfl⟩) cS
  .simp[z,f9]
  .simp[z,f9,t0,t1,o]
  .rintro j tm h m ⟨i,rfl,t,rfl,e,t0,t1,t5⟩-;by_cases b:i<I l
   .exact(ao6 t0 t1 t5 e b (by omega)).Mo (λa u q=>⟨_,by omega,i+1,rfl,b,q⟩) bT jr
   .exact(arv t0 t1 t5 (by omega)).Mo aP aP (λ_ _ _ q=>⟨q.1,abj λj r=>e j r (by omega)⟩)
  .simp[z,f9,p]
 intro x g h;have:=k x g h;simp only[n x g]at this;exact this
end
end Go.Proofs.YtpeialehpoilbaaGreat
namespace Go.Am
section
variable{T:au}
def qm:∀l:List E,da l=Y<->∀v∈l,da [v]=Y
 |[]=>by simp;rfl
 |v::l=>by
  have a:=qm l;have e:da (v::l)=(da [v]&&da l):=by cases v<;>rfl
  rw[e,List.forall_mem_cons,Bool.and_eq_true,a]
namespace Sym
@[simp] theorem aBQ:(h.d n).n=h.n:=mR h n
@[simp] theorem aBR:(h.d n).b=h.b:=Nc h n
@[simp] theorem aCw:(h.d n).g j=if j=n then U else h.g j:=by
  by_cases e:j=n
  .rw[if_pos e,e];exact MH h n
  .rw[if_neg e];exact A8 h e
end Sym
end
end Go.Am
namespace Go.Proofs.YtpeialehpoilbaaGreat
section
open Go.Am Go.Proofs Go.Am.Sym Go.Am.Eu
def ab7:(Z.cw.g 31).map (λi=>(i.size,ze i.bytes 65536))=O (5,Y):=by kernel_rfl
def abk:NO (jV Z 31)=Y:=by kernel_rfl
def Ht(t:zA):da (ah (D t))=Y:=by rw[qE];rfl
def CM{t:zA}:I (ah (D t))=5:=by rw[qE];rfl
def aas{t:zA}(a:ae h n (K (ah (D t)) s b)):zH h 1 5 (zL (pO n) 1 1)=O (ah (D t)):=by show rK 0 (z7 1 5) (rD (h.g n))=_;rw[a];show cut (ah (D t)) 0 5=_;rw[nw (by rw[CM];omega),yY,yI (by rw[CM];omega)]
def append_nil{B:Nat}{t:zA}{e:zQ}{g:Bool}(c:ae h B (K (ah (D t)) e g)):
 jO Z h (zL (pO B) 1 1) (O (zf 31)) (O (zf 31)) (zL U 0 0) (O 1)=.v (zL (pO h.n) 1 1) ((h.az B).w (K (ah (D t)) 31 Y)):=by
 have a:=ab7;cases b:Z.cw.g 31 with
 |none=>rw[b]at a;cases a
 |some i=>
  rw[b]at a;simp at a;show jy Z h 31 (zL U 0 0) (zL (pO B) 1 1) U 0 0 1 (Z.cw.g 31)=_;rw[b];unfold jy;dsimp only;rw[a.1,aas c,abk];have d:ze i.bytes 65536=Y:=zb a.2;rw[d];show cond (cond (zV (dh (ah (D t))) 5) (da (ah (D t))) G) (kO (h.az B) 31 1 (ah (D t))) .f=_;rw[fX,CM,Ht];show aK.v (zL (pO (h.az B).n) 1 1) _=_;rw[oO]
def X6{b B :Nat}{t:zA}{e:zQ}{g:Bool}{c:List E}(f:ae h b (K c 31 Y))(j:I c=n*5)(k:ae h B (K (ah (D t)) e g))(l:n+1<=1073741824):
 jO Z h (zL (pO B) 1 1) (O (zf 31)) (O (zf 31)) (zL (pO b) n n) (O 1)=
  .v (zL (pO h.n) (n+1) (n+1)) ((((h.az b).az B).d b).w (K (c++ah (D t)) 31 Y)):=by
 have a:=ab7;cases d:Z.cw.g 31 with
 |none=>rw[d]at a;cases a
 |some i=>
  rw[d]at a;simp at a;show jy Z h 31 (zL (pO b) n n) (zL (pO B) 1 1) (pO b) n n 1 (Z.cw.g 31)=_;rw[d];unfold jy;dsimp only;have m:ze i.bytes 65536=Y:=zb a.2;have o:ze (zl n 1) 1073741824=Y:=zb l
  have p:zH h n 5 (zL (pO b) n n)=O c:=by show rK 0 (z7 n 5) (rD (h.g b))=_;rw[f];show cut c 0 (n*5)=_;rw[nw (by omega),yY,yI (by omega)]
  rw[a.1,aas k,abk,m,o,p];show cond (cond (zV (dh (ah (D t))) 5) (cond (zV (dh c) (z7 n 5)) (da (ah (D t))) G) G) (kq Z ((h.az b).az B) b 0 31 5 n n 1 c (ah (D t)) (((h.az b).az B).g b)) .f=_;rw[fX,CM,Ht,fX,ek (show I c=z7 n 5 from j),pH,pH,f];show kq Z ((h.az b).az B) b 0 31 5 n n 1 c (ah (D t)) (O (K c 31 Y))=_;unfold kq
  have q:ze (zl n 1) n=G:=by
   cases h:ze (zl n 1) n with
   |false=>rfl
   |true=>have:n+1<=n:=Nat.le_of_ble_eq_true h;omega
  show bN _ _ (ze (zl n 1) n)=_;rw[q];show mP Z ((h.az b).az B) b 31 5 (zl n 1) (zl 0 (z7 n 5)) (il c (ah (D t))) c 31 Y=_;unfold mP;rw[oa,fX,ek (show zl 0 (z7 n 5)=I c by rw[j];exact Nat.zero_add _),Ca.qH];show aK.v (zL (pO (((h.az b).az B).d b).n) (n+1) (n+1)) _=_;rw[mR,oO,oO]
def BM(lo:Nat)(v:E)(h:H)(n:Nat):Prop:=
 (n=0/\v=zL U 0 0)\/∃b c,lo<=b/\b<h.n/\v=zL (O ⟨b,0,U⟩) n n/\h.g b=O (K c 31 Y)/\I c=n*5/\da c=Y
def BM.append{lo:Nat}{B:Nat}{t:zA}{e:zQ}{g:Bool}(a:BM lo v h n)(i:h.b=0)(k:lo<=h.n)(p:n+1<=1073741824)(l:ae h B (K (ah (D t)) e g)):
 ∃m d,jO Z h (zL (pO B) 1 1) (O (zf 31)) (O (zf 31)) v (O 1)=.v m d/\BM lo m d (n+1)/\d.b=0/\h.n<=d.n/\∀j,j<lo->d.g j=h.g j:=by
 rcases a with⟨rfl,rfl⟩|⟨b,c,q,A,rfl,r,o,s⟩
 .refine⟨_,_,append_nil l,zt ⟨h.n,ah (D t),k,?_,rfl,?_,?_,Ht t⟩,?_,?_,λj u=>?_⟩
  .simp
  .simp
  .rw[CM]
  .simp[i]
  .simp
  .have:¬j=h.n:=by omega
   simp[this]
 .refine⟨_,_,X6 r o l p,zt ⟨h.n,c++ah (D t),k,?_,rfl,?_,?_,?_⟩,?_,?_,λj u=>?_⟩
  .simp
  .simp
  .rw[yD,CM,o];omega
  .rw[qm];intro x f;rcases xX.1 f with f|f
   .exact(qm _).1 s x f
   .exact(qm _).1 (Ht t) x f
  .simp[i]
  .simp
  .have w:¬j=h.n:=by omega
   have y:¬j=b:=by omega
   simp[w,y]
end
end Go.Proofs.YtpeialehpoilbaaGreat
namespace Go.Am
end Go.Am
namespace Go.Am.Eu
inductive fj(k:Int)(i:Nat):zA->zA->Prop
 |stop {t:zA} (h:¬(t.w=k/\I t.M=2)):fj k i t t
 |step {t c u:zA} (h:t.w=k) (h2:I t.M=2) (hc:t.M[i]?=O c) (hg:fj k i c u):fj k i t u
theorem fj.same{t u v:zA}(h:fj c i t u)(e:fj c i t v):u=v:=by
 induction h with
 |stop h=>cases e with
  |stop _=>rfl
  |step b d _ _=>exact absurd ⟨b,d⟩ h
 |step b d f _ g=>cases e with
  |stop h=>exact absurd ⟨b,d⟩ h
  |step _ _ a j=>rw[f]at a;cases a;exact g j
end Go.Am.Eu
namespace Go.Proofs.YtpeialehpoilbaaGreat
section
open Go.Am Go.Proofs Go.Am.Sym Go.Am.Eu
theorem SA{t:zA}(h:I t.M=2):∃a b,t.M=[a,b]:=by
 match c:t.M,h with
 |[a,b],_=>exact⟨a,b,rfl⟩
structure Aq(p r:Nat)(N:Nat)(h0:H)(bO:zA)(n:Nat)(tm:Tr E)(h:H):Prop where
 base:h.b=0
 next:N+2<=h.n
 bO:h.g N=O (K (ah (D bO)) 31 G)
 out:h.g (N+1)=O (K z5 31 G)
 tp:tm.g p=O (zM (O ⟨N,0,U⟩))
 tr:tm.g r=O (zM (O ⟨N+1,0,U⟩))
 args:∃v,tm.g 4=O v/\BM (N+2) v h n
 cD:∀b,b<N->h.g b=h0.g b
theorem M1(t:zA):1<=zD t:=by cases t;rw[kU];omega
section
variable{ev:zC->ag}{N n:Nat}{h0 h:H}{bO:zA}{tm:Tr E}(st:Aq 1 3 N h0 bO n tm h)
include st
end
end
section
open Go.Am Go.Proofs Go.Am.Sym Go.Am.Eu
theorem F30:Z.f 30=O f30:=by kernel_rfl
def Fp:yG:=z f30 [Y,Y,G,G,G]
theorem ajV:f30.body=O (zS (z f30 pF0) (zS (z f30 pF1) (zS (zv 0 (yb Fp)) (z f30 pT3)))):=rfl
section
variable{ev:zC->ag}{N n:Nat}{h0 h:H}{bO:zA}{tm:Tr E}(st:Aq 1 3 N h0 bO n tm h)
include st
theorem aml(L:n+1<=1073741824)(M:bO.w=6)(w:I bO.M=2):
 aD (λl k=>∃c,bO.M[1]?=O c/\Aq 1 3 N h0 c (n+1) l k) (λ_ _=>False) (λ_ _ _=>False) (aw Z ev ⟨30,U⟩ Fp ⟨tm,[],h,U⟩):=by
 obtain⟨A,P,C,Q,F,H,⟨v,R,S⟩,hold⟩:=st;obtain⟨a,b,f⟩:=SA w;have T:¬N=h.n:=by omega
 have V:¬N+1=h.n:=by omega
 obtain⟨W,k,e,m,i,o,d⟩:=BM.append (lo:=N+2) (v:=v) (h:=h.w (K (ah (D a)) 31 G)) (n:=n) (B:=h.n) (t:=a) (e:=31) (g:=G) (by
  rcases S with⟨x,y⟩|⟨b,c,p,X,q,r,s,u⟩
  .exact zq ⟨x,y⟩
  .exact zt ⟨b,c,p,by simp;omega,q,by rw[kP,if_neg (by omega)];exact r,s,u⟩) (by simp[A]) (by simp;omega) L (by simp)
 simp at o;have k1:k.g N=O (K (ah (D bO)) 31 G):=by rw[d N (by omega)];simp[T,C]
 have k2:k.g (N+1)=O (K z5 31 G):=by rw[d (N+1) (by omega)];simp[V,Q]
 simp+contextual [Fp,z,ak,sub,f30,F,H,R,A,C,M,w,f,an,e,k1,i];refine⟨by simp[i],by simp;omega,by simp,by simp[k2],by simp[F],by simp[H],⟨W,by simp,?_⟩,λj hj=>?_⟩
 .rcases m with⟨x,y⟩|⟨b,c,p,X,q,r,s,u⟩
  .exact zq ⟨x,y⟩
  .exact zt ⟨b,c,p,by simp;omega,q,by rw[jd,if_neg (by omega)];exact r,s,u⟩
 .have q3:¬j=N:=by omega
  have q4:¬j=h.n:=by omega
  rw[jd,if_neg q3,d j (by omega),kP,if_neg q4];exact hold j hj
theorem ao7(m:¬(bO.w=6/\I bO.M=2)):
 aD (λ_ _=>False) (λ_ _=>False) (λj a o=>j=0/\Aq 1 3 N h0 bO n a o) (aw Z ev ⟨30,U⟩ Fp ⟨tm,[],h,U⟩):=by
 have p:=st;obtain⟨c,d,f,q,g,i,⟨v,k,r⟩,hold⟩:=st;have b:∀a,a.g 1=tm.g 1->a.g 3=tm.g 3->a.g 4=tm.g 4->Aq 1 3 N h0 bO n a h:=λa s t u=>⟨c,d,f,q,by rw[s];exact g,by rw[t];exact i,⟨v,by rw[u];exact k,r⟩,hold⟩;by_cases l:bO.w=6
 .have w:¬(I bO.M:Int)=2:=λe=>m ⟨l,by omega⟩;simp+contextual [Fp,z,ak,sub,f30,g,i,k,c,f,l,w,an,b]
 .simp+contextual [Fp,z,ak,sub,f30,g,i,k,c,f,l,an,b]
end
theorem arw{ev:zC->ag}{t:zA}{h0:H}(a:h0.b=0):aD (λtm h=>Aq 1 3 h0.n h0 t 0 tm h) ap bE
 (aF Z ev 30 (zS (z f30 pF0) (z f30 pF1)) (bF [D t] 0 .Nl) h0):=by
 simp[z,f30]
 exact⟨by simp[a],by simp,by simp,by simp,by simp,by simp,⟨_,by simp,zq ⟨rfl,rfl⟩⟩,λj d=>by
  have b:¬j=h0.n:=by omega
  have c:¬j=h0.n+1:=by omega
  simp[b,c]⟩
theorem arx{ev:zC->ag}{N n:Nat}{h0 h:H}{bO:zA}{tm:Tr E}(st:Aq 1 3 N h0 bO n tm h):
 aD ap (λa c=>(∃v,aa a 2 v)/\aa a 3 (pB (N+1))/\c.b=0/\N+2<=c.n/\ae c (N+1) (ad (ah (D bO)) 31)/\∀b,b<N->c.g b=h0.g b) bE
  (aF Z ev 30 (z f30 pT3) tm h):=by
 let⟨e,d,f,g,t1,t3,⟨v,t4,m⟩,hold⟩:=st;have i:N<h.n:=by omega
 have k:N+1<h.n:=by omega
 simp+contextual [z,ak,sub,f30,t1,t3,t4,e,f,g,i,k,cV,MC,MJ];refine⟨d,λj l=>?_⟩;rw[if_neg (by omega)];exact hold j l
theorem atM(x:∀a h,C 30 a h=U){t:zA}{h0:H}(y:h0.b=0)(M:zD t<1073741824)(P:zD t+1<=m):
 ∃v u d,af Z C (m+1) (aj 30 [D t] h0)=.r (aTu [v,D u]) d U/\fj 6 1 t u/\d.b=0/\h0.n<=d.n/\∀b,b<h0.n->d.g b=h0.g b:=by
 have r:aD (λ_ _=>False) (λf d=>∃bO,fj 6 1 t bO/\(∃v,f.g 2=O v)/\f.g 3=O (zM (O ⟨h0.n+1,0,U⟩))/\d.b=0/\h0.n+2<=d.n/\d.g (h0.n+1)=O (K (ah (D bO)) 31 G)/\∀b,b<h0.n->d.g b=h0.g b) (λ_ _ _=>False)
  (aw Z (af Z C m) ⟨30,U⟩ (zS (z f30 pF0) (zS (z f30 pF1) (zS (zv 0 (yb Fp)) (z f30 pT3)))) ⟨bF [D t] 0 .Nl,[],h0,U⟩):=by
  refine Ni ((arw (ev:=af Z C m) (t:=t) y).Mo (λ_ _ q=>q) (λ_ _ q=>q.elim) (λ_ _ _ q=>q)) λtm h st=>aS (N':=λtm h=>∃bO n,fj 6 1 t bO/\Aq 1 3 h0.n h0 bO n tm h) ?_ λtm h⟨bO,n,l,st⟩=>(arx st).Mo (λ_ _ q=>q) (λ_ _ q=>⟨bO,l,q⟩) (λ_ _ _ q=>q);refine fU (N:=λtm h=>∃bO n,fj 6 1 t bO/\Aq 1 3 h0.n h0 bO n tm h) 0 (λj tm h=>∃bO n,j=zD bO/\n+zD bO<=zD t/\(∀u,fj 6 1 bO u->fj 6 1 t u)/\Aq 1 3 h0.n h0 bO n tm h) (zD t) ⟨t,0,rfl,by omega,λ_ h=>h,st⟩ (by omega) ?_;rintro j tm h m ⟨bO,n,rfl,Q,l,st⟩-;by_cases o:bO.w=6/\I bO.M=2
  .refine(aml st (by have:=M1 bO;omega) o.1 o.2).Mo (λf d q=>?_) (λ_ _ q=>q.elim) (λ_ _ _ q=>q.elim);let⟨c,w,s⟩:=q;have:=mg (vW w);exact⟨zD c,by omega,c,n+1,rfl,by omega,λu A=>l u (.step o.1 o.2 w A),s⟩
  .exact(ao7 st o).Mo (λ_ _ q=>q.elim) (λ_ _ q=>q.elim) (λi f d q=>⟨q.1,bO,n,l bO (.stop o),q.2⟩)
 rcases r.cases with⟨_,_,_,q⟩|⟨tm,d,e,bO,l,⟨v,B⟩,F,p,L,g,hold⟩|⟨_,_,_,_,q⟩
 .cases q
 .refine⟨v,bO,d,?_,l,p,by omega,hold⟩;obtain⟨m,rfl⟩:∃k,m=k+1:=⟨m-1,by omega⟩;rw[ll _ (x _ _),dx (vs:=[v,D bO]) (h2:=d) (ab:=U) F30 ajV rfl (by rw[e];simp[f30,B,F,g,p])];rfl
 .cases q
end
end Go.Proofs.YtpeialehpoilbaaGreat
namespace Go.Am
theorem dc(a:Nat)(x y:aG):Am.apart a x y=(aN a y.i||(dV x.wr y.rd&&(dV y.wr x.rd&&dV x.wr y.wr))):=by unfold Am.apart;cases aN a y.i<;>cases dV x.wr y.rd<;>cases dV y.wr x.rd<;>rfl
theorem cY(a:Nat)(x y:aG)(l:List aG):fe a x (y::l)=(Am.apart a x y&&fe a x l):=by rw[x6];cases Am.apart a x y<;>rfl
theorem cZ(a:Nat)(x:aG):fe a x []=Y:=rfl
theorem XP(a b c:Nat):dV (a|||b) c=(dV a c&&dV b c):=Xy a b c
theorem QU(a b c:Nat):dV c (a|||b)=(dV c a&&dV c b):=afX a b c
theorem Rh(h:H)(hb:n<h.n):h.f.az n=⟨h.m,h.n,h.n,bit n,0⟩:=by rw[nv,if_neg (by rw[Sym.GK];omega),fm];show(⟨_,_,_,zi 0 (bit n),_⟩:H)=_;rw[qz]
namespace Sym
variable{T:au}{ev:zC->ag}
variable(bs:Tr Nat)(i:Nat)(l:List aG)(tm:Tr E)(df:List Deferred)(h:H)(ab:Option (List PanicEntry))(k:List aG->S->ag)
theorem Zw(o:ai)(hb:h.b=0)(a:n<h.n)(ha:fe (aE bs i) ⟨i,bit n,bit h.n⟩ l=Y):
 gG k bs l i tm df h ab ((h.f.az n).w o)=k (⟨i,bit n,bit h.n⟩::l) ⟨tm,df,h.w o,ab⟩:=by
 rw[Rh h a,ib];rw[Cz (rd:=bit n) (wr:=bit h.n) (hb:=hb) (hr:=rfl) (hw:=by show zi 0 (dr h.n (h.n+1))=_;rw[I4,qz]) (hz:=by rw[CJ];rfl) (ha:=ha),ib]
theorem Zx(o:ai)(hb:h.b=0)(g:m<h.n)(a:n<h.n)(ha:fe (aE bs i) ⟨i,zi (zi (bit n) (bit m)) (bit n),zi (bit n) (bit h.n)⟩ l=Y):
 gG k bs l i tm df h ab ((((h.f.az n).az m).d n).w o)=k (⟨i,zi (zi (bit n) (bit m)) (bit n),zi (bit n) (bit h.n)⟩::l) ⟨tm,df,(h.d n).w o,ab⟩:=by
 have c:((h.f.az n).az m)=⟨h.m,h.n,h.n,zi (bit n) (bit m),0⟩:=by rw[Rh h a,nv,if_neg (by show¬h.n<=m;omega)]
 have d:(((h.f.az n).az m).d n).w o=⟨(h.m.del n).s h.n o,h.n+1,h.n,zi (zi (bit n) (bit m)) (bit n),bit n⟩:=by rw[c,H.d,pM,kV,if_neg (by show¬h.n<=n;omega),ib];show(⟨_,_,_,_,zi 0 (bit n)⟩:H)=_;rw[qz]
 have f:(h.d n).w o=⟨(h.m.del n).s h.n o,h.n+1,h.b,h.rd,h.wr⟩:=by rw[H.d,pM,kV,if_pos (by omega),ib]
 have hz:(zV (zi (zi (bit n) (bit m)) (bit n)) 0&&zV (zi (bit n) (bit h.n)) 0)=G:=by
  have:zV (zi (bit n) (bit h.n)) 0=G:=jh (by intro e;have q:=rA (x:=bit h.n) (D1 n);rw[e]at q;simp at q)
  rw[this,Bool.and_false]
 rw[d,Cz (hb:=hb) (hr:=rfl) (hw:=by show zi (bit n) (dr h.n (h.n+1))=_;rw[I4]) (hz:=hz) (ha:=ha),f]
end Sym
end Go.Am
namespace Go.Proofs.YtpeialehpoilbaaGreat
section
open Go.Am Go.Proofs Go.Am.Sym Go.Am.Eu
theorem F31:Z.f 31=O f31:=by kernel_rfl
theorem ajW:f31.body=O (zS (z f31 pF0) (zS (z f31 pF1) (zS (z f31 pF2) (z f31 pT3)))):=rfl
def H4:Array Oper:=bq (z f31 pF3)
theorem amm:z f31 pT3=zS (.region 4 H4 Y) .ret:=rfl
def Uv:Tr Nat:=bj H4.toList 0 .Nl
theorem ao8:aN (aE Uv 7) 6=Y:=by kernel_rfl
structure adM(N M:Nat)(h0:H)(a b u:zA)(n:Nat)(t:zA)(tm:Tr E)(h:H):Prop where
 base:h.b=0
 lo:N+2<=M
 next:M<h.n
 bO:h.g N=O (K (ah (D t)) 31 G)
 out:h.g (N+1)=O (K z5 31 G)
 head:h.g M=O (K (ah (D u)) 31 G)
 kids:t.M=[a,b]
 t1:tm.g 1=O (zM (O ⟨N,0,U⟩))
 t2:tm.g 2=O (zM (O ⟨N+1,0,U⟩))
 t4:tm.g 4=O (zM (O ⟨M,0,U⟩))
 args:∃v,tm.g 5=O v/\((n=0/\v=zL U 0 0)\/∃b c,N+2<=b/\b<h.n/\b≠M/\v=zL (O ⟨b,0,U⟩) n n/\h.g b=O (K c 31 Y)/\I c=n*5/\da c=Y)
 cD:∀b,b<N->h.g b=h0.g b
theorem ao9{ev:zC->ag}{N :Nat}{h0 h:H}{a b u t:zA}{tm:Tr E}(st:adM N m h0 a b u n t tm h)(hn:n+1<=1073741824):
 aD (λk l=>(∃v,aa k 3 v/\BM (N+2) v l (n+1))/\aa k 2 (pB (N+1))/\l.b=0/\N+2<=l.n/\ae l (N+1) (ad (ah (D u)) 31)/\∀b,b<N->l.g b=h0.g b)
  ap bE (jN Z ev ⟨31,U⟩ H4 Y ⟨tm,[],h,U⟩):=by
 let⟨P,Dv,o,Q,R,S,f,t1,t2,t4,⟨v,t5,ha⟩,hold⟩:=st;rw[dJ];have i:=ao8;have e:bj H4.toList 0 .Nl=Uv:=rfl;rw[e];generalize Uv=bs at i;have T:N<h.n:=by omega
 have l2:N+1<h.n:=by omega
 have l3:N<h.n+1:=by omega
 have V:N+1<h.n+1+1:=by omega
 have w:¬h.n=N:=by omega
 have p:¬N=h.n:=by omega
 have W:¬h.n=m:=by omega
 have n2':¬m=h.n:=by omega
 have X:¬h.n=N+1:=by omega
 have q:¬N+1=h.n:=by omega
 have n4:¬N+1=m:=by omega
 have n5:¬m=N+1:=by omega
 have n6:¬N+1=h.n+1:=by omega
 have n7:¬h.n+1=N+1:=by omega
 have n8:¬h.n+1=N:=by omega
 have n9:¬h.n+1=m:=by omega
 rcases ha with⟨rfl,rfl⟩|⟨d,c,d1,d2,d3,rfl,d4,d5,d6⟩
 .have r:=append_nil (h:=(h.w (ad (ah (D b)) 31)).f) (B:=h.n) (t:=b) (e:=31) (g:=G) (by simp);simp only[Yy,Rt]at r;simp+contextual [H4,bq,z,ak,sub,f31,t1,t2,t4,t5,P,Q,R,S,f,T,V,o,r,Zw,cV,cY,cZ,dc,dt,cO,cR,i,w,p,W,X,q,n4,n8,n9];refine⟨zt ⟨h.n+1,ah (D b),by omega,by simp,rfl,by simp[w],by rw[CM],Ht b⟩,by omega,λj y=>?_⟩;rw[if_neg (by omega),if_neg (by omega),if_neg (by omega)];exact hold j y
 .have d7:¬d=h.n:=by omega
  have d8:¬h.n=d:=by omega
  have d9:¬d=h.n+1:=by omega
  have d10:¬h.n+1=d:=by omega
  have A:¬d=N+1:=by omega
  have C:¬N+1=d:=by omega
  have F:¬d=N:=by omega
  have d14:¬N=d:=by omega
  have d15:¬m=d:=λe=>d3 e.symm;have L:d<h.n+1:=by omega
  have r:=X6 (h:=(h.w (ad (ah (D b)) 31)).f) (b:=d) (c:=c) (n:=n) (B:=h.n) (t:=b) (e:=31) (g:=G) (by simp[d7,d4]) d5 (by simp) hn;simp only[Yy,Rt]at r;simp+contextual [H4,bq,z,ak,sub,f31,t1,t2,t4,t5,P,Q,R,S,f,T,V,o,r,Zx,cV,cY,cZ,dc,dt,cO,cR,XP,QU,i,w,p,W,X,q,n4,n8,n9,d3,d7,d8,A,C,F,L];refine⟨zt ⟨h.n+1,c++ah (D b),by omega,by simp,rfl,by simp[w],by rw[yD,CM,d5];omega,?_⟩,by omega,λj y=>?_⟩
  .rw[qm];intro x s;rcases xX.1 s with s|s
   .exact(qm _).1 d6 x s
   .exact(qm _).1 (Ht b) x s
  .rw[if_neg (by omega),if_neg (by omega),if_neg (by omega),if_neg (by omega)];exact hold j y
def ac4(N n:Nat)(h0:H)(u:zA)(tm:Tr E)(h:H):Prop:=
 (∃v,aa tm 3 v/\BM (N+2) v h n)/\aa tm 2 (pB (N+1))/\h.b=0/\N+2<=h.n/\ae h (N+1) (ad (ah (D u)) 31)/\∀b,b<N->h.g b=h0.g b
structure U1(N:Nat)(h0:H)(t:zA)(tm:Tr E)(h:H):Prop where
 base:h.b=0
 next:h.n=N+2
 bO:ae h N (ad (ah (D t)) 31)
 out:ae h (N+1) (ad z5 31)
 t1:aa tm 1 (pB N)
 t2:aa tm 2 (pB (N+1))
 cD:∀b,b<N->h.g b=h0.g b
theorem ary{ev:zC->ag}{t:zA}{h0:H}(a:h0.b=0):aD (λtm h=>U1 h0.n h0 t tm h) ap bE
 (aF Z ev 31 (z f31 pF0) (bF [D t] 0 .Nl) h0):=by
 simp[z,f31]
 exact⟨by simp[a],by simp,by simp,by simp,by simp,by simp,λj d=>by
  have b:¬j=h0.n:=by omega
  have c:¬j=h0.n+1:=by omega
  simp[b,c]⟩
section
variable{ev:zC->ag}{N:Nat}{h0 h:H}{t:zA}{tm:Tr E}(st:U1 N h0 t tm h)
include st
theorem amn(l:¬(t.w=4/\I t.M=2)):
 aD ap (λf m=>ac4 N 0 h0 t f m) bE (aF Z ev 31 (z f31 pF1) tm h):=by
 let⟨d,c,i,k,t1,t2,hold⟩:=st;have a:∀b,b<N->(h.p (N+1) (ad (ah (D t)) 31)).g b=h0.g b:=λj n=>by rw[jd,if_neg (by omega)];exact hold j n
 by_cases g:t.w=4
 .have o:¬(I t.M:Int)=2:=λe=>l ⟨g,by omega⟩;simp+contextual [z,ak,sub,f31,t1,t2,d,i,k,g,o,an];exact⟨⟨zL U 0 0,by simp,zq ⟨rfl,rfl⟩⟩,by simp[t2],by simp[d],by simp[c],by simp,a⟩
 .simp+contextual [z,ak,sub,f31,t1,t2,d,i,k,g,an];exact⟨⟨zL U 0 0,by simp,zq ⟨rfl,rfl⟩⟩,by simp[t2],by simp[d],by simp[c],by simp,a⟩
theorem arz(e:t.w=4)(f:I t.M=2):
 aD (λa g=>U1 N h0 t a g) ap bE (aF Z ev 31 (z f31 pF1) tm h):=by
 let⟨c,b,d,i,t1,t2,hold⟩:=st;simp+contextual [z,ak,sub,f31,t1,c,d,e,f,an];exact⟨c,b,d,i,by simp[t1],by simp[t2],hold⟩
theorem amo{a b u:zA}(f:t.M=[a,b])(k:ev (aj 31 [D a] h)=.r (aTu [D u,v]) g U)(i:g.b=0)(r:h.n<=g.n)(e:∀b,b<h.n->g.g b=h.g b)(s:BM h.n v g n):
 aD (λl w=>adM N g.n h0 a b u n t l w) (λ_ _=>False) (λ_ _ _=>False) (aw Z ev ⟨31,U⟩ (z f31 pF2) ⟨tm,[],h,U⟩):=by
 obtain⟨A,B,m,o,p,q,hold⟩:=st;have C:g.g N=O (K (ah (D t)) 31 G):=by rw[e N (by omega)];exact m
 have F:g.g (N+1)=O (K z5 31 G):=by rw[e (N+1) (by omega)];exact o
 have L:¬N=g.n:=by omega
 have M:¬N+1=g.n:=by omega
 simp+contextual [z,ak,sub,f31,p,q,A,m,o,f,k,i,an];refine⟨by simp[i],by omega,by simp,by simp[L,C],by simp[M,F],by simp,f,by simp[p],by simp[q],by simp,⟨v,by simp,?_⟩,λj P=>?_⟩
 .rcases s with⟨x,y⟩|⟨d,c,V,W,Q,R,S,T⟩
  .exact zq ⟨x,y⟩
  .exact zt ⟨d,c,by omega,by simp;omega,by omega,Q,by rw[jd,if_neg (by omega),kP,if_neg (by omega)];exact R,S,T⟩
 .rw[jd,if_neg (by omega),kP,if_neg (by omega),e j (by omega)];exact hold j P
end
theorem apa(L:∀a h,C 31 a h=U):∀(k:Nat){t:zA}{h0:H}{m:Nat},zD t<=k->h0.b=0->zD t<1073741824->zD t+1<=m->
 ∃v u g n,af Z C (m+1) (aj 31 [D t] h0)=.r (aTu [D u,v]) g U/\fj 4 0 t u/\n<zD t/\BM h0.n v g n/\g.b=0/\h0.n<=g.n/\∀b,b<h0.n->g.g b=h0.g b:=by
 intro k;induction k with
 |zero=>intro t h0 m h;have:=M1 t;omega
 |succ k M=>
  intro t h0 m hk N hw hm;obtain⟨m,rfl⟩:∃j,m=j+1:=⟨m-1,by omega⟩
  have s:aD (λ_ _=>False) (λp g=>∃u n,fj 4 0 t u/\n<zD t/\ac4 h0.n n h0 u p g) (λ_ _ _=>False)
   (aw Z (af Z C (m+1)) ⟨31,U⟩ (zS (z f31 pF0) (zS (z f31 pF1) (zS (z f31 pF2) (z f31 pT3)))) ⟨bF [D t] 0 .Nl,[],h0,U⟩):=by
   refine aS ((ary (ev:=af Z C (m+1)) (t:=t) N).Mo (λ_ _ q=>q) (λ_ _ q=>q.elim) (λ_ _ _ q=>q)) λtm h st=>?_;by_cases i:t.w=4/\I t.M=2
   .let⟨a,b,f⟩:=SA i.2;have P:zD a<zD t:=mg (by rw[f];simp);refine aS ((arz st i.1 i.2).Mo (λ_ _ q=>q) (λ_ _ q=>q.elim) (λ_ _ _ q=>q)) λtm h st=>?_;let⟨v,u,h1,n,e,w,F,A,B,hle,l⟩:=M (t:=a) (h0:=h) (m:=m) (by omega) st.base (by omega) (by have:=M1 a;omega);refine aS ((amo st f e B hle l A).Mo (λ_ _ q=>q) (λ_ _ q=>q.elim) (λ_ _ _ q=>q)) λtm h st=>?_;rw[amm];refine aS ((ao9 st (by omega)).Mo (λ_ _ q=>q) (λ_ _ q=>q.elim) (λ_ _ _ q=>q.elim)) λp g q=>?_;rw[S8,al2];exact⟨u,n+1,.step i.1 i.2 (by rw[f];rfl) w,by omega,q⟩
   .exact aS (N':=λ_ _=>False) ((amn st i).Mo (λ_ _ q=>q) (λ_ _ q=>⟨t,0,.stop i,by have:=M1 t;omega,q⟩) (λ_ _ _ q=>q)) λ_ _ q=>q.elim
  rcases s.cases with⟨_,_,_,q⟩|⟨tm,g,e,u,n,i,F,⟨v,Q,A⟩,R,r,S,o,hold⟩|⟨_,_,_,_,q⟩
  .cases q
  .refine⟨v,u,g,n,?_,i,F,?_,r,by omega,hold⟩
   .rw[ll _ (L _ _),dx (vs:=[D u,v]) (h2:=g) (ab:=U) F31 ajW rfl (by rw[e];simp[f31,R,Q,o,r])];rfl
   .rcases A with⟨x,y⟩|⟨d,c,l1,T,V,W,X,l6⟩
    .exact zq ⟨x,y⟩
    .exact zt ⟨d,c,by omega,T,V,W,X,l6⟩
  .cases q
end
end Go.Proofs.YtpeialehpoilbaaGreat
namespace Go.Am.Eu
def fj.nodes{k:Int}{t u:zA}(h:fj k i t u):Eu.zD u<=Eu.zD t:=by
 induction h with
 |stop _=>exact zR _
 |step _ _ a _ b=>have:=mg (vW a);omega
end Go.Am.Eu
namespace Go.Proofs.YtpeialehpoilbaaGreat
section
open Go.Am Go.Proofs Go.Am.Sym Go.Am.Eu
def F70:Z.f 70=O f70:=by kernel_rfl
def F8:Z.f 8=O f8:=by kernel_rfl
structure St where
 env:List zB
 impl:E
 dZ:List ByteArray
 cH:List ByteArray
 lL:E
 ns:E
 opens:E
abbrev jt(s:St):List E:=[bw s.env,s.impl,bL s.dZ,bL s.cH,s.lL,s.ns,s.opens]
def dO(s:St):E:=aAg (jt s)
structure St.Ok(s:St):Prop where
 impl:bH s.impl
 lL:bH s.lL
 ns:bH s.ns
 opens:bH s.opens
 ng:I s.dZ<ao
def Ej{s:St}(h:s.Ok):bH (dO s):=.agg (.Cs (me _) (.Cs h.impl (.Cs (lj _) (.Cs (lj _) (.Cs h.lL (.Cs h.ns (.Cs h.opens .Nl)))))))
@[simp] theorem aE5(s:St):ah (dO s)=jt s:=rfl
def apb{x y:St}(h:dO x=dO y):x=y:=by cases x;cases y;unfold dO jt at h;injection h with h;injection h with h;injection h with a h;injection h with d h;injection h with b h;injection h with c h;injection h with e h;injection h with f h;injection h with g;have i:=pF a;have j:=CA b;have k:=CA c;simp_all
def SB:∀(n:Nat)(t:zA),zD t<=n->fj 6 1 t (cQ t).2
 |0,t,h=>by have:=jx t;omega
 |n+1,t,h=>by
  by_cases c:t.w=6/\I t.M=2
  .let⟨a,b,d⟩:=Kq c.2;have:=oQ d;rw[Tf c.1 d];exact .step c.1 c.2 (by rw[d];rfl) (SB n b (by omega))
  .rw[JJ c];exact .stop c
def Th:∀(n:Nat)(t:zA),zD t<=n->fj 4 0 t (aM t)
 |0,t,h=>by have:=jx t;omega
 |n+1,t,h=>by
  by_cases c:t.w=4/\I t.M=2
  .let⟨a,b,d⟩:=Kq c.2;have:=oQ d;unfold aM;rw[Ko c.1 d];exact .step c.1 c.2 (by rw[d];rfl) (Th n a (by omega))
  .unfold aM;rw[J5 c];exact .stop c
def o8(a:List ByteArray)(t:zA):ByteArray×Bool:=if(aM (cQ t).2).w=3/\eW a (aM (cQ t).2).F=Y then((aM (cQ t).2).F,Y)else(⟨#[]⟩,G)
def mI(a:St)(t:zA)(p:ByteArray×Bool):Prop:=
 ∃e u,fj 6 1 t e/\fj 4 0 e u/\p=if u.w=3/\eW a.dZ u.F=Y then(u.F,Y)else(⟨#[]⟩,G)
def mI.same{c:St}{t:zA}{p q:ByteArray×Bool}(h:mI c t p)(d:mI c t q):p=q:=by obtain⟨e,u,f,g,rfl⟩:=h;obtain⟨i,j,a,b,rfl⟩:=d;have:=f.same a;subst this;have:=g.same b;subst this;rfl
abbrev pU(p:ByteArray×Bool):E:=aTu [zN p.1,zP p.2]
def YG(p:ByteArray×Bool):bH (pU p):=.Tt pZ
def rq(c:St)(t:zA)(r:Nat)(w:zA->Prop)(b:Tr E)(h:H):Prop:=
 ∃e a,w e/\zD e<=zD t/\h.b=0/\2<=h.n/\a<h.n/\ae h 0 (ad (jt c) 27)/\ae h a (ad (ah (D e)) 31)/\aa b 2 (pB 0)/\aa b r (pB a)
def ajX:f70.body=O (zS (z f70 pF0) (zS (z f70 pF1) (zS (z f70 pF2) (z f70 pT3)))):=rfl
def arA{a:St}{t:zA}:aD (λb h=>rq a t 3 (λe=>e=t) b h) ap bE
 (aF Z V 70 (z f70 pF0) (bF [dO a,D t] 0 .Nl) H.e):=by
 simp[z,f70];exact⟨t,1,rfl,zR _,by simp,by simp,by simp,by simp,by simp,by simp,by simp⟩
def arB{f:St}{t:zA}(l:rq f t 3 (λe=>e=t) r h)
 (g:∀h,h.b=0->∃v u c,V (aj 69 [D t] h)=.r (aTu [v,D u]) c U/\fj 6 1 t u/\c.b=0/\h.n<=c.n/\∀b,b<h.n->c.g b=h.g b):
 aD (λr h=>rq f t 7 (λe=>fj 6 1 t e) r h) (λ_ _=>False) (λ_ _ _=>False) (aw Z V ⟨70,U⟩ (z f70 pF1) ⟨r,[],h,U⟩):=by
 obtain⟨e,a,rfl,y,j,m,A,n,o,p,q⟩:=l;let⟨v,u,c,s,k,i,hle,d⟩:=g h j;have w:¬0=c.n:=by omega
 have x:c.g 0=O (K (jt f) 27 G):=by rw[d 0 (by omega)];exact n
 simp+contextual [z,ak,sub,f70,q,j,o,s];exact⟨u,c.n,k,k.nodes,by simp[i],by simp;omega,by simp,by simp[w,x],by simp,by simp[p],by simp⟩
def arC{f:St}{t:zA}(m:rq f t 7 (λe=>fj 6 1 t e) r h)
 (g:∀e h,zD e<=zD t->h.b=0->∃v u c,V (aj 76 [D e] h)=.r (aTu [D u,v]) c U/\fj 4 0 e u/\c.b=0/\h.n<=c.n/\∀b,b<h.n->c.g b=h.g b):
 aD (λr h=>rq f t 8 (λu=>∃e,fj 6 1 t e/\fj 4 0 e u) r h) (λ_ _=>False) (λ_ _ _=>False) (aw Z V ⟨70,U⟩ (z f70 pF2) ⟨r,[],h,U⟩):=by
 let⟨e,a,i,hn,k,n,w,g0,gK,o,t3⟩:=m;let⟨v,u,c,p,l,j,hle,d⟩:=g e h hn k;have q:¬0=c.n:=by omega
 have s:c.g 0=O (K (jt f) 27 G):=by rw[d 0 (by omega)];exact g0
 simp+contextual [z,ak,sub,f70,t3,k,gK,p];exact⟨u,c.n,⟨e,i,l⟩,by have:=l.nodes;omega,by simp[j],by simp;omega,by simp,by simp[q,s],by simp,by simp[o],by simp⟩
def arD{b:St}{t:zA}(l:rq b t 8 (λu=>∃e,fj 6 1 t e/\fj 4 0 e u) r h)
 (g:∀s h,V (aj 90 [bL b.dZ,zN s] h)=.r (zP (eW b.dZ s)) h U):
 aD ap (λr _=>∃p,mI b t p/\aa r 4 (zN p.1)/\aa r 5 (zP p.2)) bE (aF Z V 70 (z f70 pT3) r h):=by
 let⟨u,a,⟨e,c,d⟩,hn,k,m,n,g0,gK,t2,t3⟩:=l;by_cases f:u.w=3
 .cases j:eW b.dZ u.F with
  |true=>
   have i:mI b t (u.F,Y):=⟨e,u,c,d,by simp[f,j]⟩;simp+contextual [z,ak,sub,f70,mG,t2,t3,k,g0,gK,f,j,g,an];exact i
  |false=>
   have i:mI b t (⟨#[]⟩,G):=⟨e,u,c,d,by simp[f,j]⟩;simp+contextual [z,ak,sub,f70,mG,t2,t3,k,g0,gK,f,j,g,an];exact i
 .have i:mI b t (⟨#[]⟩,G):=⟨e,u,c,d,by simp[f]⟩;simp+contextual [z,ak,sub,f70,t2,t3,k,gK,f,an];exact i
def arE:∃f:St×zA->ByteArray×Bool,aJ Z prog 70 (λx=>x.1.Ok/\zD x.2<1073741824) (λx=>[dO x.1,D x.2]) (λx=>pU (f x))/\∀x,(x.1.Ok/\zD x.2<1073741824)->mI x.1 x.2 (f x):=by
 refine iC pU (λ(x:St×zA) p=>mI x.1 x.2 p) λ⟨i,t⟩⟨a,j⟩=>?_
 obtain⟨C,o,r,c,d,m⟩:∃C,aR Z prog C/\Has C 90 (λx:nS=>I x.1<ao) oD (λx=>zP (eW x.1 x.2))/\Has C 69 (λt=>zD t<1073741824) (λt=>[D t]) (λt=>aTu [al (cQ t).1,D (cQ t).2])/\Has C 76 (λt=>zD t<1073741824) (λt=>[D t]) (λt=>aTu [D (aM t),al (bt t)])/\True:=
  ⟨_,aZ (aZ (aZ aW ag7) OX) NY,((Has.Ad λx y e=>by rw[ND e]).Sk (by decide)).Sk (by decide),(Has.Ad λx y e=>by simp at e;rw[cf e]).Sk (by decide),Has.Ad λx y e=>by simp at e;rw[cf e],trivial⟩
 have a:i.Ok:=a;have j:zD t<1073741824:=j
 have k:aD (λ_ _=>False) (λb _=>∃p,mI i t p/\b.g 4=O (zN p.1)/\b.g 5=O (zP p.2)) (λ_ _ _=>False)
  (aw Z (af Z C (zD t+2+1)) ⟨70,U⟩ (zS (z f70 pF0) (zS (z f70 pF1) (zS (z f70 pF2) (z f70 pT3)))) ⟨bF [dO i,D t] 0 .Nl,[],H.e,U⟩):=by
  refine aS (arA.Mo (λ_ _ q=>q) (λ_ _ q=>q.elim) (λ_ _ _ q=>q)) λb h g=>aS ((arB g λh l=>?_).Mo (λ_ _ q=>q) (λ_ _ q=>q.elim) (λ_ _ _ q=>q)) λb h g=>
   aS ((arC g λe h B l=>?_).Mo (λ_ _ q=>q) (λ_ _ q=>q.elim) (λ_ _ _ q=>q)) λb h g=>arD g λs h=>r.ev _ (x:=(i.dZ,s)) a.ng h
  .exact⟨_,_,h,c.ev _ j h,SB _ t (zR _),l,zR _,λ_ _=>rfl⟩
  .exact⟨_,_,h,d.ev _ (x:=e) (by show zD e<_;omega) h,Th _ e (zR _),l,zR _,λ_ _=>rfl⟩
 rcases k.cases with⟨_,_,_,q⟩|⟨b,n,e,p,u,w,A⟩|⟨_,_,_,_,q⟩
 .cases q
 .refine⟨p,u,λh=>ox (v:=pU p) (h1:=n) tok C o (.Cs (Ej a) (.Cs (bg t) .Nl)) (zD t+2+1) ?_ (.Pu (YG p)) h⟩;rw[dx (vs:=[zN p.1,zP p.2]) (h2:=n) (ab:=U) F70 ajX rfl (by rw[e];simp[f70,w,A])];rfl
 .cases q
def amp:f8.body=O (zS (z f8 pF0) (zS (z f8 pF1) (zS (z f8 pF2) (z f8 pT3)))):=rfl
def atN{a:St}{t:zA}:aD (λb h=>rq a t 3 (λe=>e=t) b h) ap bE
 (aF Z V 8 (z f8 pF0) (bF [dO a,D t] 0 .Nl) H.e):=by
 simp[z,f8];exact⟨t,1,rfl,zR _,by simp,by simp,by simp,by simp,by simp,by simp,by simp⟩
def atO{f:St}{t:zA}(l:rq f t 3 (λe=>e=t) r h)
 (g:∀h,h.b=0->∃v u c,V (aj 30 [D t] h)=.r (aTu [v,D u]) c U/\fj 6 1 t u/\c.b=0/\h.n<=c.n/\∀b,b<h.n->c.g b=h.g b):
 aD (λr h=>rq f t 7 (λe=>fj 6 1 t e) r h) (λ_ _=>False) (λ_ _ _=>False) (aw Z V ⟨8,U⟩ (z f8 pF1) ⟨r,[],h,U⟩):=by
 obtain⟨e,a,rfl,y,j,m,A,n,o,p,q⟩:=l;let⟨v,u,c,s,k,i,hle,d⟩:=g h j;have w:¬0=c.n:=by omega
 have x:c.g 0=O (K (jt f) 27 G):=by rw[d 0 (by omega)];exact n
 simp+contextual [z,ak,sub,f8,q,j,o,s];exact⟨u,c.n,k,k.nodes,by simp[i],by simp;omega,by simp,by simp[w,x],by simp,by simp[p],by simp⟩
def atP{f:St}{t:zA}(m:rq f t 7 (λe=>fj 6 1 t e) r h)
 (g:∀e h,zD e<=zD t->h.b=0->∃v u c,V (aj 31 [D e] h)=.r (aTu [D u,v]) c U/\fj 4 0 e u/\c.b=0/\h.n<=c.n/\∀b,b<h.n->c.g b=h.g b):
 aD (λr h=>rq f t 8 (λu=>∃e,fj 6 1 t e/\fj 4 0 e u) r h) (λ_ _=>False) (λ_ _ _=>False) (aw Z V ⟨8,U⟩ (z f8 pF2) ⟨r,[],h,U⟩):=by
 let⟨e,a,i,hn,k,n,w,g0,gK,o,t3⟩:=m;let⟨v,u,c,p,l,j,hle,d⟩:=g e h hn k;have q:¬0=c.n:=by omega
 have s:c.g 0=O (K (jt f) 27 G):=by rw[d 0 (by omega)];exact g0
 simp+contextual [z,ak,sub,f8,t3,k,gK,p];exact⟨u,c.n,⟨e,i,l⟩,by have:=l.nodes;omega,by simp[j],by simp;omega,by simp,by simp[q,s],by simp,by simp[o],by simp⟩
def atQ{b:St}{t:zA}(l:rq b t 8 (λu=>∃e,fj 6 1 t e/\fj 4 0 e u) r h)
 (g:∀s h,V (aj 9 [bL b.dZ,zN s] h)=.r (zP (eW b.dZ s)) h U):
 aD ap (λr _=>∃p,mI b t p/\aa r 4 (zN p.1)/\aa r 5 (zP p.2)) bE (aF Z V 8 (z f8 pT3) r h):=by
 let⟨u,a,⟨e,c,d⟩,hn,k,m,n,g0,gK,t2,t3⟩:=l;by_cases f:u.w=3
 .cases j:eW b.dZ u.F with
  |true=>
   have i:mI b t (u.F,Y):=⟨e,u,c,d,by simp[f,j]⟩;simp+contextual [z,ak,sub,f8,mG,t2,t3,k,g0,gK,f,j,g,an];exact i
  |false=>
   have i:mI b t (⟨#[]⟩,G):=⟨e,u,c,d,by simp[f,j]⟩;simp+contextual [z,ak,sub,f8,mG,t2,t3,k,g0,gK,f,j,g,an];exact i
 .have i:mI b t (⟨#[]⟩,G):=⟨e,u,c,d,by simp[f]⟩;simp+contextual [z,ak,sub,f8,t2,t3,k,gK,f,an];exact i
def arF:∃f:St×zA->ByteArray×Bool,aJ Z prog 8 (λx=>x.1.Ok/\zD x.2<1073741824) (λx=>[dO x.1,D x.2]) (λx=>pU (f x))/\∀x,(x.1.Ok/\zD x.2<1073741824)->mI x.1 x.2 (f x):=by
 refine iC pU (λ(x:St×zA) p=>mI x.1 x.2 p) λ⟨j,t⟩⟨b,l⟩=>?_
 obtain⟨C,A,B,d,g,w⟩:∃C,aR Z prog C/\Has C 9 (λx:nS=>I x.1<ao) oD (λx=>zP (eW x.1 x.2))/\(∀a h,C 30 a h=U)/\(∀a h,C 31 a h=U)/\(∀a h,C 102 a h=U):=
  ⟨_,aZ aW Kr,Has.Ad λx y e=>by rw[ND e],λ_ _=>rfl,λ_ _=>rfl,λ_ _=>rfl⟩
 have b:j.Ok:=b;have l:zD t<1073741824:=l
 have o:aD (λ_ _=>False) (λc _=>∃p,mI j t p/\c.g 4=O (zN p.1)/\c.g 5=O (zP p.2)) (λ_ _ _=>False)
  (aw Z (af Z C (zD t+2+1)) ⟨8,U⟩ (zS (z f8 pF0) (zS (z f8 pF1) (zS (z f8 pF2) (z f8 pT3)))) ⟨bF [dO j,D t] 0 .Nl,[],H.e,U⟩):=by
  refine aS (atN.Mo (λ_ _ q=>q) (λ_ _ q=>q.elim) (λ_ _ _ q=>q)) λc h i=>aS ((atO i λh r=>?_).Mo (λ_ _ q=>q) (λ_ _ q=>q.elim) (λ_ _ _ q=>q)) λc h i=>
   aS ((atP i λe h R r=>?_).Mo (λ_ _ q=>q) (λ_ _ q=>q.elim) (λ_ _ _ q=>q)) λc h i=>atQ i λs h=>B.ev _ (x:=(j.dZ,s)) b.ng h
  .exact atM d r l (by omega)
  .let⟨v,u,k,n,F,L,_,_,q3,q4,M⟩:=apa g (zD e) (t:=e) (h0:=h) (m:=zD t+2) (zR _) r (by omega) (by omega);exact⟨v,u,k,F,L,q3,q4,M⟩
 rcases o.cases with⟨_,_,_,q⟩|⟨c,k,e,p,N,P,Q⟩|⟨_,_,_,_,q⟩
 .cases q
 .refine⟨p,N,λh=>ox (v:=pU p) (h1:=k) tok C A (.Cs (Ej b) (.Cs (bg t) .Nl)) (zD t+2+1) ?_ (.Pu (YG p)) h⟩;rw[dx (vs:=[zN p.1,zP p.2]) (h2:=k) (ab:=U) F8 amp rfl (by rw[e];simp[f8,P,Q])];rfl
 .cases q
def ab8{s:St}{t:zA}{p:ByteArray×Bool}(h:mI s t p):p=o8 s.dZ t:=h.same ⟨_,_,SB _ t (zR _),Th _ _ (zR _),rfl⟩
def apc:aJ Z prog 70 (λx:St×zA=>x.1.Ok/\zD x.2<1073741824) (λx=>[dO x.1,D x.2]) (λx=>pU (o8 x.1.dZ x.2)):=by let⟨f,b,c⟩:=arE;intro x a h;have:=b x a h;simp only[ab8 (c x a)]at this;exact this
def apd:aJ Z prog 8 (λx:St×zA=>x.1.Ok/\zD x.2<1073741824) (λx=>[dO x.1,D x.2]) (λx=>pU (o8 x.1.dZ x.2)):=by let⟨f,b,c⟩:=arF;intro x a h;have:=b x a h;simp only[ab8 (c x a)]at this;exact this
end
end Go.Proofs.YtpeialehpoilbaaGreat
namespace Go.Am.Eu
theorem X7{s:ByteArray}{i:Nat}(a:i<s.size)(b:Bool):qK ((qM s).drop i) b=match G3 b ((s[i]'a).toNat:Int)with
 |some c=>qK ((qM s).drop (i+1)) c
 |none=>U:=by
 rw[yK (by rw[Rz];exact a),qK,ah6 s a]<;>rfl
theorem aid{s:ByteArray}{i:Nat}(a:s.size<=i)(b:Bool):qK ((qM s).drop i) b=O b:=by rw[yN (by rw[Rz];exact a),qK]
end Go.Am.Eu
namespace Go.Proofs.YtpeialehpoilbaaGreat
section
open Go.Am Go.Proofs Go.Am.Sym Go.Am.Eu
theorem F63:Z.f 63=O f63:=by kernel_rfl
section
variable{ev:zC->ag}{s:ByteArray}{i:Nat}{b:Bool}{tm:Tr E}{h:H}
 (t0:aa tm 0 (zN s))(t3:aa tm 3 (zP b))(t7:aa tm 7 (J (s.size:Nat)))(t8:aa tm 8 (J i))
include t0 t3 t7 t8
end
def Lg:yG:=z f63 [Y,Y,Y,G,Y,G,G]
theorem ajY:f63.body=O (zS (z f63 pF0) (zS (z f63 pF1) (zS (z f63 pF2) (zS (zS (z f63 [Y,Y,Y,G,G]) (zv 0 (yb Lg))) (z f63 pT4))))):=rfl
section
variable{ev:zC->ag}{s:ByteArray}{i:Nat}{b:Bool}{tm:Tr E}{h:H}
 (t0:aa tm 0 (zN s))(t3:aa tm 3 (zP b))(t4:aa tm 4 (J i))
include t0 t3 t4
theorem amq(d:∀x h,ev (aj 88 [yV .u8 x] h)=.r (zP (Ew x)) h U)(f:i<s.size)(g:i+1<=ao):
 aD (λa o=>o=h/\a.g 0=O (zN s)/\a.g 4=O (J (i+1:Nat))/\∃l,a.g 3=O (zP l)/\G3 b ((s[i]'f).toNat:Int)=O l)
  (λa _=>a.g 2=O (zP G)/\G3 b ((s[i]'f).toNat:Int)=U) (λ_ _ _=>False)
  (aw Z ev ⟨63,U⟩ Lg ⟨tm,[],h,U⟩):=by
 have j:=dA g;simp at j;have m:=ah7 (T:=Z) h 9 s zx i f aoZ;generalize((s[i]'f).toNat:Int)=c at m⊢;have n:Ew c=Y->¬c=46:=λe q=>by rw[q]at e;exact absurd e (by decide)
 cases k:Ew c<;>cases b
 all_goals
  first|have n:=n k|skip
  simp+contextual [Lg,z,ak,sub,f63,t0,t3,t4,f,m,d,j,an,G3,k];try repeat' (first|omega|split|simp+contextual [t0,t3,t4,d,j,an,G3,k, *])
theorem ape(e:s.size<=i):
 aD ap ap (λj a d=>j=0/\d=h/\aa a 0 (zN s)/\aa a 3 (zP b)) (aF Z ev 63 Lg tm h):=by
 have c:¬i<s.size:=by omega
 simp+contextual [Lg,z,ak,sub,f63,t0,t3,t4,c,an]
end
theorem ag8:oz ⟨#[]⟩=G:=by have e:qK (qM ⟨#[]⟩) Y=O Y:=rfl;simp[oz,e]
theorem abl:aJ Z prog 63 (λs=>s.size<ao) (λs=>[zN s]) (λs=>zP (oz s)):=by
 obtain⟨C,o,p⟩:∃C,aR Z prog C/\Has C 88 (λ_:Int=>True) (λy=>[yV .u8 y]) (λy=>zP (Ew y)):=
  ⟨_,aZ aW ajI,Has.Ad λx y e=>by simp at e;rw[e]⟩
 refine λs L=>ku tok C o dF bJ (s.size+1) F63 ajY rfl ?_;have g:=λn x m=>p.ev (T:=Z) n (x:=x) trivial m;have d:(64<(s.size:Int))=(64<s.size):=by apply propext;omega
 have r:aD (λtm h=>h=H.e/\aa tm 0 (zN s)) ap bE (aF Z (af Z C (s.size+1+1)) 63 (z f63 pF0) (bF [zN s] 0 .Nl) H.e):=by simp[z,f63]
 have t:∀tm h,(h=H.e/\aa tm 0 (zN s))->aD (λtm h=>h=H.e/\aa tm 0 (zN s)/\s.size<=64) (λtm _=>tm.g 2=O (zP (oz s))) bE (aF Z (af Z C (s.size+1+1)) 63 (z f63 pF1) tm h):=by
  rintro tm h ⟨rfl,t0⟩;by_cases h1:s=⟨#[]⟩
  .subst h1;simp[z,f63,t0,ag8,an]
  .by_cases l:64<s.size
   .have:oz s=G:=by simp[oz];intro;omega
    simp[z,f63,t0,h1,l,this,an,d]
   .simp[z,f63,t0,h1,l,an,d];omega
 have u:∀tm h,(h=H.e/\aa tm 0 (zN s)/\s.size<=64)->aD (λtm h=>h=H.e/\aa tm 0 (zN s)/\s.size<=64/\aa tm 3 (zP Y)) ap bE (aF Z (af Z C (s.size+1+1)) 63 (z f63 pF2) tm h):=by rintro tm h ⟨rfl,t0,c⟩;simp[z,f63,t0,c]
 have v:∀tm h,(h=H.e/\aa tm 0 (zN s)/\s.size<=64/\aa tm 3 (zP Y))->aD (λtm h=>h=H.e/\aa tm 0 (zN s)/\s.size<=64/\aa tm 3 (zP Y)/\aa tm 4 (J (0:Nat))) ap bE (aF Z (af Z C (s.size+1+1)) 63 (z f63 [Y,Y,Y,G,G]) tm h):=by rintro tm h ⟨rfl,t0,c,t3⟩;simp[z,f63,t0,t3,c]
 refine aS (r.Mo bT aP cS) λtm h q=>aS (t tm h q) λtm h q=>aS ((u tm h q).Mo bT aP cS) λtm h q=>
  aS (N':=λtm h=>s.size<=64/\∃b,aa tm 3 (zP b)/\qK (qM s) Y=O b) (aS ((v tm h q).Mo bT aP cS) λtm h q=>?_) λtm h q=>?_
 .obtain⟨rfl,t0,c,t3,t4⟩:=q;refine fU 0 (λj tm h=>∃i b,j=s.size-i/\i<=s.size/\h=H.e/\aa tm 0 (zN s)/\aa tm 3 (zP b)/\aa tm 4 (J (i:Nat))/\qK (qM s) Y=qK ((qM s).drop i) b) s.size ⟨0,Y,rfl,by omega,rfl,t0,t3,t4,by rw[yY]⟩ (by omega) ?_;rintro j tm h m ⟨i,b,rfl,M,rfl,t0,t3,t4,f⟩-;by_cases a:i<s.size
  .refine(amq t0 t3 t4 (g m) a (by omega)).Mo (λk N q=>?_) (λk _ q=>?_) jr
   .obtain⟨rfl,w,A,B,F,e⟩:=q;exact⟨_,by omega,i+1,B,rfl,a,rfl,w,F,A,by rw[f,X7 a,e]⟩
   .rw[q.1];have:qK (qM s) Y=U:=by rw[f,X7 a,q.2]
    simp[oz,this]
  .refine(ape t0 t3 t4 (by omega)).Mo aP aP (λ_ _ _ q=>⟨q.1,c,b,q.2.2.2,?_⟩);rw[f,aid (by omega)]
 .let⟨c,b,t3,f⟩:=q;simp+contextual [z,ak,sub,f63,t3,oz,f,c]
end
end Go.Proofs.YtpeialehpoilbaaGreat
namespace Go.Am
section
variable{T:au}{P:Program}
def Ps:ag->Option E
 |.r v _ U=>O v
 |_=>U
theorem Zy{a:ag}(h:Ps a=O v):∃m,a=.r v m U:=by
 unfold Ps at h;split at h
 .cases h;exact⟨_,rfl⟩
 .cases h
theorem ajZ(a:bM T P)(n:Nat){args:List E}(b:bX args)(c:bH v)(d:Ps (cB T (eval T n) f args H.e U (T.f f))=O v)(h:H):bP T P (zU (za f) #[] #[]) args h U (.r v h U):=by let⟨m,e⟩:=Zy d;exact Sv a (Rr a n) b e rfl (.ret (.Pu c))
end
end Go.Am
namespace Go.Proofs.YtpeialehpoilbaaGreat
section
open Go.Am Go.Proofs Go.Am.Sym Go.Am.Eu
theorem F62:Z.f 62=O f62:=by kernel_rfl
def aLg:Nat->Bool×Bool×Int×Int×Int
 |0=>(Y,G,0,0,-1)
 |1=>(G,G,0,0,-1)
 |2=>(G,G,1,0,-1)
 |3=>(G,Y,-1,0,-1)
 |4=>(G,G,0,2,-1)
 |5=>(G,G,0,2,1)
 |6=>(G,G,0,2,1)
 |7=>(G,G,0,2,1)
 |8=>(G,G,0,3,-1)
 |9=>(G,G,0,1,-1)
 |10=>(G,G,0,1,-1)
 |11=>(G,G,0,3,2)
 |12=>(Y,G,0,0,-1)
 |_=>(G,G,0,0,0)
def eX(k:Nat):List E:=[zP (aLg k).1,zP (aLg k).2.1,J (aLg k).2.2.1,J (aLg k).2.2.2.1,J (aLg k).2.2.2.2]
def KP:List E:=eX 0++(eX 1++(eX 2++(eX 3++(eX 4++(eX 5++(eX 6++(eX 7++(eX 8++(eX 9++(eX 10++(eX 11++eX 12)))))))))))
def EV:E:=aAg KP
theorem aie:bH EV:=.agg (bX.ground rfl)
theorem apf:aJ Z prog 174 (λ_:Unit=>True) (λ_=>[]) (λ_=>EV):=
 λ_ _ h=>ajZ tok 3 .Nl aie (by kernel_rfl) h
theorem YH(a:0<=c)(b:c<13):c=0\/c=1\/c=2\/c=3\/c=4\/c=5\/c=6\/c=7\/c=8\/c=9\/c=10\/c=11\/c=12:=by omega
def dG(t:zA):H:=H.e.w (ad (ah (D t)) 31)
@[simp] theorem aE6{t:zA}:(dG t).b=0:=by simp[dG]
@[simp] theorem aE7{t:zA}:(dG t).n=1:=by simp[dG]
@[simp] theorem aHb{t:zA}:(dG t).g 0=O (ad (ah (D t)) 31):=by simp[dG]
theorem MK{t:zA}(h:¬Bz t):jX t=G:=by simp[jX,h]
theorem aj0:f62.body=O (zS (z f62 pF0) (zS (z f62 pF1) (zS (z f62 pF2) (zS (z f62 pF3) (zS (z f62 pF4) (z f62 pT5)))))):=rfl
section
variable{ev:zC->ag}{t:zA}{tm:Tr E}{h:H}
theorem arG:aD (λtm h=>h=dG t/\aa tm 1 (pB 0)) ap bE (aF Z ev 62 (z f62 pF0) (bF [D t] 0 .Nl) H.e):=by simp[z,f62,dG]
variable(t1:h=dG t/\aa tm 1 (pB 0))
include t1
theorem arH(a:∀k h,ev (aj 87 [J k] h)=.r (J (mZ k:Nat)) h U):
 aD (λtm h=>((0<=t.w/\t.w<13)/\I t.M=mZ t.w)/\h=dG t/\aa tm 1 (pB 0)) (λtm _=>tm.g 2=O (zP G)/\¬((0<=t.w/\t.w<13)/\I t.M=mZ t.w)) bE (aF Z ev 62 (z f62 pF1) tm h):=by
 obtain⟨rfl,t1⟩:=t1;have e:((I t.M:Int)=(mZ t.w:Int))=(I t.M=mZ t.w):=by apply propext;omega
 simp+contextual [z,ak,sub,f62,t1,an,a,e];by_cases h0:t.w<0
 .simp[h0];omega
 .by_cases h1:13<=t.w
  .simp[h0,h1];omega
  .by_cases b:I t.M=mZ t.w
   .have c:0<=t.w:=by omega
    have d:t.w<13:=by omega
    simp[h0,h1,b,c,d,t1]
   .simp[h0,h1,b]
theorem arI:aD (λtm h=>(t.Q=0\/t.w=0\/t.w=12)/\h=dG t/\aa tm 1 (pB 0)) (λtm _=>tm.g 2=O (zP G)/\¬(t.Q=0\/t.w=0\/t.w=12)) bE (aF Z ev 62 (z f62 pF2) tm h):=by obtain⟨rfl,t1⟩:=t1;by_cases h0:t.Q=0<;>by_cases h1:t.w=0<;>by_cases a:t.w=12<;>simp+contextual [z,ak,sub,f62,t1,an,h0,h1,a]
theorem arJ:aD (λtm h=>(t.F=⟨#[]⟩\/t.w=3)/\h=dG t/\aa tm 1 (pB 0)) (λtm _=>tm.g 2=O (zP G)/\¬(t.F=⟨#[]⟩\/t.w=3)) bE (aF Z ev 62 (z f62 pF3) tm h):=by obtain⟨rfl,t1⟩:=t1;by_cases h0:t.F=⟨#[]⟩<;>by_cases h1:t.w=3<;>simp+contextual [z,ak,sub,f62,t1,an,h0,h1]
theorem arK:aD (λtm h=>¬t.w=2/\h=dG t/\aa tm 1 (pB 0)) (λtm _=>t.w=2/\aa tm 2 (zP (yF (I t.H=1)))) bE (aF Z ev 62 (z f62 pF4) tm h):=by
 obtain⟨rfl,t1⟩:=t1;have e:((I t.H:Int)=1)=(I t.H=1):=by apply propext;omega
 by_cases h0:t.w=2<;>simp+contextual [z,ak,sub,f62,t1,an,h0,e]
theorem arL:aD ap (λtm _=>tm.g 2=O (zP (yF (I t.H=0\/t.w=3)))) bE (aF Z ev 62 (z f62 pT5) tm h):=by
 obtain⟨rfl,t1⟩:=t1;have e:((I t.H:Int)=0)=(I t.H=0):=by apply propext;omega
 by_cases h0:I t.H=0<;>by_cases h1:t.w=3<;>simp+contextual [z,ak,sub,f62,t1,h0,h1]
end
theorem apg:aJ Z prog 62 (λ_=>True) (λt=>[D t]) (λt=>zP (jX t)):=by
 obtain⟨C,j,k⟩:∃C,aR Z prog C/\Has C 87 (λ_:Int=>True) (λy=>[J y]) (λy=>J (mZ y:Nat)):=
  ⟨_,aZ aW ao0,Has.Ad λx y e=>by simp at e;rw[e]⟩
 refine λt _=>ku tok C j (.Cs (bg t) .Nl) bJ 1 F62 aj0 rfl ?_;have c:=λn x m=>k.ev (T:=Z) n (x:=x) trivial m
 refine aS (arG.Mo bT aP cS) λtm h l=>aS ((arH l (c _)).Mo bT (λ_ _ q=>?_) cS) λtm h b=>
  aS ((arI b.2).Mo bT (λ_ _ q=>?_) cS) λtm h d=>aS ((arJ d.2).Mo bT (λ_ _ q=>?_) cS) λtm h f=>
  aS ((arK f.2).Mo bT (λ_ _ q=>?_) cS) λtm h i=>(arL i.2).Mo aP (λ_ _ q=>?_) cS
 .show _=O (zP (jX t));rw[q.1,MK λa=>q.2 ⟨a.1,a.2.1⟩]
 .show _=O (zP (jX t));rw[q.1,MK λa=>q.2 a.2.2.1]
 .show _=O (zP (jX t));rw[q.1,MK λa=>q.2 a.2.2.2.1]
 .rw[q.2]
  have:Bz t<->I t.H=1:=by unfold Bz;rw[if_pos q.1];exact⟨λa=>a.2.2.2.2,λg=>⟨b.1.1,b.1.2,d.1,f.1,g⟩⟩
  simp[jX,this]
 .rw[q]
  have:Bz t<->(I t.H=0\/t.w=3):=by unfold Bz;rw[if_neg i.1];exact⟨λa=>a.2.2.2.2,λg=>⟨b.1.1,b.1.2,d.1,f.1,g⟩⟩
  simp[jX,this]
@[simp] theorem aIM:zero Z 248=O (aAg [zP G,zP G,J 0,J 0,J 0]):=by kernel_rfl
theorem avM:Am.zI Z 248=O 5:=by kernel_rfl
@[simp] theorem aE8{h:H}:aX Z h 248 0 (O (zM (O ⟨n,k,U⟩)))=.v (zM (O ⟨n,k+0,U⟩)) h:=by kernel_rfl
@[simp] theorem aE9{h:H}:aX Z h 248 1 (O (zM (O ⟨n,k,U⟩)))=.v (zM (O ⟨n,k+1,U⟩)) h:=by kernel_rfl
@[simp] theorem aFa{h:H}:aX Z h 248 2 (O (zM (O ⟨n,k,U⟩)))=.v (zM (O ⟨n,k+2,U⟩)) h:=by kernel_rfl
@[simp] theorem aFb{h:H}:aX Z h 248 3 (O (zM (O ⟨n,k,U⟩)))=.v (zM (O ⟨n,k+3,U⟩)) h:=by kernel_rfl
@[simp] theorem aFc{h:H}:aX Z h 248 4 (O (zM (O ⟨n,k,U⟩)))=.v (zM (O ⟨n,k+4,U⟩)) h:=by kernel_rfl
@[simp] theorem aHc:zE Z 4 (eX k) 0=O (zP (aLg k).1):=by rw[p4];rfl
@[simp] theorem aHd:zE Z 4 (eX k) 1=O (zP (aLg k).2.1):=by rw[p4];rfl
@[simp] theorem aHe:zE Z 3 (eX k) 2=O (J (aLg k).2.2.1):=by rw[p3];rfl
@[simp] theorem aHf:zE Z 3 (eX k) 3=O (J (aLg k).2.2.2.1):=by rw[p3];rfl
@[simp] theorem aHg:zE Z 3 (eX k) 4=O (J (aLg k).2.2.2.2):=by rw[p3];rfl
@[simp] theorem aFd{h:H}:zG Z h 248 (aAg (eX k)) (pB n)=ml h n 0 (eX k) (h.g n):=by show bN U (ml h n 0 (eX k) (h.g n)) (fits (eX k) (Am.zI Z 248))=_;rw[avM];rfl
@[simp] theorem aBS{h:H}{x y a:E}{g:Bool}:ml h n 0 (eX k) (O (K [v,N,x,y,a] s g))=O (h.p n (K (eX k) s g)):=rfl
section
variable{ev:zC->ag}{t:zA}{tm:Tr E}{h:H}
end
end
section
open Go.Am Go.Proofs Go.Am.Sym Go.Am.Eu
def F17:Z.f 17=O f17:=by kernel_rfl
def qZ:yG:=z f17 [Y,Y,G,Y,G,G]
def aj1:f17.body=O (zS (z f17 pF0) (zS (z f17 pF1) (zS (zS (z f17 [Y,Y,G,G]) (zv 0 (yb qZ))) (z f17 pT3)))):=rfl
structure H5(x:aB)(c:Nat)(i:Nat)(tm:Tr E)(h:H):Prop where
 base:h.b=0
 next:0<h.n
 cell:ae h 0 (ad (ah (aT x)) 63)
 t1:aa tm 1 (pB 0)
 tc:aa tm c (J i)
def ZA{i:Nat}(a:0<i)(b:i<=ao):zx.wrap ((i:Int)-1)=(i-1:Nat):=by rw[<-dA (n:=i-1) (by omega)];congr 1;omega
section
variable{ev:zC->ag}{x:aB}{i:Nat}{tm:Tr E}{h:H}
def amr(A:H5 x 3 i tm h)(n:i<I x.v)(y:i+1<=ao):
 aD (λg v=>qY x i n/\H5 x 3 (i+1) g v) (λg _=>g.g 2=O (zP G)/\¬qY x i n) (λ_ _ _=>False)
  (aw Z ev ⟨17,U⟩ qZ ⟨tm,[],h,U⟩):=by
 obtain⟨q,r,s,t,u⟩:=A;have o:=dA y;simp at o;have f:h.n≠0:=by omega
 have l:=λk=>ZA (i:=i) k (by omega);have p:i-1<I x.v:=by omega
 have B:∀g v,v.b=0->0<v.n->v.g 0=O (K (ah (aT x)) 63 G)->g.g 1=O (zM (O ⟨0,0,U⟩))->g.g 3=O (J ((i:Int)+1))->H5 x 3 (i+1) g v:=λg v a b c d e=>⟨a,b,c,d,e⟩;by_cases j:0<i
 all_goals
  by_cases c1:x.v[i].index< -65536
  .simp+contextual [qZ,z,ak,sub,f17,t,u,s,q,r,f,f.symm,n,o,an,c1];intro m;unfold qY at m;omega
  by_cases w:8<=x.v[i].index
  .simp+contextual [qZ,z,ak,sub,f17,t,u,s,q,r,f,f.symm,n,o,an,c1,w];intro m;unfold qY at m;omega
  by_cases c3:x.v[i].plus<0
  .simp+contextual [qZ,z,ak,sub,f17,t,u,s,q,r,f,f.symm,n,o,an,c1,w,c3];intro m;unfold qY at m;omega
  by_cases c4:100<x.v[i].plus
  .simp+contextual [qZ,z,ak,sub,f17,t,u,s,q,r,f,f.symm,n,o,an,c1,w,c3,c4];intro m;unfold qY at m;omega
  first
   |(have l:=l j
     by_cases c5:x.v[i].index<=x.v[i-1].index
     .simp+contextual [qZ,z,ak,sub,f17,t,u,s,q,r,f,f.symm,n,o,an,c1,w,c3,c4,c5,j,l,p];intro m;unfold qY at m;omega)
   |skip
  by_cases c6:0<x.c
  .by_cases c7:x.c<=x.v[i].plus
   .simp+contextual [qZ,z,ak,sub,f17,t,u,s,q,r,f,f.symm,n,o,an,c1,w,c3,c4,j,l,p,c6,c7, *];intro m;unfold qY at m;omega
   .simp+contextual [qZ,z,ak,sub,f17,t,u,s,q,r,f,f.symm,n,o,an,c1,w,c3,c4,j,l,p,c6,c7, *];unfold qY;omega
  .simp+contextual [qZ,z,ak,sub,f17,t,u,s,q,r,f,f.symm,n,o,an,c1,w,c3,c4,j,l,p,c6, *];unfold qY;omega
def aph(b:H5 x 3 i tm h)(e:I x.v<=i):
 aD ap ap (λj _ _=>j=0) (aF Z ev 17 qZ tm h):=by
 let⟨c,hn,h0,t1,t3⟩:=b;have a:¬i<I x.v:=by omega
 have d:h.n≠0:=by omega
 simp+contextual [qZ,z,ak,sub,f17,t1,t3,h0,c,a,an]
end
def Cq{x:aB}(h:¬lu x):fL x=G:=by simp[fL,h]
def Ri{x:aB}(h:lu x):fL x=Y:=by simp[fL,h]
def api:aJ Z prog 17 (λx=>I x.v<ao) (λx=>[aT x]) (λx=>zP (fL x)):=by
 refine λx y=>ku (v:=zP (fL x)) tok cg aW (.Cs (kR x) .Nl) bJ (I x.v+1) F17 aj1 rfl ?_
 have p:aD (λtm h=>h=H.e.w (ad (ah (aT x)) 63)/\aa tm 1 (pB 0)) ap bE (aF Z (af Z cg (I x.v+1+1)) 17 (z f17 pF0) (bF [aT x] 0 .Nl) H.e):=by simp[z,f17]
 have r:∀tm h,(h=H.e.w (ad (ah (aT x)) 63)/\aa tm 1 (pB 0))->aD (λtm h=>(0<=x.c/\x.c<=100)/\h=H.e.w (ad (ah (aT x)) 63)/\aa tm 1 (pB 0)) (λtm _=>tm.g 2=O (zP (fL x))) bE
  (aF Z (af Z cg (I x.v+1+1)) 17 (z f17 pF1) tm h):=by
  rintro tm h ⟨rfl,d⟩;by_cases c1:x.c<0
  .rw[Cq λf=>by have:=f.1;omega];simp[z,f17,d,c1,an]
  .by_cases o:100<x.c
   .rw[Cq λf=>by have:=f.1;omega];simp[z,f17,d,c1,o,an]
   .have s:0<=x.c:=by omega
    have t:x.c<=100:=by omega
    simp[z,f17,d,c1,o,an,s,t]
 have u:∀tm h,((0<=x.c/\x.c<=100)/\h=H.e.w (ad (ah (aT x)) 63)/\aa tm 1 (pB 0))->aD (λtm h=>(0<=x.c/\x.c<=100)/\H5 x 3 0 tm h) ap bE
  (aF Z (af Z cg (I x.v+1+1)) 17 (z f17 [Y,Y,G,G]) tm h):=by
  rintro tm h ⟨l,rfl,d⟩;simp[z,f17,l];exact⟨by simp,by simp,by simp,by simp[d],by simp⟩
 refine aS (p.Mo bT aP cS) λtm h q=>aS (r tm h q) λtm h q=>
  aS (N':=λtm h=>lu x) (aS ((u tm h q).Mo bT aP cS) λtm h q=>?_) λtm h q=>?_
 .let⟨l,g⟩:=q;refine fU 0 (λj tm h=>∃i,j=I x.v-i/\i<=I x.v/\H5 x 3 i tm h/\∀k c,k<i->qY x k c) (I x.v) ⟨0,rfl,by omega,g,λk _ c=>by omega⟩ (by omega) ?_;rintro j tm h m ⟨i,rfl,A,g,a⟩-;by_cases b:i<I x.v
  .refine(amr g b (by omega)).Mo (λn B q=>⟨_,by omega,i+1,rfl,b,q.2,λk c w=>?_⟩) (λn _ q=>?_) jr
   .by_cases e:k=i
    .subst e;exact q.1
    .exact a k c (by omega)
   .rw[q.1,Cq λf=>q.2 (f.2 i b)]
  .exact(aph g (by omega)).Mo aP aP (λ_ _ _ q=>⟨q,l,λk c=>a k c (by omega)⟩)
 .rw[Ri q];simp[z,f17]
end
end Go.Proofs.YtpeialehpoilbaaGreat
namespace Go.Am
section
variable{T:au}{P:Program}{C:aV}
@[simp] theorem Sym.aBT{h:H}{b:List E}:funcOf h (za f) (O p) (O b)=.v (zU (za f) ⟨p⟩ ⟨b⟩) h:=rfl
def abm(n:Nat){args:List E}{l:List E}{h:H}(a:C f (args++v::l) h=U):af T C (n+1) (.call (zU (za f) ⟨[]⟩ ⟨v::l⟩) args h U)=cB T (af T C n) f (args++v::l) h U (T.f f):=by have:=GJ (T:=T) (C:=pP C) (t:=.call (zU (za f) ⟨[]⟩ ⟨v::l⟩) args h U) a n;rw[show af T C (n+1) (.call (zU (za f) ⟨[]⟩ ⟨v::l⟩) args h U)=_ from this];show cB T (af T C n) f ([]++args++v::l) h U (T.f f)=_;rw[List.nil_append]
def nT(h0 h:H):Prop:=h.b=0/\h0.n<=h.n/\∀b,b<h0.n->h.g b=h0.g b
def nT.refl{h:H}(hb:h.b=0):nT h h:=⟨hb,zR _,λ_ _=>rfl⟩
def nT.new{h0 h:H}(a:nT h0 h)(o:ai):nT h0 (h.w o):=⟨by simp[a.1],by have:=a.2.1;simp;omega,λj b=>by
 have:=a.2.1;have q:¬j=h.n:=by omega
 simp[q,a.2.2 j b]⟩
def nT.get{h0 h:H}(a:nT h0 h){b:Nat}{o:ai}(c:b<h0.n)(d:h0.g b=O o):h.g b=O o:=by rw[a.2.2 b c,d]
end
end Go.Am
namespace Go.Proofs.YtpeialehpoilbaaGreat
section
open Go.Am Go.Proofs Go.Am.Sym Go.Am.Eu
def F194:Z.f 194=O f194:=by kernel_rfl
def F233:Z.f 233=O f233:=by kernel_rfl
def F266:Z.f 266=O f266:=by kernel_rfl
def F265:Z.f 265=O f265:=by kernel_rfl
def F289:Z.f 289=O f289:=by kernel_rfl
abbrev oW(b:Nat):E:=zU (za 266) ⟨[]⟩ ⟨[pB b]⟩
def arM{C:aV}(a:C 266=λ_ _=>U){b:Nat}{h:H}{x:aB}{v:ga}(c:h.b=0)(d:b<h.n)(e:ae h b (ad (ah (aT x)) 63)):
 af Z C (n+2) (.call (oW b) [cW v] h U)=.r (zP (yF (x.c<=v.plus))) (h.w (ad (ah (cW v)) 96)) U:=by
 have q:¬b=h.n:=by omega
 rw[abm _ (by rw[a]),dx (vs:=[zP (yF (x.c<=v.plus))]) (h2:=h.w (ad (ah (cW v)) 96)) (ab:=U) F266 rfl rfl (by simp[f266,c,e,q])]
 rfl
def EW:yG:=z f289 [Y,G,Y,G,G]
def aif:f289.body=O (zS (z f289 pF0) (zS (zS (z f289 [Y,G,G]) (zv 0 (yb EW))) (z f289 pT2))):=rfl
structure H6(l:List ga)(f:E)(i:Nat)(h0:H)(tm:Tr E)(h:H):Prop where
 gl:nT h0 h
 t0:aa tm 0 (fq l)
 t1:aa tm 1 f
 t7:aa tm 7 (J (I l:Nat))
 t8:aa tm 8 (J i)
section
variable{ev:zC->ag}{l:List ga}{x:aB}{b i:Nat}{tm:Tr E}{h h0:H}
def aj2(t:H6 l (oW b) i h0 tm h)(m:b<h0.n)(u:ae h0 b (ad (ah (aT x)) 63))(q:i<I l)(n:i+1<=ao)
 (o:∀(v:ga)(h:H),h.b=0->b<h.n->ae h b (ad (ah (aT x)) 63)->ev (.call (oW b) [cW v] h U)=.r (zP (yF (x.c<=v.plus))) (h.w (ad (ah (cW v)) 96)) U):
 aD (λf g=>¬x.c<=l[i].plus/\H6 l (oW b) (i+1) h0 f g) (λf g=>x.c<=l[i].plus/\nT h0 g/\aa f 4 (J i)) bE
  (aF Z ev 289 EW tm h):=by
 let⟨k,t0,t1,t7,t8⟩:=t;have r:=dA n;simp at r;have s:=o l[i] h k.1 (by have:=k.2.1;omega) (k.get m u);have j:nT h0 (h.w (ad (ah (cW l[i])) 96)):=k.new _;have p:∀f g,nT h0 g->aa f 0 (fq l)->aa f 1 (oW b)->aa f 7 (J (I l:Nat))->aa f 8 (J ((i:Int)+1))->H6 l (oW b) (i+1) h0 f g:=λf g a b c d e=>⟨a,b,c,d,e⟩;by_cases c:x.c<=l[i].plus
 .simp[EW,z,f289,t0,t1,t7,t8,q,s,c,j]
 .simp[EW,z,f289,t0,t1,t7,t8,q,r,s,c];exact p _ _ j (by simp[t0]) (by simp[t1]) (by simp[t7]) (by simp)
def ams(b:H6 l v i h0 tm h)(e:I l<=i):
 aD ap ap (λj _ c=>j=0/\nT h0 c) (aF Z ev 289 EW tm h):=by
 let⟨d,t0,t1,t7,t8⟩:=b;have a:¬i<I l:=by omega
 simp[EW,z,f289,t7,t8,a,d]
end
def arN{C:aV}(o:C 266=λ_ _=>U)(A:C 289=λ_ _=>U){l:List ga}{x:aB}{b :Nat}{h0:H}(B:h0.b=0)(p:b<h0.n)(F:h0.g b=O (K (ah (aT x)) 63 G))(W:I l<ao)(X:I l+3<=m):
 ∃k a,af Z C (m+1) (aj 289 [fq l,oW b] h0)=.r (J k) a U/\nT h0 a/\(0<=k<->∃v∈l,x.c<=v.plus):=by
 have r:aD (λ_ _=>False) (λtm a=>∃k,tm.g 4=O (J k)/\nT h0 a/\(0<=k<->∃v∈l,x.c<=v.plus)) (λ_ _ _=>False)
  (aw Z (af Z C m) ⟨289,U⟩ (zS (z f289 pF0) (zS (zS (z f289 [Y,G,G]) (zv 0 (yb EW))) (z f289 pT2))) ⟨bF [fq l,oW b] 0 .Nl,[],h0,U⟩):=by
  have L:aD (λtm h=>h=h0/\tm.g 0=O (fq l)/\tm.g 1=O (oW b)) (λ_ _=>False) (λ_ _ _=>False) (aw Z (af Z C m) ⟨289,U⟩ (z f289 pF0) ⟨bF [fq l,oW b] 0 .Nl,[],h0,U⟩):=by simp[z,f289]
  have M:∀tm h,(h=h0/\tm.g 0=O (fq l)/\tm.g 1=O (oW b))->aD (λtm h=>H6 l (oW b) 0 h0 tm h) (λ_ _=>False) (λ_ _ _=>False) (aw Z (af Z C m) ⟨289,U⟩ (z f289 [Y,G,G]) ⟨tm,[],h,U⟩):=by rintro tm h ⟨rfl,y,N⟩;simp[z,f289,y];exact⟨.refl B,by simp[y],by simp[N],by simp,by simp⟩
  refine aS (L.Mo (λ_ _ q=>q) (λ_ _ q=>q.elim) (λ_ _ _ q=>q)) λtm h q=>aS (N':=λ_ h=>nT h0 h/\¬∃v∈l,x.c<=v.plus) (aS ((M tm h q).Mo (λ_ _ q=>q) (λ_ _ q=>q.elim) (λ_ _ _ q=>q)) λtm h n=>?_) λtm h q=>?_
  .refine fU 3 (λj tm h=>∃i,j=I l-i/\i<=I l/\H6 l (oW b) i h0 tm h/\∀k(c:k<I l),k<i->¬x.c<=l[k].plus) (I l) ⟨0,rfl,by omega,n,λk _ c=>by omega⟩ (by omega) ?_;rintro j tm h m ⟨i,rfl,hi,n,d⟩ P;by_cases f:i<I l
   .obtain⟨m,rfl⟩:∃s,m=s+2:=⟨m-2,by omega⟩;refine(aj2 n p F f (by omega) (λv h Q h2 R=>arM o Q h2 R)).Mo (λt a q=>⟨_,by omega,i+1,rfl,f,q.2,λk c S=>?_⟩) (λt a q=>?_) (λ_ _ _ q=>q.elim)
    .by_cases e:k=i
     .subst e;exact q.1
     .exact d k c (by omega)
    .exact⟨i,q.2.2,q.2.1,⟨λ_=>⟨l[i],zW f,q.1⟩,λ_=>by omega⟩⟩
   .refine(ams n (by omega)).Mo (λ_ _ q=>q.elim) (λ_ _ q=>q.elim) (λ_ _ _ q=>⟨q.1,q.2,?_⟩);rintro⟨v,u,w⟩;obtain⟨k,c,rfl⟩:=yk.1 u;exact d k c (by omega) w
  .let⟨c,T⟩:=q;simp[z,f289]
   exact⟨c,λv u=>by have:¬x.c<=v.plus:=λw=>T ⟨v,u,w⟩;omega⟩
 rcases r.cases with⟨_,_,_,q⟩|⟨tm,a,e,k,V,c,g⟩|⟨_,_,_,_,q⟩
 .cases q
 .refine⟨k,a,?_,c,g⟩;obtain⟨m,rfl⟩:∃s,m=s+1:=⟨m-1,by omega⟩;rw[ll _ (by rw[A]),dx (vs:=[J k]) (h2:=a) (ab:=U) F289 aif rfl (by rw[e];simp[V])];rfl
 .cases q
open Classical in
def oS(x:aB):Bool:=yF (∃v∈x.v,x.c<=v.plus)
def arO{C:aV}(d:C 266=λ_ _=>U)(h:C 289=λ_ _=>U)(f:C 265=λ_ _=>U){x:aB}{b :Nat}{h0:H}(i:h0.b=0)(g:b<h0.n)(j:ae h0 b (ad (ah (aT x)) 63))(l:I x.v<ao)(q:I x.v+4<=m):
 ∃a,af Z C (m+1) (aj 265 [fq x.v,oW b] h0)=.r (zP (oS x)) a U/\nT h0 a:=by
 obtain⟨m,rfl⟩:∃n,m=n+1:=⟨m-1,by omega⟩;let⟨k,a,e,o,c⟩:=arN d h i g j l (m:=m) (by omega);have p:oS x=yF (0<=k):=by rw[Bool.eq_iff_iff];simp[oS,c]
 refine⟨a,?_,o⟩;rw[ll _ (by rw[f]),dx (vs:=[zP (oS x)]) (h2:=a) (ab:=U) F265 rfl rfl (by simp[f265,e,p])];rfl
def YI:aJ Z prog 233 (λx=>I x.v<ao) (λx=>[aT x]) (λx=>zP (oS x)):=by refine λx a=>ku (v:=zP (oS x)) tok cg aW (.Cs (kR x) .Nl) bJ (I x.v+5) F233 rfl rfl ?_;let⟨c,e,d⟩:=arO (C:=cg) rfl rfl rfl (x:=x) (b:=0) (m:=I x.v+5) (h0:=H.e.w (ad (ah (aT x)) 63)) (by simp) (by simp) (by simp) a (by omega);simp[e]
end
end Go.Proofs.YtpeialehpoilbaaGreat
namespace Go.Am.Eu
section
open Go.Am
def ra:ByteArray:=⟨#[46,114,101,99]⟩
def rY(p a:Int):Nat->List gM->List (ByteArray×cK)
 |_,[]=>[]
 |i,c::l=>(c.name,⟨4,a,i,p,c.type⟩)::rY p a (i+1) l
def aLh(p a:Int):Nat->List fR->List (ByteArray×cK)
 |_,[]=>[]
 |i,f::l=>(f.name,⟨6,a,i,p,f.type⟩)::aLh p a (i+1) l
def dL(d:zB)(a:Int):List (ByteArray×cK):=
 if d.k=0\/d.k=1\/d.k=2 then[(d.n,⟨d.k,a,0,d.p,d.t⟩)]
 else if d.k=3 then(d.n,⟨3,a,0,d.p,d.t⟩)::(rY d.p a 0 d.aY++[(d.n++ra,⟨5,a,0,d.bD.params,d.bD.type⟩)])
 else if d.k=4 then aLh d.p a 0 d.bk
 else[]
theorem GW(p a:Int):∀(i:Nat)(l:List gM),I (rY p a i l)=I l
 |_,[]=>rfl
 |i,c::l=>by simp[rY,GW p a (i+1) l]
theorem R7(p a:Int):∀(i:Nat)(l:List gM)(k:Nat)(b:k<I l),(rY p a i l)[k]?=O (l[k].name,⟨4,a,(i+k:Nat),p,l[k].type⟩)
 |_,[],k,b=>by simp at b
 |i,c::l,0,b=>by simp[rY]
 |i,c::l,k+1,b=>by have:=R7 p a (i+1) l k (by simpa using b);simp[rY,this];omega
theorem SC(p a:Int):∀(i:Nat)(l:List fR),I (aLh p a i l)=I l
 |_,[]=>rfl
 |i,c::l=>by simp[aLh,SC p a (i+1) l]
theorem SD(p a:Int):∀(i:Nat)(l:List fR)(k:Nat)(b:k<I l),(aLh p a i l)[k]?=O (l[k].name,⟨6,a,(i+k:Nat),p,l[k].type⟩)
 |_,[],k,b=>by simp at b
 |i,c::l,0,b=>by simp[aLh]
 |i,c::l,k+1,b=>by have:=SD p a (i+1) l k (by simpa using b);simp[aLh,this];omega
end
end Go.Am.Eu
namespace Go.Proofs.YtpeialehpoilbaaGreat
section
open Go.Am Go.Proofs Go.Am.Sym Go.Am.Eu
theorem F153:Z.f 153=O f153:=by kernel_rfl
theorem F116:Z.f 116=O f116:=by kernel_rfl
abbrev Hu(p:ByteArray×cK):List E:=[zN p.1,ee p.2]
abbrev H7(d:zB)(a:Int):E:=zU (za 153) ⟨[]⟩ ⟨[ar (J a) 0,ar (bI d) 0]⟩
theorem abn(h:H)(x y:Operand){a b:ByteArray}(g:a.size+b.size<=ao):fu Z h .add 9 x y (O (zN a)) (O (zN b))=.v (zN (a++b)) h:=by
 show jU h (dT Z.prog (do xR .add 9 x y (zN a) (zN b);wz .add 9 (zN a) (zN b)))=_
 have e:dT Z.prog (do xR .add 9 x y (zN a) (zN b);wz .add 9 (zN a) (zN b))=O (zN (a++b)):=by
  have i:∀{d j:Type}(m:Sem d)(f:d->Sem j),(m>>=f)=tR m f:=λ_ _=>rfl;have k:∀{d:Type}(a:d),(pure a:Sem d)=tT a:=λ_=>rfl;have l:∀{d:Type}(a:d),dT Z.prog (tT a)=O a:=λ_=>rfl
  have c:¬(zx.max<((a.size+b.size:Nat):Int)):=by
   have:zx.max=9223372036854775807:=by decide
   rw[this];unfold ao at g;omega
  simp at c;have n:¬(9223372036854775807<(a.size:Int)+b.size):=by omega
  simp[xR,wz,tZ,i,k,tR,n,l]
 rw[e];rfl
@[simp] theorem aDm{k:yq}{n:Int}:ah (yV k n)=[yV k n]:=rfl
@[simp] theorem Br:zE Z 3 [v] 0=O v:=by rw[p3];rfl
@[simp] theorem aIN:zero Z 163=O (aAg [J 0,J 0,J 0,J 0,J 0,J 0,zN ⟨#[]⟩,zL U 0 0,zL U 0 0]):=by kernel_rfl
abbrev z9:List E:=[J 0,J 0,J 0,J 0,J 0,J 0,zN ⟨#[]⟩,zL U 0 0,zL U 0 0]
theorem apj(h:H)(a p:Int)(v w x y b:E):eK Z h 163 (O (aAg z9)) (O [(1,J a),(3,J p),(4,aAg [v,w,x,y,b])])=.v (aAg [J 0,J a,J 0,J p,v,w,x,y,b]) h:=by kernel_rfl
theorem amt(h:H)(k a i p:Int)(v w x y b:E):eK Z h 163 (O (aAg z9)) (O [(0,J k),(1,J a),(2,J i),(3,J p),(4,aAg [v,w,x,y,b])])=.v (aAg [J k,J a,J i,J p,v,w,x,y,b]) h:=by kernel_rfl
theorem amu(h:H)(k a p:Int)(v w x y b:E):eK Z h 163 (O (aAg z9)) (O [(0,J k),(1,J a),(3,J p),(4,aAg [v,w,x,y,b])])=.v (aAg [J k,J a,J 0,J p,v,w,x,y,b]) h:=by kernel_rfl
@[simp] theorem be1{a :Int}{t:zA}:eK Z h 163 (O (aAg z9)) (O [(1,J a),(3,J e),(4,D t)])=.v (ee ⟨0,a,0,e,t⟩) h:=by rw[eD];exact apj ..
@[simp] theorem be5{a i p:Int}{t:zA}:eK Z h 163 (O (aAg z9)) (O [(0,J e),(1,J a),(2,J i),(3,J p),(4,D t)])=.v (ee ⟨e,a,i,p,t⟩) h:=by rw[eD];exact amt ..
@[simp] theorem be4{a p:Int}{t:zA}:eK Z h 163 (O (aAg z9)) (O [(0,J e),(1,J a),(3,J p),(4,D t)])=.v (ee ⟨e,a,0,p,t⟩) h:=by rw[eD];exact amu ..
theorem mS{b:Nat}{c:List E}{x:cK}{g:Bool}(a:ae h b (K c t g))(d:I c=9):zG Z h 163 (ee x) (pB b)=O (h.p b (K (ew x) t g)):=by rw[dY (v:=ee x) (n:=9) (off:=0) OZ rfl rfl a (by omega)];congr 2;simp[d]
theorem R8{b:Nat}{x:cK}{k:Int}{g:Bool}(a:ae h b (K (ew x) t g)):zG Z h 3 (J k) (pB b)=O (h.p b (K (ew {x with kind:=k}) t g)):=by rw[dY (v:=J k) (n:=1) (off:=0) (show Am.zI Z 3=O 1 by kernel_rfl) rfl rfl a (by show 1<=9;omega)];rfl
@[simp] theorem bi3:iQ Z h 3 (O (zf 3)) (O [(0,J 0),(1,J 1),(2,J 2)])=.v (zL (pO h.n) 3 3) (h.w (ad [J 0,J 1,J 2] 3)):=by kernel_rfl
@[simp] theorem aIO:dI Z h (O (zf 3)) (O (zL (pO k) 3 3)) (O (J 0))=.v (pB k) h:=by kernel_rfl
@[simp] theorem aIP:dI Z h (O (zf 3)) (O (zL (pO k) 3 3)) (O (J 1))=.v (zM (O ⟨k,1,U⟩)) h:=by kernel_rfl
@[simp] theorem aIQ:dI Z h (O (zf 3)) (O (zL (pO k) 3 3)) (O (J 2))=.v (zM (O ⟨k,2,U⟩)) h:=by kernel_rfl
@[simp] theorem aIR{y a:E}:zE Z 3 [v,y,a] 0=O v:=by rw[p3];rfl
@[simp] theorem aIS{y a:E}:zE Z 3 [v,y,a] 1=O y:=by rw[p3];rfl
@[simp] theorem aIT{y a:E}:zE Z 3 [v,y,a] 2=O a:=by rw[p3];rfl
structure U2(d:zB)(a:Int)(lp N Kk:Nat)(x:cK)(tm:Tr E)(h:H):Prop where
 t0:tm.g 0=O (zU (yc lp) #[] #[])
 t1:tm.g 1=O (ar (J a) 0)
 t2:tm.g 2=O (ar (bI d) 0)
 t4:tm.g 4=O (zM (O ⟨Kk,0,U⟩))
 ge:N<=Kk
 lt:Kk<h.n
 cell:h.g Kk=O (K (ew x) 163 G)
section
variable{C:aV}{d:zB}{a:Int}{lp N c n:Nat}{W:Nat->H->Prop}{Zz:H->Prop}(Ii:Iter Z C (zU (yc lp) #[] #[]) Hu (dL d a) N c W Zz)
include Ii
theorem apk(w:W 0 h):aD (λf e=>W 0 e/\f.g 16=O (J d.k)/\∃c,U2 d a lp N c ⟨0,a,0,d.p,d.t⟩ f e) (λ_ _=>False) (λ_ _ _=>False)
 (aw Z (af Z C n) ⟨153,U⟩ (zS (z f153 pF0) (z f153 pF1)) ⟨bF [zU (yc lp) #[] #[],ar (J a) 0,ar (bI d) 0] 0 .Nl,[],h,U⟩):=by
 have g:=Ii.base _ _ w;have i:=Ii.ge _ _ w;have k:=λe(q:H.g e h.n=O (K z9 163 G))=>mS (h:=e) (b:=h.n) (x:=⟨0,a,0,d.p,d.t⟩) q rfl;simp[z,f153,k];refine⟨Ii.AO _ _ _ w (by simp[g]) (by simp) λj l=>?_,h.n,by simp,by simp,by simp,by simp,i,by simp,by simp⟩;have:¬j=h.n:=by omega
 simp[this]
theorem JL{s:ByteArray}{x:cK}(g:(dL d a)[k]?=O (s,x))(w:W k h)(i:c<=n):
 ∃b f,af Z C n (.call (zU (yc lp) #[] #[]) [zN s,ee x] h U)=.r (zP b) f U/\f.b=0/\h.n<=f.n/\(∀j,N<=j->j<h.n->f.g j=h.g j)/\(b=Y->W (k+1) f)/\(b=G->Zz f):=by
 have l:k<I (dL d a):=(yf.1 g).1;have e:=(yf.1 g).2;have:=Ii.step k l h n w i;rw[e]at this;exact this
theorem amv(w:W 0 h)(f:d.k=0\/d.k=1\/d.k=2)(i:r.g 16=O (J d.k))(A:U2 d a lp N m ⟨0,a,0,d.p,d.t⟩ r h)(B:c<=n):
 aD (λ_ e=>W (I (dL d a)) e\/Zz e) (λ_ e=>W (I (dL d a)) e\/Zz e) (λ_ _ _=>False)
 (aw Z (af Z C n) ⟨153,U⟩ (z f153 pT2) ⟨r,[],h,U⟩):=by
 let⟨t0,t1,t2,t4,F,L,g⟩:=A;have t:=Ii.base _ _ w;have V:=Ii.ge _ _ w;have u:dL d a=[(d.n,⟨d.k,a,0,d.p,d.t⟩)]:=by unfold dL;rw[if_pos f]
 have v:∀o,W 0 ((h.w o).p m (K (ew ⟨d.k,a,0,d.p,d.t⟩) 163 G)):=λo=>Ii.AO _ _ _ w (by simp[t]) (by simp) λj X=>by
  have l:¬j=m:=by omega
  have M:¬j=h.n:=by omega
  simp[l,M]
 have P:=λo=>JL Ii (k:=0) (s:=d.n) (x:=⟨d.k,a,0,d.p,d.t⟩) (by rw[u];rfl) (v o) B;have l:¬m=h.n:=by omega
 have Q:=λe k(q:H.g e m=O (K (ew ⟨0,a,0,d.p,d.t⟩) 163 G))=>R8 (h:=e) (b:=m) (x:=⟨0,a,0,d.p,d.t⟩) (k:=k) q;let⟨R,e,y,k1,k2,k3,S,T⟩:=P (K [J 0,J 1,J 2] 3 G)
 have p:W (I (dL d a)) e\/Zz e:=by
  cases R with
  |true=>left;rw[u];exact S rfl
  |false=>right;exact T rfl
 rcases f with f|f|f
 all_goals
  rw[f]at y i v;simp[z,f153,t0,t2,t4,i,t,g,l,f,an,Q,y];try exact p
end
def mU:yG:=z f153 [Y,Y,G,Y,Y,Y,G]
def Al:yG:=z f153 [Y,Y,G,Y,Y,Y,Y,Y,G]
theorem ag9:z f153 pT2=zv 0 (zS (z f153 [Y,Y,G,G]) (.cond (.tmp 17) (z f153 [Y,Y,G,Y,G]) (zS (z f153 [Y,Y,G,Y,Y,G]) (.cond (.tmp 32) mU (zS (z f153 [Y,Y,G,Y,Y,Y,Y,G]) (.cond (.tmp 75) Al .skip)))))):=rfl
def H8:yG:=ak [Y,Y,G,Y,G,G] mU
theorem aj3:mU=zS (ak [G] mU) (zS (ak [Y,G] mU) (zS (zS (ak [Y,Y,G,G] mU) (zv 1 (yb H8))) (ak [Y,Y,Y] mU))):=rfl
def H9:yG:=ak [Y,G,G] Al
theorem aj4:Al=zS (ak [G] Al) (zv 3 (yb H9)):=rfl
abbrev z6:List E:=[zN ⟨#[]⟩,J 0,J 0,zN ⟨#[]⟩,zL U 0 0,zL U 0 0]
@[simp] theorem aIU:zero Z 142=O (aAg z6):=by kernel_rfl
theorem amw{b:Nat}{c:List E}{x:gM}{g:Bool}(a:ae h b (K c t g))(d:I c=6):zG Z h 142 (kA x) (pB b)=O (h.p b (K (zN x.name::tc x.type) t g)):=by rw[dY (v:=kA x) (n:=6) (off:=0) Us rfl rfl a (by omega)];congr 2;simp[d]
abbrev Qb:List E:=[zN ⟨#[]⟩,J 0,J 0,zN ⟨#[]⟩,zL U 0 0,zL U 0 0,J 0,J 0,J 0,J 0,zN ⟨#[]⟩,zL U 0 0,zL U 0 0,J 0,zL U 0 0]
@[simp] theorem aIV:zero Z 147=O (aAg Qb):=by kernel_rfl
theorem aat{b:Nat}{c:List E}{x:fR}{g:Bool}(a:ae h b (K c t g))(d:I c=15):zG Z h 147 (kc x) (pB b)=O (h.p b (K (kb x) t g)):=by rw[dY (v:=kc x) (n:=15) (off:=0) Ut (P9.len x) (P9.one x) a (by omega)];congr 2;simp[d]
structure o9(d:zB)(a:Int)(lp:Nat)(tm:Tr E):Prop where
 t0:tm.g 0=O (zU (yc lp) #[] #[])
 t1:tm.g 1=O (ar (J a) 0)
 t2:tm.g 2=O (ar (bI d) 0)
section
variable{C:aV}{d:zB}{a:Int}{lp N c n:Nat}{W:Nat->H->Prop}{Zz:H->Prop}(Ii:Iter Z C (zU (yc lp) #[] #[]) Hu (dL d a) N c W Zz)
include Ii
theorem amx(o:i<I d.aY)(u:(dL d a)[i+1]?=O (d.aY[i].name,⟨4,a,i,d.p,d.aY[i].type⟩))(w:W (i+1) h)(v:o9 d a lp r)(g:aa r 42 (eb kA d.aY))(k:aa r 43 (J (I d.aY:Nat)))(l:aa r 44 (J i))(y:c<=n)(A:i+1<=ao):
 aD (λe f=>W (i+2) f/\o9 d a lp e/\aa e 42 (eb kA d.aY)/\aa e 43 (J (I d.aY:Nat))/\aa e 44 (J (i+1:Nat))) (λ_ f=>Zz f) bE
 (aF Z (af Z C n) 153 H8 r h):=by
 let⟨t0,t1,t2⟩:=v;have m:=Ii.base _ _ w;have P:=Ii.ge _ _ w;have p:=dA A;simp at p;have s:=λf x(q:H.g f h.n=O (ad z6 142))=>amw (h:=f) (b:=h.n) (x:=x) q rfl
 have B:W (i+1) ((h.w (ad z6 142)).p h.n (ad (zN d.aY[i].name::tc d.aY[i].type) 142)):=Ii.AO _ _ _ w (by simp[m]) (by simp) λj Q=>by
  have F:¬j=h.n:=by omega
  simp[F]
 let⟨L,f,t,R,S,T,M,N⟩:=JL Ii u B y;cases L with
 |true=>
  have:=M rfl;simp[H8,mU,z,f153,t0,t1,t2,g,k,l,m,o,s,t,an,p,this];exact⟨by simp[t0],by simp[t1],by simp[t2]⟩
 |false=>
  have:=N rfl;simp[H8,mU,z,f153,t0,t1,t2,g,k,l,m,o,s,t,an,this]
theorem apl(l:I d.aY<=i)(w:W (i+1) h)(g:o9 d a lp r)(b:aa r 43 (J (I d.aY:Nat)))(c:aa r 44 (J i)):
 aD ap ap (λj e k=>j=1/\W (i+1) k/\o9 d a lp e) (aF Z (af Z C n) 153 H8 r h):=by
 have f:¬i<I d.aY:=by omega
 let⟨t0,t1,t2⟩:=g;simp[H8,mU,z,f153,b,c,f,an,w];exact⟨by simp[t0],by simp[t1],by simp[t2]⟩
theorem amy(w:W 0 h)(X:d.k=3)(l:U2 d a lp N m ⟨0,a,0,d.p,d.t⟩ r h)(hn:c+I d.aY+1<=n)(hc:I d.aY<ao)(P:d.n.size+4<=ao):
 aD (λ_ g=>W (I (dL d a)) g\/Zz g) (λ_ g=>W (I (dL d a)) g\/Zz g) (λ_ _ _=>False) (aw Z (af Z C n) ⟨153,U⟩ mU ⟨r,[],h,U⟩):=by
 let⟨t0,t1,t2,L,V2,o,v⟩:=l
 have M:dL d a=(d.n,⟨3,a,0,d.p,d.t⟩)::(rY d.p a 0 d.aY++[(d.n++ra,⟨5,a,0,d.bD.params,d.bD.type⟩)]):=by unfold dL;rw[if_neg (by omega),if_pos X]
 have hlen:I (dL d a)=I d.aY+2:=by rw[M];simp[GW]
 rw[aj3];refine aS (N':=λf g=>g=h.p m (K (ew ⟨3,a,0,d.p,d.t⟩) 163 G)/\o9 d a lp f/\f.g 4=O (zM (O ⟨m,0,U⟩))) ?_ λf g⟨eh,l,L⟩=>?_
 .have B:=Ii.base _ _ w;have hs:=λg k(q:H.g g m=O (K (ew ⟨0,a,0,d.p,d.t⟩) 163 G))=>R8 (h:=g) (b:=m) (x:=⟨0,a,0,d.p,d.t⟩) (k:=k) q;simp[mU,z,f153,L,v,hs];exact⟨by simp[t0],by simp[t1],by simp[t2]⟩
 subst eh;have B:=Ii.base _ _ w;have hN:=Ii.ge _ _ w
 have w0:W 0 (h.p m (K (ew ⟨3,a,0,d.p,d.t⟩) 163 G)):=Ii.AO _ _ _ w (by simp[B]) (by simp) λj hj=>by
  have q1:¬j=m:=by omega
  simp[q1]
 refine aS (N':=λf g=>W 1 g/\o9 d a lp f) ?_ λjH h2⟨p,l⟩=>?_
 .let⟨t0,t1,t2⟩:=l;let⟨Q,g,F,k1,k2,k3,R,S⟩:=JL Ii (k:=0) (s:=d.n) (x:=⟨3,a,0,d.p,d.t⟩) (by rw[M];rfl) w0 (by omega:c<=n);cases Q with
  |true=>
   have:=R rfl;simp[mU,z,f153,t0,t2,L,B,F,an,this];exact⟨by simp[t0],by simp[t1],by simp[t2]⟩
  |false=>
   have:=S rfl;simp[mU,z,f153,t0,t2,L,B,F,an,this]
 refine aS (N':=λf g=>W (I d.aY+1) g/\o9 d a lp f) (aS (N':=λf g=>W 1 g/\o9 d a lp f/\f.g 42=O (eb kA d.aY)/\f.g 43=O (J (I d.aY:Nat))/\f.g 44=O (J (0:Nat))) ?_ λru h3⟨p,l,A,t,u⟩=>?_) λCb h4⟨p,l⟩=>?_
 .let⟨t0,t1,t2⟩:=l;simp[mU,z,f153,t2,p];exact⟨by simp[t0],by simp[t1],by simp[t2]⟩
 .refine fU (c) (λj r h=>∃i:Nat,j=I d.aY-i/\i<=I d.aY/\W (i+1) h/\o9 d a lp r/\r.g 42=O (eb kA d.aY)/\r.g 43=O (J (I d.aY:Nat))/\r.g 44=O (J (i:Nat))) (I d.aY) ⟨0,by omega,by omega,p,l,A,t,u⟩ (by omega) ?_;rintro j r h e ⟨i,rfl,hi,p,l,A,t,u⟩ P;by_cases o:i<I d.aY
  .have hg:(dL d a)[i+1]?=O (d.aY[i].name,⟨4,a,i,d.p,d.aY[i].type⟩):=by rw[M,wG,List.getElem?_append_left (by rw[GW];exact o),R7 _ _ _ _ _ o];simp
   exact(amx Ii o hg p l A t u P (by omega)).Mo (λf g q=>⟨_,by omega,i+1,rfl,o,q⟩) (λ_ _ q=>zt q) (λ_ _ _ q=>q.elim)
  .exact(apl Ii (by omega) p l t u).Mo (λ_ _ q=>q.elim) (λ_ _ q=>q.elim) (λ_ _ _ q=>⟨q.1,by
    have:i=I d.aY:=by omega
    subst this;exact q.2⟩)
 .let⟨t0,t1,t2⟩:=l;have B:=Ii.base _ _ p
  let⟨Q,g,F,k1,k2,k3,R,S⟩:=JL Ii (k:=I d.aY+1) (s:=d.n++ra) (x:=⟨5,a,0,d.bD.params,d.bD.type⟩) (by rw[M,wG,List.getElem?_append_right (by rw[GW];omega),GW];simp) p (by omega:c<=n)
  have V:=λh x y=>abn h x y (a:=d.n) (b:=ra) (by show d.n.size+4<=_;exact P);unfold ra at V F
  have T:W (I (dL d a)) g\/Zz g:=by
   cases Q with
   |true=>left;rw[hlen];exact R rfl
   |false=>right;exact S rfl
  simp[mU,z,f153,t0,t1,t2,V,F,T]
theorem amz(t:i<I d.bk)(A:(dL d a)[i]?=O (d.bk[i].name,⟨6,a,i,d.p,d.bk[i].type⟩))(w:W i h)(B:o9 d a lp r)(g:aa r 78 (eb kc d.bk))(k:aa r 79 (J (I d.bk:Nat)))(l:aa r 80 (J i))(F:c<=n)(L:i+1<=ao):
 aD (λe f=>W (i+1) f/\o9 d a lp e/\aa e 78 (eb kc d.bk)/\aa e 79 (J (I d.bk:Nat))/\aa e 80 (J (i+1:Nat))) (λ_ f=>Zz f) bE
 (aF Z (af Z C n) 153 H9 r h):=by
 let⟨m,o,p⟩:=B;have s:=Ii.base _ _ w;have S:=Ii.ge _ _ w;have u:=dA L;simp at u;have v:=λf x(q:H.g f h.n=O (ad Qb 147))=>aat (h:=f) (b:=h.n) (x:=x) q rfl
 have M:W i ((h.w (ad Qb 147)).p h.n (ad (kb d.bk[i]) 147)):=Ii.AO _ _ _ w (by simp[s]) (by simp) λj T=>by
  have N:¬j=h.n:=by omega
  simp[N]
 let⟨P,f,y,V,X,k3,Q,R⟩:=JL Ii A M F;cases P with
 |true=>
  have:=Q rfl;simp[H9,Al,z,f153,m,o,p,g,k,l,s,t,v,y,an,u,this];exact⟨by simp[m],by simp[o],by simp[p]⟩
 |false=>
  have:=R rfl;simp[H9,Al,z,f153,m,o,p,g,k,l,s,t,v,y,an,this]
theorem apm(g:I d.bk<=i)(w:W i h)(a:aa r 79 (J (I d.bk:Nat)))(b:aa r 80 (J i)):
 aD ap ap (λj e f=>j=3/\W i f) (aF Z (af Z C n) 153 H9 r h):=by
 have c:¬i<I d.bk:=by omega
 simp[H9,Al,z,f153,a,b,c,an,w]
theorem amA(w:W 0 h)(t:d.k=4)(o:o9 d a lp r)(y:c+I d.bk+1<=n)(A:I d.bk<ao):
 aD (λ_ g=>W (I (dL d a)) g\/Zz g) (λ_ g=>W (I (dL d a)) g\/Zz g) (λ_ _ _=>False) (aw Z (af Z C n) ⟨153,U⟩ Al ⟨r,[],h,U⟩):=by
 have s:dL d a=aLh d.p a 0 d.bk:=by unfold dL;rw[if_neg (by omega),if_neg (by omega),if_pos t]
 have hlen:I (dL d a)=I d.bk:=by rw[s,SC]
 rw[aj4];refine aS (N':=λb g=>W 0 g/\o9 d a lp b/\b.g 78=O (eb kc d.bk)/\b.g 79=O (J (I d.bk:Nat))/\b.g 80=O (J (0:Nat))) ?_ λu B⟨p,o,k,e,f⟩=>?_
 .let⟨t0,t1,t2⟩:=o;simp[Al,z,f153,t2,w];exact⟨by simp[t0],by simp[t1],by simp[t2]⟩
 .refine fU (c) (λj r h=>∃i:Nat,j=I d.bk-i/\i<=I d.bk/\W i h/\o9 d a lp r/\r.g 78=O (eb kc d.bk)/\r.g 79=O (J (I d.bk:Nat))/\r.g 80=O (J (i:Nat))) (I d.bk) ⟨0,by omega,by omega,p,o,k,e,f⟩ (by omega) ?_;rintro j r h m ⟨i,rfl,F,p,o,k,e,f⟩ v;by_cases l:i<I d.bk
  .have x:(dL d a)[i]?=O (d.bk[i].name,⟨6,a,i,d.p,d.bk[i].type⟩):=by rw[s,SD _ _ _ _ _ l];simp
   exact(amz Ii l x p o k e f v (by omega)).Mo (λb g q=>⟨_,by omega,i+1,rfl,l,q⟩) (λ_ _ q=>zt q) (λ_ _ _ q=>q.elim)
  .exact(apm Ii (by omega) p e f).Mo (λ_ _ q=>q.elim) (λ_ _ q=>q.elim) (λ_ _ _ q=>⟨q.1,by
    have:i=I d.bk:=by omega
    subst this;left;rw[hlen];exact q.2⟩)
structure Small(d:zB):Prop where
 name:d.n.size+4<=ao
 aY:I d.aY<ao
 bk:I d.bk<ao
theorem amB(w:W 0 h)(r:Small d)(T:c+I d.aY+I d.bk+1<=n):
 aD (λ_ f=>W (I (dL d a)) f\/Zz f) (λ_ f=>W (I (dL d a)) f\/Zz f) (λ_ _ _=>False)
 (aw Z (af Z C n) ⟨153,U⟩ (zS (z f153 pF0) (zS (z f153 pF1) (z f153 pT2))) ⟨bF [zU (yc lp) #[] #[],ar (J a) 0,ar (bI d) 0] 0 .Nl,[],h,U⟩):=by
 refine Ni ((apk Ii w).Mo (λ_ _ q=>q) (λ_ _ q=>q.elim) (λ_ _ _ q=>q)) λi y⟨m,g,b,l⟩=>?_;by_cases A:d.k=0\/d.k=1\/d.k=2
 .exact amv Ii m A g l (by omega)
 have B:¬d.k=0:=by omega
 have F:¬d.k=1:=by omega
 have L:¬d.k=2:=by omega
 rw[ag9];by_cases o:d.k=3
 .have j:∀e,e.g 0=i.g 0->e.g 1=i.g 1->e.g 2=i.g 2->e.g 4=i.g 4->aD (λ_ f=>W (I (dL d a)) f\/Zz f) (λ_ f=>W (I (dL d a)) f\/Zz f) (λ_ _ _=>False) (aw Z (af Z C n) ⟨153,U⟩ mU ⟨e,[],y,U⟩):=λe s t u M=>by obtain⟨N,P,Q,R,v,x,k⟩:=l;exact amy Ii m o ⟨by rw[s];exact N,by rw[t];exact P,by rw[u];exact Q,by rw[M];exact R,v,x,k⟩ (by omega) r.aY r.name
  rw[hU];refine D8 ?_;rw[o]at g;simp[z,ak,sub,f153,g,an];exact(j _ (by simp) (by simp) (by simp) (by simp)).Mo (λ_ _ q=>q) (λ_ _ q=>q) (λ_ _ _ q=>q.elim)
 .by_cases p:d.k=4
  .have j:∀e,e.g 0=i.g 0->e.g 1=i.g 1->e.g 2=i.g 2->aD (λ_ f=>W (I (dL d a)) f\/Zz f) (λ_ f=>W (I (dL d a)) f\/Zz f) (λ_ _ _=>False) (aw Z (af Z C n) ⟨153,U⟩ Al ⟨e,[],y,U⟩):=λe s t u=>
    amA Ii m p ⟨by rw[s];exact l.t0,by rw[t];exact l.t1,by rw[u];exact l.t2⟩ (by omega) r.bk
   rw[hU];refine D8 ?_;rw[p]at g;simp[z,ak,sub,f153,g,an];exact(j _ (by simp) (by simp) (by simp)).Mo (λ_ _ q=>q) (λ_ _ q=>q) (λ_ _ _ q=>q.elim)
  .have S:dL d a=[]:=by unfold dL;rw[if_neg A,if_neg o,if_neg p]
   rw[hU];refine D8 ?_;simp[z,ak,sub,f153,g,B,F,L,o,p,an,S,m]
end
theorem ZB:f153.body=O (zS (z f153 pF0) (zS (z f153 pF1) (z f153 pT2))):=rfl
theorem apn{C:aV}(f:C 153=λ_ _=>U){d:zB}{a:Int}(g:Small d):acY Z C (H7 d a) Hu (dL d a) (I d.aY+I d.bk+3):=by
 intro lp N c W Zz Ii h n w j;obtain⟨n,rfl⟩:∃k,n=k+2:=⟨n-2,by omega⟩;rw[abm _ (by rw[f])];rcases(amB Ii w g (n:=n+1) (by omega)).cases with⟨i,b,e,q⟩|⟨i,b,e,q⟩|⟨_,_,_,_,q⟩
 .exact⟨b,_,by rw[show[zU (yc lp) #[] #[]]++[ar (J a) 0,ar (bI d) 0]=[zU (yc lp) #[] #[],ar (J a) 0,ar (bI d) 0] from rfl,dx (vs:=[]) (h2:=b) (ab:=U) F153 ZB rfl (by rw[e];simp[f153])];rfl,q⟩
 .exact⟨b,_,by rw[show[zU (yc lp) #[] #[]]++[ar (J a) 0,ar (bI d) 0]=[zU (yc lp) #[] #[],ar (J a) 0,ar (bI d) 0] from rfl,dx (vs:=[]) (h2:=b) (ab:=U) F153 ZB rfl (by rw[e];simp[f153])];rfl,q⟩
 .cases q
theorem aih:aJ Z prog 116 (λ_:zB×Int=>True) (λx=>[bI x.1,J x.2]) (λx=>H7 x.1 x.2):=by
 intro⟨d,a⟩ _ h
 have b:cB Z (af Z cg 1) 116 [bI d,J a] H.e U (Z.f 116)=.r (zU (za 153) ⟨[]⟩ ⟨[pB 1,pB 0]⟩) ((H.e.w (ad (cN d) 38)).w (ad [J a] 3)) U:=by rw[dx (vs:=[zU (za 153) ⟨[]⟩ ⟨[pB 1,pB 0]⟩]) (h2:=(H.e.w (ad (cN d) 38)).w (ad [J a] 3)) (ab:=U) F116 rfl rfl (by simp[f116])];rfl
 refine CK tok cg aW (.Cs (kM d) dF) 1 b (.func 153 .Nl (.Cs (.ptr (pre:=[]) (post:=[]) (x:=J a) (e:=3) (gr:=G) (by simp) rfl eI) (.Cs (.ptr (pre:=[]) (post:=[]) (x:=bI d) (e:=38) (gr:=G) (by simp) rfl (.Pu (kM d))) .Nl))) h
end
end Go.Proofs.YtpeialehpoilbaaGreat
namespace Go.Am.Eu
section
open Go.Am
def T0:zA:=.mk 0 0 ⟨#[]⟩ [] []
def E0:cK:=⟨0,0,0,0,T0⟩
def ke(s:ByteArray):List (ByteArray×cK)->Option cK
 |[]=>U
 |(n,x)::l=>if n=s then O x else ke s l
def fM(s:ByteArray):Int->List zB->Option cK
 |_,[]=>U
 |i,d::l=>match ke s (dL d i)with
  |some x=>O x
  |none=>fM s (i+1) l
def ZC{s:ByteArray}:∀{l:List (ByteArray×cK)},(∀k(a:k<I l),l[k].1≠s)->ke s l=U
 |[],_=>rfl
 |(n,x)::l,h=>by have b:=h 0 (by simp);simp at b;rw[ke,if_neg b];exact ZC λk a=>h (k+1) (by simpa using a)
def abo{s:ByteArray}:∀{l:List (ByteArray×cK)}{k:Nat}(b:k<I l),(∀j(d:j<k),(l[j]'(by omega)).1≠s)->l[k].1=s->ke s l=O l[k].2
 |(n,x)::l,0,b,_,h=>by simp at h;simp[ke,h]
 |(n,x)::l,k+1,b,a,h=>by have c:=a 0 (by omega);simp at c;rw[ke,if_neg c];simpa using abo (l:=l) (k:=k) (by simpa using b) (λj d=>a (j+1) (by omega)) (by simpa using h)
def YJ{s:ByteArray}{env:List zB}{i:Nat}(a:i<I env):fM s i (env.drop i)=match ke s (dL env[i] i)with|some x=>O x|none=>fM s (i+1:Nat) (env.drop (i+1)):=by rw[yK a,fM];rfl
def aj5{s:ByteArray}{env:List zB}{i:Nat}(a:I env<=i):fM s i (env.drop i)=U:=by rw[yN a,fM]
end
end Go.Am.Eu
namespace Go.Proofs.YtpeialehpoilbaaGreat
section
open Go.Am Go.Proofs Go.Am.Sym Go.Am.Eu
def F95:Z.f 95=O f95:=by kernel_rfl
def dQ:yG:=z f95 [Y,G,Y,G,G]
def pV:yG:=ak [Y,Y,G,G,Y,Y,G] dQ
def Ia:yG:=FX pV
def De:yG:=nZ pV
def ab9:(ck f95.ntmps Ia&&ck f95.ntmps De)=Y:=by kernel_rfl
def aj6:f95.body=O (zS (z f95 pF0) (zS (zS (z f95 [Y,G,G]) (zv 0 (yb dQ))) (z f95 pT2))):=rfl
def aii:dQ=zS (ak [G] dQ) (zS (ak [Y,G] dQ) (zS (zv 1 (zS (ak [Y,Y,G,G,G] dQ) (zS (ak [Y,Y,G,G,Y,G] dQ) (zv 2 pV)))) (ak [Y,Y,Y] dQ))):=rfl
@[simp] theorem aH5:zE Z 9 [v] 0=O v:=by rw[p9];rfl
structure FM(s:ByteArray)(c1:List E)(bs:List Nat)(h:H):Prop where
 base:h.b=0
 next:3<=h.n
 nm:h.g 0=O (K [zN s] 9 G)
 r1:h.g 1=O (K c1 163 G)
 r2:h.g 2=O (K [J 0] 52 G)
 rv:∀b∈bs,3<=b/\b<h.n/\h.g b=O (.Df (O []))
 nd:bs.Nodup
def FM.step{s:ByteArray}{bs:List Nat}{h :H}{N:Nat}(m:FM s l bs h)(a:g.b=0)(e:h.n<=g.n)(c:∀j,j<N->g.g j=h.g j)(f:3<=N)(d:∀b∈bs,b<N):FM s l bs g:=
 ⟨a,Nat.le_trans m.next e,by rw[c 0 (by omega)];exact m.nm,by rw[c 1 (by omega)];exact m.r1,by rw[c 2 (by omega)];exact m.r2,λb a=>⟨(m.rv b a).1,Nat.lt_of_lt_of_le (m.rv b a).2.1 e,by rw[c b (d b a)];exact(m.rv b a).2.2⟩,m.nd⟩
def FM.put{s:ByteArray}{bs:List Nat}{h:H}{L:Nat}{o:ai}(m:FM s l bs h)(g:3<=L)(c:L∉bs):FM s l bs (h.p L o):=by
 have d:¬0=L:=by omega
 have e:¬1=L:=by omega
 have f:¬2=L:=by omega
 refine⟨by simp[m.base],by simp[m.next],by simp[d,m.nm],by simp[e,m.r1],by simp[f,m.r2],λb a=>?_,m.nd⟩;have:¬b=L:=λq=>c (q▸a);simp[this];exact m.rv b a
structure FT(tm:Tr E):Prop where
 t3:tm.g 3=O (zM (O ⟨0,0,U⟩))
 t4:tm.g 4=O (zM (O ⟨1,0,U⟩))
 t5:tm.g 5=O (zM (O ⟨2,0,U⟩))
def pa(b:Tr E)(a:Nat):kz:={state:=.ready,pending:=U,fn:=95,tmps:=b,params:= #[20,21],assign:=Ia,body:=De,defers:=a}
section
variable{ev:zC->ag}{s:ByteArray}{bs:List Nat}{h:H}{L:Nat}
def aij{p:ByteArray×cK}(m:FM s z9 bs h)(d:FT r):
 ∃a,aw Z ev ⟨95,O L⟩ Ia ⟨(r.s 20 (zN p.1)).s 21 (ee p.2),[],h,U⟩=.c .Nr ⟨a,[],h.w (ad z9 163)|>.p h.n (ad (ew p.2) 163),U⟩/\FT a/\aa a 8 (zN p.1)/\aa a 9 (pB h.n):=by
 let⟨t3,t4,t5⟩:=d;have e:=λc(q:H.g c h.n=O (ad z9 163))=>mS (h:=c) (b:=h.n) (x:=p.2) q rfl;simp[Ia,FX,pV,dQ,z,f95,e];exact⟨by simp[t3],by simp[t4],by simp[t5]⟩
@[simp] theorem aHh{h:H}{n :Int}(a:ae h k (ad [J c] 52)):zG Z h 52 (J n) (pB k)=O (h.p k (ad [J n] 52)):=
  dY (v:=J n) (n:=1) (off:=0) (show Am.zI Z 52=O 1 by kernel_rfl) rfl rfl a (by show 1<=1;omega)
def amC{tm:Tr E}{p:ByteArray×cK}(m:FM s z9 bs h)(g:FT tm)(e:aa tm 8 (zN p.1))(i:aa tm 9 (pB n))(j:ae h n (ad (ew p.2) 163))(l:3<=n):
 (p.1≠s/\∃d,aw Z ev ⟨95,O L⟩ De ⟨tm,[],h,U⟩=.c .Nr ⟨d,[],h,U⟩)\/
   (p.1=s/\∃d,aw Z ev ⟨95,O L⟩ De ⟨tm,[],h,U⟩=.c .ret ⟨d,[],(h.p 1 (ad (ew p.2) 163)).p 2 (ad [J 0] 52),U⟩):=by
 let⟨t3,t4,t5⟩:=g;have k:=λf(q:H.g f 1=O (ad z9 163))=>mS (h:=f) (b:=1) (x:=p.2) q rfl;by_cases c:p.1=s
 .right;refine⟨c,?_⟩;have a:¬2=1:=by omega
  simp[De,nZ,pV,dQ,z,f95,m.base,m.nm,m.r1,m.r2,t3,t4,t5,e,i,j,c,an,k]
 .left;refine⟨c,?_⟩;simp[De,nZ,pV,dQ,z,f95,m.base,m.nm,t3,e,c,an]
end
structure FW(s:ByteArray)(bs:List Nat)(Dd:Nat)(l:List (ByteArray×cK))(gp:Tr E)(k:Nat)(h:H):Prop where
 mem:FM s z9 (Dd::bs) h
 ge:Dd+2<=h.n
 lp:h.g (Dd+1)=O (.Lo (pa gp Dd))
 no:∀j(hj:j<I l),j<k->l[j].1≠s
structure FZ(s:ByteArray)(bs:List Nat)(Dd:Nat)(l:List (ByteArray×cK))(gp:Tr E)(h:H):Prop where
 hit:∃x,ke s l=O x/\FM s (ew x) (Dd::bs) h
 lp:h.g (Dd+1)=O (.Lo {pa gp Dd with state:=.done,pending:=O .ret})
def arP{C:aV}{s:ByteArray}{bs:List Nat}{Dd:Nat}{l:List (ByteArray×cK)}{gp:Tr E}(ft:FT gp)(V3:∀b∈Dd::bs,b<Dd+1)(h3:3<=Dd):
 Iter Z C (zU (yc (Dd+1)) #[] #[]) Hu l (Dd+2) 1 (FW s bs Dd l gp) (FZ s bs Dd l gp) where
 base:=λ_ _ w=>w.mem.base
 ge:=λ_ _ w=>w.ge
 AO:=λk h h' w hb hn hk=>⟨w.mem.step hb hn hk (by omega) (λb hb=>by have:=V3 b hb;omega),Nat.le_trans w.ge hn,by rw[hk _ (by omega)];exact w.lp,w.no⟩
 step:=by
  intro k hk h n w hn;obtain⟨n,rfl⟩:∃m,n=m+1:=⟨n-1,by omega⟩;obtain⟨m,V2,DB,oJ⟩:=w;have hL:Dd+1∉Dd::bs:=λq=>by have:=V3 _ q;omega
  obtain⟨fQ,ha,V4,t8,t9⟩:=aij (ev:=af Z C n) (L:=Dd+1) (p:=l[k]) m ft
  have m1:FM s z9 (Dd::bs) ((h.w (K z9 163 G)).p h.n (K (ew l[k].2) 163 G)):=m.step (N:=h.n) (by simp[m.base]) (by simp) (λj hj=>by
   have q:¬j=h.n:=by omega
   simp[q]) (by omega) (λb hb=>by have:=V3 b hb;omega)
  have q1:¬Dd+1=h.n:=by omega
  have q2:¬h.n=Dd+1:=by omega
  have IF:((h.w (K z9 163 G)).p h.n (K (ew l[k].2) 163 G)).g (Dd+1)=O (.Lo (pa gp Dd)):=by simp[q1,DB]
  have m2:=m1.put (o:=.Lo {pa gp Dd with state:=.busy}) (by omega:3<=Dd+1) hL
  have frame:∀(o:ai) j,Dd+2<=j->j<h.n->(((h.w (K z9 163 G)).p h.n (K (ew l[k].2) 163 G)).p (Dd+1) o).g j=h.g j:=λo j h1 h2=>by
   have q:¬j=h.n:=by omega
   have q':¬j=Dd+1:=by omega
   simp[q,q']
  rcases amC (ev:=af Z C n) (L:=Dd+1) (p:=l[k]) m2 V4 t8 t9 (by simp[q2]) (by omega)with⟨jE,jH,V5⟩|⟨he,jH,V5⟩
  .have key:=Kj (T:=Z) (C:=C) (n:=n) (e:=.Nr) (args:=Hu l[k]) (tm:=(gp.s 20 (zN l[k].1)).s 21 (ee l[k].2)) (r:=pa gp Dd) rfl DB m.base F95 rfl ab9 ha IF (zq rfl) V5 (by simp);refine⟨Y,_,key,by simp[m.base],by simp<;>omega,λj h1 h2=>?_,λ_=>⟨?_,by simp<;>omega,by simp[qX],λj hj hjk=>?_⟩,λq=>by cases q⟩
   .have q':¬j=Dd+1:=by omega
    rw[jd,if_neg q'];exact frame _ j h1 h2
   .exact m2.put (by omega) hL
   .by_cases e:j=k
    .subst e;exact jE
    .exact oJ j hj (by omega)
  .have z1:¬Dd=0:=by omega
   have z2:¬Dd=1:=by omega
   have key:=Kj (T:=Z) (C:=C) (n:=n) (e:=.ret) (args:=Hu l[k]) (tm:=(gp.s 20 (zN l[k].1)).s 21 (ee l[k].2)) (r:=pa gp Dd) rfl DB m.base F95 rfl ab9 ha IF (zt rfl) V5 (by simp[z1,z2]);refine⟨G,_,key,by simp[m.base],by simp<;>omega,λj h1 h2=>?_,λq=>(by cases q),λ_=>⟨⟨l[k].2,abo hk (λj hj=>oJ j (by omega) hj) he,?_⟩,by simp[qX]⟩⟩
   .have q':¬j=Dd+1:=by omega
    have q1:¬j=1:=by omega
    have q2:¬j=2:=by omega
    rw[jd,if_neg q',jd,if_neg q2,jd,if_neg q1];exact frame _ j h1 h2
   .refine FM.put ⟨by simp[m.base],by simp<;>omega,by simpa using m2.nm,by simp,by simp,λb hb=>?_,m.nd⟩ (by omega) hL;obtain⟨c1,c2,c3⟩:=m2.rv b hb;have y1:¬b=1:=by omega
    have y2:¬b=2:=by omega
    exact⟨c1,by simpa using c2,by rw[jd,if_neg y2,jd,if_neg y1];exact c3⟩
abbrev fS:List E:=[J 0,zN ⟨#[]⟩,J 0,J 0,J 0,zN ⟨#[]⟩,zL U 0 0,zL U 0 0,J 0,J 0,zN ⟨#[]⟩,zL U 0 0,zL U 0 0,J 0,zL U 0 0,J 0,J 0,J 0,zN ⟨#[]⟩,zL U 0 0,zL U 0 0,zL U 0 0,zL U 0 0]
@[simp] theorem z38:zero Z 38=O (aAg fS):=by kernel_rfl
def Ey{h:H}{b:Nat}{x:zB}{g:Bool}(a:ae h b (K l t g))(d:I l=23):zG Z h 38 (bI x) (pB b)=O (h.p b (K (cN x) t g)):=by rw[dY (v:=bI x) (n:=23) (off:=0) Fo rfl rfl a (by omega)];congr 2;simp[d]
structure FS(s:ByteArray)(env:List zB)(i:Nat)(bs:List Nat)(tm:Tr E)(h:H):Prop where
 mem:FM s z9 bs h
 ft:FT tm
 t10:aa tm 10 (bw env)
 t11:aa tm 11 (J (I env:Nat))
 t12:aa tm 12 (J i)
section
variable{C:aV}{s:ByteArray}{env:List zB}{i:Nat}{bs:List Nat}{tm:Tr E}{h:H}
def apo(b:FS s env i bs tm h)(c:I env<=i):aw Z (af Z C n) ⟨95,U⟩ dQ ⟨tm,eJ bs,h,U⟩=.c (.exit 0) ⟨tm.s 13 (zP G),eJ bs,h,U⟩:=by
 let⟨m,⟨t3,t4,t5⟩,t10,t11,t12⟩:=b;have a:¬i<I env:=by omega
 simp[dQ,z,f95,t11,t12,a,an]
def amD(hW:C 153=λ_ _=>U)(hC:∀d a n h,af Z C n (aj 116 [bI d,J a] h)=.r (H7 d a) h U)(st:FS s env i bs tm h)(hi:i<I env)(hw:i+1<=ao)(W:Small env[i])(hn:I env[i].aY+I env[i].bk+5<=n):
 (ke s (dL env[i] i)=U/\∃y c u,aw Z (af Z C n) ⟨95,U⟩ dQ ⟨tm,eJ bs,h,U⟩=.c .Nr ⟨y,eJ (c::bs),u,U⟩/\FS s env (i+1) (c::bs) y u)\/
   ∃x,ke s (dL env[i] i)=O x/\∃y c u,aw Z (af Z C n) ⟨95,U⟩ dQ ⟨tm,eJ bs,h,U⟩=.c .ret ⟨y,eJ (c::bs),u,U⟩/\FM s (ew x) (c::bs) u/\FT y:=by
 let⟨m,ft,t10,t11,t12⟩:=st;obtain⟨n,rfl⟩:∃k,n=k+1:=⟨n-1,by omega⟩;have w:=m.base;have X:=m.next;have e2:=dA hw;simp at e2
 have pre:∃t,aw Z (af Z C (n+1)) ⟨95,U⟩ (zS (ak [G] dQ) (ak [Y,G] dQ)) ⟨tm,eJ bs,h,U⟩=.c .Nr ⟨t,eJ bs,h,U⟩/\FT t/\aa t 10 (bw env)/\aa t 11 (J (I env:Nat))/\aa t 12 (J i):=by let⟨M,P,Q⟩:=ft;simp[dQ,z,f95,t10,t11,t12,hi,an];exact⟨by simp[M],by simp[P],by simp[Q]⟩
 let⟨t,e1,V4,u10,u11,V6⟩:=pre;have hs:=λu(q:H.g u h.n=O (ad fS 38))=>Ey (h:=u) (b:=h.n) (x:=env[i]) q rfl
 have P8:∃l,aw Z (af Z C (n+1)) ⟨95,U⟩ (zS (ak [Y,Y,G,G,G] dQ) (ak [Y,Y,G,G,Y,G] dQ)) ⟨t,eJ bs,h,U⟩=.c .Nr ⟨l,eJ bs,(h.w (ad fS 38)).p h.n (ad (cN env[i]) 38),U⟩/\FT l/\aa l 10 (bw env)/\aa l 11 (J (I env:Nat))/\aa l 12 (J i)/\aa l 19 (H7 env[i] i):=by let⟨M,P,Q⟩:=V4;simp[dQ,z,f95,u10,u11,V6,hi,w,hs,hC];exact⟨by simp[M],by simp[P],by simp[Q]⟩
 let⟨l,Mb,B,v10,v11,V7,R⟩:=P8
 have A:FM s z9 bs ((h.w (ad fS 38)).p h.n (ad (cN env[i]) 38)):=m.step (N:=h.n) (by simp[w]) (by simp) (λj hj=>by
  have q:¬j=h.n:=by omega
  simp[q]) X (λb w=>(m.rv b w).2.1)
 have hn2:((h.w (ad fS 38)).p h.n (ad (cN env[i]) 38)).n=h.n+1:=by simp
 generalize(h.w (ad fS 38)).p h.n (ad (cN env[i]) 38)=p at*
 have V:∀b∈p.n::bs,b<p.n+1:=λb w=>by
  rcases zp.1 w with rfl|w
  .omega
  .have:=(A.rv b w).2.1;omega
 have hD:p.n∉bs:=λq=>by have:=(A.rv _ q).2.1;omega
 have w0:FW s bs p.n (dL env[i] i) l 0 ((p.w (.Df (O []))).w (.Lo (pa l p.n))):=by
  refine⟨⟨by simp[A.base],by simp<;>omega,?_,?_,?_,λb w=>?_,List.nodup_cons.2 ⟨hD,A.nd⟩⟩,by simp,by simp,λj _ hj=>by omega⟩
  .have F:¬0=p.n:=by omega
   have L:¬0=p.n+1:=by omega
   simp[F,A.nm]
  .have F:¬1=p.n:=by omega
   have L:¬p.n=0:=by omega
   simp[F,L,A.r1]
  .have F:¬2=p.n:=by omega
   have L:¬p.n=1:=by omega
   simp[F,L,A.r2]
  .rcases zp.1 w with rfl|w
   .exact⟨by omega,by simp<;>omega,by simp⟩
   .let⟨c1,c2,c3⟩:=A.rv b w;have F:¬b=p.n:=by omega
    have L:¬b=p.n+1:=by omega
    exact⟨c1,by simp;omega,by simp[F,L,c3]⟩
 let⟨u,v,ev,hz⟩:=apn (C:=C) hW W (p.n+1) (p.n+2) 1 _ _ (arP B V (by omega)) _ (n+1) w0 (by omega);have hL:p.n+1∉p.n::bs:=λq=>by have:=V _ q;omega
 have hB:∀{a:ag},aw Z (af Z C (n+1)) ⟨95,U⟩ pV ⟨l,eJ bs,p,U⟩=a->aw Z (af Z C (n+1)) ⟨95,U⟩ dQ ⟨tm,eJ bs,h,U⟩=jm (aw Z (af Z C (n+1)) ⟨95,U⟩ (ak [Y,Y,Y] dQ)) (lq 1 (lq 2 a)):=by
  intro a ha;rw[aii];have e3:∀k:S->ag,jm k (aw Z (af Z C (n+1)) ⟨95,U⟩ (zS (ak [G] dQ) (ak [Y,G] dQ)) ⟨tm,eJ bs,h,U⟩)=k ⟨t,eJ bs,h,U⟩:=λk=>by rw[e1,Q9]
  have e4:∀k:S->ag,jm k (aw Z (af Z C (n+1)) ⟨95,U⟩ (zS (ak [Y,Y,G,G,G] dQ) (ak [Y,Y,G,G,Y,G] dQ)) ⟨t,eJ bs,h,U⟩)=k ⟨l,eJ bs,p,U⟩:=λk=>by rw[Mb,Q9]
  have e5:=e3 (λs=>aw Z (af Z C (n+1)) ⟨95,U⟩ (zS (zv 1 (zS (ak [Y,Y,G,G,G] dQ) (zS (ak [Y,Y,G,G,Y,G] dQ) (zv 2 pV)))) (ak [Y,Y,Y] dQ)) s);rw[run_seq (ak [G] dQ),Ru]at e5;rw[run_seq (ak [G] dQ),show aw Z (af Z C (n+1)) ⟨95,U⟩ (zS (ak [Y,G] dQ) (zS (zv 1 (zS (ak [Y,Y,G,G,G] dQ) (zS (ak [Y,Y,G,G,Y,G] dQ) (zv 2 pV)))) (ak [Y,Y,Y] dQ)))=λs=>jm (λs=>aw Z (af Z C (n+1)) ⟨95,U⟩ (zS (zv 1 (zS (ak [Y,Y,G,G,G] dQ) (zS (ak [Y,Y,G,G,Y,G] dQ) (zv 2 pV)))) (ak [Y,Y,Y] dQ)) s) (aw Z (af Z C (n+1)) ⟨95,U⟩ (ak [Y,G] dQ) s) from rfl,e5];rw[run_seq,hU];have e6:=e4 (λs=>aw Z (af Z C (n+1)) ⟨95,U⟩ (zv 2 pV) s);rw[run_seq (ak [Y,Y,G,G,G] dQ),Ru]at e6;rw[run_seq (ak [Y,Y,G,G,G] dQ),show aw Z (af Z C (n+1)) ⟨95,U⟩ (zS (ak [Y,Y,G,G,Y,G] dQ) (zv 2 pV))=λs=>jm (λs=>aw Z (af Z C (n+1)) ⟨95,U⟩ (zv 2 pV) s) (aw Z (af Z C (n+1)) ⟨95,U⟩ (ak [Y,Y,G,G,Y,G] dQ) s) from rfl,e6];rw[hU,ha];rfl
 rcases hz with⟨e,_,Jl,Jno⟩|⟨⟨x,hx,e⟩,Jl⟩
 .left;refine⟨ZC λk hk=>Jno k hk hk,?_⟩;have hr:=Hs (T:=Z) (C:=C) (n:=n) (g:=95) (f:=.tmp 19) (ps:= #[20,21]) (a:=Ia) (b:=De) (tm:=l) (df:=eJ bs) (h:=p) (r:=pa l p.n) (show aA l (.tmp 19)=_ from R) ev Jl (zq ⟨rfl,rfl⟩);let⟨M,P,Q⟩:=B;have J2:=e.put (o:=.Lo {pa l p.n with state:=xU}) (by omega:3<=p.n+1) hL;refine⟨(l.s 26 (J (i+1:Nat))).s 12 (J (i+1:Nat)),p.n,u.p (p.n+1) (.Lo {pa l p.n with state:=xU}),?_,J2,⟨by simp[M],by simp[P],by simp[Q]⟩,by simp[v10],by simp[v11],by simp⟩;rw[hB (a:=.c .Nr ⟨l,eJ (p.n::bs),u.p (p.n+1) (.Lo {pa l p.n with state:=xU}),U⟩) hr,Mz,Mz,Q9];simp[dQ,z,f95,V7,e2]
 .right;refine⟨x,hx,?_⟩;have hr:=Hs (T:=Z) (C:=C) (n:=n) (g:=95) (f:=.tmp 19) (ps:= #[20,21]) (a:=Ia) (b:=De) (tm:=l) (df:=eJ bs) (h:=p) (r:={pa l p.n with state:=.done,pending:=O .ret}) (show aA l (.tmp 19)=_ from R) ev Jl (zt ⟨rfl,rfl⟩);have J2:=e.put (o:=.Lo {pa l p.n with state:=xU,pending:=O .ret}) (by omega:3<=p.n+1) hL;refine⟨l,p.n,_,?_,J2,B⟩;rw[hB (a:=.c .ret ⟨l,eJ (p.n::bs),u.p (p.n+1) (.Lo {pa l p.n with state:=xU,pending:=O .ret}),U⟩) hr,Yv,Yv];rfl
end
def aca{a:Type}(f:a->Nat):∀{l:List a}{x:a},x∈l->f x<=(l.map f).sum
 |y::l,x,h=>by
  rcases zp.1 h with rfl|h
  .simp
  .have:=aca f h;simp;omega
def acb{h:H}:eK Z h 163 (O (aAg z9)) (O [])=.v (aAg z9) h:=by kernel_rfl
def aj7{h:H}{b:Nat}{g:Bool}(a:ae h b (K z9 t g)):zG Z h 163 (aAg z9) (pB b)=O (h.p b (K z9 t g)):=by rw[dY (v:=aAg z9) (n:=9) (off:=0) OZ rfl rfl a (by show 9<=9;omega)];rfl
def acd:ej B (aAg z9) (ee E0):=by refine .agg (.Cs (.Pu (.Gd rfl)) (.Cs (.Pu (.Gd rfl)) (.Cs (.Pu (.Gd rfl)) (.Cs (.Pu (.Gd rfl)) (.Cs (.Pu (.Gd rfl)) (.Cs (.Pu (.Gd rfl)) (.Cs (.Pu (.Gd rfl)) (.Cs .cP (.Cs .cP .Nl)))))))))
def ac5:zE Z 163 z9 0=O (aAg z9):=by rw[fV ac3 OZ];rfl
structure nA(env:List zB):Prop where
 ng:I env<ao
 all:∀d∈env,Small d
abbrev nH(env:List zB)(s:ByteArray):E:=match fM s 0 env with
 |some x=>aTu [ee x,J 0]
 |none=>aTu [ee E0,J 9]
structure avN(env:List zB)(s:ByteArray)(s1:S):Prop where
 ex:∃tm bs h1 c1 e r,s1=⟨tm,eJ bs,h1,U⟩/\I bs<=I env/\FT tm/\bs.Nodup/\(∀b∈bs,3<=b/\ae h1 b (.Df (O [])))/\h1.b=0/\
     ae h1 1 (ad c1 163)/\ae h1 2 (ad [J e] 52)/\zE Z 163 c1 0=O r/\∀g,ej g (.tuple ⟨[r,J e]⟩) (nH env s)
structure avO(env:List zB)(s:ByteArray)(s1:S):Prop where
 ex:∃tm h1,s1=⟨tm,[],h1,U⟩/\FM s z9 [] h1/\FT tm/\aa tm 0 (bw env)
structure atS(env:List zB)(s:ByteArray)(s1:S):Prop where
 ex:∃tm h1,s1=⟨tm,[],h1,U⟩/\FS s env 0 [] tm h1
def Ks:aJ Z prog 95 (λx:List zB×ByteArray=>nA x.1) (λx=>[bw x.1,zN x.2]) (λx=>nH x.1 x.2):=by
 intro⟨env,s⟩ t h0;have t:nA env:=t
 obtain⟨C,hC,hW,hH⟩:∃C,aR Z prog C/\C 153=(λ_ _=>U)/\Has C 116 (λ_:zB×Int=>True) (λx=>[bI x.1,J x.2]) (λx=>H7 x.1 x.2):=
  ⟨_,aZ aW aih,rfl,Has.Ad λx y e=>by let⟨x1,x2⟩:=x;let⟨y1,y2⟩:=y;simp at e;rw[Af e.1,e.2]⟩
 have w:∀d a n h,af Z C n (aj 116 [bI d,J a] h)=.r (H7 d a) h U:=λd a n h=>hH.ev (T:=Z) n (x:=(d,a)) trivial h;let M:=(env.map λd=>I d.aY+I d.bk).sum;have hM:∀(i:Nat)(S:i<I env),I env[i].aY+I env[i].bk<=M:=λi S=>aca (λd:zB=>I d.aY+I d.bk) (zW S);have hf:=t.ng
 have code:∀m,M+I env+6<=m->jW (λ_=>False) (avN env s) (λ_ _=>False)
  (aw Z (af Z C m) ⟨95,U⟩ (zS (z f95 pF0) (zS (zS (z f95 [Y,G,G]) (zv 0 (yb dQ))) (z f95 pT2))) ⟨bF [bw env,zN s] 0 .Nl,[],H.e,U⟩):=by
  intro m hm;refine Rv (N':=avO env s) ?_ λu⟨tm,f,e,k,A,t0⟩=>?_
  .simp[z,f95];exact⟨_,_,rfl,⟨by simp,by simp,by simp;rfl,by simp,by simp,λb l=>(by cases l),List.nodup_nil⟩,⟨by simp,by simp,by simp⟩,by simp⟩
  subst e;refine Rv (N':=λu=>∃tm bs f,u=⟨tm,eJ bs,f,U⟩/\I bs<=I env/\FM s z9 bs f/\FT tm/\fM s 0 env=U) (Rv (N':=atS env s) ?_ λu⟨tm,f,e,v⟩=>?_) λu⟨tm,bs,f,e,V,k,A,W⟩=>?_
  .let⟨t3,t4,t5⟩:=A;simp[z,f95,t0];exact⟨_,_,rfl,k,⟨by simp[t3],by simp[t4],by simp[t5]⟩,by simp,by simp,by simp⟩
  .subst e;refine ah3 (M+5) (λj u=>∃i bs tm f,j=I env-i/\i<=I env/\I bs=i/\u=⟨tm,eJ bs,f,U⟩/\FS s env i bs tm f/\fM s 0 env=fM s (i:Nat) (env.drop i)) (I env) ⟨0,[],tm,f,by omega,by omega,rfl,rfl,v,by simp⟩ (by omega) ?_;rintro j u m ⟨i,bs,tm,f,rfl,S,P,rfl,v,B⟩ hm;by_cases o:i<I env
   .rcases amD (n:=m) hW w v o (by omega) (t.all _ (zW o)) (by have:=hM i o;omega)with⟨R,F,c,N,e,X⟩|⟨x,hx,F,c,N,e,k,A⟩
    .rw[e];exact⟨_,by omega,i+1,c::bs,F,N,rfl,o,by simp[P],rfl,X,by rw[B,YJ o,R]⟩
    .rw[e];refine⟨F,c::bs,N,ew x,0,ee x,rfl,by simp[P];omega,A,k.nd,λb l=>⟨(k.rv b l).1,(k.rv b l).2.2⟩,k.base,k.r1,k.r2,aru x,λg=>?_⟩;have:fM s 0 env=O x:=by rw[B,YJ o,hx]
     unfold nH;rw[this];exact .tuple (.Cs (.Pu (Ed x)) (.Cs (.Pu (.Gd rfl)) .Nl))
   .rw[apo v (by omega)];exact⟨rfl,_,bs,f,rfl,by omega,v.mem,⟨by simp[v.ft.t3],by simp[v.ft.t4],by simp[v.ft.t5]⟩,by rw[B,aj5 (by omega)]⟩
  .subst e;let⟨t3,t4,t5⟩:=A;have l:=k.base;have hs:=λN(q:H.g N 1=O (K z9 163 G))=>aj7 (h:=N) (b:=1) q;simp[z,f95,t4,t5,acb,hs,k.r1,k.r2];refine⟨_,bs,_,z9,9,aAg z9,rfl,V,⟨by simp[t3],by simp[t4],by simp[t5]⟩,k.nd,λb l=>?_,by simp[l],by simp,by simp,ac5,λg=>?_⟩
   .let⟨c1,c2,c3⟩:=k.rv b l;have y1:¬b=1:=by omega
    have y2:¬b=2:=by omega
    exact⟨c1,by simp[y1,y2,c3]⟩
   .unfold nH;rw[W];exact .tuple (.Cs acd (.Cs (.Pu (.Gd rfl)) .Nl))
 have L:∃n,∀bs:List Nat,I bs<=I env->n=(n-I bs-1)+I bs+1/\M+I env+6<=n:=⟨M+I env+6,λbs l=>⟨by omega,by omega⟩⟩;let⟨n,R⟩:=L;rcases(code n (R [] (by simp)).2).cases with⟨_,_,q⟩|⟨u,e,⟨tm,bs,f,c1,er,r,rfl,V,A,rm,p,l,g1,g2,hp,hd⟩⟩|⟨_,_,_,q⟩
 .cases q
 .let⟨t3,t4,t5⟩:=A;have hnn:=(R bs V).1;have n1:(1:Nat)∉bs:=λq=>by have:=(p 1 q).1;omega
  have n2:(2:Nat)∉bs:=λq=>by have:=(p 2 q).1;omega
  have Q:cB Z (af Z C n) 95 [bw env,zN s] H.e U (Z.f 95)=.r (aTu [r,J er]) (iR f bs) U:=by
   rw[hnn]at e⊢
   rw[Rw (T:=Z) (C:=C) (bs:=bs) (vs:=[r,J er]) (h2:=iR f bs) F95 aj6 rfl (zt rfl) e rm (λb l=>(p b l).2) (by simp[f95,t4,t5,Cv _ _ _ n1,Cv _ _ _ n2,g1,g2,hp,I9,l,dK (show Am.zK Z 52=O G by kernel_rfl)])]
   rfl
  exact ox tok C hC (.Cs (me env) (.Cs (.Gd rfl) .Nl)) n Q (hd _) h0
 .cases q
end
end Go.Proofs.YtpeialehpoilbaaGreat
namespace Go.Am.Eu
section
open Go.Am
def cL(e:Int):E:=.iface 240 (J e)
def mO(e:Int):bH (cL e):=.iface 240 bJ
abbrev Ib(n:Int):zA:=.mk 0 n ⟨#[]⟩ [] []
def Hv(n:Int):MO:=if n<=65535 then .ret (D (Ib n))else .aU (cL 24)
def eN(k i:Int):Int:=if(i=1/\(k=5\/k=6\/k=7))\/(i=2/\k=11)then 1 else 0
end
end Go.Am.Eu
namespace Go.Proofs.YtpeialehpoilbaaGreat
section
open Go.Am Go.Proofs Go.Am.Sym Go.Am.Eu
def F166:Z.f 166=O f166:=by kernel_rfl
def F167:Z.f 167=O f167:=by kernel_rfl
def F146:Z.f 146=O f146:=by kernel_rfl
def arQ:Bi h 240 (Z.u 240) (O v)=.v (.iface 240 v) h:=by kernel_rfl
def NZ:kg Z prog 166 (λ_:Int=>True) (λe=>[J e]) (λe=>.aU (cL e)):=by intro e _ h;refine mi tok cg aW dF 1 F166 rfl rfl ?_ h;simp[f166,arQ,CO];exact⟨rfl,rfl,_,_,rfl,rfl,.Pu (mO e)⟩
def aau:aJ Z prog 167 (λ_:Int×Int=>True) (λx=>[J x.1,J x.2]) (λx=>J (eN x.1 x.2)):=by
 rintro⟨k,i⟩ _;refine ku (v:=J (eN k i)) tok cg aW pZ bJ 1 F167 rfl rfl ?_;unfold eN;by_cases a:i=1
 .by_cases d:k=5
  .simp[a,d,an]
  by_cases e:k=6
  .simp[a,e,an]
  by_cases f:k=7
  .simp[a,f,an]
  simp[a,d,e,f,an]
 .by_cases c:i=2
  .by_cases b:k=11
   .simp[c,b,an]
   .simp[c,b,an]
  .simp[a,c,an]
def arR:eK Z h 31 (O (aAg [J 0,J 0,zN ⟨#[]⟩,zL U 0 0,zL U 0 0])) (O [(0,J 0),(1,J c)])=.v (aAg [J 0,J c,zN ⟨#[]⟩,zL U 0 0,zL U 0 0]) h:=by kernel_rfl
def aav:kg Z prog 146 (λ_:Int=>True) (λn=>[J n]) Hv:=by
 intro n _ h;obtain⟨C,d,c⟩:∃C,aR Z prog C/\bS C 166 (λ_:Int=>True) (λe=>[J e]) (λe=>.aU (cL e)):=⟨_,jL aW NZ,bS.add λx y _ _ e=>by simp at e;rw[e]⟩;have b:=λn m=>c.ev (T:=Z) n (x:=24) trivial m;simp[MO.bi]at b;refine mi tok C d dF 1 F146 rfl rfl ?_ h;unfold Hv;by_cases hn:n<=65535
 .have a:¬65535<n:=by omega
  simp[f146,hn,a,an,arR]
  exact⟨rfl,rfl,_,_,_,rfl,rfl,by rw[eD];exact .agg (.Cs eI (.Cs eI (.Cs eI (.Cs .cP (.Cs .cP .Nl)))))⟩
 .have a:65535<n:=by omega
  simp[f146,hn,a,an,b];exact⟨rfl,rfl,_,_,rfl,rfl,.Pu (mO 24)⟩
end
end Go.Proofs.YtpeialehpoilbaaGreat
