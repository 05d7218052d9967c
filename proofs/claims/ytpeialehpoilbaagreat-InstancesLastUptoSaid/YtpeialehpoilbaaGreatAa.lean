/- A part of the proof of InstancesLastUptoSaid: see the last text. -/
import GoSem.Dispatch
import GoSem.Machine.Frame
set_option linter.all false
noncomputable section
set_option maxRecDepth 100000
open Bool renaming false->G,rec->xq,true->Y
open Go renaming Addr->vL,BinOp->vJ,Code->yG,Deferred->zc,Func->xZ,FuncId->zZ,IntKind->yq,MapEntry->yJ,Oper->yH,Operand->zh,PanicEntry->zO,Tmp->xw,TypeDesc->yU,TypeId->zQ,TypeInfo->sO,Value->E
open Go.Fn renaming func->za,via->vU
open Go.Instr renaming findNow->yn
open Go.TypeDesc renaming interface->uf,map->se,slice->zf,string->tW
open Go.Value renaming bool->zP,casesOn->wm,func->zU,iface->vv,int->yV,map->wB,nilIface->wo,pointer->zM,slice->zL,string->zN,tuple->xC
open Int renaming ofNat->yj
open List renaming length->I,rec->y7
open Nat renaming add->zl,beq->zV,ble->ze,div->vw,lor->zi,mod->tw,mul->z7,rec->vQ,succ->yy
open Option renaming none->U,some->O
open Go
variable{A:Type}
namespace Go.Am
inductive Tr(α:Type) where
 |Nl
 |node (v:Option α) (l r:Tr α)
namespace Tr
variable{α:Type}
def nL(t:Tr α):Nat->Option α:=
 Tr.rec (motive:=λ_=>Nat->Option α) (λ_=>U)
  (λv _ _ a b k=>xq (motive:=λ_=>Option α) (xq (motive:=λ_=>Nat->Option α) b a (zV (tw k 2) 0) (vw k 2)) v (zV k 1)) t
def AJ(x:α)(f:Nat):Nat->Tr α:=
 vQ (motive:=λ_=>Nat->Tr α) (λ_=>.Nl)
  (λ_ a k=>xq (motive:=λ_=>Tr α) (xq (motive:=λ_=>Tr α) (.node U .Nl (a (vw k 2))) (.node U (a (vw k 2)) .Nl) (zV (tw k 2) 0)) (.node (O x) .Nl .Nl) (zV k 1)) f
def pY(t:Tr α):Nat->α->Tr α:=
 Tr.rec (motive:=λ_=>Nat->α->Tr α) (λk x=>AJ x k k)
  (λv l r a b k x=>xq (motive:=λ_=>Tr α) (xq (motive:=λ_=>Tr α) (.node v l (b (vw k 2) x)) (.node v (a (vw k 2) x) r) (zV (tw k 2) 0)) (.node (O x) l r) (zV k 1)) t
def C9(t:Tr α):Nat->Tr α:=
 Tr.rec (motive:=λ_=>Nat->Tr α) (λ_=>.Nl)
  (λv l r a b k=>cond (zV k 1) (.node U l r) (cond (zV (tw k 2) 0) (.node v (a (vw k 2)) r) (.node v l (b (vw k 2))))) t
def ofList(l:List α):Nat->Tr α->Tr α:=
 y7 (motive:=λ_=>Nat->Tr α->Tr α) (λ_ t=>t) (λx _ a k t=>a (yy k) (t.pY k x)) l
def g(t:Tr α)(b:Nat):Option α:=t.nL (yy b)
def s(t:Tr α)(b:Nat)(x:α):Tr α:=t.pY (yy b) x
def del(t:Tr α)(b:Nat):Tr α:=t.C9 (yy b)
end Tr
def dM{α β:Type}(n:β)(s:α->β)(o:Option α):β:=Option.rec (motive:=λ_=>β) n s o
def bN{β:Type}(f t:β)(b:Bool):β:=xq (motive:=λ_=>β) f t b
structure kz where
 state:LoopState
 pending:Option yG
 fn:zZ
 tmps:Tr E
 params:Array xw
 assign:yG
 body:yG
 defers:Nat
inductive ai where
 |cells (c:List E) (elem:zQ) (grow:Bool)
 |map (entries:Array yJ) (clock:Nat)
 |ot (s:ByteArray) (pos:Nat)
 |mapIter (map:Option Nat) (since:Nat) (seen:Array Nat) (aFC:Nat)
 |Lo (l:kz)
 |Df (calls:Option (List zc))
structure H where
 m:Tr ai
 n:Nat
 b:Nat
 rd:Nat
 wr:Nat
structure au where
 prog:Program
 cw:Tr sO
 funcs:Tr (Option xZ)
inductive aK where
 |f
 |v (v:E) (h:H)
inductive Out where
 |of (r:aK)
 |aU (v:E)
 |call (f:E) (args:List E)
 |rj (f:E) (args:List E)
 |pT
def bit(b:Nat):Nat:=Nat.shiftLeft 1 b
def kw(k:Nat->A)(n:Nat):A:=vQ (motive:=λ_=>(Nat->A)->A) (λk=>k 0) (λi _ k=>k (yy i)) n k
def FH(f:Tr ai->Nat->Nat->Nat->Nat->A)(h:H):A:=H.rec (motive:=λ_=>A) f h
def H.az(h:H)(b:Nat):H:=
 FH (λm n a r w=>bN (kw (λr=>⟨m,n,a,r,w⟩) (zi r (bit b))) ⟨m,n,a,r,w⟩ (ze a b)) h
def H.mark(h:H)(b:Nat):H:=
 FH (λm n a r w=>bN (kw (λr=>kw (λw=>⟨m,n,a,r,w⟩) (zi w (bit b))) (zi r (bit b))) ⟨m,n,a,r,w⟩ (ze a b)) h
def H.g(h:H)(b:Nat):Option ai:=h.m.g b
def H.adu(h:H)(b:Nat)(o:ai):H:=FH (λm n a r w=>⟨m.s b o,n,a,r,w⟩) h
def H.p(h:H)(b:Nat)(o:ai):H:=(h.mark b).adu b o
def H.adv(h:H)(b:Nat):H:=FH (λm n a r w=>⟨m.del b,n,a,r,w⟩) h
def H.d(h:H)(b:Nat):H:=(h.mark b).adv b
def H.w(h:H)(o:ai):H:=FH (λm n a r w=>kw (λb=>⟨m.s n o,b,a,r,w⟩) (yy n)) h
def ground:E->Bool
 |.bool _|.int ..|.string _|.nilFunc|.nilIface|.pointer U|.slice U _ _|.map U=>Y
 |_=>G
def nq(l:List E):Bool:=y7 (motive:=λ_=>Bool) Y (λv _ a=>cond (ground v) a G) l
def gg:E->Bool
 |.agg a=>nq a.toList
 |v=>ground v
def abU(T:au)(o:Option sO):Option yU:=
 match o with
 |none=>U
 |some i=>match i.desc with
  |.named _ u=>match T.cw.g u with
   |some j=>O j.desc
   |none=>U
  |d=>O d
def au.u(T:au)(t:zQ):Option yU:=abU T (T.cw.g t)
def zI(T:au)(t:zQ):Option Nat:=dM U (λi=>O i.size) (T.cw.g t)
def OM:Option E->Option E
 |some a=>cond (gg a) (O a) U
 |none=>U
def zero(T:au)(t:zQ):Option E:=dM U (λi=>OM i.zero) (T.cw.g t)
def aaY:Option yU->Option Bool
 |some (.struct _)|some (.array ..)=>O Y
 |some _=>O G
 |none=>U
def zK(T:au)(t:zQ):Option Bool:=aaY (T.u t)
def dT{α:Type}(p:Program):Sem α->Option α
 |.pure a=>O a
 |.program k=>dT p (k p)
 |_=>U
def EK(n:Nat):List E->Option (List E):=
 vQ (motive:=λ_=>List E->Option (List E)) (λ_=>O [])
  (λ_ a l=>match l with
    |[]=>U
    |x::l=>match a l with
     |some r=>O (x::r)
     |none=>U) n
def Ud(n:Nat):List E->List E:=
 vQ (motive:=λ_=>List E->List E) (λl=>l) (λ_ a l=>match l with|[]=>[]|_::l=>a l) n
def Fa(a:List E):List E->Option (List E):=
 y7 (motive:=λ_=>List E->Option (List E)) (λl=>O l)
  (λv _ b l=>match l with
    |[]=>U
    |_::l=>match b l with
     |some r=>O (v::r)
     |none=>U) a
def kx(a:Nat)(b:List E):List E->Option (List E):=
 vQ (motive:=λ_=>List E->Option (List E)) (Fa b)
  (λ_ c l=>match l with
    |[]=>U
    |x::l=>match c l with
     |some r=>O (x::r)
     |none=>U) a
def dh(l:List E):Nat:=y7 (motive:=λ_=>Nat) 0 (λ_ _ a=>yy a) l
def il(l r:List E):List E:=y7 (motive:=λ_=>List E) r (λx _ a=>x::a) l
def Fc(n:Nat):List E->Option E:=
 vQ (motive:=λ_=>List E->Option E) (λl=>match l with|[]=>U|x::_=>O x)
  (λ_ a l=>match l with|[]=>U|_::l=>a l) n
def jK(a:List E)(n:Nat):List E:=vQ (motive:=λ_=>List E) [] (λ_ b=>il a b) n
def cut(c:List E)(a n:Nat):Option (List E):=EK n (Ud a c)
def HI:Option (List E)->Option E
 |some r=>O (.agg ⟨r⟩)
 |none=>U
def SV(c:List E)(a:Nat):Option Nat->Option E
 |some n=>HI (cut c a n)
 |none=>U
def aq8(T:au)(t:zQ)(c:List E)(a:Nat)(o:Option Bool):Option E:=
 dM (β:=au->zQ->List E->Nat->Option E) (λ_ _ _ _=>U)
  (λb=>bN (λ_ _ c a=>Fc a c) (λT t c a=>SV c a (zI T t)) b) o T t c a
def zE(T:au)(t:zQ)(c:List E)(off:Nat):Option E:=aq8 T t c off (zK T t)
def gk(h:H)(o:Option E):aK:=dM (β:=H->aK) (λ_=>.f) (λv h=>.v v h) o h
def jU(h:H)(o:Option E):aK:=dM (β:=H->aK) (λ_=>.f) (λv h=>bN .f (.v v h) (gg v)) o h
def o0:Option H->aK
 |some h=>.v undef h
 |none=>.f
inductive B2 where
 |no
 |to (b off:Nat)
 |data (e:E) (f:Nat)
abbrev cp(es:List E)(b c:Nat)(a:List E):E:=zU (vU b #[] c G) ⟨es⟩ ⟨a⟩
abbrev ar(e:E)(f:Nat):E:=zU (vU f #[] 0 Y) ⟨[e]⟩ #[]
def jg(f:Nat):List E->B2
 |[e]=>.data e f
 |_=>.no
def Ue(a:Array E):Fn->B2
 |.via f _ _ Y=>jg f a.toList
 |_=>.no
inductive Ph where
 |no
 |yes (k:yq) (n:Int)
def aq9(a:vL):B2:=Addr.rec (motive:=λ_=>B2) (λb c s=>dM (β:=Nat->Nat->B2) (λb c=>.to b c) (λ_ _ _=>.no) s b c) a
def ptrTo(v:E):B2:=
 wm (motive_1:=λ_=>B2) v (λ_=>.no) (λ_ _=>.no) (λ_ _=>.no) (λ_ _ _=>.no) (λ_=>.no) (λa=>dM .no aq9 a)
  (λ_ _ _=>.no) (λ_=>.no) (λ_=>.no) (λb c _=>Ue c b) .no (λ_ _=>.no) .no (λ_=>.no) (λ_=>.no)
def asInt(v:E):Ph:=
 wm (motive_1:=λ_=>Ph) v (λ_=>.no) (λk n=>.yes k n) (λ_ _=>.no) (λ_ _ _=>.no) (λ_=>.no) (λ_=>.no)
  (λ_ _ _=>.no) (λ_=>.no) (λ_=>.no) (λ_ _ _=>.no) .no (λ_ _=>.no) .no (λ_=>.no) (λ_=>.no)
def asBool(v:E):Option Bool:=
 wm (motive_1:=λ_=>Option Bool) v (λb=>O b) (λ_ _=>U) (λ_ _=>U) (λ_ _ _=>U) (λ_=>U) (λ_=>U)
  (λ_ _ _=>U) (λ_=>U) (λ_=>U) (λ_ _ _=>U) U (λ_ _=>U) U (λ_=>U) (λ_=>U)
def aaZ(v:E):Option (Array E):=
 wm (motive_1:=λ_=>Option (Array E)) v (λ_=>U) (λ_ _=>U) (λ_ _=>U) (λ_ _ _=>U) (λ_=>U) (λ_=>U)
  (λ_ _ _=>U) (λ_=>U) (λ_=>U) (λ_ _ _=>U) U (λ_ _=>U) U (λ_=>U) (λa=>O a)
def asAddr(v:E):Option vL:=
 wm (motive_1:=λ_=>Option vL) v (λ_=>U) (λ_ _=>U) (λ_ _=>U) (λ_ _ _=>U) (λ_=>U) (λa=>a)
  (λ_ _ _=>U) (λ_=>U) (λ_=>U) (λ_ _ _=>U) U (λ_ _=>U) U (λ_=>U) (λ_=>U)
def EL{β:Type}(n:β)(s:Nat->Nat->β)(d:E->Nat->β)(p:B2):β:=B2.rec (motive:=λ_=>β) n s d p
def ON{β:Type}(n:β)(s:yq->Int->β)(p:Ph):β:=Ph.rec (motive:=λ_=>β) n s p
def aoM{β:Type}(n:β)(s:List E->zQ->Bool->β)(o:ai):β:=
 ai.rec (motive:=λ_=>β) s (λ_ _=>n) (λ_ _=>n) (λ_ _ _ _=>n) (λ_=>n) (λ_=>n) o
def ah:E->List E
 |.agg a=>a.toList
 |v=>[v]
def Bn(T:au)(h:H)(t:zQ)(b a:Nat)(o:Option ai):aK:=
 dM (β:=au->H->zQ->Nat->Nat->aK) (λ_ _ _ _ _=>.f)
  (λo=>aoM (λ_ _ _ _ _=>.f) (λc _ _ T h t b a=>gk (h.az b) (zE T t c a)) o) o T h t b a
def loadAt(T:au)(h:H)(t:zQ)(v:E):aK:=
 EL (β:=au->H->zQ->aK) (λ_ _ _=>.f) (λb a T h t=>Bn T h t b a (h.g b)) (λe f T h t=>gk h (zE T t (ah e) f)) (ptrTo v) T h t
def Er(T:au)(h:H)(t:zQ)(v:E):aK:=
 EL (β:=au->H->zQ->aK) (λ_ _ _=>.f) (λb a T h t=>Bn T h t b a (h.g b)) (λ_ _ _ _ _=>.f) (ptrTo v) T h t
def da(l:List E):Bool:=
 y7 (motive:=λ_=>Bool) Y (λv _ a=>match v with|.agg _=>G|.tuple _=>G|_=>a) l
def SX(h:H)(b:Nat)(e:zQ)(g:Bool):Option (List E)->Option H
 |some c=>O (h.p b (.cells c e g))
 |none=>U
def ml(h:H)(b a:Nat)(d:List E):Option ai->Option H
 |some (.cells c e g)=>SX h b e g (kx a d c)
 |_=>U
def fits(a:List E):Option Nat->Bool
 |some n=>cond (zV (dh a) n) (da a) G
 |none=>G
def SY(h:H)(b a:Nat)(c:List E):Option H:=ml h b a c (h.g b)
def zG(T:au)(h:H)(t:zQ)(v:E)(a:E):Option H:=
 EL (β:=au->H->zQ->E->Option H) (λ_ _ _ _=>U)
  (λb c T h t v=>bN U (SY h b c (ah v)) (fits (ah v) (zI T t))) (λ_ _ _ _ _ _=>U) (ptrTo a) T h t v
def aA(tm:Tr E)(x:zh):Option E:=
 Operand.rec (motive:=λ_=>Tr E->Option E) (λt tm=>tm.g t) (λv _=>O v) (λ_ _=>U) (λf _=>O (zU (za f) #[] #[])) x tm
def ei(a:Tr E)(l:List zh):Option (List E):=
 y7 (motive:=λ_=>Option (List E)) (O []) (λx _ b=>match aA a x with
  |some v=>match b with
   |some r=>O (v::r)
   |none=>U
  |none=>U) l
def om(a:Tr E)(l:List (Nat×zh)):Option (List (Nat×E)):=
 y7 (motive:=λ_=>Option (List (Nat×E))) (O []) (λx _ b=>match aA a x.2 with
  |some v=>match b with
   |some r=>O ((x.1,v)::r)
   |none=>U
  |none=>U) l
def atm(o:Option E):Option Bool:=dM U asBool o
def Kb(d:Tr E)(h:H)(a b:zh)(o:Option E):aK:=
 dM (β:=Tr E->H->zh->zh->aK) (λ_ _ _ _=>.f)
  (λc=>bN (λd h _ b=>gk h (aA d b)) (λd h a _=>gk h (aA d a)) c) (atm o) d h a b
def jV(T:au)(t:zQ):Option (List E):=match T.cw.g t with
 |some i=>match OM i.zero with
  |some a=>cond (zV (dh (ah a)) i.size) (O (ah a)) U
  |none=>U
 |none=>U
def Bv(h:H)(e:zQ)(o:Option E):aK:=
 dM (β:=H->zQ->aK) (λ_ _=>.f) (λv h e=>.v (zM (O ⟨h.n,0,U⟩)) (h.w (.cells (ah v) e G))) o h e
def oP(place:Nat->Option (Nat×Nat))(l:List (Nat×E)):List E->Option (List E):=
 y7 (motive:=λ_=>List E->Option (List E)) (λc=>O c)
  (λx _ b c=>match place x.1 with
    |some (a,n)=>match cond (zV (dh (ah x.2)) n) (kx a (ah x.2) c) U with
     |some c=>b c
     |none=>U
    |none=>U) l
def fieldPlace(T:au)(a:Array Field)(i:Nat):Option (Nat×Nat):=
 match a.toList[i]? with
 |some f=>match zI T f.type with
  |some n=>O (f.offset,n)
  |none=>U
 |none=>U
def D9(n i:Nat):Option (Nat×Nat):=O (i*n,n)
def Kc(h:H):Option (List E)->aK
 |some c=>.v (.agg ⟨c⟩) h
 |none=>.f
def Eg(T:au):List Field->Bool
 |[]=>Y
 |f::l=>match zI T f.type with
  |some _=>Eg T l
  |none=>G
def aa0(T:au)(h:H)(a:List E)(b:List (Nat×E)):Option yU->aK
 |some (.struct c)=>bN .f (Kc h (oP (fieldPlace T c) b a)) (Eg T c.toList)
 |some (.array _ e)=>match zI T e with
  |some n=>Kc h (oP (D9 n) b a)
  |none=>.f
 |_=>.f
def eK(T:au)(h:H)(t:zQ):Option E->Option (List (Nat×E))->aK
 |some a,O b=>aa0 T h (ah a) b (T.u t)
 |_,_=>.f
def Eh(h:H)(e:zQ)(a b:Nat):Option (List E)->aK
 |some c=>.v (zL (O ⟨h.n,0,U⟩) a b) (h.w (.cells c e G))
 |none=>.f
def XA(h:H)(e:zQ)(b:Nat)(c:List (Nat×E)):Option Nat->Option (List E)->aK
 |some n,O a=>cond (ze (z7 b n) 16777216) (Eh h e b b (oP (D9 n) c (jK a b))) .f
 |_,_=>.f
def iQ(T:au)(h:H)(a:Nat):Option yU->Option (List (Nat×E))->aK
 |some (zf e),O b=>XA h e a b (zI T e) (jV T e)
 |_,_=>.f
def N8(T:au)(h:H)(t:zQ)(o:Option E):aK:=
 dM (β:=au->H->zQ->aK) (λ_ _ _=>.f) (λa T h t=>loadAt T h t a) o T h t
def M7(T:au)(h:H)(t:zQ)(o:Option E):aK:=
 dM (β:=au->H->zQ->aK) (λ_ _ _=>.f) (λa T h t=>Er T h t a) o T h t
def NK(T:au)(h:H)(t:zQ)(a v:Option E):aK:=
 dM (β:=au->H->zQ->Option E->aK) (λ_ _ _ _=>.f)
  (λa T h t v=>dM (β:=au->H->zQ->E->aK) (λ_ _ _ _=>.f) (λv T h t a=>o0 (zG T h t v a)) v T h t a) a T h t v
def Jm(h:H):Option E->aK
 |some (zM (O a))=>.v (zM (O a)) h
 |some (zU (za f) first b)=>.v (zU (za f) first b) h
 |some (zU (.yield l) first b)=>.v (zU (.yield l) first b) h
 |_=>.f
def abV(T:au)(h:H)(c:vJ)(t:zQ)(x y:zh)(a b:E)(g:Bool):Option Bool->aK
 |some r=>match c with
  |.eql=>.v (zP r) h
  |.neq=>.v (zP !r) h
  |_=>.f
 |none=>cond g (jU h (dT T.prog (do eqGuard c t x y a b;binOp c t a b))) .f
def Kd(c:vJ)(k:yq)(a b:Int):Option E:=
 BinOp.rec (motive:=λ_=>yq->Int->Int->Option E)
  (λk a b=>O (yV k (k.wrap (a+b)))) (λk a b=>O (yV k (k.wrap (a-b)))) (λk a b=>O (yV k (k.wrap (a*b))))
  (λ_ _ _=>U) (λ_ _ _=>U) (λ_ _ _=>U) (λ_ _ _=>U) (λ_ _ _=>U) (λ_ _ _=>U) (λ_ _ _=>U) (λ_ _ _=>U)
  (λ_ a b=>O (zP (a==b))) (λ_ a b=>O (zP (a !=b))) (λ_ a b=>O (zP (decide (a<b))))
  (λ_ a b=>O (zP (decide (a<=b)))) (λ_ a b=>O (zP (decide (a>b)))) (λ_ a b=>O (zP (decide (a>=b)))) c k a b
def aoN(c:Nat)(a:List E):Option Bool:=match c,a with
 |_+1,_=>O G
 |0,[zP b]=>O b
 |0,_=>U
def JX(T:au)(t:zQ)(a b:E):Option Bool:=
 match T.u t,a,b with
 |some (.pointer _),zM U,zM c=>O c.isNone
 |some (.pointer _),zM (O _),zM U=>O G
 |some (zf _),zL U _ _,zL c _ _=>O c.isNone
 |some (zf _),zL (O _) _ _,zL U _ _=>O G
 |some (se ..),wB U,wB c=>O c.isNone
 |some (se ..),wB (O _),wB U=>O G
 |some (uf _),wo,vv ..=>O G
 |some (uf _),vv ..,wo=>O G
 |some (.func ..),.nilFunc,zU (za _) ..=>O G
 |some (.func ..),zU (za _) ..,.nilFunc=>O G
 |some (zf _),zU (vU _ _ e G) _ ⟨d⟩,zL U _ _=>aoN e d
 |_,_,_=>U
def G5(T:au)(h:H)(c:vJ)(t:zQ)(x y:zh)(a b:E):aK:=
 cond (cond (ground a) (ground b) G) (jU h (dT T.prog (do eqGuard c t x y a b;binOp c t a b)))
  (abV T h c t x y a b (cond (gg a) (gg b) G) (JX T t a b))
def Ke(T:au)(h:H)(c:vJ)(t:zQ)(k d:yq)(a b:Int):aK:=
 bN .f (dM (β:=au->H->vJ->zQ->yq->Int->Int->aK) (λT h c t k a b=>jU h (dT T.prog (binOp c t (yV k a) (yV k b))))
  (λv _ h _ _ _ _ _=>.v v h) (Kd c k a b) T h c t k a b) (decide (k=d))
def UP(T:au)(h:H)(c:vJ)(t:zQ)(x y:zh)(a b:E):aK:=
 ON (β:=au->H->vJ->zQ->zh->zh->E->E->aK) (λT h c t x y a b=>G5 T h c t x y a b)
  (λk n T h c t x y a b=>ON (β:=au->H->vJ->zQ->zh->zh->E->E->yq->Int->aK) (λT h c t x y a b _ _=>G5 T h c t x y a b)
    (λd i T h c t _ _ _ _ k n=>Ke T h c t k d n i) (asInt b) T h c t x y a b k n) (asInt a) T h c t x y a b
def fu(T:au)(h:H)(c:vJ)(t:zQ)(x y:zh)(a b:Option E):aK:=
 dM (β:=au->H->vJ->zQ->zh->zh->Option E->aK) (λ_ _ _ _ _ _ _=>.f)
  (λa T h c t x y b=>dM (β:=au->H->vJ->zQ->zh->zh->E->aK) (λ_ _ _ _ _ _ _=>.f)
    (λb T h c t x y a=>UP T h c t x y a b) b T h c t x y a) a T h c t x y b
def K7(T:au)(h:H)(b:UnOp):Option E->aK
 |some a=>cond (ground a) (jU h (dT T.prog (Op.unary b a))) .f
 |none=>.f
def M8(T:au)(h:H)(s d:zQ):Option E->aK
 |some a=>cond (ground a) (jU h (dT T.prog (convert s d a))) .f
 |none=>.f
def Bi(h:H)(t:zQ):Option yU->Option E->aK
 |some (uf _),_=>.f
 |some _,O v=>.v (vv t v) h
 |_,_=>.f
def funcOf(h:H):Fn->Option (List E)->Option (List E)->aK
 |.func f,O a,O b=>.v (zU (za f) ⟨a⟩ ⟨b⟩) h
 |_,_,_=>.f
def GA(h:H)(e:zQ)(l c bytes:Nat):Option (List E)->aK
 |some a=>cond (cond (ze l c) (cond (ze c 65536) (ze bytes 65536) G) G) (Eh h e l c (O (jK a c))) .f
 |none=>.f
def bytesOf(T:au)(t:zQ):Option Nat:=dM U (λi=>O i.bytes) (T.cw.g t)
def Rl(T:au)(h:H)(e:zQ)(l c:Nat):Option Nat->aK
 |some b=>GA h e l c b (jV T e)
 |none=>.f
def A7(T:au)(h:H):Option yU->Option E->Option E->aK
 |some (zf e),O (yV _ (yj l)),O (yV _ (yj c))=>Rl T h e l c (bytesOf T e)
 |_,_,_=>.f
def fW(d:Nat):Option E->Option Nat
 |none=>O d
 |some (yV _ (yj n))=>O n
 |_=>U
def Si(h:H)(s:ByteArray):Option Nat->Option Nat->aK
 |some l,O e=>cond (cond (ze e s.size) (ze l e) G) (.v (zN (s.extract l e)) h) .f
 |_,_=>.f
def GX(h:H)(a:vL)(b:Nat):Option Nat->Option Nat->Option Nat->Option Nat->aK
 |some n,O l,O e,O m=>cond (cond (ze m b) (cond (ze e m) (ze l e) G) G)
   (.v (zL (O (cond (zV m l) a (a.add (z7 l n)))) (e-l) (m-l)) h) .f
 |_,_,_,_=>.f
def Jx(h:H)(b a c:Nat):Option Nat->Option Nat->Option Nat->Option Nat->aK
 |some n,O l,O e,O m=>cond (cond (ze m c) (cond (ze e m) (ze l e) G) G)
   (.v (zL (O ⟨b,zl a (z7 l n),U⟩) (e-l) (m-l)) h) .f
 |_,_,_,_=>.f
def Ns:Option Nat->Option Nat->Bool
 |some a,O b=>zV a b
 |_,_=>G
def aa1(T:au)(h:H)(b c d a:Nat)(elem:zQ)(f g i:Option E):Option ai->aK
 |some (.cells _ _ G)=>GX h ⟨b,c,U⟩ a (zI T elem) (fW 0 f) (fW d g) (fW a i)
 |some (.cells _ e Y)=>match i with
  |none=>cond (Ns (zI T e) (zI T elem)) (Jx h b c a (zI T elem) (fW 0 f) (fW d g) (O a)) .f
  |some _=>GX h ⟨b,c,U⟩ a (zI T elem) (fW 0 f) (fW d g) (fW a i)
 |_=>.f
def JP(l:Nat)(m:Option Nat)(a:Option E)(fG:List E):List E:=
 match a,m with
 |some _,O m=>[yV .i64 (yj (m-l))]
 |_,_=>match fG with
  |[yV _ (yj c)]=>[yV .i64 (yj (c-l))]
  |_=>[]
def N9(n:Nat):Option E->Bool
 |some e=>zV (dh (ah e)) n
 |none=>G
def GN(h:H)(d:List E)(a c:Nat)(b:List E)(f:Option E):Option Nat->Option Nat->Option Nat->Option Nat->aK
 |some n,O l,O e,O m=>cond (cond (ze m c) (cond (ze e m) (cond (ze l e) (cond (zV l 0) Y (N9 n d[a]?)) G) G) G)
   (.v (cp d (zl a l) (e-l) (JP l (O m) f b)) h) .f
 |_,_,_,_=>.f
def CF(T:au)(h:H)(f g e:Option E):Option yU->E->aK
 |some tW,zN s=>match e with
  |none=>Si h s (fW 0 f) (fW s.size g)
  |some _=>.f
 |some (zf elem),zL (O ⟨b,c,U⟩) a i=>aa1 T (h.az b) b c a i elem f g e (h.g b)
 |some (zf elem),zU (vU c _ a G) ⟨j⟩ ⟨d⟩=>GN h j c a d e (zI T elem) (fW 0 f) (fW a g) (fW a e)
 |_,_=>.f
def bounds(o:Option zh)(v:Option E):Option (Option E):=
 match o with
 |none=>O U
 |some _=>match v with
  |some v=>O (O v)
  |none=>U
def iV(a:Tr E):Option zh->Option E
 |none=>U
 |some x=>aA a x
def rO(T:au)(h:H)(t:zQ):Option E->Option (Option E)->Option (Option E)->Option (Option E)->aK
 |some x,O c,O a,O b=>match a,b with
  |none,O _=>.f
  |a,b=>CF T h c a b (T.u t) x
 |_,_,_,_=>.f
def ME(h:H)(a:vL)(b:Nat):Option Nat->aK
 |some (_+1)=>.v (zM (O (a.add b))) h
 |_=>.f
def fieldAt(d:Option yU)(f:Nat):Option Field:=match d with
 |some (.struct a)=>a.toList[f]?
 |_=>U
def MF(h:H)(e:E)(f a:Nat):Option Nat->aK
 |some (_+1)=>.v (ar e (zl f a)) h
 |_=>.f
def RF(T:au)(h:H)(s:zQ)(f:Nat)(x:Option E):aK:=
 match dM .no ptrTo x with
 |.data e o=>match fieldAt (T.u s) f with
  |some a=>MF h e o a.offset (zI T a.type)
  |none=>.f
 |_=>.f
def aX(T:au)(h:H)(s:zQ)(f:Nat)(x:Option E):aK:=
 dM (β:=au->H->zQ->Nat->Option E->aK) (λT h s f x=>RF T h s f x)
  (λa T h s f _=>dM (β:=au->H->vL->aK) (λ_ _ _=>.f) (λb T h a=>ME h a b.offset (zI T b.type)) (fieldAt (T.u s) f) T h a)
  (dM U asAddr x) T h s f x
def G6(T:au)(h:H)(f:Nat):Option yU->Option E->aK
 |some (.struct b),O (.agg c)=>match b.toList[f]? with
  |some a=>gk h (zE T a.type c.toList a.offset)
  |none=>.f
 |_,_=>.f
def Jd(h:H)(a:vL)(i b:Nat):Option Nat->aK
 |some n=>cond (ze (yy i) b) (.v (zM (O (a.add (i*n)))) h) .f
 |none=>.f
def Je(h:H)(n:Nat):Option E->aK
 |some e=>cond (zV (dh (ah e)) n) (.v (ar e 0) h) .f
 |none=>.f
def M9(h:H)(c:List E)(a b i:Nat):Option Nat->aK
 |some n=>cond (ze (yy i) b) (Je h n c[zl a i]?) .f
 |none=>.f
def dI(T:au)(h:H):Option yU->Option E->Option E->aK
 |some (zf e),O (zL (O a) b _),O (yV _ (yj i))=>Jd h a i b (zI T e)
 |some (.array b e),O (zM (O a)),O (yV _ (yj i))=>Jd h a i b (zI T e)
 |some (zf e),O (zU (vU c _ b G) ⟨d⟩ _),O (yV _ (yj i))=>M9 h d c b i (zI T e)
 |_,_,_=>.f
def Z3(T:au)(h:H)(b:List E)(e:zQ)(i a:Nat):Option Nat->aK
 |some n=>cond (ze (yy i) a) (gk h (zE T e b (i*n))) .f
 |none=>.f
def indexOf(T:au)(h:H)(t:zQ):Option yU->Option E->Option E->aK
 |some tW,O (zN s),O (yV k i)=>jU h (dT T.prog (Instr.index t (zN s) (yV k i)))
 |some (.array a e),O (.agg b),O (yV _ (yj i))=>Z3 T h b.toList e i a (zI T e)
 |_,_,_=>.f
def Ak:Option yU->Option yU
 |some (.int k)=>O (.int k)
 |some tW=>O tW
 |some .bool=>O .bool
 |_=>U
def TA(h:H)(r:Nat)(k v:E)(a:Array yJ)(clock:Nat):Option (Option (Nat×E))->aK
 |some (O (i,_))=>.v undef (h.p r (.map (a.modify i λe=>{e with key:=k,val:=v}) clock))
 |some U=>.v undef (h.p r (.map (a.push {key:=k,val:=v,born:=clock}) (clock+1)))
 |none=>.f
def XS(h:H)(r:Nat)(k v:E):Option yU->Option ai->aK
 |some b,O (.map a clock)=>TA h r k v a clock (yn b k a.toList 0)
 |_,_=>.f
def MG(T:au)(h:H)(k v:E):Option yU->E->aK
 |some (se a _),wB (O r)=>cond (ground k) (XS h r k v (Ak (T.u a)) (h.g r)) .f
 |_,_=>.f
def DZ(T:au)(h:H)(t:zQ):Option E->Option E->Option E->aK
 |some m,O k,O v=>MG T h k v (T.u t) m
 |_,_,_=>.f
def Na(h:H)(b:Bool)(a:E):Option (Option (Nat×E))->aK
 |some (O (_,v))=>.v (cond b (xC #[v,zP Y]) v) h
 |some U=>.v (cond b (xC #[a,zP G]) a) h
 |none=>.f
def Nt(h:H)(k:E)(b:Bool)(c:List yJ):Option yU->Option E->aK
 |some d,O a=>Na h b a (yn d k c 0)
 |_,_=>.f
def alS(T:au)(h:H)(a b:zQ)(k:E)(c:Bool)(r:Nat):Option ai->aK
 |some (.map d _)=>Nt (h.az r) k c d.toList (Ak (T.u a)) (zero T b)
 |_=>.f
def Sj(T:au)(h:H)(k:E)(c:Bool):Option yU->E->aK
 |some (se a b),wB U=>cond (ground k) (Nt h k c [] (Ak (T.u a)) (zero T b)) .f
 |some (se a b),wB (O r)=>cond (ground k) (alS T h a b k c r (h.g r)) .f
 |_,_=>.f
def Sl(T:au)(h:H)(t:zQ)(a:Bool):Option E->Option E->aK
 |some m,O k=>Sj T h k a (T.u t) m
 |_,_=>.f
def Y0(h:H):Option zh->aK
 |none=>.v (wB (O h.n)) (h.w (.map #[] 0))
 |some _=>.f
def Hn(h:H)(o:ai):aK:=.v (zM (O ⟨h.n,0,U⟩)) (h.w o)
def rangeMap(h:H)(m:Nat):Option ai->aK
 |some (.map _ clock)=>Hn (h.az m) (.mapIter (O m) clock #[] clock)
 |_=>.f
def Es(h:H):Option yU->Option E->aK
 |some (se ..),O (wB U)=>Hn h (.mapIter U 0 #[] 0)
 |some (se ..),O (wB (O m))=>rangeMap h m (h.g m)
 |_,_=>.f
def Jy(h:H)(r m since:Nat)(seen:Array Nat)(last:Nat):Option ai->aK
 |some (.map a clock)=>
  if !seen.isEmpty&& !a.isEmpty&&a.all (·.born>=last)then .f else
  let left:=a.filter λe=> !seen.contains e.born;let cD:=left.filter (·.born<since);let new:=left.filter (·.born>=since)
  match cD.toList,new.toList with
  |[],[]=>.v (xC #[zP G]) ((h.az r).az m)
  |[e],[]=>.v (xC #[zP Y,e.key,e.val]) ((h.az m).p r (.mapIter (O m) since (seen.push e.born) clock))
  |_,_=>.f
 |_=>.f
def abW(h:H)(r:Nat)(isString:Bool):Option ai->aK
 |some (.mapIter U _ _ _)=>cond isString .f (.v (xC #[zP G]) (h.az r))
 |some (.mapIter (O m) since seen last)=>cond isString .f (Jy h r m since seen last (h.g m))
 |_=>.f
def Ho(h:H)(isString:Bool):Option E->aK
 |some (zM (O ⟨r,0,U⟩))=>abW h r isString (h.g r)
 |_=>.f
def RG(h:H)(a:Nat)(b:List yJ):aK:=match b.find? (λe=>e.born==a)with
 |some e=>.v (xC #[e.key,e.val]) h
 |none=>.f
def Sm(h:H)(seen:Array Nat)(a:Nat):Option ai->aK
 |some (.map c clock)=>match seen.back? with
  |some b=>cond (zV clock a) (RG h b c.toList) .f
  |none=>.f
 |_=>.f
def aoO(h:H)(r:Nat):Option ai->aK
 |some (.mapIter (O m) _ seen a)=>Sm ((h.az r).az m) seen a (h.g m)
 |_=>.f
def NN(h:H):Option E->aK
 |some (zM (O ⟨r,0,U⟩))=>aoO h r (h.g r)
 |_=>.f
def Jn(h:H)(b:Bool):Option E->aK
 |some a=>cond b (.v (xC #[a,zP G]) h) .f
 |none=>.f
def RH(h:H)(a:Bool)(v:E):aK:=.v (cond a (xC #[v,zP Y]) v) h
def rJ(T:au)(h:H)(t:zQ)(a:Bool):Option yU->Option E->aK
 |some (uf _),O (vv ..)=>.f
 |some _,O wo=>Jn h a (zero T t)
 |some _,O (vv u v)=>cond (zV u t) (RH h a v) (Jn h a (zero T t))
 |_,_=>.f
def Jz(h:H)(i:Nat)(o:Option E):aK:=
 dM (β:=H->Nat->aK) (λ_ _=>.f) (λa h i=>gk h (Fc i a.toList)) (dM U aaZ o) h i
def rD:Option ai->Option (List E)
 |some (.cells c _ _)=>O c
 |_=>U
def rK(a n:Nat):Option (List E)->Option (List E)
 |some c=>cut c a n
 |none=>U
def zH(h:H)(k sz:Nat):E->Option (List E)
 |.slice U _ _=>O []
 |.slice (O ⟨b,a,U⟩) _ _=>rK a (z7 k sz) (rD (h.g b))
 |.func (vU a _ _ G) ⟨c⟩ _=>O (((c.drop a).take k).flatMap ah)
 |_=>U
def cu(h:H):E->H
 |.slice (O a) _ _=>h.az a.block
 |_=>h
def lenOf:E->Option Nat
 |.slice _ n _=>O n
 |.func (vU _ _ n G) _ _=>O n
 |_=>U
def kO(h:H)(e:zQ)(n:Nat)(c:List E):aK:=
 .v (zL (O ⟨h.n,0,U⟩) n n) (h.w (.cells c e Y))
def Nu(h:H)(b a c f:Nat)(e:zQ)(g:Bool):Option (List E)->aK
 |some d=>.v (zL (O ⟨b,a,U⟩) c f) (h.p b (.cells d e g))
 |none=>.f
def mP(T:au)(h:H)(b:Nat)(e:zQ)(i a d:Nat)(f c:List E)(j:zQ)(g:Bool):aK:=
 bN (kO h e a f) (cond (Ns (zI T j) (O i)) (bN (kO h e a f) (kO (h.d b) e a f) (zV d (dh c))) .f) g
def kq(T:au)(h:H)(b f:Nat)(e:zQ)(j a d n:Nat)(k i:List E):Option ai->aK
 |some (.cells c l g)=>bN (mP T h b e j (zl a n) (zl f (z7 d j)) (il k i) c l g)
   (bN (Nu h b f (zl a n) d l g (kx (zl f (z7 a j)) i c)) (.v (zL (O ⟨b,f,U⟩) a d) h) (zV n 0))
   (ze (zl a n) d)
 |_=>.f
def MP(T:au)(h:H)(e:zQ)(i a c n:Nat)(f d:List E):Option vL->aK
 |none=>cond (cond (zV a 0) (zV c 0) G) (bN (kO h e n d) (.v (zL U 0 0) h) (zV n 0)) .f
 |some ⟨b,g,U⟩=>kq T h b g e i a c n f d (h.g b)
 |_=>.f
def Z4(T:au)(h:H)(e:zQ)(f:Nat)(base:Option vL)(a c n:Nat):Option (List E)->Option (List E)->aK
 |some d,O b=>cond (cond (zV (dh b) (z7 n f)) (cond (zV (dh d) (z7 a f)) (da b) G) G)
   (MP T h e f a c n d b base) .f
 |_,_=>.f
def NO:Option (List E)->Bool
 |some _=>Y
 |none=>G
def jy(T:au)(h:H)(e:zQ)(s x:E)(base:Option vL)(a b n:Nat):Option sO->aK
 |some i=>cond (cond (zV i.size 0) G (cond (ze i.bytes 65536) (cond (ze (zl a n) 1073741824) (NO (jV T e)) G) G))
   (Z4 T (cu (cu h s) x) e i.size base a b n (zH h a i.size s) (zH h n i.size x)) .f
 |none=>.f
def QQ(h:H)(e:zQ)(a:Nat)(b:List E):List E->aK
 |[yV _ (yj c)]=>cond (ze a c) .f (kO h e a b)
 |_=>.f
def XB(h:H)(e:zQ)(f:Nat)(s:E)(c:List E)(a n:Nat):Option (List E)->Option (List E)->aK
 |some d,O b=>cond (cond (zV (dh b) (z7 n f)) (cond (zV (dh d) (z7 a f)) (da b) G) G)
   (bN (QQ h e (zl a n) (il d b) c) (.v s h) (zV n 0)) .f
 |_,_=>.f
def XC(T:au)(h:H)(e:zQ)(s x:E)(b:List E)(a n:Nat):Option sO->aK
 |some i=>cond (cond (zV i.size 0) G (cond (ze i.bytes 65536) (cond (ze (zl a n) 1073741824) (NO (jV T e)) G) G))
   (XB (cu h x) e i.size s b a n (zH h a i.size s) (zH h n i.size x)) .f
 |none=>.f
def jO(T:au)(h:H)(x:E):Option yU->Option yU->E->Option Nat->aK
 |some (zf e),O (zf _),zL base a b,O n=>jy T h e (zL base a b) x base a b n (T.cw.g e)
 |some (zf e),O (zf _),zU (vU f p d G) ⟨g⟩ ⟨c⟩,O n=>XC T h e (zU (vU f p d G) ⟨g⟩ ⟨c⟩) x c d n (T.cw.g e)
 |_,_,_,_=>.f
def ara(h:H)(r:Nat):Option ai->aK
 |some (.map a _)=>.v (yV .i64 a.size) (h.az r)
 |_=>.f
def mX(h:H):Option yU->E->aK
 |some (zf _),zL _ n _=>.v (yV .i64 n) h
 |some tW,zN s=>.v (yV .i64 s.size) h
 |some (se ..),wB U=>.v (yV .i64 0) h
 |some (se ..),wB (O r)=>ara h r (h.g r)
 |some (zf _),zU (vU _ _ n G) _ _=>.v (yV .i64 n) h
 |_,_=>.f
def Oa(h:H)(p:Program)(g:Bool)(s:Sem E):aK:=cond g (jU h (dT p s)) .f
def iS(T:au):Option zQ->Option yU
 |some t=>T.u t
 |none=>U
def qt(T:au)(h:H)(argTypes:Array zQ)(type:zQ)(args:List E):Builtin->Out
 |.append=>match args with
  |[s,x]=>.of (jO T h x (iS T argTypes.toList[0]?) (iS T argTypes.toList[1]?) s (lenOf x))
  |_=>.of .f
 |.len=>match args with
  |[x]=>.of (mX h (iS T argTypes.toList[0]?) x)
  |_=>.of .f
 |.recover=>.pT
 |.max=>.of (Oa h T.prog (nq args) (Builtin.max_ argTypes type args.toArray))
 |.min=>.of (Oa h T.prog (nq args) (Builtin.min_ argTypes type args.toArray))
 |_=>.of .f
def CI(args:List E):Option E->Out
 |some f=>.call f args
 |none=>.of .f
def Bj(args:List E):Option E->Out
 |some f=>.rj f args
 |none=>.of .f
def Ao(T:au)(a:Tr E)(h:H)(argTypes:Array zQ)(type:zQ)(c:Callee):Option (List E)->Out
 |some args=>match c with
  |.builtin b=>qt T h argTypes type args b
  |.value f=>CI args (aA a f)
  |.invoke ..=>.of .f
 |none=>.of .f
def Et(a:Tr E)(c:Callee):Option (List E)->Out
 |some args=>match c with
  |.value f=>Bj args (aA a f)
  |_=>.of .f
 |none=>.of .f
def CO:Option E->Out
 |some (vv t v)=>.aU (vv t v)
 |_=>.of .f
def execOp(T:au)(g:Tr E)(type:zQ)(h:H)(j:Op):Out:=
 Op.rec (motive:=λ_=>au->Tr E->zQ->H->Out)
  (λx _ g _ h=>.of (gk h (aA g x)))
  (λx _ g _ h=>.of (gk h (aA g x)))
  (λc a b _ g _ h=>.of (Kb g h a b (aA g c)))
  (λe T _ _ h=>.of (Bv h e (zero T e)))
  (λe x _ g _ h=>.of (Bv h e (aA g x)))
  (λt parts T g _ h=>.of (eK T h t (zero T t) (om g parts.toList)))
  (λt n parts T g _ h=>.of (iQ T h n (T.u t) (om g parts.toList)))
  (λt m k v T g _ h=>.of (DZ T h t (aA g m) (aA g k) (aA g v)))
  (λt a T g _ h=>.of (N8 T h t (aA g a)))
  (λt a x T g _ h=>.of (NK T h t (aA g a) (aA g x)))
  (λ_ _ _ _ _=>.of (.f))
  (λ_ _ _ _ _=>.of (.f))
  (λx _ g _ h=>.of (Jm h (aA g x)))
  (λj t x y _ T g _ h=>.of (fu T h j t x y (aA g x) (aA g y)))
  (λj _ x T g _ h=>.of (K7 T h j (aA g x)))
  (λs d x T g _ h=>.of (M8 T h s d (aA g x)))
  (λ_ _ _ _ _ _=>.of (.f))
  (λt x T g _ h=>.of (Bi h t (T.u t) (aA g x)))
  (λB first o _ g _ h=>.of (funcOf h B (ei g first.toList) (ei g o.toList)))
  (λ_ r _ _ _ h=>.of (Y0 h r))
  (λ_ _ _ _ _ _=>.of (.f))
  (λt l c T g _ h=>.of (A7 T h (T.u t) (aA g l) (aA g c)))
  (λt x u w A T g _ h=>.of (rO T h t (aA g x) (bounds u (iV g u)) (bounds w (iV g w)) (bounds A (iV g A))))
  (λs x f T g _ h=>.of (aX T h s f (aA g x)))
  (λt x f T g _ h=>.of (G6 T h f (T.u t) (aA g x)))
  (λt x i T g _ h=>.of (dI T h (T.u t) (aA g x) (aA g i)))
  (λt x i T g _ h=>.of (indexOf T h t (T.u t) (aA g x) (aA g i)))
  (λt x i p T g _ h=>.of (Sl T h t p (aA g x) (aA g i)))
  (λt m k v T g _ h=>.of (DZ T h t (aA g m) (aA g k) (aA g v)))
  (λ_ _ _ _ _ _ _=>.of (.f))
  (λ_ _ _ _ _ _ _ _=>.of (.f))
  (λt x T g _ h=>.of (Es h (T.u t) (aA g x)))
  (λq isString _ g _ h=>.of (Ho h isString (aA g q)))
  (λq _ g _ h=>.of (NN h (aA g q)))
  (λx _ t p T g _ h=>.of (rJ T h t p (T.u t) (aA g x)))
  (λx i _ g _ h=>.of (Jz h i (aA g x)))
  (λc T g type h=>Ao T g h c.argTypes type c.callee (ei g c.args.toList))
  (λ_ _ _ _ _=>.of (.f))
  (λc _ g _ _=>Et g c.callee (ei g c.args.toList))
  (λx _ g _ h=>CO (aA g x))
  (λ_ _ _ _ _ _=>.of (.f))
  (λ_ _ _ _ _ _ _=>.of (.f))
  (λ_ _ _ _ _ _=>.of (.f)) j T g type h
inductive Ex where
 |Nr
 |exit (id:Nat)
 |ret
 |panic (chain:List zO)
structure S where
 tm:Tr E
 df:List zc
 h:H
 ab:Option (List zO)
structure Fr where
 fn:zZ
 round:Option Nat
inductive zC where
 |loop (fr:Fr) (b:yG) (s:S)
 |run (fr:Fr) (c:yG) (s:S)
 |call (f:E) (args:List E) (h:H) (aIh:Option (List zO))
 |unwind (fn:xZ) (s:S) (mode:Option (List zO))
inductive ag where
 |f
 |c (e:Ex) (s:S)
 |r (v:E) (h:H) (ab:Option (List zO))
 |p (chain:List zO) (h:H) (ab:Option (List zO))
 |any (h:H) (ab:Option (List zO))
def HT(a:Tr E)(o:Option xw):Tr E:=dM (β:=Tr E->Tr E) (λa=>a) (λd a=>a.del d) o a
def eG(a:Tr E)(v:E)(o:Option xw):Tr E:=dM (β:=Tr E->E->Tr E) (λa _=>a) (λd a v=>a.s d v) o a v
def Bd(a:Tr E):Option yH->Option E
 |some o=>match o.dst with
  |some d=>a.g d
  |none=>U
 |none=>U
def qJ(want:Bool):Option E->Option Bool
 |some (zP b)=>O (b==want)
 |some _=>O G
 |none=>U
def wanted(a:Array yH)(b:Tr E)(g:Option (Nat×Bool)):Option Bool:=
 dM (β:=Array yH->Tr E->Option Bool) (λ_ _=>O Y) (λg a b=>qJ g.2 (Bd b a.toList[g.1]?)) g a b
def GB:Option (List zO)->E×Option (List zO)
 |some ({v,recovered:=G,goexit:=G}::a)=>(v,O ({v,recovered:=Y}::a))
 |m=>(wo,m)
def EC(a:Option xw)(k:S->ag)(b:Tr E)(c:List zc)(d:Option (List zO)):ag->ag
 |.r v h _=>k ⟨eG b v a,c,h,d⟩
 |.p chain h _=>.c (.panic chain) ⟨b,c,h,d⟩
 |.any h _=>k ⟨HT b a,c,h,d⟩
 |_=>.f
def aa2(round:Option Nat)(a:Option xw)(k:S->ag)(c:Tr E)(d:List zc)(h:H)(e:Option (List zO))(args:List E):E->ag
 |.func (za g) first b=>match round with
  |none=>k ⟨eG c undef a,{target:=.fn (za g) b,args:=⟨first.toList++args⟩}::d,h,e⟩
  |some _=>.f
 |_=>.f
def GO(round:Option Nat)(a:Option xw)(k:S->ag)(b:Tr E)(c:List zc)(h:H)(d:Option (List zO)):ag:=
 match round with
 |none=>match GB d with
  |(v,m)=>k ⟨eG b v a,c,h,m⟩
 |some _=>.f
def ato(a:Option xw)(k:S->ag)(b:Tr E)(c:List zc)(d:Option (List zO))(r:aK):ag:=
 aK.rec (motive:=λ_=>Option xw->(S->ag)->Tr E->List zc->Option (List zO)->ag)
  (λ_ _ _ _ _=>.f) (λv h a k b c d=>k ⟨eG b v a,c,h,d⟩) r a k b c d
def qQ(e:zC->ag)(round:Option Nat)(a:Option xw)(k:S->ag)(b:Tr E)(c:List zc)(h:H)(d:Option (List zO))(r:Out):ag:=
 Out.rec (motive:=λ_=>(zC->ag)->Option Nat->Option xw->(S->ag)->Tr E->List zc->H->Option (List zO)->ag)
  (λr _ _ a k b c _ d=>ato a k b c d r)
  (λv _ _ _ _ b c h d=>.c (.panic [{v,recovered:=G}]) ⟨b,c,h,d⟩)
  (λf args e _ a k b c h d=>EC a k b c d (e (.call f args h U)))
  (λf args _ round a k b c h d=>aa2 round a k b c h d args f)
  (λ_ round a k b c h d=>GO round a k b c h d) r e round a k b c h d
def Hp(T:au)(d:zC->ag)(e:Fr)(a:Array yH)(o:yH)(k:S->ag)(s:S):ag:=
 S.rec (motive:=λ_=>au->(zC->ag)->Fr->Array yH->yH->(S->ag)->ag)
  (λc f h g T d e a o k=>dM .f (λb=>bN (k ⟨eG c undef o.dst,f,h,g⟩) (qQ d e.round o.dst k c f h g (execOp T c o.type h o.op)) b) (wanted a c o.guard)) s T d e a o k
def Ap(T:au)(b:zC->ag)(c:Fr)(a:Array yH)(l:List yH):S->ag:=
 y7 (motive:=λ_=>S->ag) (λs=>.c .Nr s) (λo _ d s=>Hp T b c a o d s) l
def pJ(e:Edge):Bool:=match e.ground with|.textOnly _|.gcOnly _=>G|_=>Y
def Cr(b:Tr Nat)(l:List Edge):Nat:=
 y7 (motive:=λ_=>Nat) 0 (λe _ a=>cond (pJ e) (zi a (zi (bit e.on) (match b.g e.on with|some n=>n|none=>0))) a) l
def bj(l:List yH):Nat->Tr Nat->Tr Nat:=
 y7 (motive:=λ_=>Nat->Tr Nat->Tr Nat) (λ_ a=>a) (λo _ b i a=>b (yy i) (a.s i (Cr a o.after.toList))) l
structure aG where
 i:Nat
 rd:Nat
 wr:Nat
def dV(a b:Nat):Bool:=zV (Nat.land a b) 0
def aN(n i:Nat):Bool:=zV (Nat.land (Nat.shiftRight n i) 1) 1
def apart(a:Nat)(j k:aG):Bool:=
 cond (aN a k.i) Y (cond (dV j.wr k.rd) (cond (dV k.wr j.rd) (dV j.wr k.wr) G) G)
def dr(a b:Nat):Nat:=Nat.shiftLeft (Nat.sub (bit (Nat.sub b a)) 1) a
def fe(a:Nat)(j:aG)(l:List aG):Bool:=y7 (motive:=λ_=>Bool) Y (λk _ b=>cond (apart a j k) b G) l
def aE(bs:Tr Nat)(i:Nat):Nat:=match bs.g i with|some n=>n|none=>0
def Bo(m:Tr ai)(n base a b r w:Nat):H:=
 cond (zV base 0) ⟨m,n,base,a,b⟩ (kw (λc=>kw (λd=>⟨m,n,base,c,d⟩) (zi b w)) (zi a r))
def mf(k:List aG->S->ag)(base b c:Nat)(g:Tr Nat)(l:List aG)(i:Nat)(d:Tr E)(e:List zc)(f:Option (List zO))(m:Tr ai)(n r w a:Nat):ag:=
 cond (cond (zV r 0) (zV a 0) G) (k l ⟨d,e,⟨m,n,base,b,c⟩,f⟩)
  (cond (fe (aE g i) ⟨i,r,a⟩ l) (k (⟨i,r,a⟩::l) ⟨d,e,Bo m n base b c r w,f⟩) .f)
def JA(k:List aG->S->ag)(a base b c:Nat)(d:Tr Nat)(l:List aG)(i:Nat)(e:Tr E)(f:List zc)(g:Option (List zO))(h:H):ag:=
 FH (λm n _ r w=>kw (λj=>mf k base b c d l i e f g m n r w j) (zi w (dr a n))) h
def RI(k:List aG->S->ag)(m:List zO->List aG->S->ag)(b base c d:Nat)(e:Tr Nat)(l:List aG)(i:Nat)(a:Option xw)(f:Tr E)(g:List zc)(j:Option (List zO)):ag->ag
 |.r v h _=>JA k b base c d e l i (eG f v a) g j h
 |.p chain h _=>JA (m chain) b base c d e l i f g j h
 |_=>.f
def Nv(n:zC->ag)(k:List aG->S->ag)(o:List zO->List aG->S->ag)(b base c d:Nat)(e:Tr Nat)(l:List aG)(i:Nat)(a:Option xw)(g:Tr E)(j:List zc)(h:H)(m:Option (List zO)):Out->ag
 |.of (.v v h)=>JA k b base c d e l i (eG g v a) j m h
 |.call f args=>RI k o b base c d e l i a g j m (n (.call f args h U))
 |_=>.f
def H.f(h:H):H:=FH (λm n _ _ _=>⟨m,n,n,0,0⟩) h
def JB(T:au)(f:zC->ag)(c:Array yH)(g:Tr Nat)(i:Nat)(o:yH)(k:List aG->S->ag)(j:List zO->List aG->S->ag)(l:List aG):S->ag
 |⟨a,d,h,e⟩=>dM .f (λb=>bN (k l ⟨eG a undef o.dst,d,h,e⟩)
    (Nv f k j h.n h.b h.rd h.wr g l i o.dst a d h.f e (execOp T a o.type h.f o.op)) b) (wanted c a o.guard)
def calm(p a:Nat)(x:aG):Bool:=cond (zV x.i p) Y (cond (aN a x.i) Y (zV x.wr 0))
def gh(p a:Nat)(l:List aG):Bool:=y7 (motive:=λ_=>Bool) Y (λx _ b=>cond (calm p a x) b G) l
def jS(l:List yH):Tr E->Tr E:=y7 (motive:=λ_=>Tr E->Tr E) (λa=>a) (λo _ b a=>dM (b a) (λd=>b (a.del d)) o.dst) l
def G7:Op->Bool
 |.alloc _=>Y
 |_=>G
def GP(a:Array yH)(x:aG):Bool:=match a.toList[x.i]? with
 |some o=>G7 o.op
 |none=>G
def qu(a:Array yH)(l:List aG):List aG:=l.filter λx=>cond (GP a x) G Y
def Z5(a:Array yH)(b:Tr Nat)(p:Nat)(chain:List zO)(l:List aG):S->ag
 |⟨c,d,h,e⟩=>cond (gh p (aE b p) (qu a l)) (.c (.panic chain) ⟨jS a.toList c,d,h,e⟩) .f
def Ug:List zO->List aG->S->ag:=λ_ _ _=>.f
def nr(T:au)(d:zC->ag)(a:Array yH)(b:Tr Nat)(p:Nat)(chain:List zO)(l:List yH):Nat->List aG->S->ag:=
 y7 (motive:=λ_=>Nat->List aG->S->ag) (λ_ l s=>Z5 a b p chain l s)
  (λo _ c i l s=>cond (aN (aE b i) p) (c (yy i) l s) (JB T d a b i o (c (yy i)) Ug l s)) l
def oo(T:au)(b:zC->ag)(a:Array yH)(c:Tr Nat)(l:List yH):Nat->List aG->S->ag:=
 y7 (motive:=λ_=>Nat->List aG->S->ag) (λ_ _ s=>.c .Nr s) (λo r d i l s=>JB T b a c i o (d (yy i)) (λchain=>nr T b a c i chain r (yy i)) l s) l
def jN(T:au)(b:zC->ag)(c:Fr)(a:Array yH)(draw:Bool)(s:S):ag:=
 cond draw (oo T b a (bj a.toList 0 .Nl) a.toList 0 [] s) (Ap T b c a a.toList s)
def jm(k:S->ag):ag->ag
 |.c .Nr s=>k s
 |r=>r
def CP(a b:S->ag)(s:S):Option E->ag
 |some (zP Y)=>a s
 |some (zP G)=>b s
 |_=>.f
def lq(id:Nat):ag->ag
 |.c (.exit i) s=>cond (zV i id) (.c .Nr s) (.c (.exit i) s)
 |r=>r
def CQ(a:zC->ag)(c:Fr)(b:yG):ag->ag
 |.c .Nr s=>a (.loop c b s)
 |r=>r
def Ob:yG->Bool
 |.ret=>Y
 |.exit _=>Y
 |_=>G
def JQ(a:zC->ag)(b:Fr)(s:S)(l:Nat)(h:H)(r:kz):ag:=
 match r.state with
 |.busy=>.f
 |_=>match r.pending with
  |none=>.c .Nr {s with h:=h.p l (.Lo {r with state:=.exhausted})}
  |some c=>cond (Ob c) (a (.run b c {s with h:=h.p l (.Lo {r with state:=.exhausted})})) .f
def Sn(a:zC->ag)(b:Fr)(s:S)(l:Nat)(h:H):Option ai->ag
 |some (.Lo r)=>JQ a b s l h r
 |_=>.f
def NP(a:zC->ag)(b:Fr)(s:S)(l:Nat):ag->ag
 |.r _ h _=>Sn a b s l h (h.g l)
 |.p chain h _=>.c (.panic chain) {s with h}
 |_=>.f
def G8(a:zC->ag)(b:Fr)(params:Array xw)(assign body:yG)(s:S)(d:Nat)(c:E):ag:=
 NP a b s s.h.n (a (.call c [zU (.yield s.h.n) #[] #[]] (s.h.w (.Lo {state:=.ready,pending:=U,fn:=b.fn,tmps:=s.tm,params,assign,body,defers:=d})) U))
def adw(a:zC->ag)(b:Fr)(params:Array xw)(assign body:yG)(s:S)(l:Nat)(c:E):Option ai->ag
 |some (.Lo r)=>G8 a b params assign body {s with h:=s.h.az l} r.defers c
 |_=>.f
def Jo(b:zC->ag)(a:Fr)(params:Array xw)(assign body:yG)(s:S):Option E->ag
 |none=>.f
 |some c=>match a.round with
  |some l=>adw b a params assign body s l c (s.h.g l)
  |none=>G8 b a params assign body {s with h:=s.h.w (.Df (O [])),df:={target:=.collected s.h.n,args:= #[]}::s.df} s.h.n c
def aw(T:au)(ev:zC->ag)(fr:Fr)(c:yG):S->ag:=
 Code.rec (motive:=λ_=>S->ag)
  (λs=>.c .Nr s)
  (λ_ d draw s=>jN T ev fr d draw s)
  (λ_ _ e a s=>jm a (e s))
  (λx _ _ e a s=>CP e a s (aA s.tm x))
  (λid _ a s=>lq id (a s))
  (λb a s=>CQ ev fr b (a s))
  (λf params assign body _ _ s=>Jo ev fr params assign body s (aA s.tm f))
  (λid s=>.c (.exit id) s)
  (λ_ a s=>a s)
  (λ_ s=>.c .Nr s)
  (λ_ _=>.f)
  (λs=>.c .ret s)
  (λ_ _=>.f) c
def pG(c:Call):List zh:=
 match c.callee with
 |.value f=>f::c.args.toList
 |.invoke r _=>r::c.args.toList
 |.builtin _=>c.args.toList
def K8:Option zh->List zh
 |some x=>[x]
 |none=>[]
def cG:Op->List zh
 |.move x|.assign x|.box _ x|.load _ x|.nilCheck x|.unOp _ _ x|.convert _ _ x|.makeInterface _ x
 |.fieldAddr _ x _|.field _ x _|.range _ x|.next x _|.entry x|.typeAssert x _ _ _|.extract x _|.panic x=>[x]
 |.pick c a b=>[c,a,b]
 |.build _ d|.buildSlice _ _ d=>d.toList.map (·.2)
 |.store _ a v|.binOp _ _ a v _|.makeSlice _ a v|.indexAddr _ a v|.index _ a v|.lookup _ a v _=>[a,v]
 |.makeFunc _ first captured=>first.toList++captured.toList
 |.slice _ x l h m=>x::(K8 l++(K8 h++K8 m))
 |.mapUpdate _ m k v|.insert _ m k v=>[m,k,v]
 |.call c|.defer c=>pG c
 |_=>[]
def acO(t:xw):zh->Bool
 |.tmp u=>zV u t
 |_=>G
def looks(a:List yH)(o:yH)(t:xw):Bool:=
 (cG o.op).any (acO t)||(match o.guard with
   |some (g,_)=>(match a[g]? with
    |some x=>(match x.dst with|some d=>zV d t|none=>G)
    |none=>G)
   |none=>G)
def Oc(a:List yH)(o:yH):Option xw->Bool
 |some t=>looks a o t
 |none=>G
def aa3:Option xw->Option xw->Bool
 |some a,O b=>zV a b
 |_,_=>G
def TB(a:List yH)(d i:Nat)(b c:yH):Bool:=
 aN d i||(!Oc a c b.dst&&(!Oc a b c.dst&& !aa3 b.dst c.dst))
def Oe(i:Nat)(e:Edge):Bool:=cond (pJ e) (ze (yy e.on) i) Y
def aoP(a:Nat):Option (Nat×Bool)->Bool
 |none=>Y
 |some g=>aN a g.1
def G9(a:List yH)(b:Nat)(c:yH):List yH->Nat->Nat->Bool
 |[],_,_=>Y
 |d::l,i,j=>(ze j i||TB a b i d c)&&G9 a b c l (yy i) j
def Cw(a:List yH)(b:Tr Nat):List yH->Nat->Bool
 |[],_=>Y
 |c::l,j=>c.after.toList.all (Oe j)&&(aoP (aE b j) c.guard&&(G9 a (aE b j) c a 0 j&&Cw a b l (yy j)))
def KI(a:Nat)(o:yH):Bool:=match o.dst with|some d=>ze (yy d) a|none=>Y
def qG:zh->Bool
 |.const v=>gg v
 |_=>Y
def qU(a:Nat)(o:yH):Bool:=KI a o&&(cG o.op).all qG
def Be(b:Nat)(a:Array yH)(draw:Bool):Bool:=
 a.toList.all (qU b)&&(!draw||Cw a.toList (bj a.toList 0 .Nl) a.toList 0)
def rL(a:Nat)(b:List xw):Bool:=b.all λd=>ze (yy d) a
def ck(d:Nat):yG->Bool
 |.region _ e draw=>Be d e draw
 |.seq a b=>ck d a&&ck d b
 |.cond c a b=>qG c&&(ck d a&&ck d b)
 |.block _ b=>ck d b
 |.loop b=>ck d b
 |.rangeFunc f g a b=>qG f&&(rL d g.toList&&(ck d a&&ck d b))
 |.scope b=>ck d b
 |_=>Y
def rQ(a:xZ):Bool:=
 match a.body with
 |some c=> !(a.name== "runtime.NumGoroutine")&&ck a.ntmps c
 |none=>G
def TD(a:xZ):Option xZ:=cond (rQ a) (O a) U
def acP{α:Type}(o:Option (Option α)):Option α:=dM U (λx=>x) o
def au.f(T:au)(g:zZ):Option xZ:=acP (T.funcs.g g)
def bF(l:List E):Nat->Tr E->Tr E:=
 y7 (motive:=λ_=>Nat->Tr E->Tr E) (λ_ t=>t) (λv _ a k t=>a (yy k) (t.s k v)) l
def oT(b:List xw):List E->Tr E->Option (Tr E):=
 y7 (motive:=λ_=>List E->Tr E->Option (Tr E)) (λa t=>match a with|[]=>O t|_::_=>U)
  (λd _ c a t=>match a with|[]=>U|v::a=>c a (t.s d v)) b
def CD(a:zC->ag)(b:xZ):ag->ag
 |.c .Nr s=>a (.unwind b s U)
 |.c .ret s=>a (.unwind b s U)
 |.c (.panic chain) s=>a (.unwind b s (O chain))
 |_=>.f
def pK(T:au)(a:zC->ag)(g:zZ)(args:List E)(h:H)(b:Option (List zO))(d:xZ):Option yG->ag
 |some c=>CD a d (aw T a ⟨g,U⟩ c ⟨bF args 0 .Nl,[],h,b⟩)
 |none=>.f
def cB(T:au)(b:zC->ag)(g:zZ)(args:List E)(h:H)(ab:Option (List zO)):Option xZ->ag
 |some a=>pK T b g args h ab a a.body
 |none=>.f
def Z6(h:H)(chain:List zO):List zc->ag
 |[]=>.p chain h U
 |_::_=>.f
def JR(s:S)(l:Nat)(r:kz):Ex->ag
 |.Nr=>.r (zP Y) (s.h.p l (.Lo {r with state:=.ready,pending:=U})) U
 |.ret=>.r (zP G) (s.h.p l (.Lo {r with state:=.done,pending:=O .ret})) U
 |.exit id=>.r (zP G) (s.h.p l (.Lo {r with state:=.done,pending:=O (.exit id)})) U
 |.panic chain=>Z6 s.h chain s.df
def JC(s:S)(l:Nat)(e:Ex):Option ai->ag
 |some (.Lo r)=>JR s l r e
 |_=>.f
def JS(l:Nat):ag->ag
 |.c e s=>JC s l e (s.h.g l)
 |_=>.f
def Rm(T:au)(a:zC->ag)(s:S)(l:Nat)(r q:kz):LoopState->ag
 |.ready=>JS l (aw T a ⟨r.fn,O l⟩ r.body {s with h:=s.h.p l (.Lo {q with state:=.busy})})
 |_=>.f
def Jp(T:au)(a:zC->ag)(s:S)(l:Nat)(r:kz):Option ai->ag
 |some (.Lo q)=>Rm T a s l r q q.state
 |_=>.f
def JD(T:au)(a:zC->ag)(l:Nat)(r:kz):ag->ag
 |.c .Nr s=>Jp T a s l r (s.h.g l)
 |_=>.f
def JT(T:au)(a:zC->ag)(l:Nat)(h:H)(r:kz):Option (Tr E)->Option xZ->ag
 |some c,O b=>cond (ck b.ntmps r.assign&&ck b.ntmps r.body) (JD T a l r (aw T a ⟨r.fn,O l⟩ r.assign ⟨c,[],h.az l,U⟩)) .f
 |_,_=>.f
def Nb(T:au)(a:zC->ag)(l:Nat)(args:List E)(h:H):Option ai->ag
 |some (.Lo r)=>JT T a l h r (oT r.params.toList args r.tmps) (T.f r.fn)
 |_=>.f
def acQ(T:au)(b:zC->ag)(args:List E)(h:H)(c:Option (List zO)):E->ag
 |.func (za g) first a=>cB T b g (first.toList++args++a.toList) h c (T.f g)
 |.func (.yield l) _ _=>Nb T b l args h (h.g l)
 |_=>.f
inductive r9 where
 |fail
 |ok (vs:List E) (h:H)
def Kf(v:E):r9->r9
 |.ok a h=>.ok (v::a) h
 |.fail=>.fail
def CG(k:H->r9):aK->r9
 |.v v h=>Kf v (k h)
 |_=>.fail
def Z7(T:au)(b:Tr E)(k:H->r9)(h:H):ResultVar->r9
 |.tmp t=>CG k (gk h (b.g t))
 |.cell a t=>CG k (M7 T h t (b.g a))
def zJ(T:au)(a:Tr E)(l:List ResultVar):H->r9:=
 y7 (motive:=λ_=>H->r9) (λh=>.ok [] h) (λr _ b h=>Z7 T a b h r) l
def fw(a:Option (List zO)):r9->ag
 |.ok [v] h=>.r v h a
 |.ok b h=>.r (xC ⟨b⟩) h a
 |.fail=>.f
def settled:Option (List zO)->Option (List zO)
 |some ({recovered:=Y,..}::_)=>U
 |m=>m
def GQ(a:zC->ag)(b:xZ)(c:List zc)(d:Tr E)(e:Option (List zO)):ag->ag
 |.r _ h mode=>a (.unwind b ⟨d,c,h,e⟩ (settled mode))
 |.p chain h mode=>a (.unwind b ⟨d,c,h,e⟩ (O (chain++mode.getD [])))
 |_=>.f
def Jq(a:zC->ag)(c:xZ)(d:List zc)(e:Tr E)(h:H)(f mode:Option (List zO))(b:Nat):Option ai->ag
 |some (.Df (O l))=>a (.unwind c ⟨e,l++d,h.p b (.Df U),f⟩ mode)
 |_=>.f
def Nw(a:zC->ag)(d:xZ)(e:List zc)(g:Tr E)(h:H)(i mode:Option (List zO))(args:Array E):Target->ag
 |.collected b=>Jq a d e g h i mode b (h.g b)
 |.fn f c=>GQ a d e g i (a (.call (zU f #[] c) args.toList h mode))
 |_=>.f
def Of(T:au)(b:xZ)(c:Tr E)(h:H)(a:Option (List zO)):Option (List zO)->ag
 |some chain=>.p chain h a
 |none=>fw a (zJ T c b.results.toList h)
def JY(T:au)(e:zC->ag)(a:xZ)(mode:Option (List zO)):S->ag
 |⟨b,f,h,c⟩=>match f with
  |[]=>Of T a b h c mode
  |d::g=>Nw e a g b h c mode d.args d.target
def F(T:au)(ev:zC->ag):zC->ag
 |.loop a b s=>aw T ev a (.loop b) s
 |.run a c s=>aw T ev a c s
 |.call f args h d=>acQ T ev args h d f
 |.unwind e s mode=>JY T ev e mode s
def eval(T:au)(n:Nat):zC->ag:=
 vQ (motive:=λ_=>zC->ag) (λ_=>.f) (λ_ a=>F T a) n
def acR(p:Program):au:=
 {prog:=p
  cw:=Tr.ofList p.types.toList 1 .Nl
  funcs:=Tr.ofList (p.funcs.toList.map TD) 1 .Nl}
abbrev pB(b:Nat):E:=zM (O ⟨b,0,U⟩)
abbrev pO(b:Nat):Option vL:=O ⟨b,0,U⟩
@[simp] abbrev ad(l:List E)(e:zQ):ai:=.cells l e G
@[simp] abbrev aa(a:Tr E)(k:Nat)(v:E):Prop:=a.g k=O v
@[simp] abbrev ae(h:H)(k:Nat)(v:ai):Prop:=h.g k=O v
@[simp] abbrev aGk(h:H)(k:Nat)(l:List E)(e:zQ):Prop:=h.g k=O (.cells l e G)
@[simp] abbrev aF(T:au)(a:zC->ag)(g:zZ)(c:yG)(b:Tr E)(h:H):=aw T a ⟨g,U⟩ c ⟨b,[],h,U⟩
section
@[simp] abbrev ca{α:Sort _}(_:α):Prop:=False
@[simp] abbrev ap{α:Sort _}{a:Sort _}(_:α)(_:a):Prop:=False
@[simp] abbrev bE{α:Sort _}{a:Sort _}{b:Sort _}(_:α)(_:a)(_:b):Prop:=False
abbrev dN{α:Sort _}{P:α->Sort _}(a:α)(h:False):P a:=h.elim
abbrev aP{α:Sort _}{c:Sort _}{P:α->c->Sort _}(a:α)(b:c)(h:False):P a b:=h.elim
abbrev jr{α:Sort _}{d:Sort _}{e:Sort _}{P:α->d->e->Sort _}(a:α)(b:d)(c:e)(h:False):P a b c:=h.elim
abbrev fP{α:Sort _}{P:α->Sort _}(a:α)(h:P a):P a:=h
abbrev bT{α:Sort _}{c:Sort _}{P:α->c->Sort _}(a:α)(b:c)(h:P a b):P a b:=h
abbrev cS{α:Sort _}{d:Sort _}{e:Sort _}{P:α->d->e->Sort _}(a:α)(b:d)(c:e)(h:P a b c):P a b c:=h
end
abbrev aAg(l:List E):E:=.agg ⟨l⟩
abbrev aTu(l:List E):E:=xC ⟨l⟩
abbrev pF0:List Bool:=[G]
abbrev pF1:List Bool:=[Y,G]
abbrev pF2:List Bool:=[Y,Y,G]
abbrev pF3:List Bool:=[Y,Y,Y,G]
abbrev pF4:List Bool:=[Y,Y,Y,Y,G]
abbrev pF5:List Bool:=[Y,Y,Y,Y,Y,G]
abbrev pF6:List Bool:=[Y,Y,Y,Y,Y,Y,G]
abbrev pF7:List Bool:=[Y,Y,Y,Y,Y,Y,Y,G]
abbrev pF8:List Bool:=[Y,Y,Y,Y,Y,Y,Y,Y,G]
abbrev pF9:List Bool:=[Y,Y,Y,Y,Y,Y,Y,Y,Y,G]
abbrev aPM:List Bool:=[Y,Y,Y,Y,Y,Y,Y,Y,Y,Y,G]
abbrev aPN:List Bool:=[Y,Y,Y,Y,Y,Y,Y,Y,Y,Y,Y,G]
abbrev aPO:List Bool:=[Y,Y,Y,Y,Y,Y,Y,Y,Y,Y,Y,Y,G]
abbrev pT2:List Bool:=[Y,Y]
abbrev pT3:List Bool:=[Y,Y,Y]
abbrev pT4:List Bool:=[Y,Y,Y,Y]
abbrev pT5:List Bool:=[Y,Y,Y,Y,Y]
abbrev pT6:List Bool:=[Y,Y,Y,Y,Y,Y]
abbrev pT7:List Bool:=[Y,Y,Y,Y,Y,Y,Y]
abbrev pT8:List Bool:=[Y,Y,Y,Y,Y,Y,Y,Y]
end Go.Am
