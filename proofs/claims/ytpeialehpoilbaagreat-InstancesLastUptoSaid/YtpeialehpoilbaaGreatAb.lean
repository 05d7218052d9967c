/- A part of the proof of InstancesLastUptoSaid: see the last text. -/
import Derived.Test.YtpeialehpoilbaaGreatAa
import Derived.Calls
import Derived.Laws.Sem
import Derived.AtR
import Derived.Laws.CopyRow
import Derived.MapKept
set_option linter.all false
noncomputable section
set_option maxRecDepth 100000
open Array renaming getElem?_setIfInBounds_ne->wC,getElem?_eq_some_iff->zd,getElem?_push->tG,ext'->wY,range->us
open Bool renaming false->G,rec->xq,true->Y,false_eq_true->y8,not_false->sn
open Go renaming Addr->vL,Deferred->zc,FieldStep->w8,IntKind->yq,MapEntry->yJ,PanicEntry->zO,TypeId->zQ,Value->E,World->zu,Program->zo,TypeDesc->yU,zeroValue->vk,loadVar->te,undef->yh,Field->tX,asIntOf->uI,run_askRoom->sQ,BinOp->vJ,Operand->zh,asBool->si,binOp->wz,eqGuard->xR,execOp->zw,Frame->yW,Item->vH,Steps->xE,lone->yX
open Go.Am.ai renaming cells->K
open Go.Fn renaming func->za,via->vU
open Go.IntKind renaming i64->zx,bits->xJ,signed->y9
open Go.Obj renaming cells->yP,mapIter->ug
open Go.Value renaming bool->zP,func->zU,int->yV,pointer->zM,slice->zL,tuple->xC
open Int renaming ofNat->yj,toNat_natCast->tx
open List renaming length->I,flatten_cons->uC,mem_cons->zp,replicate->xI,replicate_succ->xj,drop_length_add_append->wU,getElem?_append_left->uQ,getElem?_append_right->uM,getElem?_eq_some_iff->yf,getElem?_toArray->wD,length_take->wV,take_append_of_le_length->uD,take_length_add_append->wW,eq_nil_of_length_eq_zero->yT,flatMap_cons->vl,length_append->yD,mem_of_mem_take->vV,getElem?_cons_succ->wG,getElem?_cons_zero->uZ,length_drop->wK,mem_of_mem_drop->xf,append_assoc->vq,mem_append->xX
open Nat renaming beq->zV,ble->ze,eq_of_beq_eq_true->tF,le_of_eq->uq,le_refl->zR,lor->zi,add_assoc->yp,add_zero->xP,zero_le->ya,mul->z7,add->zl,add_mul->xD,mul_le_mul_right->vb,pos_of_ne_zero->ti
open Option renaming none->U,some->O,isSome_none->tH,getD_some->vx,map_some->uA,isNone_none->tJ,isNone_some->tL
open Or renaming inl->zq,inr->zt
open Go.Result renaming andThen_ok->zY
open Go.Sem renaming run_bind->zn,run_pure->yA
open Go.Instr renaming loadAt->uY,sureAddr->xz,box->tf,storeAt->sf,build->ur,buildSlice->vy,makeSlice->uE,fieldAt->vR,indexAt->vS,extract->sj,makeInterface->tI,sliceAt->wv,sliceBound->th,sliceBounds->xA,checkKey->uJ,findKey->sk,findNow->yn,lookup->vC,makeMap->sm,mapUpdate->uF,sameBits->wZ,sameNow->vT,next->uK,range->uu,typeAssert->w9,makeFunc->sR
open Go.World renaming frozen?->wq
open Pure renaming pure->sP
open Decidable renaming decide->yF
open Go.Op renaming equalIn->vB
open Go.TypeDesc renaming slice->zf
open Go.MapKept renaming bytes_beq->tM
open Go.Question renaming forced->vp,appendCap->so
open Go.Builtin renaming append_->xH,firstCells->yO,growBy->wQ,lenOf->vO,nextslicecap->wF,zeroCells->xr,len_->wL,max_->uR,min_->uS
open Go.FrameMode renaming panicking->vM
open Go
variable{n k m i j:Nat}
variable{l p:List Go.Value}
variable{h g:Go.Am.H}
variable{v N:Go.Value}
variable{t s:Go.TypeId}
variable{r q:Go.Am.Tr Go.Value}
variable{A:Type}
variable{W:Go.World}
variable{b:Bool}
variable{B:Nat->Option Go.Am.ai}
variable{c e:Int}
variable{x:Go.Code}
namespace Go.Am
def jh(h:n≠k):zV n k=G:=by
 cases e:zV n k with
 |false=>rfl
 |true=>exact absurd (tF e) h
def ek(h:n=k):zV n k=Y:=by subst h;exact Nat.beq_refl n
def hJ(h:zV n k=Y):n=k:=tF h
def rE(h:zV n k=G):n≠k:=Nat.ne_of_beq_eq_false h
def fC(h:ze n k=Y):n<=k:=Nat.le_of_ble_eq_true h
def Jr(h:ze n k=G):k<n:=by
 rcases Nat.lt_or_ge k n with c|c
 .exact c
 .rw[Nat.ble_eq_true_of_le c]at h;cases h
namespace Tr
variable{α:Type}
def iF(v:Option α)(l r:Tr α):
 (Tr.node v l r).nL k=if k=1 then v else if k%2=0 then l.nL (k/2)else r.nL (k/2):=by
 show xq (motive:=λ_=>Option α) (xq (motive:=λ_=>Nat->Option α) r.nL l.nL (zV (k%2) 0) (k/2)) v (zV k 1)=_;by_cases h1:k=1
 .subst h1;rfl
 .have c:zV k 1=G:=jh h1;rw[c,if_neg h1];by_cases a:k%2=0
  .have b:zV (k%2) 0=Y:=ek a;rw[b,if_pos a]
  .have b:zV (k%2) 0=G:=jh a;rw[b,if_neg a]
def RJ(x:α):
 AJ x (n+1) k=if k=1 then .node (O x) .Nl .Nl else if k%2=0 then .node U (AJ x n (k/2)) .Nl else .node U .Nl (AJ x n (k/2)):=by
 show xq (motive:=λ_=>Tr α) (xq (motive:=λ_=>Tr α) (.node U .Nl (AJ x n (k/2))) (.node U (AJ x n (k/2)) .Nl) (zV (k%2) 0)) (.node (O x) .Nl .Nl) (zV k 1)=_;by_cases h1:k=1
 .subst h1;rfl
 .have c:zV k 1=G:=jh h1;rw[c,if_neg h1];by_cases a:k%2=0
  .have b:zV (k%2) 0=Y:=ek a;rw[b,if_pos a]
  .have b:zV (k%2) 0=G:=jh a;rw[b,if_neg a]
def alT(x:α):(Tr.Nl:Tr α).pY k x=AJ x k k:=rfl
def RK(v:Option α)(l r:Tr α)(x:α):
 (Tr.node v l r).pY k x=if k=1 then .node (O x) l r else if k%2=0 then .node v (l.pY (k/2) x) r else .node v l (r.pY (k/2) x):=by
 show xq (motive:=λ_=>Tr α) (xq (motive:=λ_=>Tr α) (.node v l (r.pY (k/2) x)) (.node v (l.pY (k/2) x) r) (zV (k%2) 0)) (.node (O x) l r) (zV k 1)=_;by_cases h1:k=1
 .subst h1;rfl
 .have c:zV k 1=G:=jh h1;rw[c,if_neg h1];by_cases a:k%2=0
  .have b:zV (k%2) 0=Y:=ek a;rw[b,if_pos a]
  .have b:zV (k%2) 0=G:=jh a;rw[b,if_neg a]
def Y1(v:Option α)(l r:Tr α):
 (Tr.node v l r).C9 k=if k=1 then .node U l r else if k%2=0 then .node v (l.C9 (k/2)) r else .node v l (r.C9 (k/2)):=by
 show cond (zV k 1) (Tr.node U l r) (cond (zV (k%2) 0) (Tr.node v (l.C9 (k/2)) r) (Tr.node v l (r.C9 (k/2))))=_;by_cases h1:k=1
 .subst h1;rfl
 .have c:zV k 1=G:=jh h1;rw[c,if_neg h1,cond_false];by_cases a:k%2=0
  .have b:zV (k%2) 0=Y:=ek a;rw[b,if_pos a,cond_true]
  .have b:zV (k%2) 0=G:=jh a;rw[b,if_neg a,cond_false]
def SZ(x:α):∀(f k j:Nat),0<k->0<j->j≠k->(AJ x f k).nL j=U
 |0,_,_,_,_,_=>rfl
 |f+1,k,j,e,g,d=>by
  rw[RJ];by_cases h1:k=1
  .rw[if_pos h1,iF,if_neg (by omega)];split<;>rfl
  .rw[if_neg h1];by_cases c:k%2=0
   .rw[if_pos c,iF];by_cases a:j=1
    .rw[if_pos a]
    .rw[if_neg a];by_cases b:j%2=0
     .rw[if_pos b];exact SZ x f _ _ (by omega) (by omega) (by omega)
     .rw[if_neg b];rfl
   .rw[if_neg c,iF];by_cases a:j=1
    .rw[if_pos a]
    .rw[if_neg a];by_cases b:j%2=0
     .rw[if_pos b];rfl
     .rw[if_neg b];exact SZ x f _ _ (by omega) (by omega) (by omega)
def S1(x y:α):∀(f k:Nat),(AJ x f k).nL k=O y->y=x
 |0,_,h=>by cases h
 |f+1,k,h=>by
  rw[RJ]at h;by_cases h1:k=1
  .rw[if_pos h1,iF,if_pos h1]at h;injection h with h;exact h.symm
  .rw[if_neg h1]at h;by_cases a:k%2=0
   .rw[if_pos a,iF,if_neg h1,if_pos a]at h;exact S1 x y f _ h
   .rw[if_neg a,iF,if_neg h1,if_neg a]at h;exact S1 x y f _ h
def RM(x:α):∀(f k:Nat),0<k->k<=f->(AJ x f k).nL k=O x
 |0,k,b,h=>by omega
 |f+1,k,b,h=>by
  rw[RJ];by_cases h1:k=1
  .rw[if_pos h1,iF,if_pos h1]
  .rw[if_neg h1];by_cases a:k%2=0
   .rw[if_pos a,iF,if_neg h1,if_pos a];exact RM x f _ (by omega) (by omega)
   .rw[if_neg a,iF,if_neg h1,if_neg a];exact RM x f _ (by omega) (by omega)
def RN(x:α):∀(t:Tr α)(k:Nat),0<k->(t.pY k x).nL k=O x
 |.Nl,k,b=>RM x k k b (zR _)
 |.node v l r,k,b=>by
  rw[RK];by_cases h1:k=1
  .rw[if_pos h1,iF,if_pos h1]
  .rw[if_neg h1];by_cases a:k%2=0
   .rw[if_pos a,iF,if_neg h1,if_pos a];exact RN x l _ (by omega)
   .rw[if_neg a,iF,if_neg h1,if_neg a];exact RN x r _ (by omega)
def S2(x:α):∀(t:Tr α)(k j:Nat),0<k->0<j->j≠k->(t.pY k x).nL j=t.nL j
 |.Nl,k,j,d,e,c=>by rw[alT,SZ x k k j d e c];rfl
 |.node v l r,k,j,d,e,c=>by
  rw[RK,iF];by_cases h1:k=1
  .have a:j≠1:=by omega
   rw[if_pos h1,iF,if_neg a,if_neg a]
  .rw[if_neg h1];by_cases f:k%2=0
   .rw[if_pos f,iF];by_cases a:j=1
    .rw[if_pos a,if_pos a]
    .rw[if_neg a,if_neg a];by_cases b:j%2=0
     .rw[if_pos b,if_pos b];exact S2 x l _ _ (by omega) (by omega) (by omega)
     .rw[if_neg b,if_neg b]
   .rw[if_neg f,iF];by_cases a:j=1
    .rw[if_pos a,if_pos a]
    .rw[if_neg a,if_neg a];by_cases b:j%2=0
     .rw[if_pos b,if_pos b]
     .rw[if_neg b,if_neg b];exact S2 x r _ _ (by omega) (by omega) (by omega)
def S3(x y:α):∀(t:Tr α)(k:Nat),(t.pY k x).nL k=O y->y=x
 |.Nl,k,h=>S1 x y k k h
 |.node v l r,k,h=>by
  rw[RK]at h;by_cases h1:k=1
  .rw[if_pos h1,iF,if_pos h1]at h;injection h with h;exact h.symm
  .rw[if_neg h1]at h;by_cases a:k%2=0
   .rw[if_pos a,iF,if_neg h1,if_pos a]at h;exact S3 x y l _ h
   .rw[if_neg a,iF,if_neg h1,if_neg a]at h;exact S3 x y r _ h
def S4:∀(t:Tr α)(k j:Nat),0<k->0<j->j≠k->(t.C9 k).nL j=t.nL j
 |.Nl,_,_,_,_,_=>rfl
 |.node v l r,k,j,e,f,d=>by
  rw[Y1,iF];by_cases h1:k=1
  .have a:j≠1:=by omega
   rw[if_pos h1,iF,if_neg a,if_neg a]
  .rw[if_neg h1];by_cases c:k%2=0
   .rw[if_pos c,iF];by_cases a:j=1
    .rw[if_pos a,if_pos a]
    .rw[if_neg a,if_neg a];by_cases b:j%2=0
     .rw[if_pos b,if_pos b];exact S4 l _ _ (by omega) (by omega) (by omega)
     .rw[if_neg b,if_neg b]
   .rw[if_neg c,iF];by_cases a:j=1
    .rw[if_pos a,if_pos a]
    .rw[if_neg a,if_neg a];by_cases b:j%2=0
     .rw[if_pos b,if_pos b]
     .rw[if_neg b,if_neg b];exact S4 r _ _ (by omega) (by omega) (by omega)
def S5:∀(t:Tr α)(k:Nat),(t.C9 k).nL k=U
 |.Nl,_=>rfl
 |.node v l r,k=>by
  rw[Y1];by_cases h1:k=1
  .rw[if_pos h1,iF,if_pos h1]
  .rw[if_neg h1];by_cases a:k%2=0
   .rw[if_pos a,iF,if_neg h1,if_pos a];exact S5 l _
   .rw[if_neg a,iF,if_neg h1,if_neg a];exact S5 r _
def Ba(t:Tr α)(x:α)(h:j≠k):(t.s k x).g j=t.g j:=
 S2 x t (k+1) (j+1) (by omega) (by omega) (by omega)
def D2(t:Tr α){x y:α}(h:(t.s k x).g k=O y):y=x:=S3 x y t (k+1) h
def Bk(t:Tr α)(k j:Nat)(x:α):(t.s k x).g j=if j=k then O x else t.g j:=by
 by_cases h:j=k
 .rw[if_pos h,h];exact RN x t (k+1) (by omega)
 .rw[if_neg h];exact Ba t x h
def MQ(t:Tr α)(h:j≠k):(t.del k).g j=t.g j:=S4 t (k+1) (j+1) (by omega) (by omega) (by omega)
def MR(t:Tr α)(k:Nat):(t.del k).g k=U:=S5 t (k+1)
def Rn:∀(l:List α)(k:Nat)(t:Tr α)(b:Nat)(x:α),(ofList l (k+1) t).g b=O x->
 (k<=b/\l[b-k]?=O x)\/t.g b=O x
 |[],_,_,_,_,h=>zt h
 |y::l,k,t,b,x,h=>by
  have d:(ofList l (k+1+1) (t.pY (k+1) y)).g b=O x:=h;rcases Rn l (k+1) _ b x d with⟨a,e⟩|a
  .refine zq ⟨by omega,?_⟩;rw[show b-k=(b-(k+1))+1 from by omega];simpa using e
  .by_cases c:b=k
   .subst c;have:=D2 t (k:=b) (x:=y) a;subst this;exact zq ⟨zR _,by simp⟩
   .rw[show(t.pY (k+1) y)=t.s k y from rfl,Ba t y c]at a;exact zt a
end Tr
structure Pl where
 aH:Nat
 sh:Nat
 BF:Nat
 ext:Nat
 sz:Nat
structure M where
 at_:Nat->Option Pl
 im:Nat->Option (List E)
instance:CoeFun M (λ_=>Nat->Option Pl):=⟨M.at_⟩
def M.empty:M:=⟨λ_=>U,λ_=>U⟩
def CS(b:Pl)(c d a:Nat):Prop:=a=d\/(c+d*b.sz=b.BF/\c+a*b.sz=b.BF+b.ext)
mutual
inductive VR(m:M):E->E->Prop
 |bool (b:Bool):VR m (zP b) (zP b)
 |int (k:yq) (n:Int):VR m (yV k n) (yV k n)
 |string (s:ByteArray):VR m (.string s) (.string s)
 |AK:VR m (zM U) (zM U)
 |ptr {b off:Nat} {pl:Pl} (h:m b=O pl):VR m (zM (O ⟨b,off,U⟩)) (zM (O ⟨pl.aH,pl.sh+off,U⟩))
 |cP (n c:Nat):VR m (zL U n c) (zL U n c)
 |slice {b off len cap cd:Nat} {pl:Pl} (h:m b=O pl) (hc:CS pl off cap cd):
   VR m (zL (O ⟨b,off,U⟩) len cap) (zL (O ⟨pl.aH,pl.sh+off,U⟩) len cd)
 |empty {b off:Nat} {pl:Pl} {a:vL} (h:m b=O pl):VR m (zL (O ⟨b,off,U⟩) 0 0) (zL (O a) 0 0)
 |Ff:VR m (.map U) (.map U)
 |map {b:Nat} {pl:Pl} (h:m b=O pl):VR m (.map (O b)) (.map (O pl.aH))
 |func (f:FuncId) {l l' c c':List E} (h:LR m l l') (hc:LR m c c'):VR m (zU (za f) ⟨l⟩ ⟨c⟩) (zU (za f) ⟨l'⟩ ⟨c'⟩)
 |yield {b:Nat} {pl:Pl} (h:m b=O pl):VR m (zU (.yield b) #[] #[]) (zU (.yield pl.aH) #[] #[])
 |nilFunc:VR m .nilFunc .nilFunc
 |nilIface:VR m .nilIface .nilIface
 |iface (t:zQ) {v v':E} (h:VR m v v'):VR m (.iface t v) (.iface t v')
 |agg {l l':List E} (h:LR m l l'):VR m (.agg ⟨l⟩) (.agg ⟨l'⟩)
 |data {es eS fG pre post:List E} {off len cd c sz:Nat} {p:Array w8} (hi:m.im c=O (pre++(eS.flatMap (·.cells.toList)++post))) (h:LR m es eS) (hs:∀e∈eS,I e.cells.toList=sz)
   (hl:off+len<=I es) (hc:len<=cd) (hk:fG=[]\/fG=[yV zx (yj cd)]):
   VR m (zU (vU off p len G) ⟨es⟩ ⟨fG⟩) (zL (O ⟨c,I pre+off*sz,U⟩) len cd)
 |gi {es fG:List E} {off cd:Nat} {p:Array w8} {a:Option vL} (ha:a=U->cd=0) (hk:fG=[]\/fG=[yV zx (yj cd)]\/fG=[zP a.isNone]):
   VR m (zU (vU off p 0 G) ⟨es⟩ ⟨fG⟩) (zL a 0 cd)
 |jg {e e':E} {pre post:List E} {f c:Nat} {p:Array w8} {k:FuncId} {q:Array E} (hi:m.im c=O (pre++(e'.cells.toList++post))) (h:VR m e e'):
   VR m (zU (vU f p k Y) ⟨[e]⟩ q) (zM (O ⟨c,I pre+f,U⟩))
 |tuple {l l':List E} (h:LR m l l'):VR m (xC ⟨l⟩) (xC ⟨l'⟩)
inductive LR(m:M):List E->List E->Prop
 |Nl:LR m [] []
 |Cs {v v':E} {l l':List E} (h:VR m v v') (hl:LR m l l'):LR m (v::l) (v'::l')
end
structure ct(m m':M):Prop where
 to:∀b pl,m b=O pl->m' b=O pl
 im:∀c l,m.im c=O l->m'.im c=O l
def ct.refl(m:M):ct m m:=⟨λ_ _ h=>h,λ_ _ h=>h⟩
def ct.trans{a b c:M}(h:ct a b)(e:ct b c):ct a c:=⟨λx f d=>e.to x f (h.to x f d),λx l d=>e.im x l (h.im x l d)⟩
mutual
theorem VR.mono{m m':M}(hm:ct m m'):∀{v v':E},VR m v v'->VR m' v v'
 |_,_,.bool b=>.bool b
 |_,_,.int k n=>.int k n
 |_,_,.string s=>.string s
 |_,_,.AK=>.AK
 |_,_,.ptr h=>.ptr (hm.to _ _ h)
 |_,_,.cP n c=>.cP n c
 |_,_,.slice h hc=>.slice (hm.to _ _ h) hc
 |_,_,.empty h=>.empty (hm.to _ _ h)
 |_,_,.Ff=>.Ff
 |_,_,.map h=>.map (hm.to _ _ h)
 |_,_,.func f h hc=>.func f (h.mono hm) (hc.mono hm)
 |_,_,.yield h=>.yield (hm.to _ _ h)
 |_,_,.nilFunc=>.nilFunc
 |_,_,.nilIface=>.nilIface
 |_,_,.iface t h=>.iface t (h.mono hm)
 |_,_,.agg h=>.agg (h.mono hm)
 |_,_,.data hi h hs hl hc hk=>.data (hm.im _ _ hi) (h.mono hm) hs hl hc hk
 |_,_,.gi ha hk=>.gi ha hk
 |_,_,.jg hi h=>.jg (hm.im _ _ hi) (h.mono hm)
 |_,_,.tuple h=>.tuple (h.mono hm)
theorem LR.mono{m m':M}(hm:ct m m'):∀{l l':List E},LR m l l'->LR m' l l'
 |_,_,.Nl=>.Nl
 |_,_,.Cs h hl=>.Cs (h.mono hm) (hl.mono hm)
end
def LR.length{m:M}:∀{l a:List E},LR m l a->I a=I l
 |_,_,.Nl=>rfl
 |_,_,.Cs _ b=>by simp[b.length]
def LR.append{m:M}:∀{l b r c:List E},LR m l b->LR m r c->LR m (l++r) (b++c)
 |_,_,_,_,.Nl,a=>a
 |_,_,_,_,.Cs h d,a=>.Cs h (d.append a)
theorem LR.get{m:M}:∀{l a:List E}{i:Nat}{v:E},LR m l a->l[i]?=O v->∃v',a[i]?=O v'/\VR m v v'
 |_,_,i,v,.Nl,h=>by simp at h
 |_,_,0,v,.Cs h _,e=>by simp at e;exact⟨_,by simp,e▸h⟩
 |_,_,i+1,v,.Cs _ b,e=>by
  obtain⟨v',c,d⟩:=b.get (i:=i) (by simpa using e)
  exact⟨v',by simpa using c,d⟩
theorem LR.take{m:M}:∀{l a:List E}(n:Nat),LR m l a->LR m (l.take n) (a.take n)
 |_,_,_,.Nl=>by simpa using LR.Nl
 |_,_,0,.Cs _ _=>by simpa using LR.Nl
 |_,_,n+1,.Cs h b=>by simpa using LR.Cs h (b.take n)
def LR.drop{m:M}:∀{l b:List E}(n:Nat),LR m l b->LR m (l.drop n) (b.drop n)
 |_,_,_,.Nl=>by simpa using LR.Nl
 |_,_,0,.Cs h a=>by simpa using LR.Cs h a
 |_,_,n+1,.Cs _ a=>by simpa using a.drop n
def LR.Z8{m:M}(h:∀v∈l,VR m v v):LR m l l:=by
 induction l with
 |nil=>exact .Nl
 |cons x l a=>exact .Cs (h x (by simp)) (a λv b=>h v (by simp[b]))
def VR.ground{m:M}{v v':E}(h:VR m v v')(a:Am.ground v=Y):v'=v:=by cases h<;>first|rfl|(simp[Am.ground]at a;done)
def VR.I0{m:M}(d:Am.ground v=Y)(e:∀n c,v=zL U n c->True):VR m v v:=by
 cases v<;>simp[Am.ground]at d
 case bool b=>exact .bool b
 case int k n=>exact .int k n
 case string s=>exact .string s
 case pointer a=>cases a with|none=>exact .AK|some a=>simp at d
 case slice a n c=>cases a with|none=>exact .cP n c|some a=>simp at d
 case map r=>cases r with|none=>exact .Ff|some r=>simp at d
 case nilFunc=>exact .nilFunc
 case nilIface=>exact .nilIface
def Gu:nq (v::l)=cond (ground v) (nq l) G:=rfl
def LR.ground{m:M}:∀{l b:List E},LR m l b->nq l=Y->b=l
 |_,_,.Nl,_=>rfl
 |_,_,.Cs (v:=v) h c,a=>by
  rw[Gu]at a;cases e:Am.ground v with
  |false=>rw[e]at a;cases a
  |true=>rw[e]at a;rw[h.ground e,c.ground a]
def VR.gg{m:M}{v b:E}(h:VR m v b)(a:Am.gg v=Y):b=v:=by
 cases h with
 |agg h=>simp only[Am.gg]at a;rw[h.ground a]
 |_=>first|rfl|(simp[Am.gg,Am.ground]at a;done)
def VR.JZ{m:M}(h:VR m v N):N.oneCell'=v.oneCell':=by cases h<;>rfl
def VR.cells{m:M}{v':E}(h:VR m v v'):LR m (ah v) v'.cells.toList:=by
 cases h with
 |agg h=>exact h
 |bool b=>exact .Cs (.bool b) .Nl
 |int k n=>exact .Cs (.int k n) .Nl
 |string s=>exact .Cs (.string s) .Nl
 |AK=>exact .Cs .AK .Nl
 |ptr h=>exact .Cs (.ptr h) .Nl
 |cP n c=>exact .Cs (.cP n c) .Nl
 |slice h a=>exact .Cs (.slice h a) .Nl
 |empty h=>exact .Cs (.empty h) .Nl
 |Ff=>exact .Cs .Ff .Nl
 |map h=>exact .Cs (.map h) .Nl
 |func f h a=>exact .Cs (.func f h a) .Nl
 |yield h=>exact .Cs (.yield h) .Nl
 |nilFunc=>exact .Cs .nilFunc .Nl
 |nilIface=>exact .Cs .nilIface .Nl
 |iface t h=>exact .Cs (.iface t h) .Nl
 |tuple h=>exact .Cs (.tuple h) .Nl
 |data d h g i a e=>exact .Cs (.data d h g i a e) .Nl
 |gi j e=>exact .Cs (.gi j e) .Nl
 |jg d h=>exact .Cs (.jg d h) .Nl
def TR(m:M)(b:Tr E)(tmps:Array E):Prop:=∀t v,b.g t=O v->∃a,tmps[t]?=O a/\VR m v a
def TR.mono{m a:M}(b:ct m a){tm:Tr E}{tmps:Array E}(h:TR m tm tmps):TR a tm tmps:=
 λt v e=>let⟨c,d,f⟩:=h t v e;⟨c,d,f.mono b⟩
def TR.set{m:M}{tm:Tr E}{tmps:Array E}{d:Nat}(h:TR m tm tmps)(b:d<tmps.size)(c:VR m v N):
 TR m (tm.s d v) (tmps.setIfInBounds d N):=by
 intro t x e;by_cases a:t=d
 .subst a;have:=Tr.D2 tm e;subst this;exact⟨N,by simp[b],c⟩
 .rw[Tr.Ba tm v a]at e;obtain⟨f,g,i⟩:=h t x e;exact⟨f,by rw[wC (Ne.symm a)];exact g,i⟩
def Y2{d:Tmp}:eG r v (O d)=r.s d v:=rfl
def Uh(b:Nat)(a:Option Tmp):Prop:=∀d,a=O d->d<b
def TR.put{m:M}{tm:Tr E}{a:Act}{b:Option Tmp}(h:TR m tm a.tmps)(c:Uh a.tmps.size b)(e:VR m v N):
 TR m (eG tm v b) (a.put b N).tmps:=by
 cases b with
 |none=>exact h
 |some d=>exact h.set (c d rfl) e
def Nx(a:Act){b:Option Tmp}:(a.put b v).tmps.size=a.tmps.size:=by cases b<;>simp[Act.put]
def put_defers(a:Act)(b:Option Tmp)(v:E):(a.put b v).defers=a.defers:=by cases b<;>simp[Act.put]
inductive Ix(m:M):zc->zc->Prop
 |fn (f:FuncId) {c c' l l':List E} (hc:LR m c c') (h:LR m l l'):Ix m ⟨.fn (za f) ⟨c⟩,⟨l⟩⟩ ⟨.fn (za f) ⟨c'⟩,⟨l'⟩⟩
 |collected {b:Nat} {pl:Pl} (h:m b=O pl):Ix m ⟨.collected b,#[]⟩ ⟨.collected pl.aH,#[]⟩
inductive DR(m:M):List zc->List zc->Prop
 |nil:DR m [] []
 |cons {d d':zc} {l l':List zc} (h:Ix m d d') (hl:DR m l l'):DR m (d::l) (d'::l')
def Ix.mono{m b:M}(a:ct m b){d c:zc}:Ix m d c->Ix b d c
 |.fn f e h=>.fn f (e.mono a) (h.mono a)
 |.collected h=>.collected (a.to _ _ h)
def DR.mono{m a:M}(b:ct m a):∀{l l':List zc},DR m l l'->DR a l l'
 |_,_,.nil=>.nil
 |_,_,.cons h c=>.cons (h.mono b) (c.mono b)
inductive CR(m:M):List zO->List zO->Prop
 |nil:CR m [] []
 |cons {v v':E} {r:Bool} {l l':List zO} (h:VR m v v') (hl:CR m l l'):CR m (⟨v,r,G⟩::l) (⟨v',r,G⟩::l')
def CR.mono{m a:M}(b:ct m a):∀{l l':List zO},CR m l l'->CR a l l'
 |_,_,.nil=>.nil
 |_,_,.cons h c=>.cons (h.mono b) (c.mono b)
def CR.append{m:M}:∀{l b r c:List zO},CR m l b->CR m r c->CR m (l++r) (b++c)
 |_,_,_,_,.nil,a=>a
 |_,_,_,_,.cons h d,a=>.cons h (d.append a)
inductive PR(m:M):Option (List zO)->Option (List zO)->Prop
 |none:PR m U U
 |some {l l':List zO} (h:CR m l l'):PR m (O l) (O l')
def PR.mono{m c:M}(d:ct m c){a b:Option (List zO)}:PR m a b->PR c a b
 |.none=>.none
 |.some h=>.some (h.mono d)
inductive ER(m:M):List yJ->List yJ->Prop
 |nil:ER m [] []
 |cons {k v v':E} {n:Nat} {l l':List yJ} (hk:ground k=Y) (h:VR m v v') (hl:ER m l l'):ER m (⟨k,v,n⟩::l) (⟨k,v',n⟩::l')
def ER.mono{m a:M}(b:ct m a):∀{l l':List yJ},ER m l l'->ER a l l'
 |_,_,.nil=>.nil
 |_,_,.cons c h d=>.cons c (h.mono b) (d.mono b)
structure PO(m:M)(r:kz)(r':Loop):Prop where
 state:r'.state=r.state
 pending:r'.pending=r.pending
 fn:r'.fn=r.fn
 tmps:TR m r.tmps r'.tmps
 params:r'.params=r.params
 assign:r'.assign=r.assign
 body:r'.body=r.body
 defers:∃pl,m r.defers=O pl/\r'.defers=pl.aH
 okP:rL r'.tmps.size r.params.toList=Y
 okA:ck r'.tmps.size r.assign=Y
 okB:ck r'.tmps.size r.body=Y
def PO.mono{m a:M}(b:ct m a){r:kz}{c:Loop}(h:PO m r c):PO a r c:=
 {h with tmps:=h.tmps.mono b,defers:=let⟨d,e,f⟩:=h.defers;⟨d,b.to _ _ e,f⟩}
inductive OR(T:au)(m:M)(pl:Pl):ai->Obj->Prop
 |cells {c c' pre post:List E} {e e':zQ} {g:Bool} (h:LR m c c') (hp:I pre=pl.sh) (hk:I c=pl.BF)
   (hx:pl.ext<=I post) (hg:g=G->pl.ext=0) (hs:0<pl.sz) (ht:g=Y->zI T e=O pl.sz):
   OR T m pl (K c e g) (yP ⟨pre++(c'++post)⟩ e' (0,0))
 |map {es eS:List yJ} {cl:Nat} (h:ER m es eS):OR T m pl (.map ⟨es⟩ cl) (.map ⟨eS⟩ cl)
 |ot (s:ByteArray) (p:Nat) (hs:pl.sh=0):OR T m pl (.ot s p) (.stringIter s p)
 |Ny (a:Nat) (s:Array Nat) (l:Nat) (hs:pl.sh=0):OR T m pl (.mapIter U a s l) (ug U a s l)
 |mapIter {b:Nat} {p:Pl} (a:Nat) (s:Array Nat) (l:Nat) (h:m b=O p) (hs:pl.sh=0):OR T m pl (.mapIter (O b) a s l) (ug (O p.aH) a s l)
 |loop {r:kz} {r':Loop} (h:PO m r r'):OR T m pl (.Lo r) (.loop r')
 |RO:OR T m pl (.Df U) (.deferred U)
 |deferred {l l':List zc} (h:DR m l l'):OR T m pl (.Df (O l)) (.deferred (O l'))
def OR.mono{T:au}{m d:M}(c:ct m d){pl:Pl}{o:ai}{e:Obj}:OR T m pl o e->OR T d pl o e
 |.cells h f g i j b k=>.cells (h.mono c) f g i j b k
 |.map h=>.map (h.mono c)
 |.ot s p b=>.ot s p b
 |.Ny a s l b=>.Ny a s l b
 |.mapIter a s l h b=>.mapIter a s l (c.to _ _ h) b
 |.loop h=>.loop (h.mono c)
 |.RO=>.RO
 |.deferred h=>.deferred (h.mono c)
def OR.frozen{T:au}{m:M}{a:Pl}{o:ai}{c:Array E}{f:Nat×Nat}(h:OR T m a o (yP c t f)):f=(0,0):=by cases h;rfl
def kr(k:Nat->A):∀n,kw k n=k n
 |0=>rfl
 |_+1=>rfl
structure Le(h h':H):Prop where
 next:h.n<=h'.n
 base:h'.b=h.b
 rd:∀b,h.rd.testBit b=Y->h'.rd.testBit b=Y
 wr:∀b,h.wr.testBit b=Y->h'.wr.testBit b=Y
 gl:∀b,b<h.n->b<h'.b->¬h'.wr.testBit b=Y->h'.g b=h.g b
 dy:(∀b o,h.g b=O o->b<h.n)->∀b o,h'.g b=O o->b<h'.n
def Le.refl(h:H):Le h h:=⟨zR _,rfl,λ_ h=>h,λ_ h=>h,λ_ _ _ _=>rfl,λh=>h⟩
def Le.trans{a b c:H}(h:Le a b)(e:Le b c):Le a c:=
 ⟨Nat.le_trans h.next e.next,by rw[e.base,h.base],λx f=>e.rd x (h.rd x f),λx f=>e.wr x (h.wr x f),λx g i j=>by rw[e.gl x (Nat.lt_of_lt_of_le g h.next) i j,h.gl x g (by rw[<-e.base];exact i) (λq=>j (e.wr x q))],λd=>e.dy (h.dy d)⟩
def rA{x :Nat}(h:n.testBit k=Y):(zi n x).testBit k=Y:=by have:zi n x=n|||x:=rfl;rw[this,Nat.testBit_or,h,Bool.true_or]
def DT{x :Nat}(h:x.testBit k=Y):(zi n x).testBit k=Y:=by have:zi n x=n|||x:=rfl;rw[this,Nat.testBit_or,h,Bool.or_true]
def D1(b:Nat):(bit b).testBit b=Y:=by have:bit b=1<<<b:=rfl;rw[this,Nat.testBit_shiftLeft];simp
def nv:h.az k=if h.b<=k then h else{h with rd:=zi h.rd (bit k)}:=by
 let⟨m,n,a,r,w⟩:=h;show bN (kw (λr=>(⟨m,n,a,r,w⟩:H)) (zi r (bit k))) ⟨m,n,a,r,w⟩ (ze a k)=_;rw[kr];cases e:ze a k with
 |true=>rw[if_pos (fC e)];rfl
 |false=>rw[if_neg (Nat.not_le.2 (Jr e))];rfl
def kV:h.mark k=if h.b<=k then h else{h with rd:=zi h.rd (bit k),wr:=zi h.wr (bit k)}:=by
 let⟨m,n,a,r,w⟩:=h;show bN (kw (λr=>kw (λw=>(⟨m,n,a,r,w⟩:H)) (zi w (bit k))) (zi r (bit k))) ⟨m,n,a,r,w⟩ (ze a k)=_;rw[kr,kr];cases e:ze a k with
 |true=>rw[if_pos (fC e)];rfl
 |false=>rw[if_neg (Nat.not_le.2 (Jr e))];rfl
def nz{o:ai}:h.adu n o={h with m:=h.m.s n o}:=by cases h;rfl
def pM:h.adv n={h with m:=h.m.del n}:=by cases h;rfl
def ib{o:ai}:h.w o={h with m:=h.m.s h.n o,n:=h.n+1}:=by let⟨m,n,a,r,w⟩:=h;show kw (λb=>(⟨m.s n o,b,a,r,w⟩:H)) (Nat.succ n)=_;rw[kr]
def pH(h:H)(b j:Nat):(h.az b).g j=h.g j:=by rw[nv];split<;>rfl
def oO(h:H)(b:Nat):(h.az b).n=h.n:=by rw[nv];split<;>rfl
def jP(h:H)(b:Nat):Le h (h.az b):=by
 rw[nv];split
 .exact .refl _
 .exact⟨zR _,rfl,λ_ a=>rA a,λ_ a=>a,λ_ _ _ _=>rfl,λh=>h⟩
def ma(h:H)(b:Nat):(h.az b).b<=b\/(h.az b).rd.testBit b=Y:=by
 rw[nv];split
 .exact zq ‹_›
 .exact zt (DT (D1 b))
def So(h:H)(b j:Nat):(h.mark b).g j=h.g j:=by rw[kV];split<;>rfl
def Y3(h:H)(b:Nat):(h.mark b).n=h.n:=by rw[kV];split<;>rfl
def Y4(h:H)(b:Nat):(h.mark b).b=h.b:=by rw[kV];split<;>rfl
def NQ(h:H)(b:Nat):Le h (h.mark b):=by
 rw[kV];split
 .exact .refl _
 .exact⟨zR _,rfl,λ_ a=>rA a,λ_ a=>rA a,λ_ _ _ _=>rfl,λh=>h⟩
def Yj(h:H)(b:Nat):(h.mark b).b<=b\/((h.mark b).rd.testBit b=Y/\(h.mark b).wr.testBit b=Y):=by
 rw[kV];split
 .exact zq ‹_›
 .exact zt ⟨DT (D1 b),DT (D1 b)⟩
def jQ(h:H)(b:Nat)(o:ai):(h.p b o).n=h.n:=by rw[H.p,nz];exact Y3 h b
def rF(h:H)(o:ai)(a:j≠n):(h.p n o).g j=h.g j:=by rw[H.p,nz];show((h.mark n).m.s n o).g j=_;rw[Tr.Ba _ _ a];exact So h n j
def Ro(h:H){o x:ai}(e:(h.p n o).g n=O x):x=o:=by rw[H.p,nz]at e;exact Tr.D2 _ e
def qw(h:H)(b:Nat)(o:ai):(h.p b o).b<=b\/((h.p b o).rd.testBit b=Y/\(h.p b o).wr.testBit b=Y):=by rw[H.p,nz];exact Yj h b
def Bf(h:H)(b:Nat)(o:ai):(h.p b o).b=h.b:=by rw[H.p,nz];exact Y4 h b
def oU(h:H)(b:Nat)(o:ai){a:ai}(f:h.g b=O a):Le h (h.p b o):=by
 refine⟨uq (jQ h b o).symm,Bf h b o,?_,?_,λj _ i g=>?_,λd j x c=>?_⟩
 .rw[H.p,nz];exact(NQ h b).rd
 .rw[H.p,nz];exact(NQ h b).wr
 .refine rF h o λe=>?_;subst e;rcases qw h j o with q|q
  .omega
  .exact g q.2
 .rw[jQ];by_cases e:j=b
  .subst e;exact d j a f
  .rw[rF h o e]at c;exact d j x c
def mR(h:H)(b:Nat):(h.d b).n=h.n:=by rw[H.d,pM];exact Y3 h b
def A8(h:H)(a:j≠n):(h.d n).g j=h.g j:=by rw[H.d,pM];show((h.mark n).m.del n).g j=_;rw[Tr.MQ _ a];exact So h n j
def MH(h:H)(b:Nat):(h.d b).g b=U:=by rw[H.d,pM];exact Tr.MR _ b
def GH(h:H)(b:Nat):(h.d b).b<=b\/((h.d b).rd.testBit b=Y/\(h.d b).wr.testBit b=Y):=by rw[H.d,pM];exact Yj h b
def Nc(h:H)(b:Nat):(h.d b).b=h.b:=by rw[H.d,pM];exact Y4 h b
def aa4(h:H)(b:Nat):Le h (h.d b):=by
 refine⟨uq (mR h b).symm,Nc h b,?_,?_,λj _ f c=>?_,λd j x a=>?_⟩
 .rw[H.d,pM];exact(NQ h b).rd
 .rw[H.d,pM];exact(NQ h b).wr
 .refine A8 h λe=>?_;subst e;rcases GH h j with q|q
  .omega
  .exact c q.2
 .rw[mR];by_cases e:j=b
  .subst e;rw[MH]at a;cases a
  .rw[A8 h e]at a;exact d j x a
def jR(h:H)(o:ai):(h.w o).n=h.n+1:=by rw[ib]
def D3(h:H)(o:ai)(a:j≠h.n):(h.w o).g j=h.g j:=by rw[ib];show(h.m.s h.n o).g j=_;exact Tr.Ba _ _ a
def ahI(h:H){o x:ai}(e:(h.w o).g h.n=O x):x=o:=by rw[ib]at e;exact Tr.D2 _ e
def lr(h:H)(o:ai):Le h (h.w o):=by
 refine⟨by rw[jR];omega,by rw[ib],?_,?_,λj b _ _=>D3 h o (by omega),λd j x a=>?_⟩
 .rw[ib];exact λ_ h=>h
 .rw[ib];exact λ_ h=>h
 .rw[jR];by_cases e:j=h.n
  .omega
  .rw[D3 h o e]at a;have:=d j x a;omega
section
structure gy where
 w0:zu
 m0:M
 h0:Nat->Option ai
 n0:Nat
 N:Nat
 cX:Nat->Prop
 s8:Nat->Prop
 gl:Nat->Prop
structure Fin(Γ:gy)(h:H):Prop where
 next:h.n<=Γ.N
 hi:∀b,h.b<=b->Γ.cX b/\Γ.s8 b
 rd:∀b,h.rd.testBit b=Y->Γ.cX b
 wr:∀b,h.wr.testBit b=Y->Γ.s8 b
 wt:∀b,h.wr.testBit b=Y->Γ.cX b
def Fin.of_le{Γ:gy}{h :H}(l:Le h g)(f:Fin Γ g):Fin Γ h:=
 ⟨Nat.le_trans l.next f.next,λb a=>f.hi b (by rw[l.base];exact a),λb a=>f.rd b (l.rd b a),λb a=>f.wr b (l.wr b a),λb a=>f.wt b (l.wr b a)⟩
def eT(f:Nat->A)(b:Nat)(x:A)(j:Nat):A:=if j=b then x else f j
def jz(f:Nat->A)(b:Nat)(x:A):eT f b x b=x:=by simp[eT]
def eo(f:Nat->A)(x:A)(h:j≠n):eT f n x j=f j:=by simp[eT,h]
def M.eT(m:M)(b:Nat)(x:Option Pl):M:=⟨Am.eT m b x,m.im⟩
def M.jz(m:M)(b:Nat)(x:Option Pl):m.eT b x b=x:=Am.jz m.at_ b x
def M.eo(m:M){b j:Nat}(x:Option Pl)(h:j≠b):m.eT b x j=m j:=Am.eo m.at_ x h
def M.TE{m:M}{x:Option Pl}(h:m n=U):ct m (m.eT n x):=
 ⟨λj p a=>by rw[M.eo _ _ (λe=>by subst e;rw[h]at a;cases a)];exact a,λ_ _ h=>h⟩
structure jZ(w w':zu):Prop where
 frozen:∀a,w'.frozen? a=w.frozen? a
 tape:w'.tape=w.tape
 os:w'.os=w.os
 output:w'.output=w.output
def jZ.refl(w:zu):jZ w w:=⟨λ_=>rfl,rfl,rfl,rfl⟩
def jZ.trans{a b c:zu}(h:jZ a b)(d:jZ b c):jZ a c:=
 ⟨λx=>by rw[d.frozen,h.frozen],by rw[d.tape,h.tape],by rw[d.os,h.os],by rw[d.output,h.output]⟩
structure Inv(T:au)(Γ:gy)(m:M)(hD:Nat->Option ai)(h:H)(w:zu):Prop where
 obj:∀b o,hD b=O o->∃pl o',m b=O pl/\w.heap[pl.aH]?=O o'/\OR T m pl o o'
 inj:∀b b' pl Dt,hD b≠U->hD b'≠U->m b=O pl->m b'=O Dt->pl.aH=Dt.aH->b=b'
 cD:∀c,Γ.gl c->w.heap[c]?=Γ.w0.heap[c]?
 ez:∀c,Γ.gl c->c<Γ.w0.heap.size
 size:Γ.w0.heap.size<=w.heap.size
 eC:∀b pl,hD b≠U->m b=O pl->¬Γ.gl pl.aH
 same:jZ Γ.w0 w
 fy:∀b,b<h.n->Γ.cX b->m b≠U->hD b=h.g b
 dy:∀b o,h.g b=O o->b<h.n
 fresh:∀b,h.n<=b->b<Γ.N->m b=U/\hD b=U
 fY:h.b<=h.n
 gj:ct Γ.m0 m
 gm:∀b,(b<Γ.n0\/Γ.N<=b)->m b=Γ.m0 b
 gv:Γ.n0<=h.n
 ie:∀b,(¬Γ.s8 b\/Γ.N<=b)->hD b=Γ.h0 b
 de:∀c l,m.im c=O l->(∃e f,w.heap[c]?=O (yP ⟨l⟩ e f))/\∀b pl,hD b≠U->m b=O pl->pl.aH≠c
 fD:∀c,Γ.gl c->m.im c=Γ.m0.im c
variable{T:au}{Γ:gy}{m:M}{hD:Nat->Option ai}{h:H}{w:zu}
def Inv.get(a:Inv T Γ m hD h w){b:Nat}{d:Pl}{o:ai}(e:m b=O d)(f:ae h b o)(i:Γ.cX b):
 hD b=O o/\∃c,w.heap[d.aH]?=O c/\OR T m d o c:=by
 have g:hD b=O o:=by rw[a.fy b (a.dy b o f) i (by rw[e];simp),f]
 let⟨j,c,h1,k,l⟩:=a.obj b o g;rw[e]at h1;cases h1;exact⟨g,c,k,l⟩
def Inv.az(a:Inv T Γ m hD h w)(b:Nat):Inv T Γ m hD (h.az b) w:=
 {a with
  fy:=λj c=>by rw[pH];exact a.fy j (by rwa[oO]at c)
  dy:=λj o c=>by rw[oO];exact a.dy j o (by rwa[pH]at c)
  fresh:=λj c=>a.fresh j (by rwa[oO]at c)
  fY:=by rw[oO,(jP h b).base];exact a.fY
  gv:=by rw[oO];exact a.gv}
def Inv.world(a:Inv T Γ m hD h w)(d:W.heap=w.heap)(f:jZ w W):Inv T Γ m hD h W:=
 {a with
  obj:=λb o g=>by rw[d];exact a.obj b o g
  cD:=λc e=>by rw[d];exact a.cD c e
  size:=by rw[d];exact a.size
  same:=a.same.trans f
  de:=λc l e=>by rw[d];exact a.de c l e}
def Inv.put(a:Inv T Γ m hD h w){b:Nat}{i:Pl}{o g:ai}{n:Obj}{t:zu}(u:m b=O i)(y:h.g b=O o)
 (v:Fin Γ (h.p b g))(N:OR T m i g n)(hw:t.heap[i.aH]?=O n)(r:∀j,j≠i.aH->t.heap[j]?=w.heap[j]?)
 (P:t.heap.size=w.heap.size)(hr:jZ w t):Inv T Γ m (eT hD b ((h.p b g).g b)) (h.p b g) t:=by
 have L:=qw h b g;have Q:Γ.cX b:=L.elim (λx=>(v.hi b x).1) (λx=>v.rd b x.1);have A:Γ.s8 b:=L.elim (λx=>(v.hi b x).2) (λx=>v.wr b x.2);obtain⟨R,o',S,V⟩:=a.get u y Q;have f:hD b≠U:=by rw[R];simp
 have live:∀j,eT hD b ((h.p b g).g b) j≠U->hD j≠U:=λj d=>by
  by_cases e:j=b
  .subst e;exact f
  .rwa[eo _ _ e]at d
 refine{obj:=λj x d=>?_,inj:=λj k p q d W=>a.inj j k p q (live j d) (live k W),cD:=λc s=>?_,ez:=a.ez,size:=by rw[P];exact a.size,eC:=λj p d=>a.eC j p (live j d),same:=a.same.trans hr,fy:=λj d B C=>?_,dy:=λj x d=>?_,fresh:=λj d F=>?_,fY:=by rw[jQ,Bf h b g];exact a.fY,gj:=a.gj,gm:=a.gm,gv:=by rw[jQ];exact a.gv,ie:=λj d=>?_,fD:=a.fD,de:=λc l s=>⟨by rw[r c (λq=>(a.de c l s).2 b i f u q.symm)];exact(a.de c l s).1,λj p d H=>(a.de c l s).2 j p (live j d) H⟩}
 .by_cases e:j=b
  .subst e;rw[jz]at d;have:=Ro h d;subst this;exact⟨i,n,u,hw,N⟩
  .rw[eo _ _ e]at d;obtain⟨p,X,M,h2,h3⟩:=a.obj j x d;refine⟨p,X,M,?_,h3⟩;rw[r]
   .exact h2
   .exact λH=>e (a.inj j b p i (by rw[d];simp) f M u H)
 .rw[r]
  .exact a.cD c s
  .exact λq=>a.eC b i f u (q▸s)
 .by_cases e:j=b
  .subst e;rw[jz]
  .rw[eo _ _ e,rF h g e];exact a.fy j (by rwa[jQ]at d) B C
 .rw[jQ];by_cases e:j=b
  .subst e;exact a.dy j o y
  .rw[rF h g e]at d;exact a.dy j x d
 .rw[jQ]at d;have:=a.dy b o y;rw[eo _ _ (by omega:j≠b)];exact a.fresh j d F
 .by_cases e:j=b
  .subst e;have:=a.dy j o y;have F:=v.next;rw[jQ]at F;rcases d with d|d
   .exact absurd A d
   .omega
  .rw[eo _ _ e];exact a.ie j d
def Inv.newAt(a:Inv T Γ m hD h w){pl:Pl}{o:ai}{o':Obj}{w':zu}(S:Fin Γ (h.w o))(V:¬Γ.gl pl.aH)(H:m.im pl.aH=U)
 (g:∀j p,hD j≠U->m j=O p->p.aH≠pl.aH)
 (hO:OR T (m.eT h.n (O pl)) pl o o')(L:w'.heap[pl.aH]?=O o')(u:∀j,j≠pl.aH->j<w.heap.size->w'.heap[j]?=w.heap[j]?)
 (eU:w.heap.size<=w'.heap.size)(hr:jZ w w'):
 ct m (m.eT h.n (O pl))/\Inv T Γ (m.eT h.n (O pl)) (eT hD h.n ((h.w o).g h.n)) (h.w o) w':=by
 have hN:h.n<Γ.N:=by have:=S.next;rw[jR]at this;omega
 obtain⟨N,hdn⟩:=a.fresh h.n (zR _) hN;have P:=S.hi h.n (by rw[(lr h o).base];exact a.fY);have i:ct m (m.eT h.n (O pl)):=M.TE N
 have below:∀j p,hD j≠U->m j=O p->p.aH<w.heap.size:=λj p b d=>by
  cases e:hD j with
  |none=>exact absurd e b
  |some x=>
   obtain⟨p',W,n,B,X⟩:=a.obj j x e;rw[d]at n;cases n;exact(zd.1 B).1
 refine⟨i,{obj:=λj x b=>?_,inj:=λj k p q b F d A v=>?_,cD:=λc r=>?_,ez:=a.ez,size:=(by have:=a.size;omega),eC:=λj p b d=>?_,same:=a.same.trans hr,fy:=λj b Q C=>?_,dy:=λj x b=>?_,fresh:=λj b R=>?_,fY:=(by rw[jR,(lr h o).base];have:=a.fY;omega),gj:=a.gj.trans i,gm:=λj b=>?_,gv:=(by rw[jR];have:=a.gv;omega),ie:=λj b=>?_,fD:=a.fD,de:=λc l r=>?_}⟩
 .by_cases e:j=h.n
  .subst e;rw[jz]at b;have:=ahI h b;subst this;exact⟨pl,o',M.jz _ _ _,L,hO⟩
  .rw[eo _ _ e]at b;obtain⟨p,W,n,B,X⟩:=a.obj j x b;refine⟨p,W,i.to _ _ n,?_,X.mono i⟩;have hl:hD j≠U:=by rw[b];simp
   rw[u _ (g j p hl n) (below j p hl n)];exact B
 .by_cases s:j=h.n
  .by_cases y:k=h.n
   .rw[s,y]
   .rw[eo _ _ y]at F;rw[M.eo _ _ y]at A;subst s;rw[M.jz]at d;cases d;exact absurd v.symm (g k q F A)
  .rw[eo _ _ s]at b;rw[M.eo _ _ s]at d;by_cases y:k=h.n
   .subst y;rw[M.jz]at A;cases A;exact absurd v (g j p b d)
   .rw[eo _ _ y]at F;rw[M.eo _ _ y]at A;exact a.inj j k p q b F d A v
 .rw[u c (λq=>V (q▸r)) (by have:=a.size;have:=a.ez c r;omega)];exact a.cD c r
 .by_cases e:j=h.n
  .subst e;rw[M.jz]at d;cases d;exact V
  .rw[eo _ _ e]at b;rw[M.eo _ _ e]at d;exact a.eC j p b d
 .by_cases e:j=h.n
  .subst e;rw[jz]
  .rw[eo _ _ e,D3 h o e];rw[M.eo _ _ e]at C;exact a.fy j (by rw[jR]at b;omega) Q C
 .rw[jR];by_cases e:j=h.n
  .omega
  .rw[D3 h o e]at b;have:=a.dy j x b;omega
 .rw[jR]at b;rw[M.eo _ _ (by omega:j≠h.n),eo _ _ (by omega:j≠h.n)];exact a.fresh j (by omega) R
 .rw[M.eo]
  .exact a.gm j b
  .have:=a.gv;omega
 .by_cases e:j=h.n
  .subst e;rcases b with b|b
   .exact absurd P.2 b
   .omega
  .rw[eo _ _ e];exact a.ie j b
 .have r:m.im c=O l:=r;have t:c≠pl.aH:=λq=>by rw[q,H]at r;cases r
  obtain⟨⟨e,f,n⟩,B⟩:=a.de c l r;refine⟨⟨e,f,by rw[u c t (zd.1 n).1];exact n⟩,λj p b d=>?_⟩;by_cases s:j=h.n
  .subst s;rw[M.jz]at d;cases d;exact λq=>t q.symm
  .rw[eo _ _ s]at b;rw[M.eo _ _ s]at d;exact B j p b d
def Inv.new(a:Inv T Γ m hD h w){pl:Pl}{o:ai}{o':Obj}{w':zu}(c:Fin Γ (h.w o))(hb:pl.aH=w.heap.size)
 (d:OR T (m.eT h.n (O pl)) pl o o')(hw:w'.heap=w.heap.push o')(hr:jZ w w'):
 ct m (m.eT h.n (O pl))/\Inv T Γ (m.eT h.n (O pl)) (eT hD h.n ((h.w o).g h.n)) (h.w o) w':=by
 refine a.newAt c (by rw[hb];intro q;have:=a.ez _ q;have:=a.size;omega) (by
  cases q:m.im pl.aH with
  |none=>rfl
  |some l=>
   let⟨⟨e,f,h1⟩,_⟩:=a.de _ l q;have:=(zd.1 h1).1;omega) (λj p b g=>?_) d (by rw[hw,hb];simp) (λj _ b=>by rw[hw,tG,if_neg (by omega)]) (by rw[hw];simp) hr
 cases e:hD j with
 |none=>exact absurd e b
 |some x=>
  let⟨k,n,h1,i,r⟩:=a.obj j x e;rw[g]at h1;cases h1;have:=(zd.1 i).1;omega
def Inv.drop(a:Inv T Γ m hD h w){b:Nat}(f:Fin Γ (h.d b)){o:ai}(s:h.g b=O o):
 Inv T Γ m (eT hD b U) (h.d b) w:=by
 have u:=GH h b;have g:Γ.s8 b:=u.elim (λx=>(f.hi b x).2) (λx=>f.wr b x.2)
 have live:∀j,eT hD b U j≠U->hD j≠U/\j≠b:=λj d=>by
  by_cases e:j=b
  .subst e;rw[jz]at d;exact absurd rfl d
  .rw[eo _ _ e]at d;exact⟨d,e⟩
 refine{a with obj:=λj x d=>?_,inj:=λj k p q d v=>a.inj j k p q (live j d).1 (live k v).1,eC:=λj p d=>a.eC j p (live j d).1,fy:=λj d i n=>?_,dy:=λj x d=>?_,fresh:=λj d r=>?_,fY:=by rw[mR,Nc h b];exact a.fY,gv:=by rw[mR];exact a.gv,ie:=λj d=>?_,de:=λc l t=>⟨(a.de c l t).1,λj p d y=>(a.de c l t).2 j p (live j d).1 y⟩}
 .by_cases e:j=b
  .subst e;rw[jz]at d;cases d
  .rw[eo _ _ e]at d;exact a.obj j x d
 .by_cases e:j=b
  .subst e;rw[jz,MH]
  .rw[eo _ _ e,A8 h e];exact a.fy j (by rwa[mR]at d) i n
 .rw[mR];by_cases e:j=b
  .subst e;rw[MH]at d;cases d
  .rw[A8 h e]at d;exact a.dy j x d
 .rw[mR]at d;have:=a.dy b o s;rw[eo _ _ (by omega:j≠b)];exact a.fresh j d r
 .by_cases e:j=b
  .subst e;have:=a.dy j o s;have r:=f.next;rw[mR]at r;rcases d with d|d
   .exact absurd g d
   .omega
  .rw[eo _ _ e];exact a.ie j d
def Inv.arb(a:Inv T Γ m hD h w){pl AU:Pl}{o s:ai}{d:Obj}{w':zu}(B:Fin Γ ((h.d n).w s))(t:m n=O pl)(C:ae h n o)
 (k:AU.aH=pl.aH)(F:OR T (m.eT h.n (O AU)) AU s d)(u:w'.heap[pl.aH]?=O d)(v:∀j,j≠pl.aH->w'.heap[j]?=w.heap[j]?)
 (H:w'.heap.size=w.heap.size)(L:jZ w w'):
 ct m (m.eT h.n (O AU))/\∃y,Inv T Γ (m.eT h.n (O AU)) y ((h.d n).w s) w':=by
 have f:Fin Γ (h.d n):=B.of_le (lr _ _);have M:=GH h n;have N:Γ.cX n:=M.elim (λx=>(f.hi n x).1) (λx=>f.rd n x.1);let⟨hd,o',P,Q⟩:=a.get t C N;have c:hD n≠U:=by rw[hd];simp
 have R:=a.drop f C;have r:(h.d n).n=h.n:=mR h n
 have g:=R.newAt (pl:=AU) (o:=s) (o':=d) (w':=w') B (by rw[k];exact a.eC n pl c t) (by
  cases q:m.im AU.aH with
  |none=>rfl
  |some l=>exact absurd k.symm ((a.de _ l q).2 n pl c t)) (λj p i S=>by
  by_cases e:j=n
  .subst e;rw[jz]at i;exact absurd rfl i
  .rw[eo _ _ e]at i;rw[k];exact λA=>e (a.inj j n p pl i c S t A))
  (by rw[r];exact F) (by rw[k];exact u) (λj i _=>v j (by rw[<-k];exact i)) (by omega) L
 rw[r]at g;exact⟨g.1,_,g.2⟩
end
section
structure bM(T:au)(P:zo):Prop where
 prog:T.prog=P
 cw:∀t i,T.cw.g t=O i->P.info? t=O i
 func:∀g fn,T.f g=O fn->P.funcs[g]?=O fn/\rQ fn=Y
 mixed:P.follows .mixedOrders=Y
def Sp{b:Type}{n:Option b}{s:A->Option b}{o:Option A}{x:b}(h:dM n s o=O x)(c:n=U):∃a,o=O a/\s a=O x:=by
 subst c;cases o with
 |none=>cases h
 |some a=>exact⟨a,rfl,h⟩
variable{T:au}{P:zo}
def alU(a:bM T P){d:yU}(h:T.u t=O d):P.underlying t=O d:=by
 unfold au.u abU at h;cases b:T.cw.g t with
 |none=>rw[b]at h;cases h
 |some i=>
  rw[b]at h;have e:=a.cw t i b;unfold Program.underlying;rw[e];let⟨desc,str,zI,bytes,f,g,k,zero,cmp,l⟩:=i;simp only at h;cases desc with
  |named n u=>
   simp only at h;cases c:T.cw.g u with
   |none=>rw[c]at h;cases h
   |some j=>rw[c]at h;injection h with h;simp[a.cw u j c,h]
  |_=>simpa using h
def dw(a:bM T P){d:yU}(h:T.u t=O d)(w:zu):(underlying t).run P w=.ok d w:=by simp[underlying,alU a h]
def aa5(a:bM T P)(h:zI T t=O n):∃i,T.cw.g t=O i/\P.info? t=O i/\i.size=n:=by let⟨i,h1,b⟩:=Sp h rfl;injection b with b;exact⟨i,h1,a.cw t i h1,b⟩
def run_typeInfo{i:TypeInfo}(h:P.info? t=O i)(w:zu):(typeInfo t).run P w=.ok i w:=by simp[typeInfo,h]
def kS(a:bM T P)(h:zI T t=O n)(w:zu):(sizeOf t).run P w=.ok n w:=by let⟨i,_,b,c⟩:=aa5 a h;simp[sizeOf,run_typeInfo b,c]
def Nd(a:bM T P)(h:Am.zK T t=O b)(w:zu):(Go.isAgg t).run P w=.ok b w:=by
 unfold Am.zK at h;cases c:T.u t with
 |none=>rw[c]at h;cases h
 |some d=>
  rw[c]at h;simp only[Go.isAgg,zn,dw a c,zY];cases d<;>simp only[aaY,Option.some.injEq]at h<;>subst h<;>rfl
def Yk{o:Option E}(h:OM o=O v):o=O v/\gg v=Y:=by
 cases o with
 |none=>cases h
 |some x=>
  have h:cond (gg x) (O x) U=O v:=h;cases e:gg x with
  |false=>rw[e]at h;cases h
  |true=>rw[e]at h;cases h;exact⟨rfl,e⟩
def CH(a:bM T P)(h:zero T t=O v):gg v=Y/\∀w,(vk t).run P w=.ok v w:=by let⟨i,b,c⟩:=Sp h rfl;let⟨d,e⟩:=Yk c;exact⟨e,λw=>by simp[vk,run_typeInfo (a.cw t i b),d]⟩
def Xo:∀{l:List E},nq l=Y->∀v∈l,ground v=Y
 |[],_,v,a=>by cases a
 |x::l,h,v,a=>by
  rw[Gu]at h;cases e:ground x with
  |false=>rw[e]at h;cases h
  |true=>
   rw[e]at h;rcases zp.1 a with rfl|a
   .exact e
   .exact Xo h v a
def VR.Ct(m:M)(h:Am.ground v=Y):VR m v v:=VR.I0 h (λ_ _ _=>trivial)
def LR.Ct(m:M){l:List E}(h:nq l=Y):LR m l l:=LR.Z8 λv a=>VR.Ct m (Xo h v a)
def VR.Ac(m:M)(h:Am.gg v=Y):VR m v v:=by
 cases v with
 |agg a=>let⟨l⟩:=a;exact .agg (LR.Ct m h)
 |_=>first|exact VR.Ct m h|(simp[Am.gg,Am.ground]at h;done)
def Xf(h:gg v=Y):nq (ah v)=Y:=by
 cases v with
 |agg b=>exact h
 |_=>first|(simp only[ah,Gu];simp only[gg]at h;rw[h];rfl)|(simp[a.gg,a.ground]at h;done)
def fX:∀l:List E,dh l=I l
 |[]=>rfl
 |_::l=>by show Nat.succ (dh l)=_;rw[fX l];rfl
def qH:∀l r:List E,il l r=l++r
 |[],_=>rfl
 |x::l,r=>by show x::il l r=_;rw[qH l r];rfl
def ahJ:EK 0 l=O []:=rfl
def Z9:∀(n:Nat)(l r:List E),EK n l=O r->n<=I l/\r=l.take n
 |0,l,r,h=>by cases h;simp
 |n+1,[],r,h=>by cases h
 |n+1,x::l,r,h=>by
  have a:(match EK n l with|some r=>O (x::r)|none=>U)=O r:=h
  cases e:EK n l with
  |none=>rw[e]at a;cases a
  |some s=>
   rw[e]at a;cases a;let⟨h1,b⟩:=Z9 n l s e;exact⟨by simpa using h1,by simp[b]⟩
def Sq:∀(n:Nat)(l:List E),Ud n l=l.drop n
 |0,_=>rfl
 |n+1,[]=>rfl
 |n+1,_::l=>by show Ud n l=_;rw[Sq n l];rfl
def J0:∀(n:Nat)(l:List E),Fc n l=l[n]?
 |0,[]=>rfl
 |0,x::l=>rfl
 |n+1,[]=>rfl
 |n+1,_::l=>by show Fc n l=_;rw[J0 n l];simp
def TF(h:cut l k n=O p):n<=I (l.drop k)/\p=(l.drop k).take n:=by unfold cut at h;rw[Sq]at h;exact Z9 _ _ _ h
def aa6:∀(a l r:List E),Fa a l=O r->I a<=I l/\r=a++l.drop (I a)
 |[],l,r,h=>by cases h;simp
 |v::a,[],r,h=>by cases h
 |v::a,x::l,r,h=>by
  have b:(match Fa a l with|some r=>O (v::r)|none=>U)=O r:=h
  cases e:Fa a l with
  |none=>rw[e]at b;cases b
  |some s=>
   rw[e]at b;cases b;let⟨h1,c⟩:=aa6 a l s e;exact⟨by simpa using h1,by simp[c]⟩
def RP:∀(off:Nat)(a l r:List E),kx off a l=O r->off+I a<=I l/\r=l.take off++(a++l.drop (off+I a))
 |0,a,l,r,h=>by let⟨h1,c⟩:=aa6 a l r h;exact⟨by omega,by simp[c]⟩
 |off+1,a,[],r,h=>by cases h
 |off+1,a,x::l,r,h=>by
  have b:(match kx off a l with|some r=>O (x::r)|none=>U)=O r:=h
  cases e:kx off a l with
  |none=>rw[e]at b;cases b
  |some s=>
   rw[e]at b;cases b;let⟨h1,c⟩:=RP off a l s e;refine⟨by simp;omega,?_⟩;rw[c];have:off+1+I a=(off+I a)+1:=by omega
   rw[this];simp
def I3(a:List E):∀n,jK a n=(xI n a).flatten
 |0=>rfl
 |n+1=>by show il a (jK a n)=_;rw[qH,I3 a n,xj,uC]
def af0:da (v::l)=cond v.oneCell' (da l) G:=by cases v<;>rfl
def Q5:∀{l:List E},da l=Y->∀v∈l,v.oneCell'=Y
 |[],_,v,a=>by cases a
 |x::l,h,v,a=>by
  rw[af0]at h;cases e:x.oneCell' with
  |false=>rw[e]at h;cases h
  |true=>
   rw[e]at h;rcases zp.1 a with rfl|a
   .exact e
   .exact Q5 h v a
def LR.JZ{m:M}:∀{l b:List E},LR m l b->(∀v∈l,v.oneCell'=Y)->∀v∈b,v.oneCell'=Y
 |_,_,.Nl,_,v,a=>by cases a
 |_,_,.Cs h d,c,v,a=>by
  rcases zp.1 a with rfl|a
  .rw[h.JZ];exact c _ (by simp)
  .exact d.JZ (λx e=>c x (by simp[e])) v a
def LR.kx{m:M}{a b:List E}(h:LR m a b)(c:LR m p l):
 LR m (a.take n++(p++a.drop (n+I p))) (b.take n++(l++b.drop (n+I l))):=by
 rw[c.length];exact(h.take n).append (c.append (h.drop _))
end
section
variable{T:au}{P:zo}
def bu(T:au)(P:zo)(h:H)(v:E)(a:H)(X:M->Prop)(s:Sem E):Prop:=
 Le h a/\∀Γ m f w,Fin Γ a->Inv T Γ m f h w->X m->∃d b c e,s.run P w=.ok d e/\ct m b/\VR b v d/\Inv T Γ b c a e
def bu.quiet{X:M->Prop}{s:Sem E}(H:∀m,X m->∃b,VR m v b/\∀w,s.run P w=.ok b w):bu T P h v h X s:=
 ⟨.refl _,λ_ m c w _ a x=>let⟨b,d,e⟩:=H m x;⟨b,m,c,w,e w,.refl _,d,a⟩⟩
def Bg{o:Option E}(e:gk h o=.v v g):o=O v/\g=h:=by
 cases o with
 |none=>cases e
 |some x=>injection e with a b;exact⟨by rw[a],b.symm⟩
structure Row(T:au)(m:M)(pl:Pl)(w:zu)(c:List E)(e:zQ)(g:Bool)(c' pre post:List E)(e':zQ):Prop where
 heap:w.heap[pl.aH]?=O (yP ⟨pre++(c'++post)⟩ e' (0,0))
 rel:LR m c c'
 pre:I pre=pl.sh
 BF:I c=pl.BF
 ext:pl.ext<=I post
 tight:g=G->pl.ext=0
 pos:0<pl.sz
 sz:g=Y->zI T e=O pl.sz
def Inv.row{d:gy}{m:M}(a:Inv T d m B h W){f:Pl}{g:Bool}
 (i:m n=O f)(j:ae h n (K l t g))(k:d.cX n):∃o pre post p,Row T m f W l t g o pre post p:=by
 let⟨_,F,q,r⟩:=a.get i j k;cases r with
 |cells s u v x y A C=>exact⟨_,_,_,_,⟨q,s,u,v,x,y,A,C⟩⟩
def Row.or{m:M}{f:Pl}{a post:List E}(R:Row T m f W l t b p a post s){d d':List E}(h:LR m d d')
 (i:I d=I l):OR T m f (K d t b) (yP ⟨a++(d'++post)⟩ s (0,0)):=
 .cells h R.pre (by rw[i,R.BF]) R.ext R.tight R.pos R.sz
def kT:(⟨k,m,U⟩:vL).add n=⟨k,m+n,U⟩:=by unfold Addr.add;split<;>simp_all
def aaa{post:List E}{c:Nat×Nat}(d:W.heap[n]?=O (yP ⟨l++(p++post)⟩ t c))(b:p[i]?=O v):
 W.cell? ⟨n,I l+i,U⟩=O v:=by
 have a:i<I p:=(yf.1 b).1;unfold World.cell?;simp only[d,tH,y8,if_false,wD];rw[uM (by omega),Nat.add_sub_cancel_left,uQ a,b]
def QH{post:List E}{c:Nat×Nat}(d:W.heap[k]?=O (yP ⟨l++(p++post)⟩ t c)){off :Nat}(f:n<=I (p.drop off)):
 (loadCells ⟨k,I l+off,U⟩ n).run P W=.ok ⟨(p.drop off).take n⟩ W:=by
 have e:I ((p.drop off).take n)=n:=by rw[wV];omega
 have:=run_loadCells_list (P:=P) W ⟨k,I l+off,U⟩ ((p.drop off).take n) (λj v a=>by
  rw[kT,yp];refine aaa d ?_;have b:j<n:=by have:=(yf.1 a).1;omega
  rw[List.getElem?_take,if_pos b,List.getElem?_drop]at a;exact a)
 rw[e]at this;exact this
def agk{post:List E}{a:Nat×Nat}(b:W.heap[n]?=O (yP ⟨l++(p++post)⟩ t a))(c:p[k]?=O v):
 (load ⟨n,I l+k,U⟩).run P W=.ok v W:=by
 rw[run_load,aaa b c]
def XD(e:zE T t l k=O v):
 (Am.zK T t=O G/\l[k]?=O v)\/(Am.zK T t=O Y/\∃n,zI T t=O n/\n<=I (l.drop k)/\v=aAg ((l.drop k).take n)):=by
 unfold zE at e;cases d:Am.zK T t with
 |none=>rw[d]at e;cases e
 |some b=>
  rw[d]at e;cases b with
  |false=>exact zq ⟨rfl,by rw[<-J0];exact e⟩
  |true=>
   refine zt ⟨rfl,?_⟩;have e:SV l k (zI T t)=O v:=e;cases f:zI T t with
   |none=>rw[f]at e;cases e
   |some n=>
    rw[f]at e;have e:HI (cut l k n)=O v:=e;cases a:cut l k n with
    |none=>rw[a]at e;cases e
    |some r=>
     rw[a]at e;injection e with e;let⟨h1,g⟩:=TF a;exact⟨n,rfl,h1,by rw[<-e,g]⟩
def Yl(a:bM T P){m:M}(e:zE T t l k=O v)(f:LR m l p):
 ∃b,VR m v b/\∀w,(part t ⟨p⟩ k).run P w=.ok b w:=by
 rcases XD e with⟨d,g⟩|⟨d,n,h,o,rfl⟩
 .let⟨b,i,j⟩:=f.get g;exact⟨b,j,λw=>by simp[part,Nd a d,i]⟩
 .refine⟨aAg ((p.drop k).take n),.agg ((f.drop k).take n),λw=>?_⟩;simp[part,Nd a d,kS a h]
def Ym(a:bM T P){m:M}{b post:List E}{i:Nat×Nat}(h:W.heap[k]?=O (yP ⟨b++(p++post)⟩ s i))(f:LR m l p){off:Nat}
 (e:zE T t l off=O v):∃d,VR m v d/\(te t ⟨k,I b+off,U⟩).run P W=.ok d W:=by
 rcases XD e with⟨g,j⟩|⟨g,n,o,q,rfl⟩
 .let⟨d,h1,r⟩:=f.get j;refine⟨d,r,?_⟩;have:=agk (P:=P) h h1;simp only[te,zn,Nd a g,zY,y8,if_false];exact this
 .refine⟨aAg ((p.drop off).take n),.agg ((f.drop off).take n),?_⟩;have:=QH (P:=P) h (off:=off) (n:=n) (by rw[(f.drop off).length];exact q);simp only[te,zn,Nd a g,zY,if_true,kS a o,this,yA]
def Xp(d:bM T P){m:M}{f:Pl}{h post:List E}(R:Row T m f W l s b p h post t){a:zQ}
 (e:zE T a l n=O v):∃i,VR m v i/\(te a ⟨f.aH,f.sh+n,U⟩).run P W=.ok i W:=by
 have:=Ym (P:=P) d R.heap R.rel e;rwa[R.pre]at this
def Inv.atp(d:bM T P){i:gy}{m:M}(a:Inv T i m B h W){b post:List E}(j:m.im n=O (b++(p++post)))(o:LR m l p)
 (e:zE T t l k=O v):∃g,VR m v g/\(te t ⟨n,I b+k,U⟩).run P W=.ok g W:=by
 let⟨⟨r,f,q⟩,_⟩:=a.de _ _ j;exact Ym d q o e
def alV{a:Fn}{c:Array E}:Ue c a≠ .to n m:=by
 intro e;cases a with
 |via f p k q=>
  cases q with
  |false=>cases e
  |true=>
   let⟨l⟩:=c;have e:jg f l=.to n m:=e;rcases l with _|⟨x,_|⟨y,l⟩⟩<;>cases e
 |_=>cases e
def aab(e:ptrTo v=.to n k):v=zM (O ⟨n,k,U⟩):=by
 cases v with
 |pointer a=>
  cases a with
  |none=>cases e
  |some a=>
   let⟨x,y,c⟩:=a;cases c with
   |none=>injection e with d f;subst d;subst f;rfl
   |some c=>cases e
 |func g h i=>exact absurd e alV
 |_=>cases e
def Yn(e:ptrTo v=.data N n):∃p k q,v=zU (vU n p k Y) ⟨[N]⟩ q:=by
 cases v with
 |pointer a=>
  cases a with
  |none=>cases e
  |some a=>let⟨N,y,b⟩:=a;cases b<;>cases e
 |func c d h=>
  have e:Ue d c=.data N n:=e;cases c with
  |via g p k q=>
   cases q with
   |false=>cases e
   |true=>
    let⟨l⟩:=d;have e:jg g l=.data N n:=e;rcases l with _|⟨y,_|⟨b,l⟩⟩
    .cases e
    .cases e;exact⟨p,k,h,rfl⟩
    .cases e
  |_=>cases e
 |_=>cases e
def XT(e:Er T h t N=.v v g):∃b i c k d,N=zM (O ⟨b,i,U⟩)/\ae h b (K c k d)/\zE T t c i=O v/\g=h.az b:=by
 have e:EL (β:=au->H->zQ->aK) (λ_ _ _=>.f) (λb i T h t=>Bn T h t b i (h.g b)) (λ_ _ _ _ _=>.f) (ptrTo N) T h t=.v v g:=e;cases j:ptrTo N with
 |no=>rw[j]at e;cases e
 |data x f=>rw[j]at e;cases e
 |to b i=>
  rw[j]at e;have l:=aab j;have e:Bn T h t b i (h.g b)=.v v g:=e;cases m:h.g b with
  |none=>rw[m]at e;cases e
  |some o=>
   rw[m]at e;cases o with
   |cells c k d=>
    have e:gk (h.az b) (zE T t c i)=.v v g:=e;let⟨n,p⟩:=Bg e;exact⟨b,i,c,k,d,l,m,n,p⟩
   |_=>cases e
def ahK(e:loadAt T h t N=.v v g):Er T h t N=.v v g\/∃x f p k q,N=zU (vU f p k Y) ⟨[x]⟩ q/\zE T t (ah x) f=O v/\g=h:=by
 have e:EL (β:=au->H->zQ->aK) (λ_ _ _=>.f) (λb c T h t=>Bn T h t b c (h.g b)) (λe f T h t=>gk h (zE T t (ah e) f)) (ptrTo N) T h t=.v v g:=e;cases d:ptrTo N with
 |no=>rw[d]at e;cases e
 |to b c=>
  left;rw[d]at e;show EL (β:=au->H->zQ->aK) (λ_ _ _=>.f) (λb c T h t=>Bn T h t b c (h.g b)) (λ_ _ _ _ _=>.f) (ptrTo N) T h t=.v v g;rw[d];exact e
 |data x f=>
  right;rw[d]at e;have e:gk h (zE T t (ah x) f)=.v v g:=e;let⟨i,j⟩:=Bg e;let⟨p,k,q,h1⟩:=Yn d;exact⟨x,f,p,k,q,h1,i,j⟩
def agl(l:bM T P){a' i:E}(e:loadAt T h t N=.v i g):bu T P h i g (λm=>VR m N a') (uY t a'):=by
 rcases ahK e with e|⟨x,f,p,k,q,rfl,n,rfl⟩
 .obtain⟨b,v,c,Q,j,rfl,y,n,rfl⟩:=XT e;refine⟨jP h b,λu m o w F d x=>?_⟩;have A:u.cX b:=(ma h b).elim (λx=>(F.hi b x).1) (F.rd b);cases x with
  |ptr B=>
   let⟨S,pre,post,V,R⟩:=d.row B y A;let⟨r,h1,s⟩:=Xp l R n;exact⟨r,m,o,w,by simp[uY,xz,s],.refl _,h1,d.az b⟩
 .refine⟨.refl _,λu m o w F d C=>?_⟩;cases C with
  |jg L M=>
   let⟨r,h1,s⟩:=d.atp l L M.cells n;exact⟨r,m,o,w,by simp[uY,xz,s],.refl _,h1,d⟩
def XU(w:zu){c c2:Array E}(b:w.heap[n]?=O (yP c t (0,0))):
 (w.setRow n c2).heap[n]?=O (yP c2 t (0,0))/\(∀j,j≠n->(w.setRow n c2).heap[j]?=w.heap[j]?)/\(w.setRow n c2).heap.size=w.heap.size/\jZ w (w.setRow n c2):=by
 have d:=setRow_heap w n c c2 t (0,0) b
 have e:∀j,j≠n->(w.setRow n c2).heap[j]?=w.heap[j]?:=λj h=>by unfold World.setRow;simp[Array.getElem?_modify,Ne.symm h]
 refine⟨d,e,by unfold World.setRow;simp,⟨λa=>?_,rfl,rfl,rfl⟩⟩;by_cases f:a.block=n
 .unfold wq;rw[f,d,b]
 .unfold wq;rw[e _ f]
def Xg{r:gy}{m:M}(a:Inv T r m B h W){j:Pl}{g:Bool}{f d:List E}
 (y:m n=O j)(A:ae h n (K l t g))(C:kx k p l=O d)(s:LR m p f)(L:∀v∈p,v.oneCell'=Y)(F:Fin r (h.p n (K d t g))):
 ∃w' u,(storeCells ⟨j.aH,j.sh+k,U⟩ f).run P W=.ok () w'/\Inv T r m u (h.p n (K d t g)) w':=by
 have N:=qw h n (K d t g);have Q:r.cX n:=N.elim (λx=>(F.hi n x).1) (λx=>F.rd n x.1);let⟨i,pre,post,S,R⟩:=a.row y A Q;let⟨hle,hd⟩:=RP _ _ _ _ C;have V:=R.rel.length;have X:=s.length;have o:=run_storeCells_at P j.aH (j.sh+k) S f 0 ⟨pre++(i++post)⟩ W R.heap (by simp[R.pre];omega) (s.JZ L)
 have q:((pre++(i++post)).take (j.sh+k+0)++f++(pre++(i++post)).drop (j.sh+k+0+I f))=pre++((i.take k++(f++i.drop (k+I f)))++post):=by
  have a1:(pre++(i++post)).take (j.sh+k+0)=pre++i.take k:=by rw[xP,<-R.pre,wW,uD (by omega)]
  have a2:(pre++(i++post)).drop (j.sh+k+0+I f)=i.drop (k+I f)++post:=by rw[xP,yp,<-R.pre,wU,List.drop_append_of_le_length (by omega)]
  rw[a1,a2];simp
 rw[q]at o;let⟨s1,s2,s3,s4⟩:=XU W (c2:=(pre++((i.take k++(f++i.drop (k+I f)))++post)).toArray) R.heap;refine⟨_,_,o,a.put y A F (R.or (d':=i.take k++(f++i.drop (k+I f))) ?_ ?_) s1 s2 s3 s4⟩
 .rw[hd];exact R.rel.kx s
 .rw[hd];simp;omega
end
section
variable{T:au}{P:zo}
def VR.undef(m:M):VR m yh yh:=.tuple .Nl
def af1(u:bM T P){a' i v':E}(e:zG T h t i N=O g):
 bu T P h yh g (λm=>VR m N a'/\VR m i v') (do sf t a' v';sP yh):=by
 have e:EL (β:=au->H->zQ->E->Option H) (λ_ _ _ _=>U)
  (λb l T h t i=>bN U (SY h b l (ah i)) (fits (ah i) (zI T t))) (λ_ _ _ _ _ _=>U) (ptrTo N) T h t i=O g:=e
 cases r:ptrTo N with
 |no=>rw[r]at e;cases e
 |data x f=>rw[r]at e;cases e
 |to b l=>
  rw[r]at e;have v:=aab r;subst v;have e:bN U (SY h b l (ah i)) (fits (ah i) (zI T t))=O g:=e;cases p:fits (ah i) (zI T t)with
  |false=>rw[p]at e;cases e
  |true=>
   rw[p]at e;have e:ml h b l (ah i) (h.g b)=O g:=e;cases y:zI T t with
   |none=>rw[y]at p;cases p
   |some n=>
    rw[y]at p;have p:cond (zV (dh (ah i)) n) (da (ah i)) G=Y:=p;cases A:zV (dh (ah i)) n with
    |false=>rw[A]at p;cases p
    |true=>
     rw[A]at p;have hlen:=hJ A;rw[fX]at hlen;cases s:h.g b with
     |none=>rw[s]at e;cases e
     |some o=>
      rw[s]at e;cases o with
      |cells c L j=>
       have e:SX h b L j (kx l (ah i) c)=O g:=e;cases q:kx l (ah i) c with
       |none=>rw[q]at e;cases e
       |some d=>
        rw[q]at e;cases e;refine⟨oU _ _ _ s,λW m X w F k x=>?_⟩;let⟨M,C⟩:=x;cases M with
        |ptr Q=>
         let⟨R,B,h1,S⟩:=Xg (P:=P) k Q s q C.cells (Q5 p) F;have V:v'.cells.size=n:=by rw[<-hlen,<-C.cells.length];simp
         exact⟨yh,m,B,R,by simp[sf,xz,storeVar,kS u y,V,h1],.refl _,.undef m,S⟩
      |_=>cases e
def ajm(w:zu){o:Obj}(d:∀c e f,o=yP c e f->f=(0,0)):jZ w {w with heap:=w.heap.push o}:=by
 refine⟨λa=>?_,rfl,rfl,rfl⟩;unfold wq;simp only[tG];by_cases b:a.block=w.heap.size
 .rw[if_pos b,b];simp only[Array.getElem?_eq_none (zR w.heap.size)];cases o<;>simp
  case cells c e f=>have:=d c e f rfl;subst this;simp
 .rw[if_neg b]
def DY{d:gy}{m:M}(a:Inv T d m B h W){o:ai}{o':Obj}{pl:Pl}(F:Fin d (h.w o))(k:pl.aH=W.heap.size)
 (l:∀b,ct m b->b h.n=O pl->OR T b pl o o')(n:∀c e f,o'=yP c e f->f=(0,0)):
 ∃b g,ct m b/\b h.n=O pl/\Inv T d b g (h.w o) {W with heap:=W.heap.push o'}:=by
 have p:h.n<d.N:=by have:=F.next;rw[jR]at this;omega
 have i:=(a.fresh h.n (zR _) p).1;have j:ct m (m.eT h.n (O pl)):=M.TE i;let⟨h1,q⟩:=a.new F k (l _ j (M.jz _ _ _)) (w':={W with heap:=W.heap.push o'}) rfl (ajm W n);exact⟨_,_,h1,M.jz _ _ _,q⟩
def Xk{d:gy}{m:M}(a:Inv T d m B h W){e:zQ}(F:Fin d (h.w (ad l e)))(i:LR m l p):
 ∃b f,ct m b/\b h.n=O ⟨W.heap.size,0,I l,0,1⟩/\Inv T d b f (h.w (ad l e)) {W with heap:=W.heap.push (yP ⟨p⟩ e (0,0))}:=
 DY a F rfl (λb j _=>by have:=OR.cells (T:=T) (pl:=⟨W.heap.size,0,I l,0,1⟩) (pre:=[]) (post:=[]) (e:=e) (e':=e) (g:=G) (i.mono j) rfl rfl (ya _) (λ_=>rfl) Nat.one_pos (λh=>by cases h);simpa using this) (λ_ _ _ h=>by injection h with _ _ h;exact h.symm)
def D4(w:zu)(e:zQ)(c:Array E):(newRow e c).run P w=.ok ⟨w.heap.size,0,U⟩ {w with heap:=w.heap.push (yP c e (0,0))}:=by simp[newRow]
def ahL:(newVar t v).run P W=.ok ⟨W.heap.size,0,U⟩ {W with heap:=W.heap.push (yP v.cells t (0,0))}:=D4 W t v.cells
def XV{z' a:E}(c:Bv h t (O N)=.v a g):bu T P h a g (λm=>VR m N z') (tf t z'):=by have c:aK.v (pB h.n) (h.w (ad (ah N) t))=.v a g:=c;cases c;refine⟨lr _ _,λl m n w F b x=>?_⟩;let⟨f,d,i,j,k⟩:=Xk b F x.cells;exact⟨pB w.heap.size,f,d,_,by simp[tf,ahL],i,VR.ptr (off:=0) j,k⟩
def agK(f:bM T P)(d:Bv h t (zero T t)=.v v g):bu T P h v g (λ_=>True) (Instr.alloc t Y (xC #[])):=by
 cases i:zero T t with
 |none=>rw[i]at d;cases d
 |some c=>
  rw[i]at d;let⟨a,n⟩:=CH f i;let⟨l,k⟩:=XV (T:=T) (P:=P) (z':=c) d;refine⟨l,λo m p w F b _=>?_⟩;let⟨q,r,j,s,h1,u,x,y⟩:=k o m p w F b (VR.Ac m a);refine⟨q,r,j,s,?_,u,x,y⟩;simpa[Instr.alloc,n,tf]using h1
end
section
variable{T:au}{P:zo}
inductive ED(m:M):List (Nat×E)->List (Nat×E)->Prop
 |nil:ED m [] []
 |cons {i:Nat} {v v':E} {l l':List (Nat×E)} (h:VR m v v') (hl:ED m l l'):ED m ((i,v)::l) ((i,v')::l')
def Yo(a:Nat):∀(l:List E)(k:Nat)(cells:Array E),a+k+I l<=cells.size->
 (l.zipIdx k).foldl (λb(p:E×Nat)=>b.setIfInBounds (a+p.2) p.1) cells=⟨cells.toList.take (a+k)++l++cells.toList.drop (a+k+I l)⟩
 |[],k,cells,_=>by simp
 |v::l,k,cells,h=>by simp only[List.zipIdx_cons,List.foldl_cons];rw[Yo a l (k+1) _ (by simp at h⊢;omega)];have:=list_seg_step cells.toList (a+k) v l (by simp at h⊢;omega);rw[Array.toList_setIfInBounds,show a+(k+1)=a+k+1 from by omega,this];simp[yp]
def RQ{cells:Array E}(h:n+v.cells.size<=cells.size):
 v.cells.zipIdx.foldl (λa(c,j)=>a.setIfInBounds (n+j) c) cells=⟨cells.toList.take n++(v.cells.toList++cells.toList.drop (n+I v.cells.toList))⟩:=by
 rw[<-Array.foldl_toList,Array.toList_zipIdx];have:=Yo n v.cells.toList 0 cells (by simp;omega);simpa using this
def afO(place:Nat->Option (Nat×Nat))(x:Nat×E){l:List (Nat×E)}:
 oP place (x::l) p=match place x.1 with
  |some (a,n)=>match cond (zV (dh (ah x.2)) n) (kx a (ah x.2) p) U with
   |some p=>oP place l p
   |none=>U
  |none=>U:=rfl
def MS{m:M}{place Kg:Nat->Option (Nat×Nat)}(t:∀i x,place i=O x->Kg i=O x):∀{u j:List (Nat×E)}{c a r:List E},ED m u j->LR m c a->oP place u c=O r->∃l,Instr.fill Kg ⟨a⟩ j=O ⟨l⟩/\LR m r l
 |_,_,c,a,r,.nil,o,e=>by have e:O c=O r:=e;cases e;exact⟨a,rfl,o⟩
 |_,_,c,a,r,.cons (i:=i) (v:=v) (v':=v') w y,o,e=>by
  rw[afO]at e;cases f:place i with
  |none=>simp only[f]at e;cases e
  |some x=>
   let⟨b,n⟩:=x;simp only[f]at e;cases p:zV (dh (ah v)) n with
   |false=>rw[p]at e;cases e
   |true=>
    rw[p,cond_true]at e;cases q:kx b (ah v) c with
    |none=>simp only[q]at e;cases e
    |some d=>
     simp only[q]at e;let⟨h1,A⟩:=RP _ _ _ _ q;have hlen:=hJ p;rw[fX]at hlen;have s:=w.cells.length;have k:v'.cells.size=n:=by rw[<-hlen,<-s];simp
     have B:LR m d (a.take b++(v'.cells.toList++a.drop (b+I v'.cells.toList))):=by rw[A];exact o.kx w.cells
     let⟨l,C,F⟩:=MS t y B e;refine⟨l,?_,F⟩
     have g:b+v'.cells.size<=(⟨a⟩:Array E).size:=by have:=o.length;have:(⟨a⟩:Array E).size=I a:=rfl;rw[this];rw[<-Array.length_toList];omega
     have h:(yF (v'.cells.size≠n)||decide (b+v'.cells.size>(⟨a⟩:Array E).size))=G:=by simp[k];rw[k]at g;simpa using g
     simp only[Instr.fill,t i _ f,h,y8,if_false];rw[RQ g];exact C
def Kh(T:au)(f:tX):Nat×Nat:=(f.offset,(zI T f.type).getD 0)
def XW(a:bM T P):∀(b:List tX),(∀f∈b,∃n,zI T f.type=O n)->∀w,(b.mapM λ(f:tX)=>(do sP (f.offset,<-sizeOf f.type):Sem (Nat×Nat))).run P w=.ok (b.map (Kh T)) w
 |[],_,w=>by simp
 |f::b,h,w=>by let⟨n,hn⟩:=h f (by simp);have c:=XW a b (λg d=>h g (by simp[d])) w;simp only[List.mapM_cons,zn,kS a hn,zY,yA,c,List.map_cons,Kh,hn,vx]
def af2(f:tX){l:List tX}:Eg T (f::l)=match zI T f.type with|some _=>Eg T l|none=>G:=rfl
def XE:∀{b:List tX},Eg T b=Y->∀f∈b,∃n,zI T f.type=O n
 |[],_,f,a=>by cases a
 |g::b,h,f,a=>by
  rw[af2]at h;cases c:zI T g.type with
  |none=>rw[c]at h;cases h
  |some n=>
   rw[c]at h;rcases zp.1 a with rfl|a
   .exact⟨n,c⟩
   .exact XE h f a
def afE{a:Array tX}(h:fieldPlace T a i=O (m,n)):∃f,a.toList[i]?=O f/\m=f.offset/\zI T f.type=O n:=by
 unfold fieldPlace at h;cases c:a.toList[i]? with
 |none=>rw[c]at h;cases h
 |some f=>
  rw[c]at h;cases b:zI T f.type with
  |none=>simp only[b]at h;cases h
  |some k=>simp only[b]at h;injection h with h;cases h;exact⟨f,rfl,rfl,b⟩
def af3(c:bM T P){k:List (Nat×E)}{FI:Array (Nat×E)}(e:eK T h t (zero T t) (O k)=.v v g):
 bu T P h v g (λm=>ED m k FI.toList) (ur t FI):=by
 cases u:zero T t with
 |none=>rw[u]at e;cases e
 |some a=>
  rw[u]at e;let⟨Q,M⟩:=CH c u;have e:aa0 T h (ah a) k (T.u t)=.v v g:=e;have p:∀m,LR m (ah a) a.cells.toList:=λm=>(VR.Ac m Q).cells;cases s:T.u t with
  |none=>rw[s]at e;cases e
  |some d=>
   rw[s]at e;cases d with
   |struct j=>
    have e:bN .f (Kc h (oP (fieldPlace T j) k (ah a))) (Eg T j.toList)=.v v g:=e;cases l:Eg T j.toList with
    |false=>rw[l]at e;cases e
    |true=>
     rw[l]at e;have e:Kc h (oP (fieldPlace T j) k (ah a))=.v v g:=e;cases b:oP (fieldPlace T j) k (ah a)with
     |none=>rw[b]at e;cases e
     |some r=>
      rw[b]at e;have e:aK.v (aAg r) h=.v v g:=e;cases e;refine bu.quiet λm x=>?_;have R:=XW c j.toList (XE l)
      let⟨A,q,B⟩:=MS (Kg:=λi=>(j.toList.map (Kh T)).toArray[i]?) (λi y C=>by let⟨S,n⟩:=y;let⟨f,V,W,q3⟩:=afE C;subst W;simp only[wD,List.getElem?_map,V,uA,Kh,q3,vx]) x (p m) b
      refine⟨aAg A,.agg B,λw=>?_⟩
      have F:(j.mapM λ(f:tX)=>(do sP (f.offset,<-sizeOf f.type):Sem (Nat×Nat))).run P w=.ok (j.toList.map (Kh T)).toArray w:=by rw[Array.mapM_eq_mapM_toList];simp only[Sem.run_map,R w,zY]
      have o:(⟨a.cells.toList⟩:Array E)=a.cells:=rfl;rw[o]at q;simp only[ur,zn,M w,zY,dw c s,F,q,yA]
   |array X N=>
    have e:(match zI T N with|some n=>Kc h (oP (D9 n) k (ah a))|none=>.f)=aK.v v g:=e
    cases L:zI T N with
    |none=>rw[L]at e;cases e
    |some n=>
     simp only[L]at e;cases b:oP (D9 n) k (ah a)with
     |none=>rw[b]at e;cases e
     |some r=>
      rw[b]at e;have e:aK.v (aAg r) h=.v v g:=e;cases e;refine bu.quiet λm x=>?_;let⟨A,q,B⟩:=MS (Kg:=λi=>O (i*n,n)) (λi y C=>C) x (p m) b;refine⟨aAg A,.agg B,λw=>?_⟩;have o:(⟨a.cells.toList⟩:Array E)=a.cells:=rfl;rw[o]at q;simp only[ur,zn,M w,zY,dw c s,kS c L,q,yA]
   |_=>cases e
def Xb(a:List E)(b:0<I a):∀(n i:Nat),i<n*I a->(xI n a).flatten[i]?=a[i%I a]?
 |0,i,h=>by simp at h
 |n+1,i,h=>by
  rw[xj,uC];by_cases hi:i<I a
  .rw[uQ hi,Nat.mod_eq_of_lt hi]
  .rw[uM (by omega),Xb a b n (i-I a) (by rw[Nat.succ_mul]at h;omega),<-Nat.mod_eq_sub_mod (by omega)]
def Xa:I (xI n l).flatten=n*I l:=by simp
def alW(a:Array E)(n k:Nat)(d:k=n*a.size):(us k).map (λi=>a[i%a.size]!)=⟨jK a.toList n⟩:=by
 subst d;apply wY;simp only[Array.toList_map,Array.toList_range];rw[I3];apply List.ext_getElem?;intro i;by_cases b:i<n*a.size
 .have c:0<a.size:=by rcases Nat.eq_zero_or_pos a.size with h|h;·simp[h]at b
                      .exact h
  have e:i%a.size<a.size:=Nat.mod_lt _ c;rw[Xb a.toList (by simpa using c) n i (by simpa using b)];simp[b,e]
 .have:(xI n a.toList).flatten[i]?=U:=by rw[List.getElem?_eq_none_iff,Xa];simpa using b
  rw[this];simp;omega
def LR.replicate{m:M}{a b:List E}(h:LR m a b):∀n,LR m (jK a n) (jK b n)
 |0=>.Nl
 |n+1=>by show LR m (il a (jK a n)) (il b (jK b n));rw[qH,qH];exact h.append (h.replicate n)
def Nz(a:bM T P)(h:jV T t=O l):∃i x,T.cw.g t=O i/\P.info? t=O i/\l=ah x/\I l=i.size/\gg x=Y/\∀w,(vk t).run P w=.ok x w:=by
 unfold jV at h;cases b:T.cw.g t with
 |none=>rw[b]at h;cases h
 |some i=>
  rw[b]at h;simp only at h;cases c:OM i.zero with
  |none=>rw[c]at h;cases h
  |some x=>
   rw[c]at h;simp only at h;cases d:zV (dh (ah x)) i.size with
   |false=>rw[d]at h;cases h
   |true=>
    rw[d]at h;injection h with h;let⟨e,f⟩:=Yk c;refine⟨i,x,rfl,a.cw t i b,h.symm,by rw[<-h,<-fX];exact hJ d,f,λw=>by simp[vk,run_typeInfo (a.cw t i b),e]⟩
def Gx:v.cells.toList=ah v:=by cases v<;>rfl
end
section
variable{T:au}{P:zo}
def Xl(i:Eh h t n k (O l)=.v v g):
 Le h g/\∀f m o w j,Fin f g->Inv T f m o h w->LR m l j->∃d b,ct m d/\VR d v (zL (pO w.heap.size) n k)/\Inv T f d b g {w with heap:=w.heap.push (yP ⟨j⟩ t (0,0))}:=by
 have i:aK.v (zL (pO h.n) n k) (h.w (ad l t))=.v v g:=i;cases i;refine⟨lr _ _,λf m o w j F a p=>?_⟩;let⟨d,b,q,r,s⟩:=Xk a F p;exact⟨d,b,q,VR.slice (off:=0) r (zq rfl),s⟩
def arc(a:List E)(n:Nat)(h:n*I a=0):jK a n=[]:=by rw[I3];apply yT;rw[Xa];exact h
def aa7(b:bM T P)(g:jV T t=O l)(h:zI T t=O n)(a:Nat):
 ∃x:E,(∀w,(vk t).run P w=.ok x w)/\(∀m,LR m l l)/\(us (a*n)).map (λi=>x.cells[i%x.cells.size]!)=⟨jK l a⟩/\
  (a*n=0->(us (a*n)).map (λi=>(#[]:Array E)[i%(#[]:Array E).size]!)=⟨jK l a⟩):=by
 let⟨i,x,j,p,q3,q4,k,o⟩:=Nz b g;let⟨q,d,_,r⟩:=aa5 b h;rw[j]at d;cases d;have hlen:I l=n:=by omega
 have e:x.cells.toList=l:=by rw[Gx,q3]
 have c:x.cells.size=n:=by rw[<-hlen,<-e];simp
 refine⟨x,o,λm=>?_,by rw[alW x.cells a (a*n) (by rw[c]),e],λf=>?_⟩
 .rw[q3];exact LR.Ct m (Xf k)
 .rw[arc l a (by rw[hlen];exact f),f];simp
def afq(c:bM T P){p:List (Nat×E)}{FI:Array (Nat×E)}
 (e:iQ T h j (T.u t) (O p)=.v v g):bu T P h v g (λm=>ED m p FI.toList) (vy t j FI):=by
 cases s:T.u t with
 |none=>rw[s]at e;cases e
 |some d=>
  rw[s]at e;cases d with
  |slice o=>
   have e:XA h o j p (zI T o) (jV T o)=.v v g:=e;cases q:zI T o with
   |none=>rw[q]at e;cases e
   |some n=>
    cases A:jV T o with
    |none=>rw[q,A]at e;cases e
    |some a=>
     rw[q,A]at e;have e:cond (ze (z7 j n) 16777216) (Eh h o j j (oP (D9 n) p (jK a j))) .f=.v v g:=e;cases B:ze (z7 j n) 16777216 with
     |false=>rw[B]at e;cases e
     |true=>
      rw[B]at e;have N:j*n<=16777216:=fC B;have e:Eh h o j j (oP (D9 n) p (jK a j))=.v v g:=e;cases C:oP (D9 n) p (jK a j)with
      |none=>rw[C]at e;cases e
      |some r=>
       rw[C]at e;let⟨l,k⟩:=Xl (T:=T) e;refine⟨l,λQ m R w F b x=>?_⟩;let⟨x0,S,L,V,W⟩:=aa7 c A q j;let⟨X,u,k2⟩:=MS (Kg:=λi=>O (i*n,n)) (λi y hy=>hy) x ((L m).replicate j) C;let⟨m',M,j1,j2,j3⟩:=k Q m R w X F b k2;refine⟨_,m',M,_,?_,j1,j2,j3⟩;have f:¬j*n>2^24:=by omega
       by_cases h0:j*n=0
       .rw[<-W h0]at u;simp only[vy,zn,dw c s,zY,kS c q,if_neg f,if_pos h0,u,D4,yA]
       .rw[<-V]at u;simp only[vy,zn,dw c s,zY,kS c q,if_neg f,if_neg h0,S,u,D4,yA]
  |_=>cases e
def wrap64(h:n<=65536):zx.wrap (n:Int)=n:=by simp[IntKind.wrap,xJ,y9];omega
def aft(o:bM T P){l' c' a:E}(e:A7 T h (T.u t) (O N) (O v)=.v a g):
 bu T P h a g (λm=>VR m N l'/\VR m v c') (uE t l' c'):=by
 cases u:T.u t with
 |none=>rw[u]at e;cases e
 |some d=>
  rw[u]at e;unfold A7 at e;split at e
  .rename_i q ki p kj n h1 h2 h3;cases h1;cases h2;cases h3;cases A:bytesOf T q with
   |none=>rw[A]at e;cases e
   |some b=>
    rw[A]at e;have e:GA h q p n b (jV T q)=.v a g:=e;cases B:jV T q with
    |none=>rw[B]at e;cases e
    |some f=>
     rw[B]at e;have e:cond (cond (ze p n) (cond (ze n 65536) (ze b 65536) G) G) (Eh h q p n (O (jK f n))) .f=.v a g:=e;cases s:ze p n with
     |false=>rw[s]at e;cases e
     |true=>
      cases y:ze n 65536 with
      |false=>rw[s,y]at e;cases e
      |true=>
       cases C:ze b 65536 with
       |false=>rw[s,y,C]at e;cases e
       |true=>
        rw[s,y,C]at e;have e:Eh h q p n (O (jK f n))=.v a g:=e;have n1:=fC s;have n2:=fC y;have n3:=fC C;let⟨lh,k⟩:=Xl (T:=T) e;refine⟨lh,λΓ m hD w F j x=>?_⟩;let⟨x1,x2⟩:=x;cases x1;cases x2;let⟨i,Q,R⟩:=Sp A rfl;injection R with R;have S:=o.cw q i Q;have r:zI T q=O i.size:=by unfold zI;rw[Q];rfl
        let⟨x0,y1,L,y2,y3⟩:=aa7 o B r n;let⟨m',M,j1,j2,j3⟩:=k Γ m hD w (jK f n) F j ((L m).replicate n);refine⟨_,m',M,_,?_,j1,j2,j3⟩;have V:zx.wrap (yj p)=(p:Int):=wrap64 (by omega);have W:zx.wrap (yj n)=(n:Int):=wrap64 (by omega);have X:i.bytes*n<=65536*65536:=Nat.mul_le_mul (by omega) n2
        have t1:(yF ((n:Int)<0)||decide ((i.bytes:Int)*(n:Int)>2^48))=G:=by
         have:(i.bytes:Int)*(n:Int)=((i.bytes*n:Nat):Int):=by simp
         rw[this];simp;omega
        have t2:yF ((p:Int)<0)=G:=by simp
        have t3:yF ((p:Int)>(n:Int))=G:=by simp;omega
        by_cases h0:n*i.size=0
        .simp only[uE,zn,dw o u,zY,Go.asInt,uI,yA,run_typeInfo S,V,W,t1,t2,t3,Bool.or_false,y8,if_false,sQ,tx,kS o r,if_pos h0,y3 h0,D4]
        .simp only[uE,zn,dw o u,zY,Go.asInt,uI,yA,run_typeInfo S,V,W,t1,t2,t3,Bool.or_false,y8,if_false,sQ,tx,kS o r,if_neg h0,y1,y2,D4]
  .cases e
end
section
variable{T:au}{P:zo}
def Rp{c:Type}{p:zo}:∀{s:Sem c}{a:c},dT p s=O a->∀w,s.run p w=.ok a w
 |.pure b,a,h,w=>by cases h;rfl
 |.program k,a,h,w=>by have h:dT p (k p)=O a:=h;exact Rp (s:=k p) h w
 |.load ..,_,h,_=>by cases h
 |.store ..,_,h,_=>by cases h
 |.new ..,_,h,_=>by cases h
 |.shape ..,_,h,_=>by cases h
 |.freeze ..,_,h,_=>by cases h
 |.frozen ..,_,h,_=>by cases h
 |.getObj ..,_,h,_=>by cases h
 |.setObj ..,_,h,_=>by cases h
 |.choose ..,_,h,_=>by cases h
 |.sys ..,_,h,_=>by cases h
 |.mark ..,_,h,_=>by cases h
 |.halt ..,_,h,_=>by cases h
def gu{r:aK}(e:cond b r .f=.v v h):b=Y/\r=.v v h:=by
 cases b with
 |true=>exact⟨rfl,e⟩
 |false=>cases e
def S6{r:aK}(e:bN .f r b=.v v h):b=Y/\r=.v v h:=by
 cases b with
 |true=>exact⟨rfl,e⟩
 |false=>cases e
def iG{c:Bool}(e:cond b c G=Y):b=Y/\c=Y:=by
 cases b with
 |true=>exact⟨rfl,e⟩
 |false=>cases e
def Y5{o:Option E}(e:jU h o=.v v g):o=O v/\g=h/\gg v=Y:=by
 cases o with
 |none=>cases e
 |some x=>
  have e:bN .f (aK.v x h) (gg x)=.v v g:=e;let⟨a,e⟩:=S6 e;injection e with b c;subst b;exact⟨rfl,c.symm,a⟩
def D5(a:bM T P){s s':Sem E}{X:M->Prop}(e:jU h (dT T.prog s)=.v v g)(c:∀m,X m->s'=s):bu T P h v g X s':=by obtain⟨b,rfl,d⟩:=Y5 e;rw[a.prog]at b;exact bu.quiet λm x=>⟨v,VR.Ac m d,by rw[c m x];exact Rp b⟩
def VR.add{m:M}{b off :Nat}(h:VR m (zM (O ⟨b,off,U⟩)) v):∃x:vL,v=zM (O x)/\VR m (zM (O ((⟨b,off,U⟩:vL).add n))) (zM (O (x.add n))):=by
 cases h with
 |ptr a=>
  refine⟨_,rfl,?_⟩;rw[kT,kT,yp];exact .ptr a
def VR.addr{m:M}{a:vL}(h:VR m (zM (O a)) v):a.spot=U:=by cases h;rfl
def Yp{f:E->List E}:∀{es:List E}{j:Nat}{e:E},es[j]?=O e->es.flatMap f=(es.take j).flatMap f++(f e++(es.drop (j+1)).flatMap f)
 |[],j,e,h=>by simp at h
 |x::es,0,e,h=>by simp at h;subst h;simp
 |x::es,j+1,e,h=>by have:=Yp (f:=f) (es:=es) (j:=j) (by simpa using h);simp[this]
def MI{f:E->List E}{sz:Nat}:∀{es:List E},(∀e∈es,I (f e)=sz)->I (es.flatMap f)=I es*sz
 |[],_=>by simp
 |x::es,h=>by have:=MI (es:=es) (λe a=>h e (by simp[a]));simp only[vl,yD,this,h x (by simp),List.length_cons,xD,Nat.one_mul];omega
def Y6{m:M}{a pre post:List E}{c sz :Nat}{e:E}(o:m.im c=O (pre++(a.flatMap (·.cells.toList)++post)))(h:LR m l a)(i:∀e∈a,I e.cells.toList=sz)(r:l[j]?=O e)
 (p:Array w8)(k:FuncId)(q:Array E):I (ah e)=sz/\VR m (zU (vU 0 p k Y) ⟨[e]⟩ q) (zM (O ⟨c,I pre+j*sz,U⟩)):=by
 let⟨e',d,n⟩:=h.get r;have b:e'∈a:=List.mem_of_getElem? d;have g:j<I a:=(yf.1 d).1;refine⟨by rw[<-n.cells.length];exact i e' b,?_⟩
 have s:I (pre++(a.take j).flatMap (λx=>x.cells.toList))=I pre+j*sz:=by rw[yD,MI (f:=λx=>x.cells.toList) (sz:=sz) (λx t=>i x (vV t)),wV,Nat.min_eq_left (Nat.le_of_lt g)]
 have:=VR.jg (m:=m) (e:=e) (e':=e') (pre:=pre++(a.take j).flatMap (λx=>x.cells.toList)) (post:=(a.drop (j+1)).flatMap (λx=>x.cells.toList)++post) (f:=0) (c:=c) (p:=p) (k:=k) (q:=q) (by rw[o,Yp (f:=λx=>x.cells.toList) d];simp) n
 rw[s]at this;exact this
def afF(r:bM T P){a:E}(e:RF T h s i (O N)=.v a g):
 bu T P h a g (λm=>VR m N v) (vR s v i):=by
 have e:(match ptrTo N with
  |.data e o=>match fieldAt (T.u s) i with
   |some j=>MF h e o j.offset (zI T j.type)
   |none=>.f
  |_=>.f)=aK.v a g:=e
 cases t:ptrTo N with
 |no=>rw[t]at e;cases e
 |to b L=>rw[t]at e;cases e
 |data C o=>
  rw[t]at e;obtain⟨p,k,q,rfl⟩:=Yn t
  have e:(match fieldAt (T.u s) i with
   |some j=>MF h C o j.offset (zI T j.type)
   |none=>.f)=aK.v a g:=e
  cases l:fieldAt (T.u s) i with
  |none=>rw[l]at e;cases e
  |some j=>
   rw[l]at e;have e:MF h C o j.offset (zI T j.type)=.v a g:=e;cases u:zI T j.type with
   |none=>rw[u]at e;cases e
   |some n=>
    rw[u]at e;cases n with
    |zero=>cases e
    |succ n=>
     cases e;cases y:T.u s with
     |none=>rw[y]at l;cases l
     |some d=>
      rw[y]at l;cases d with
      |struct F=>
       have l:F.toList[i]?=O j:=l;refine bu.quiet λm M=>?_;cases M with
       |@jg _ S A post _ c _ _ _ Q R=>
        refine⟨zM (O ⟨c,I A+(o+j.offset),U⟩),.jg Q R,λw=>?_⟩;have B:F[i]?=O j:=by simpa using l
        simp[vR,dw r y,B,xz,Go.fieldPlace,kS r u,kT,yp]
      |_=>cases l
def afu(o:bM T P){x' c:E}(e:aX T h s i (O N)=.v c g):
 bu T P h c g (λm=>VR m N x') (vR s x' i):=by
 have e:dM (β:=au->H->zQ->Nat->Option E->aK) (λT h s i N=>RF T h s i N)
  (λa T h s i _=>dM (β:=au->H->vL->aK) (λ_ _ _=>.f) (λj T h a=>ME h a j.offset (zI T j.type)) (fieldAt (T.u s) i) T h a)
  (Am.asAddr N) T h s i (O N)=.v c g:=e
 cases p:Am.asAddr N with
 |none=>rw[p]at e;exact afF o e
 |some a=>
  rw[p]at e
  have B:N=zM (O a):=by
   cases N with
   |pointer y=>have p:y=O a:=p;rw[p]
   |_=>cases p
  subst B;have e:dM (β:=au->H->vL->aK) (λ_ _ _=>.f) (λj T h a=>ME h a j.offset (zI T j.type)) (fieldAt (T.u s) i) T h a=.v c g:=e;cases l:fieldAt (T.u s) i with
  |none=>rw[l]at e;cases e
  |some j=>
   rw[l]at e;have e:ME h a j.offset (zI T j.type)=.v c g:=e;cases q:zI T j.type with
   |none=>rw[q]at e;cases e
   |some n=>
    rw[q]at e;cases n with
    |zero=>cases e
    |succ n=>
     cases e;cases r:T.u s with
     |none=>rw[r]at l;cases l
     |some d=>
      rw[r]at l;cases d with
      |struct v=>
       have l:v.toList[i]?=O j:=l;refine bu.quiet λm A=>?_;let⟨b,off,C⟩:=a;have:=A.addr;have t:C=U:=this;subst t;obtain⟨y,rfl,k⟩:=A.add (n:=j.offset);refine⟨_,k,λw=>?_⟩;have u:v[i]?=O j:=by simpa using l
       simp[vR,dw o r,u,xz,Go.fieldPlace,kS o q]
      |_=>cases l
def af4(b:bM T P){x' a:E}(e:G6 T h n (T.u t) (O N)=.v a g):
 bu T P h a g (λm=>VR m N x') (Instr.field t x' n):=by
 cases c:T.u t with
 |none=>rw[c]at e;cases e
 |some d=>
  rw[c]at e;unfold G6 at e;split at e
  .rename_i j k o p;cases o;cases p;split at e
   .rename_i q r;obtain⟨s,rfl⟩:=Bg e;refine bu.quiet λm u=>?_;let⟨l⟩:=k;cases u with
    |agg v=>
     let⟨y,A,B⟩:=Yl b s v;have i:j[n]?=O q:=by simpa using r
     exact⟨y,A,λw=>by simp[Instr.field,dw b c,i,asAgg,B]⟩
   .cases e
  .cases e
def VR.lk{m:M}{off :Nat}(h:VR m (zL (O ⟨n,off,U⟩) k i) v):
 (∃d c,m n=O d/\CS d off i c/\v=zL (O ⟨d.aH,d.sh+off,U⟩) k c)\/(k=0/\i=0/\∃d a,m n=O d/\v=zL (O a) 0 0):=by
 cases h with
 |slice e f=>exact zq ⟨_,_,e,f,rfl⟩
 |empty e=>exact zt ⟨rfl,rfl,_,_,e,rfl⟩
def afv(j:bM T P){x' i i' f:E}(e:dI T h (T.u t) (O N) (O i)=.v f g):
 bu T P h f g (λm=>VR m N x'/\VR m i i') (vS t x' i'):=by
 cases F:T.u t with
 |none=>rw[F]at e;cases e
 |some d=>
  rw[F]at e;unfold dI at e;split at e
  .rename_i L a l cap k n M Q R;cases M;cases Q;cases R;cases o:zI T L with
   |none=>rw[o]at e;cases e
   |some B=>
    rw[o]at e;let⟨S,e⟩:=gu e;cases e;have V:=fC S;refine bu.quiet λm W=>?_;let⟨C,v⟩:=W;cases v
    cases C with
     |@slice b s _ _ X pl hm hc=>
      refine⟨zM (O ((⟨pl.aH,pl.sh+s,U⟩:vL).add (n*B))),by rw[kT,kT,yp];exact .ptr hm,λw=>?_⟩;have u:(0:Int)<=yj n/\yj n<(l:Int):=⟨by simp,by simp;omega⟩;simp only[vS,uI,zn,yA,zY,dw j F,if_pos u,kS j o];simp
     |empty hm=>omega
  .rename_i l L a k n M Q R;cases M;cases Q;cases R;cases o:zI T L with
   |none=>rw[o]at e;cases e
   |some B=>
    rw[o]at e;let⟨S,e⟩:=gu e;cases e;have V:=fC S;refine bu.quiet λm W=>?_;let⟨C,v⟩:=W;cases v;let⟨b,s,sp⟩:=a;have AV:sp=U:=C.addr;subst AV;obtain⟨y,rfl,kk⟩:=C.add (n:=n*B);refine⟨_,kk,λw=>?_⟩;have u:(0:Int)<=yj n/\yj n<(l:Int):=⟨by simp,by simp;omega⟩;simp only[vS,uI,zn,yA,zY,dw j F,xz,if_pos u,kS j o];simp
  .
   rename_i L s p l es q k n M Q R;cases M;cases Q;cases R;cases o:zI T L with
   |none=>rw[o]at e;cases e
   |some B=>
    rw[o]at e;let⟨S,e⟩:=gu (r:=Je h B es[zl s n]?) e;have V:=fC S;cases A:es[zl s n]? with
    |none=>rw[A]at e;cases e
    |some el'=>
     rw[A]at e;let⟨hc,e⟩:=gu (r:=aK.v (ar el' 0) h) e;have hc:=hJ hc;rw[fX]at hc;cases e;refine bu.quiet λm W=>?_;let⟨C,v⟩:=W;cases v;have u:(0:Int)<=yj n/\yj n<(l:Int):=⟨by simp,by simp;omega⟩;cases C with
     |@data _ eS _ pre post _ _ X c sz0 _ v h eU hl nO hk=>
      let⟨k1,k2⟩:=Y6 v h eU A #[] 0 #[];have:sz0=B:=by omega
      subst this;refine⟨_,k2,λw=>?_⟩;simp only[vS,uI,zn,yA,zY,dw j F,if_pos u,kS j o,kT];simp[yp];exact(xD _ _ _).symm
     |gi _ _=>omega
  .cases e
def af5(b:bM T P){x' i i' a:E}(e:indexOf T h t (T.u t) (O N) (O i)=.v a g):
 bu T P h a g (λm=>VR m N x'/\VR m i i') (Instr.index t x' i'):=by
 cases c:T.u t with
 |none=>rw[c]at e;cases e
 |some d=>
  rw[c]at e;unfold indexOf at e;split at e
  .rename_i s k n y f j;cases f;cases j;exact D5 b e (λm o=>by let⟨p,q⟩:=o;cases p;cases q;rfl)
  .rename_i r A B k n y f j;cases y;cases f;cases j;cases u:zI T A with
   |none=>rw[u]at e;cases e
   |some V=>
    rw[u]at e;let⟨C,e⟩:=gu e;obtain⟨F,rfl⟩:=Bg e;have L:=fC C;refine bu.quiet λm o=>?_;let⟨p,q⟩:=o;cases q;let⟨l⟩:=B;cases p with
    |agg M=>
     let⟨Q,R,S⟩:=Yl b F M;refine⟨Q,R,λw=>?_⟩;have v:(0:Int)<=yj n/\yj n<(r:Int):=⟨by simp,by simp;omega⟩;simp only[Instr.index,uI,zn,yA,zY,dw b c,if_pos v,kS b u];simpa using S w
  .cases e
end
section
variable{T:au}{P:zo}
def Y7{k:yq}(e:Am.asInt v=.yes k c):v=yV k c:=by
 cases v with
 |int d f=>injection e with a b;subst a;subst b;rfl
 |_=>cases e
def Xi{d:vJ}{x y:zh}{k f:yq}:(xR d t x y (yV k c) (yV f e)).run P W=.ok () W:=by cases d<;>simp[xR]
def XF{f:vJ}{k:yq}(d:Kd f k c e=O v)(t:zQ)(w:zu):
 (wz f t (yV k c) (yV k e)).run P w=.ok v w/\gg v=Y:=by
 cases f<;>first
  |(cases d;done)
  |(cases d;exact⟨by simp[wz,Op.intArith,Op.intCmp],rfl⟩)
def agm(n:bM T P){f:vJ}{x y:zh}{k o:yq}(d:Ke T h f t k o c e=.v v g){X:M->Prop}:
 bu T P h v g X (do xR f t x y (yV k c) (yV o e);wz f t (yV k c) (yV o e)):=by
 let⟨i,p⟩:=S6 d;have q:=of_decide_eq_true i;clear i d;subst q;have d:=p;cases j:Kd f k c e with
 |some u=>
  rw[j]at d;have d:aK.v u h=.v v g:=d;injection d with l r;subst l;subst r
  exact bu.quiet λm _=>⟨u,VR.Ac m (XF (P:=P) j t default).2,λw=>by simp only[zn,Xi,zY,(XF (P:=P) j t w).1]⟩
 |none=>
  rw[j]at d;have d:jU h (dT T.prog (wz f t (yV k c) (yV k e)))=.v v g:=d;obtain⟨l,rfl,s⟩:=Y5 d;rw[n.prog]at l
  exact bu.quiet λm _=>⟨v,VR.Ac m s,λw=>by simp only[zn,Xi,zY,Rp l w]⟩
def Xq(g:bM T P){c f:E}{r:Bool}(e:JX T t v N=O r){m:M}(l:VR m v c)(s:VR m N f)(w:zu)(i:vJ)(x y:zh):
 (xR i t x y c f).run P w=.ok () w/\(wz .eql t c f).run P w=.ok (zP r) w/\(wz .neq t c f).run P w=.ok (zP !r) w:=by
 have o:(∀d,(vB (d+1) t c f).run P w=.ok r w)/\(xR i t x y c f).run P w=.ok () w/\wz .eql t c f=(do sP (zP (<-Op.equal t c f)))/\wz .neq t c f=(do sP (zP !(<-Op.equal t c f))):=by
  unfold JX at e;split at e;case h_12=>cases e
  case h_11=>
   rename_i H L Q p R u S V j;cases s;cases l with
   |data W h X hl hc q=>
    cases p with
    |zero=>rcases q with rfl|rfl<;>cases e
    |succ n=>
     cases e;exact⟨λd=>by simp only[vB,zn,dw g j,zY,yA],by cases i<;>simp[xR],rfl,rfl⟩
   |gi l q=>
    rcases q with rfl|rfl|rfl
    .cases e
    .cases e
    .cases e;rename_i v;cases v<;>exact⟨λd=>by simp only[vB,zn,dw g j,zY,yA,tJ,tL],by cases i<;>simp[xR],rfl,rfl⟩
  all_goals
   rename_i j;cases e
   cases l<;>cases s<;>
    exact⟨λd=>by simp only[vB,zn,dw g j,zY,yA,tJ,tL],by cases i<;>simp[xR],rfl,rfl⟩
 let⟨A,B,C,F⟩:=o;have k:(Op.equal t c f).run P w=.ok r w:=A 9999;exact⟨B,by rw[C];simp only[zn,k,zY,yA],by rw[F];simp only[zn,k,zY,yA]⟩
def Xr(d:bM T P){f:vJ}{x y:zh}{k l c:E}(e:G5 T h f t x y N v=.v c g):
 bu T P h c g (λm=>VR m N k/\VR m v l) (do xR f t x y k l;wz f t k l):=by
 unfold G5 at e;cases n:cond (ground N) (ground v) G with
 |true=>
  rw[n]at e;let⟨o,p⟩:=iG n;have e:jU h (dT T.prog (do xR f t x y N v;wz f t N v))=.v c g:=e
  exact D5 d e (λm⟨i,j⟩=>by rw[i.ground o,j.ground p])
 |false=>
  rw[n]at e;have e:abV T h f t x y N v (cond (gg N) (gg v) G) (JX T t N v)=.v c g:=e;cases hn:JX T t N v with
  |some r=>
   rw[hn]at e;cases f with
   |eql=>
    cases e
    exact bu.quiet λm⟨i,j⟩=>⟨_,.bool _,λw=>by let⟨q,s,u⟩:=Xq d hn i j w .eql x y;simp only[zn,q,s,zY]⟩
   |neq=>
    cases e
    exact bu.quiet λm⟨i,j⟩=>⟨_,.bool _,λw=>by let⟨q,s,u⟩:=Xq d hn i j w .neq x y;simp only[zn,q,u,zY]⟩
   |_=>cases e
  |none=>
   rw[hn]at e;have e:cond (cond (gg N) (gg v) G) (jU h (dT T.prog (do xR f t x y N v;wz f t N v))) .f=.v c g:=e
   let⟨A,e⟩:=gu e;let⟨o,p⟩:=iG A;exact D5 d e (λm⟨i,j⟩=>by rw[i.gg o,j.gg p])
def ahM(j:bM T P){f:vJ}{x y:zh}{a' b' c:E}(e:UP T h f t x y N v=.v c g):
 bu T P h c g (λm=>VR m N a'/\VR m v b') (do xR f t x y a' b';wz f t a' b'):=by
 unfold UP at e;cases p:Am.asInt N with
 |no=>rw[p]at e;exact Xr j e
 |yes k n=>
  rw[p]at e;cases q:Am.asInt v with
  |no=>
   have e:ON (β:=au->H->vJ->zQ->zh->zh->E->E->yq->Int->aK) (λT h f t x y N v _ _=>G5 T h f t x y N v)
    (λo i T h f t _ _ _ _ k n=>Ke T h f t k o n i) (Am.asInt v) T h f t x y N v k n=.v c g:=e
   rw[q]at e;exact Xr j e
  |yes o i=>
   have e:ON (β:=au->H->vJ->zQ->zh->zh->E->E->yq->Int->aK) (λT h f t x y N v _ _=>G5 T h f t x y N v)
    (λo i T h f t _ _ _ _ k n=>Ke T h f t k o n i) (Am.asInt v) T h f t x y N v k n=.v c g:=e
   rw[q]at e;have e:Ke T h f t k o n i=.v c g:=e;have r:=Y7 p;have s:=Y7 q;subst r;subst s;let⟨l,k⟩:=agm (P:=P) j e (x:=x) (y:=y) (X:=λ_=>True);refine⟨l,λu m A w F d⟨B,C⟩=>?_⟩;cases B;cases C;exact k u m A w F d trivial
def ahN(c:bM T P){d:UnOp}{a' b:E}(e:K7 T h d (O N)=.v b g):bu T P h b g (λm=>VR m N a') (Op.unary d a'):=by let⟨f,e⟩:=gu (r:=jU h (dT T.prog (Op.unary d N))) e;exact D5 c e (λm x=>by rw[x.ground f])
def afG(c:bM T P){a' b:E}(e:M8 T h s t (O N)=.v b g):bu T P h b g (λm=>VR m N a') (convert s t a'):=by let⟨f,e⟩:=gu (r:=jU h (dT T.prog (convert s t N))) e;exact D5 c e (λm x=>by rw[x.ground f])
def af6(b:bM T P){x' a:E}(e:Bi h t (T.u t) (O N)=.v a g):bu T P h a g (λm=>VR m N x') (tI t x'):=by
 cases c:T.u t with
 |none=>rw[c]at e;cases e
 |some d=>
  rw[c]at e
  cases d<;>first
   |(cases e;done)
   |(cases e
     exact bu.quiet λm f=>⟨_,.iface t f,λw=>by simp[tI,dw b c]⟩)
def afH{x' a:E}(e:Jz h i (O N)=.v a g):bu T P h a g (λm=>VR m N x') (sj x' i):=by
 have e:dM (β:=H->Nat->aK) (λ_ _=>.f) (λb h i=>gk h (Fc i b.toList)) (Am.aaZ N) h i=.v a g:=e;cases N with
 |tuple b=>
  obtain⟨l⟩:=b;have e:gk h (Fc i l)=.v a g:=e;obtain⟨c,rfl⟩:=Bg e;rw[J0]at c;refine bu.quiet λm d=>?_;cases d with
  |tuple f=>
   let⟨j,k,n⟩:=f.get c;exact⟨j,n,λw=>by simp[sj,k]⟩
 |_=>cases e
def agn{x y:zh}{c' a:E}{ρ:zh->E}(e:Kb r h x y (O N)=.v a g):
 bu T P h a g (λm=>VR m N c'/\(∀u,aA r x=O u->VR m u (ρ x))/\(∀u,aA r y=O u->VR m u (ρ y))) (do sP (if<-si c' then ρ x else ρ y)):=by
 cases N with
 |bool b=>
  cases b with
  |true=>
   have e:gk h (aA r x)=.v a g:=e;obtain⟨d,rfl⟩:=Bg e;exact bu.quiet λm⟨f,i,j⟩=>by cases f;exact⟨_,i a d,λw=>by simp[si]⟩
  |false=>
   have e:gk h (aA r y)=.v a g:=e;obtain⟨d,rfl⟩:=Bg e;exact bu.quiet λm⟨f,i,j⟩=>by cases f;exact⟨_,j a d,λw=>by simp[si]⟩
 |_=>cases e
end
section
variable{T:au}{P:zo}
inductive BG(m:M):Option E->Option E->Prop
 |none:BG m U U
 |some {v v':E} (h:VR m v v'):BG m (O v) (O v')
def QV(e:fW m (O v)=O n):∃k,v=yV k (yj n):=by
 cases v with
 |int k i=>
  cases i with
  |ofNat j=>injection e with e;subst e;exact⟨k,rfl⟩
  |negSucc j=>cases e
 |_=>cases e
def run_sliceBound{m:M}(e:fW i (O v)=O n)(a:VR m v N)(b:n<=j)(c:BoundsCode)(w:zu):(th N j c).run P w=.ok n w:=by obtain⟨k,rfl⟩:=QV e;cases a;have:(0:Int)<=yj n/\yj n<=(j:Int):=⟨by simp,by simp;omega⟩;simp only[th,uI,zn,yA,zY,if_pos this];simp
def A5(isSlice:Bool){m:M}{cap:Nat}{v h o b c d:Option E}(s:BG m v b)(x:BG m h c)(A:BG m o d)(a:fW 0 v=O k)
 (f:fW n h=O i)(t:fW cap o=O j)(y:j<=cap)(g:i<=j)(u:k<=i)(B:h=U->o=U)(w:zu):
 (xA isSlice n cap b c d).run P w=.ok (k,i,j) w:=by
 cases A with
 |none=>
  cases t;cases x with
  |none=>
   cases f;cases s with
   |none=>injection a with a;subst a;simp[xA]
   |some r=>simp[xA,run_sliceBound a r u]
  |some q=>
   cases s with
   |none=>injection a with a;subst a;simp[xA,run_sliceBound f q g]
   |some r=>simp[xA,run_sliceBound f q g,run_sliceBound a r u]
 |some p=>
  cases x with
  |none=>cases B rfl
  |some q=>
   cases s with
   |none=>injection a with a;subst a;simp[xA,run_sliceBound t p y,run_sliceBound f q g]
   |some r=>simp[xA,run_sliceBound t p y,run_sliceBound f q g,run_sliceBound a r u]
def CS.le{a:Pl}{cap :Nat}(h:CS a n cap k)(b:0<a.sz):cap<=k:=by
 rcases h with h|⟨c,d⟩
 .omega
 .have:cap*a.sz<=k*a.sz:=by omega
  exact Nat.le_of_mul_le_mul_right this b
def CS.tight{a:Pl}(h:CS a n k m)(b:0<a.sz)(c:a.ext=0):m=k:=by
 rcases h with h|⟨d,e⟩
 .exact h
 .have:m*a.sz=k*a.sz:=by omega
  exact Nat.eq_of_mul_eq_mul_right b this
def I7{a:vL}{f i j m:Option Nat}(e:GX h a k f i j m=.v v g):
 ∃n l d b,f=O n/\i=O l/\j=O d/\m=O b/\b<=k/\d<=b/\l<=d/\g=h/\v=zL (O (cond (zV b l) a (a.add (l*n)))) (d-l) (b-l):=by
 unfold GX at e;split at e
 .rename_i n l d b;let⟨c,e⟩:=gu e;let⟨c1,c⟩:=iG c;let⟨o,c3⟩:=iG c;injection e with p q;exact⟨n,l,d,b,rfl,rfl,rfl,rfl,fC c1,fC o,fC c3,q.symm,p.symm⟩
 .cases e
def Xs{f j o p:Option Nat}(e:Jx h k m i f j o p=.v v g):
 ∃n l a d,f=O n/\j=O l/\o=O a/\p=O d/\d<=i/\a<=d/\l<=a/\g=h/\v=zL (O ⟨k,m+l*n,U⟩) (a-l) (d-l):=by
 unfold Jx at e;split at e
 .rename_i n l a d;let⟨c,e⟩:=gu e;let⟨c1,c⟩:=iG c;let⟨q,c3⟩:=iG c;injection e with r s;exact⟨n,l,a,d,rfl,rfl,rfl,rfl,fC c1,fC q,fC c3,s.symm,r.symm⟩
 .cases e
def Xt{a b:Option Nat}(h:Ns a b=Y):∃n,a=O n/\b=O n:=by
 cases a with
 |none=>cases h
 |some x=>
  cases b with
  |none=>cases h
  |some y=>have:=hJ h;subst this;exact⟨x,rfl,rfl⟩
theorem aac{c:M}{l h f:Nat}(r:VR c (zL (O ⟨k,i,U⟩) j m) v)
 (s:∀g d,c k=O g->CS g i m d->v=zL (O ⟨g.aH,g.sh+i,U⟩) j d->m<=d)
 (w:f<=m)(x:h<=f)(y:l<=h):∃q d,v=zL (O q) j d/\m<=d/\
   VR c (zL (O (cond (zV f l) ⟨k,i,U⟩ ((⟨k,i,U⟩:vL).add (l*n)))) (h-l) (f-l)) (zL (O (if f=l then q else q.add (l*n))) (h-l) (f-l)):=by
 rcases r.lk with⟨g,d,o,p,rfl⟩|⟨t,u,g,a,o,rfl⟩
 .refine⟨_,d,rfl,s g d o p rfl,?_⟩
  by_cases e:f=l
  .rw[if_pos e,ek e,cond_true];exact .slice o (zq rfl)
  .rw[if_neg e,jh e,cond_false,kT,kT,yp];exact .slice o (zq rfl)
 .subst u;subst t
  refine⟨a,0,rfl,zR _,?_⟩
  have e:f=l:=by omega
  rw[if_pos e,ek e,cond_true,show h-l=0 from by omega,show f-l=0 from by omega]
  exact .empty o
theorem DU(a:bM T P){b c d:Option E}{a':Option vL}{cap :Nat}(e:T.u t=O (zf s))(f:zI T s=O n)
 (g:∀w,(xA Y k cap b c d).run P w=.ok (m,i,j) w)(w:zu):
 (wv t (zL a' k cap) b c d).run P w=.ok (zL (if j=m then a' else a'.map (·.add (m*n))) (i-m) (j-m)) w:=by
 simp only[wv,Instr.slice,zn,dw a e,zY,g,kS a f,yA]
def af7(A:bM T P){lo hi C PP Iy PQ:Option E}{x' i:E}(e:CF T h lo hi C (T.u t) N=.v i g)(B:hi=U->C=U):
 bu T P h i g (λm=>VR m N x'/\BG m lo PP/\BG m hi Iy/\BG m C PQ) (wv t x' PP Iy PQ):=by
 cases hu:T.u t with
 |none=>rw[hu]at e;cases e
 |some d=>
  rw[hu]at e;unfold CF at e;split at e
  .
   rename_i s h1;cases h1;cases C with
   |some y=>cases e
   |none=>
    have e:Si h s (fW 0 lo) (fW s.size hi)=.v i g:=e;unfold Si at e;split at e
    .rename_i l en hl he;let⟨c,e⟩:=gu e;let⟨c1,c2⟩:=iG c;cases e;refine bu.quiet λm⟨xx,xl,xh,xm⟩=>?_;cases xx;cases xm;refine⟨_,.string _,λw=>?_⟩;have hb:=A5 (P:=P) G (cap:=s.size) xl xh .none hl he rfl (zR _) (fC c1) (fC c2) B w;simp only[wv,Instr.slice,zn,dw A hu,zY,tH,y8,if_false,hb,yA]
    .cases e
  .
   rename_i el b off len cap h1;cases h1
   have hle:g=h.az b/\∃c e0 f,h.g b=O (K c e0 f):=by
    cases hg:h.g b with
    |none=>rw[hg]at e;cases e
    |some o=>
     rw[hg]at e;cases o with
     |cells c e0 f=>
      refine⟨?_,c,e0,f,rfl⟩;cases f with
      |false=>let⟨_,_,_,_,_,_,_,_,_,_,_,q,_⟩:=I7 e;exact q
      |true=>
       cases C with
       |none=>let⟨_,e⟩:=gu (r:=Jx (h.az b) b off cap (zI T el) (fW 0 lo) (fW len hi) (O cap)) e;let⟨_,_,_,_,_,_,_,_,_,_,_,q,_⟩:=Xs e;exact q
       |some y=>let⟨_,_,_,_,_,_,_,_,_,_,_,q,_⟩:=I7 e;exact q
     |_=>cases e
   obtain⟨rfl,c,e0,f,hg⟩:=hle;rw[hg]at e;refine⟨jP h b,λΓ m hD w F j⟨xx,xl,xh,xm⟩=>?_⟩;have ht:Γ.cX b:=(ma h b).elim (λN=>(F.hi b N).1) (F.rd b)
   suffices H:∃v',VR m i v'/\(wv t x' PP Iy PQ).run P w=.ok v' w by let⟨v',k1,k2⟩:=H;exact⟨v',m,hD,w,k2,.refl _,k1,j.az b⟩
   have M:∀v,m b=O v->∃c' Q post e',Row T m v w c e0 f c' Q post e':=λv S=>j.row S hg ht
   have adx:∀v cd,m b=O v->CS v off cap cd->x'=zL (O ⟨v.aH,v.sh+off,U⟩) len cd->cap<=cd:=λv cd S hc _=>by let⟨_,_,_,_,R⟩:=M v S;exact hc.le R.pos
   cases f with
   |false=>
    obtain⟨n,l,en,L,q1,q2,q3,q4,q5,q6,q7,_,rfl⟩:=I7 e;obtain⟨a',cd,rfl,hcc,k⟩:=aac (n:=n) xx adx q5 q6 q7
    have V:cd=cap:=by
     rcases xx.lk with⟨v,aIi,S,hc,hq⟩|⟨_,hz,_,_,_,hq⟩
     .cases hq;let⟨_,_,_,_,R⟩:=M v S;exact hc.tight R.pos (R.tight rfl)
     .injection hq with _ _ hq;omega
    subst V;refine⟨_,k,?_⟩;rw[DU A hu q1 (λw=>A5 Y xl xh xm q2 q3 q4 q5 q6 q7 B w) w];by_cases e:L=l
    .simp[e]
    .simp[e]
   |true=>
    cases C with
    |some y=>
     obtain⟨n,l,en,L,q1,q2,q3,q4,q5,q6,q7,_,rfl⟩:=I7 e;obtain⟨a',cd,rfl,hcc,k⟩:=aac (n:=n) xx adx q5 q6 q7;refine⟨_,k,?_⟩;have q4':fW cd (O y)=O L:=by obtain⟨kk,rfl⟩:=QV q4;rfl
     rw[DU A hu q1 (λw=>A5 Y xl xh xm q2 q3 q4' (by omega) q6 q7 B w) w];by_cases e:L=l
     .simp[e]
     .simp[e]
    |none=>
     let⟨atq,e⟩:=gu (r:=Jx (h.az b) b off cap (zI T el) (fW 0 lo) (fW len hi) (O cap)) e;obtain⟨n,l,en,L,q1,q2,q3,q4,q5,q6,q7,_,rfl⟩:=Xs e;cases q4;let⟨n2,r1,r2⟩:=Xt atq;rw[q1]at r2;cases r2;cases xm;rcases xx.lk with⟨v,cd,S,hc,rfl⟩|⟨h4,h5,v,a,S,rfl⟩
     .let⟨_,_,_,_,R⟩:=M v S;have eU:v.sz=n:=by have:=R.sz rfl;rw[r1]at this;injection this with this;exact this.symm
      have oI:=hc.le R.pos;have u:=DU (P:=P) A (a':=O ⟨v.aH,v.sh+off,U⟩) hu q1 (λw=>A5 Y (cap:=cd) xl xh .none q2 q3 rfl (zR _) (by omega) q7 B w) w;by_cases e:cd=l
      .rw[if_pos e]at u;refine⟨_,?_,u⟩;rw[show en-l=0 from by omega,show cap-l=0 from by omega,show cd-l=0 from by omega];exact .empty S
      .rw[if_neg e]at u;refine⟨_,?_,u⟩;simp only[uA,kT,yp];refine .slice S ?_;rcases hc with hc|⟨B3,FJ⟩
       .left;omega
       .right;rw[eU]at*;have e1:(cap-l)*n+l*n=cap*n:=by rw[<-xD];congr 1;omega
        have e2:(cd-l)*n+l*n=cd*n:=by rw[<-xD];congr 1;omega
        omega
     .subst h5;subst h4;have u:=DU (P:=P) A (a':=O a) hu q1 (λw=>A5 Y (cap:=0) xl xh .none q2 q3 rfl (zR _) (by omega) q7 B w) w;have e:(0:Nat)=l:=by omega
      rw[if_pos e]at u;refine⟨_,?_,u⟩;rw[show en-l=0 from by omega,show 0-l=0 from by omega];exact .empty S
  .
   rename_i el off p len es fG h1;cases h1;unfold GN at e;split at e;case h_2=>cases e
   rename_i n l en L q1 q2 q3 q4;obtain⟨len,rfl⟩:∃k:Nat,k=len:=⟨len,rfl⟩;obtain⟨off,rfl⟩:∃k:Nat,k=off:=⟨off,rfl⟩;let⟨c,e⟩:=gu (r:=aK.v (cp es (zl off l) (en-l) (JP l (O L) C fG)) h) e;let⟨c1,c⟩:=iG c;let⟨c2,c⟩:=iG c;let⟨c3,c4⟩:=iG c;have c1:=fC c1;have c2:=fC c2;have c3:=fC c3;cases e
   have W:∀cd:Nat,len<=cd->(fG=[]\/fG=[yV zx (yj cd)]\/∃b,fG=[zP b])->∃X:Nat,fW cd C=O X/\L<=X/\X<=cd/\(C=U->X=cd)/\
    (JP l (O L) C fG=[]\/JP l (O L) C fG=[yV zx (yj (X-l))]):=by
    intro cd hc hk;cases C with
    |none=>
     injection q4 with q4;refine⟨cd,rfl,by omega,zR _,λ_=>rfl,?_⟩;rcases hk with rfl|rfl|⟨b,rfl⟩
     .exact zq rfl
     .exact zt rfl
     .exact zq rfl
    |some y=>
     obtain⟨k,rfl⟩:=QV q4;refine⟨L,rfl,zR _,by omega,(λh=>by cases h),?_⟩;exact zt rfl
   refine bu.quiet λm⟨xx,xl,xh,xm⟩=>?_;cases xx with
   |@data _ eS _ Q post _ _ cd cc sz _ hi h eU hl V hk=>
    let⟨X,r1,r2,r3,r4,r5⟩:=W cd V (hk.elim zq λh=>zt (zq h));have u:=λw=>DU (P:=P) A (a':=O ⟨cc,I Q+off*sz,U⟩) hu q1 (λw=>A5 Y xl xh xm q2 q3 r1 r3 (by omega) c3 B w) w;refine⟨_,?_,u⟩;by_cases hz:en-l=0
    .rw[hz];refine .gi (λh=>?_) (r5.elim zq λh=>zt (zq h));by_cases hq:X=l
     .rw[if_pos hq]at h;cases h
     .rw[if_neg hq]at h;cases h
    .have PS:X≠l:=by omega
     rw[if_neg PS]
     have Pj:(I Q+off*sz)+l*n=I Q+(zl off l)*sz:=by
      have e0:(zl off l)*sz=off*sz+l*sz:=xD _ _ _;rw[e0,yp];cases ph:zV l 0 with
      |true=>have:=hJ ph;subst this;simp
      |false=>
       rw[ph]at c4;cases PT:es[off]? with
       |none=>rw[PT]at c4;cases c4
       |some el'=>
        rw[PT]at c4;have c4:=hJ c4;rw[fX]at c4;let⟨k1,_⟩:=Y6 hi h eU PT #[] 0 #[];have:sz=n:=by omega
        rw[this]
     have key:=VR.data (m:=m) (off:=zl off l) (len:=en-l) (cd:=X-l) (fG:=JP l (O L) C fG) (p:= #[]) hi h eU (by have:zl off l=off+l:=rfl;omega) (by omega) r5;simp only[uA,kT,Pj];exact key
   |@gi _ _ _ cd _ a ha hk=>
    let⟨X,r1,r2,r3,r4,r5⟩:=W cd (ya _) (hk.elim zq λh=>zt (h.elim zq λh=>zt ⟨_,h⟩));have u:=λw=>DU (P:=P) A (a':=a) hu q1 (λw=>A5 Y xl xh xm q2 q3 r1 r3 (by omega) c3 B w) w;refine⟨_,?_,u⟩;have hz:en-l=0:=by omega
    rw[hz];refine .gi (λh=>?_) (r5.elim zq λh=>zt (zq h));by_cases hq:X=l
    .omega
    .rw[if_neg hq]at h;cases a with
     |none=>have:=ha rfl;omega
     |some a=>cases h
  .cases e
end
section
variable{T:au}{P:zo}
def Obj.calm(o:Obj):Prop:=∀c e f,o=yP c e f->f=(0,0)
def OR.calm{m:M}{pl:Pl}{o:ai}{a:Obj}(h:OR T m pl o a):Obj.calm a:=by intro c e f b;subst b;exact h.frozen
def XX{w:zu}{a:vL}{o:Obj}(b:w.heap[a.block]?=O o)(h:Obj.calm o):w.frozen? a=G:=by
 unfold wq;rw[b];cases o<;>simp
 case cells q e f=>have:=h q e f rfl;subst this;simp
def Cu(w:zu){o b:Obj}(f:w.heap[n]?=O o)(i:Obj.calm o)(k:Obj.calm b):
 ({w with heap:=w.heap.setIfInBounds n b}:zu).heap[n]?=O b/\(∀j,j≠n->({w with heap:=w.heap.setIfInBounds n b}:zu).heap[j]?=w.heap[j]?)/\
   ({w with heap:=w.heap.setIfInBounds n b}:zu).heap.size=w.heap.size/\jZ w {w with heap:=w.heap.setIfInBounds n b}:=by
 have d:n<w.heap.size:=(zd.1 f).1;have g:(w.heap.setIfInBounds n b)[n]?=O b:=by simp[d]
 have h:∀j,j≠n->(w.heap.setIfInBounds n b)[j]?=w.heap[j]?:=λj l=>by rw[wC (Ne.symm l)]
 refine⟨g,h,by simp,⟨λa=>?_,rfl,rfl,rfl⟩⟩;by_cases e:a.block=n
 .rw[XX (w:=w) (by rw[e];exact f) i,XX (w:={w with heap:=w.heap.setIfInBounds n b}) (by rw[e];exact g) k]
 .unfold wq;rw[h _ e]
def Obj.aa8:Obj->Bool
 |.cells ..=>Y
 |_=>G
def kL{o:Obj}(h:W.heap[n]?=O o)(a:Obj.aa8 o=G):(getObj n).run P W=.ok o W:=by cases o<;>first|(cases a;done)|simp[getObj,Sem.run,h]
def Cx{o a:Obj}(h:W.heap[n]?=O o)(b:Obj.aa8 o=G):(setObj n a).run P W=.ok () {W with heap:=W.heap.setIfInBounds n a}:=by cases o<;>first|(cases b;done)|simp[setObj,Sem.run,h]
def afI{r:Option zh}{ρ:zh->E}(e:Y0 h r=.v v g):bu T P h v g (λ_=>True) (sm t (r.map ρ)):=by
 cases r with
 |some x=>cases e
 |none=>
  cases e;refine⟨lr _ _,λj m k w F a _=>?_⟩;let⟨c,b,d,f,i⟩:=DY a (o':=.map #[] 0) (pl:=⟨w.heap.size,0,0,0,1⟩) F rfl (λc _ _=>.map .nil) (λ_ _ _ h=>by cases h);exact⟨.map (O w.heap.size),c,b,_,by simp[sm],d,.map f,i⟩
def MA{o:Option yU}{a:yU}(e:Ak o=O a):o=O a/\((∃k,a=.int k)\/a=.string\/a=.bool):=by
 unfold Ak at e;split at e
 .cases e;exact⟨rfl,zq ⟨_,rfl⟩⟩
 .cases e;exact⟨rfl,zt (zq rfl)⟩
 .cases e;exact⟨rfl,zt (zt rfl)⟩
 .cases e
def run_checkKey(b:bM T P){d:yU}(e:Ak (T.u t)=O d)(a:Bool)(v:E)(w:zu):(uJ a 10000 t v).run P w=.ok () w:=by
 let⟨f,g⟩:=MA e
 have c:∀n,(uJ a (n+1) t v).run P w=.ok () w:=λn=>by rcases g with⟨k,rfl⟩|rfl|rfl<;>simp[uJ,dw b f]
 exact c 9999
def ago{c:yU}(e:vT c v N=O Y):N=v/\∀n,wZ n N v=Y:=by
 unfold vT at e;split at e
 .rename_i k v f N;split at e
  .rename_i d;subst d;injection e with e;have:=eq_of_beq e;subst this;exact⟨rfl,λn=>by simp[wZ]⟩
  .cases e
 .injection e with e;have:=(tM _ _).1 e;subst this;exact⟨rfl,λn=>by simp only[wZ];exact(tM _ _).2 rfl⟩
 .injection e with e;have:=eq_of_beq e;subst this;exact⟨rfl,λn=>by simp[wZ]⟩
 .cases e
def QW{m:M}{c:yU}{k:E}:∀{d a:List yJ}{i:Nat},ER m d a->yn c k d i=O U->yn c k a i=O U
 |_,_,_,.nil,_=>rfl
 |_,_,i,.cons (k:=g) j l h,e=>by
  simp only[yn]at e⊢;cases f:vT c k g with
  |none=>rw[f]at e;cases e
  |some b=>
   rw[f]at e;cases b with
   |true=>cases e
   |false=>exact QW h e
def QX{m:M}{d:yU}{k:E}:∀{h a:List yJ}{i j:Nat}{v:E},ER m h a->yn d k h i=O (O (j,v))->
 ∃v',yn d k a i=O (O (j,v'))/\VR m v v'/\i<=j/\∃c,a[j-i]?=O c/\c.key=k/\∀n,wZ n c.key k=Y
 |_,_,_,_,_,.nil,e=>by cases e
 |_,_,i,j,v,.cons (k:=l) (v:=u) (v':=o) (n:=p) A q r,e=>by
  simp only[yn]at e⊢;cases f:vT d k l with
  |none=>rw[f]at e;cases e
  |some b=>
   rw[f]at e;cases b with
   |true=>
    injection e with e;injection e with e;cases e;let⟨s,t⟩:=ago f;exact⟨o,rfl,q,zR _,⟨l,o,p⟩,by simp,s,t⟩
   |false=>
    let⟨v',w,g,B,c,x,y⟩:=QX r e;refine⟨v',w,g,by omega,c,?_,y⟩;rw[show j-i=(j-(i+1))+1 from by omega];simpa using x
def ER.snoc{m:M}:∀{g d:List yJ}{k v h:E}{n:Nat},ER m g d->ground k=Y->VR m v h->ER m (g++[⟨k,v,n⟩]) (d++[⟨k,h,n⟩])
 |_,_,_,_,_,_,.nil,e,f=>.cons e f .nil
 |_,_,_,_,_,_,.cons a b c,e,f=>.cons a b (c.snoc e f)
def ER.modify{m:M}{k v f:E}(g:ground k=Y)(h:VR m v f):∀{j d:List yJ}(i:Nat),ER m j d->
 ER m (j.modify i λe=>{e with key:=k,val:=v}) (d.modify i λe=>{e with key:=k,val:=f})
 |_,_,_,.nil=>by simpa using ER.nil
 |_,_,0,.cons a b c=>by simpa using ER.cons g h c
 |_,_,i+1,.cons a b c=>by simpa using ER.cons a b (c.modify g h i)
def QK{m:M}{a:E}{f d:List yJ}{i:yU}(e:Nt h N b f (O i) (O a)=.v v g)(n:ER m f d)(o:gg a=Y):
 g=h/\∃r,yn i N d 0=O r/\∃p,VR m v p/\p=(let(x,c):=(match r with|some (_,u)=>(u,Y)|none=>(a,G));if b then xC #[x,zP c]else x):=by
 have e:Na h b a (yn i N f 0)=.v v g:=e;cases l:yn i N f 0 with
 |none=>rw[l]at e;cases e
 |some r=>
  rw[l]at e;cases r with
  |none=>
   cases e;refine⟨rfl,U,QW n l,_,?_,rfl⟩;cases b
   .exact VR.Ac m o
   .exact .tuple (.Cs (VR.Ac m o) (.Cs (.bool _) .Nl))
  |some x=>
   let⟨j,u⟩:=x;cases e;let⟨t,s,q,_⟩:=QX n l;refine⟨rfl,_,s,_,?_,rfl⟩;cases b
   .exact q
   .exact .tuple (.Cs q (.Cs (.bool _) .Nl))
def run_findKey(a:bM T P){b:yU}(d:T.u t=O b){c:List yJ}{r:Option (Nat×E)}(e:yn b v c 0=O r)(w:zu):
 (sk t v c).run P w=.ok r w:=by
 simp only[sk,zn,dw a d,zY,e,yA]
def afP(i:bM T P){x' k k' a:E}(e:Sl T h t b (O N) (O k)=.v a g):
 bu T P h a g (λm=>VR m N x'/\VR m k k') (vC t x' k' b):=by
 replace e:Sj T h k b (T.u t) N=.v a g:=e;cases p:T.u t with
 |none=>rw[p]at e;cases e
 |some d=>
  rw[p]at e;unfold Sj at e;split at e
  .rename_i A B L;cases L;let⟨Q,e⟩:=gu e;cases j:Ak (T.u A)with
   |none=>rw[j]at e;cases e
   |some kd=>
    cases l:zero T B with
    |none=>rw[j,l]at e;cases e
    |some f=>
     rw[j,l]at e;let⟨C,R⟩:=CH i l;obtain⟨rfl,_⟩:=QK (m:=M.empty) e .nil C;refine bu.quiet λm⟨S,V⟩=>?_;obtain⟨_,r,W,v',X,rfl⟩:=QK (m:=m) e .nil C;cases S;rw[V.ground Q];refine⟨_,X,λw=>?_⟩;let⟨n,_⟩:=MA j;have u:=run_findKey (P:=P) i n W w;cases r with
     |none=>simp only[vC,zn,dw i p,zY,yA,run_checkKey i j,u,R]
     |some y=>simp only[vC,zn,dw i p,zY,yA,run_checkKey i j,u]
  .rename_i A B r L;cases L;let⟨Q,e⟩:=gu e;cases hb:h.g r with
   |none=>rw[hb]at e;cases e
   |some o=>
    rw[hb]at e;cases o with
    |map es LY=>
     have e:Nt (h.az r) k b es.toList (Ak (T.u A)) (zero T B)=.v a g:=e;cases j:Ak (T.u A)with
     |none=>rw[j]at e;cases e
     |some kd=>
      cases l:zero T B with
      |none=>rw[j,l]at e;cases e
      |some f=>
       rw[j,l]at e;let⟨C,R⟩:=CH i l
       have hh:g=h.az r:=by have s:Na (h.az r) b f (yn kd k es.toList 0)=.v a g:=e;unfold Na at s;split at s<;>first|(cases s;done)|(injection s with _ s;exact s.symm)
       subst hh;refine⟨jP h r,λΓ m hD w F c⟨S,V⟩=>?_⟩;have ht:Γ.cX r:=(ma h r).elim (λN=>(F.hi r N).1) (F.rd r);cases S with
       |map hm=>
        let⟨_,o',ho,hO⟩:=c.get hm hb ht;cases hO with
        |map hE=>
         obtain⟨_,q,W,v',X,rfl⟩:=QK (m:=m) e hE C;rw[V.ground Q];refine⟨_,m,hD,w,?_,.refl _,X,c.az r⟩;let⟨n,_⟩:=MA j;have u:=run_findKey (P:=P) i n W w;have v:=kL (P:=P) ho rfl;cases q with
         |none=>simp only[vC,zn,dw i p,zY,yA,v,run_checkKey i j,u,R]
         |some y=>simp only[vC,zn,dw i p,zY,yA,v,run_checkKey i j,u]
    |_=>cases e
  .cases e
def Xd(i:bM T P){x' k k' u u' b:E}(e:DZ T h t (O N) (O k) (O u)=.v b g):
 bu T P h b g (λm=>VR m N x'/\VR m k k'/\VR m u u') (do uF t x' k' u';sP yh):=by
 replace e:MG T h k u (T.u t) N=.v b g:=e;cases R:T.u t with
 |none=>rw[R]at e;cases e
 |some d=>
  rw[R]at e;unfold MG at e;split at e
  .rename_i kt et r h1;cases h1;let⟨S,e⟩:=gu e;cases B:Ak (T.u kt)with
   |none=>rw[B]at e;cases e
   |some kd=>
    rw[B]at e;cases y:h.g r with
    |none=>rw[y]at e;cases e
    |some o=>
     rw[y]at e;cases o with
     |map v c=>
      let⟨v⟩:=v;have e:TA h r k u ⟨v⟩ c (yn kd k v 0)=.v b g:=e;let⟨C,_⟩:=MA B;cases V:yn kd k v 0 with
      |none=>rw[V]at e;cases e
      |some q=>
       rw[V]at e;cases q with
       |none=>
        cases e;refine⟨oU _ _ _ y,λW m hD w F a⟨X,xk,xu⟩=>?_⟩;have hn:=qw h r (.map ((⟨v⟩:Array yJ).push {key:=k,val:=u,born:=c}) (c+1));have ht:W.cX r:=hn.elim (λN=>(F.hi r N).1) (λN=>F.rd r N.1);cases X with
        |@map _ pl L=>
         let⟨_,o',A,hO⟩:=a.get L y ht;cases hO with
         |@map _ p _ M=>
          rw[xk.ground S]
          have s:OR T m pl (.map ((⟨v⟩:Array yJ).push {key:=k,val:=u,born:=c}) (c+1)) (.map ((⟨p⟩:Array yJ).push {key:=k,val:=u',born:=c}) (c+1)):=by simp only[List.push_toArray];exact .map (M.snoc (n:=c) S xu)
          let⟨s1,s2,s3,s4⟩:=Cu w A (λ_ _ _ h=>by cases h) s.calm;refine⟨yh,m,_,_,?_,.refl _,.undef m,a.put L y F s s1 s2 s3 s4⟩;simp only[uF,zn,dw i R,zY,kL (P:=P) A rfl,run_checkKey i B,run_findKey (P:=P) i C (QW M V),Cx (P:=P) A rfl,yA]
       |some jv=>
        let⟨j,ov⟩:=jv;cases e;refine⟨oU _ _ _ y,λW m hD w F a⟨X,xk,xu⟩=>?_⟩;have hn:=qw h r (.map ((⟨v⟩:Array yJ).modify j λe=>{e with key:=k,val:=u}) c);have ht:W.cX r:=hn.elim (λN=>(F.hi r N).1) (λN=>F.rd r N.1);cases X with
        |@map _ pl L=>
         let⟨_,o',A,hO⟩:=a.get L y ht;cases hO with
         |@map _ p _ M=>
          rw[xk.ground S];let⟨ov',f1,f2,_,e',f3,f4,f5⟩:=QX M V
          have s:OR T m pl (.map ((⟨v⟩:Array yJ).modify j λe=>{e with key:=k,val:=u}) c) (.map ((⟨p⟩:Array yJ).modify j λe=>{e with key:=k,val:=u'}) c):=by
           have a1:∀(l:List yJ)(f:yJ->yJ),(⟨l⟩:Array yJ).modify j f=⟨l.modify j f⟩:=λl f=>by apply wY;simp
           rw[a1,a1];exact .map (M.modify S xu j)
          let⟨s1,s2,s3,s4⟩:=Cu w A (λ_ _ _ h=>by cases h) s.calm;refine⟨yh,m,_,_,?_,.refl _,.undef m,a.put L y F s s1 s2 s3 s4⟩
          have Q:((((⟨p⟩:Array yJ)[j]?).map (·.key)).getD k)=e'.key:=by
           have:(⟨p⟩:Array yJ)[j]?=O e':=by simpa using f3
           rw[this];rfl
          simp only[uF,zn,dw i R,zY,kL (P:=P) A rfl,run_checkKey i B,run_findKey (P:=P) i C f1,Q,Instr.keyThatStays,f5 10000,if_true,Cx (P:=P) A rfl,yA]
     |_=>cases e
  .cases e
end
section
variable{T:au}{P:zo}
def QY{o:ai}(e:Hn h o=.v v g):Le h g/\∀d m i w f,Fin d g->Inv T d m i h w->(∀b,ct m b->OR T b ⟨w.heap.size,0,0,0,1⟩ o f)->
 ∃b c,ct m b/\VR b v (pB w.heap.size)/\Inv T d b c g {w with heap:=w.heap.push f}:=by
 cases e;refine⟨lr _ _,λd m i w f F a j=>?_⟩;let⟨b,c,k,l,n⟩:=DY a (pl:=⟨w.heap.size,0,0,0,1⟩) F rfl (λb p _=>j b p) (j m (.refl _)).calm;exact⟨b,c,k,VR.ptr (off:=0) l,n⟩
def af8(n:bM T P){x' f:E}(e:Es h (T.u t) (O N)=.v f g):bu T P h f g (λm=>VR m N x') (uu t x'):=by
 cases q:T.u t with
 |none=>rw[q]at e;cases e
 |some d=>
  rw[q]at e;unfold Es at e;split at e
  .rename_i a b u v;cases u;cases v;let⟨l,k⟩:=QY (T:=T) e;refine⟨l,λs m y w F c A=>?_⟩;cases A;let⟨p,j,B,C,L⟩:=k s m y w (ug U 0 #[] 0) F c (λp _=>.Ny _ _ _ rfl);exact⟨_,p,j,_,by simp[uu,dw n q],B,C,L⟩
  .rename_i a b r u v;cases u;cases v;cases M:h.g r with
   |none=>rw[M]at e;cases e
   |some o=>
    rw[M]at e;cases o with
    |map es i=>
     have e:Hn (h.az r) (.mapIter (O r) i #[] i)=.v f g:=e;let⟨l,k⟩:=QY (T:=T) e;refine⟨(jP h r).trans l,λs m y w F c A=>?_⟩;have R:=F.of_le l;have V:s.cX r:=(ma h r).elim (λN=>(R.hi r N).1) (R.rd r);cases A with
     |map S=>
      let⟨_,o',W,X⟩:=c.get S M V;cases X with
      |map hE=>
       let⟨p,j,B,C,L⟩:=k s m y w (ug (O _) i #[] i) F (c.az r) (λp Q=>.mapIter _ _ _ (Q.to _ _ S) rfl);exact⟨_,p,j,_,by simp[uu,dw n q,kL (P:=P) W rfl],B,C,L⟩
    |_=>cases e
  .cases e
def ER.filter{m:M}(p:Nat->Bool):∀{f d:List yJ},ER m f d->ER m (f.filter λe=>p e.born) (d.filter λe=>p e.born)
 |_,_,.nil=>.nil
 |_,_,.cons (n:=n) a b c=>by
  cases g:p n with
  |true=>simpa[g]using ER.cons a b (c.filter p)
  |false=>simpa[g]using c.filter p
def ER.all{m:M}(p:Nat->Bool):∀{f d:List yJ},ER m f d->(d.all λe=>p e.born)=f.all λe=>p e.born
 |_,_,.nil=>rfl
 |_,_,.cons a b c=>by simp[c.all p]
def ER.length{m:M}:∀{es eS:List yJ},ER m es eS->I eS=I es
 |_,_,.nil=>rfl
 |_,_,.cons a b c=>by simp[c.length]
def ER.isEmpty{m:M}:∀{e d:List yJ},ER m e d->d.isEmpty=e.isEmpty
 |_,_,.nil=>rfl
 |_,_,.cons a b c=>rfl
def ER.find{m:M}{p:Nat->Bool}:∀{g d:List yJ}{e:yJ},ER m g d->g.find? (λe=>p e.born)=O e->
 ∃v',d.find? (λe=>p e.born)=O ⟨e.key,v',e.born⟩/\ground e.key=Y/\VR m e.val v'
 |_,_,_,.nil,h=>by simp at h
 |_,_,e,.cons (k:=k) (v':=v') (n:=n) a b c,h=>by
  cases f:p n with
  |true=>
   simp[f]at h;subst h;exact⟨v',by simp[f],a,b⟩
  |false=>
   simp[f]at h;let⟨i,h1,j,l⟩:=c.find h;exact⟨i,by simpa[f]using h1,j,l⟩
def af9{x' a:E}(e:NN h (O N)=.v a g):bu T P h a g (λm=>VR m N x') (Instr.entry x'):=by
 unfold NN at e;split at e
 .rename_i r C;cases C;cases f:h.g r with
  |none=>rw[f]at e;cases e
  |some o=>
   rw[f]at e;cases o with
   |ot s L=>cases e
   |mapIter M since seen last=>
    cases M with
    |none=>cases e
    |some q=>
     have e:Sm ((h.az r).az q) seen last (h.g q)=.v a g:=e;cases i:h.g q with
     |none=>rw[i]at e;cases e
     |some Q=>
      rw[i]at e;cases Q with
      |map d R=>
       let⟨d⟩:=d;unfold Sm at e;simp only at e;cases j:seen.back? with
       |none=>rw[j]at e;cases e
       |some c=>
        rw[j]at e;simp only at e;let⟨k,e⟩:=gu (r:=RG ((h.az r).az q) c d) e;have k:=hJ k;unfold RG at e;cases l:d.find? (λe=>e.born==c)with
        |none=>rw[l]at e;cases e
        |some S=>
         rw[l]at e;cases e;refine⟨(jP _ _).trans (jP _ _),λA m V w F b W=>?_⟩;have B:=F.of_le (jP (h.az r) q);have X:A.cX r:=(ma h r).elim (λN=>(B.hi r N).1) (B.rd r);have t:A.cX q:=(ma (h.az r) q).elim (λN=>(F.hi q N).1) (F.rd q);cases W with
         |@ptr _ _ pl hm=>
          let⟨_,o',ho,hO⟩:=b.get hm f X;cases hO with
          |mapIter _ _ _ u hs=>
           let⟨_,oq',v,y⟩:=b.get u i t;cases y with
           |@map _ eS _ hE=>
            let⟨v',f1,f2,f3⟩:=hE.find (p:=λn=>n==c) l;refine⟨xC #[S.key,v'],m,V,w,?_,.refl _,.tuple (.Cs (VR.Ct m f2) (.Cs f3 .Nl)),(b.az r).az q⟩;simp only[hs,xP,Instr.entry,zn,kL (P:=P) ho rfl,kL (P:=P) v rfl,zY,j,k];simp[f1]
      |_=>cases e
   |_=>cases e
 .cases e
def agp{x' f:E}(e:Ho h b (O N)=.v f g):bu T P h f g (λm=>VR m N x') (uK x' b t):=by
 unfold Ho at e;split at e
 .rename_i r h1;cases h1;cases C:h.g r with
  |none=>rw[C]at e;cases e
  |some o=>
   rw[C]at e;cases o with
   |mapIter mb since seen last=>
    cases mb with
    |none=>
     have e:cond b .f (aK.v (xC #[zP G]) (h.az r))=.v f g:=e;cases b with
     |true=>cases e
     |false=>
      cases e;refine⟨jP _ _,λM m hD w F d xx=>?_⟩;have ht:M.cX r:=(ma h r).elim (λN=>(F.hi r N).1) (F.rd r);cases xx with
      |@ptr _ _ pl hm=>
       let⟨_,o',Q,hO⟩:=d.get hm C ht;cases hO with
       |Ny _ _ _ hs=>
        refine⟨xC #[zP G],m,hD,w,?_,.refl _,.tuple (.Cs (.bool _) .Nl),d.az r⟩;simp only[hs,xP,uK,zn,kL (P:=P) Q rfl,zY,yA]
    |some q=>
     have e:cond b .f (Jy h r q since seen last (h.g q))=.v f g:=e;cases b with
     |true=>cases e
     |false=>
      have e:Jy h r q since seen last (h.g q)=.v f g:=e;cases hq:h.g q with
      |none=>rw[hq]at e;cases e
      |some oq=>
       rw[hq]at e;cases oq with
       |map y A=>
        let⟨y⟩:=y;unfold Jy at e;simp only at e;split at e
        .cases e
        .rename_i s;have fl:∀(l:List yJ)(p:yJ->Bool),(⟨l⟩:Array yJ).filter p=⟨l.filter p⟩:=λl p=>by apply wY;simp
         simp only[fl]at e;split at e
         .rename_i k1 k2;cases e;refine⟨(jP _ _).trans (jP _ _),λM m hD w F d xx=>?_⟩;have F1:=F.of_le (jP (h.az r) q);have ht:M.cX r:=(ma h r).elim (λN=>(F1.hi r N).1) (F1.rd r);have R:M.cX q:=(ma (h.az r) q).elim (λN=>(F.hi q N).1) (F.rd q);cases xx with
          |@ptr _ _ pl hm=>
           let⟨_,o',Q,hO⟩:=d.get hm C ht;cases hO with
           |mapIter _ _ _ B hs=>
            let⟨_,oq',S,V⟩:=d.get B hq R;cases V with
            |@map _ j _ W=>
             refine⟨xC #[zP G],m,hD,w,?_,.refl _,.tuple (.Cs (.bool _) .Nl),(d.az r).az q⟩
             have e1:((⟨j⟩:Array yJ).all λe=>yF (e.born>=last))=((⟨y⟩:Array yJ).all λe=>yF (e.born>=last)):=by simpa using W.all (λn=>yF (n>=last))
             have e2:(⟨j⟩:Array yJ).isEmpty=(⟨y⟩:Array yJ).isEmpty:=by have:=W.isEmpty;cases y<;>cases j<;>simp_all
             have X:((!seen.isEmpty&& !(⟨j⟩:Array yJ).isEmpty&&(⟨j⟩:Array yJ).all λe=>yF (e.born>=last))=Y)=False:=by rw[e1,e2];exact eq_false s
             have hL:=W.filter (λn=> !seen.contains n);have u:=hL.filter (λn=>yF (n<since));have v:=hL.filter (λn=>yF (n>=since))
             have o1:((j.filter λe=> !seen.contains e.born).filter λe=>yF (e.born<since))=[]:=by apply yT;rw[u.length];rw[k1];rfl
             have o2:((j.filter λe=> !seen.contains e.born).filter λe=>yF (e.born>=since))=[]:=by apply yT;rw[v.length];rw[k2];rfl
             simp only[hs,xP,uK,zn,kL (P:=P) Q rfl,kL (P:=P) S rfl,zY,X,if_false,fl,o1,o2];simp[vp]
         .rename_i L k1 k2;cases e;refine⟨(jP _ _).trans (oU _ _ _ (by rw[pH];exact C)),λM m hD w F d xx=>?_⟩;have F1:=F.of_le (oU (h.az q) r (.mapIter (O q) since (seen.push L.born) A) (by rw[pH];exact C));have hn:=qw (h.az q) r (.mapIter (O q) since (seen.push L.born) A);have ht:M.cX r:=hn.elim (λN=>(F.hi r N).1) (λN=>F.rd r N.1);have R:M.cX q:=(ma h q).elim (λN=>(F1.hi q N).1) (F1.rd q);cases xx with
          |@ptr _ _ pl hm=>
           let⟨_,o',Q,hO⟩:=d.get hm C ht;cases hO with
           |@mapIter _ pq _ _ _ B hs=>
            let⟨_,oq',S,V⟩:=d.get B hq R;cases V with
            |@map _ j _ W=>
             have e1:((⟨j⟩:Array yJ).all λe=>yF (e.born>=last))=((⟨y⟩:Array yJ).all λe=>yF (e.born>=last)):=by simpa using W.all (λn=>yF (n>=last))
             have e2:(⟨j⟩:Array yJ).isEmpty=(⟨y⟩:Array yJ).isEmpty:=by have:=W.isEmpty;cases y<;>cases j<;>simp_all
             have X:((!seen.isEmpty&& !(⟨j⟩:Array yJ).isEmpty&&(⟨j⟩:Array yJ).all λe=>yF (e.born>=last))=Y)=False:=by rw[e1,e2];exact eq_false s
             have hL:=W.filter (λn=> !seen.contains n);have u:=hL.filter (λn=>yF (n<since));have v:=hL.filter (λn=>yF (n>=since))
             have o2:((j.filter λe=> !seen.contains e.born).filter λe=>yF (e.born>=since))=[]:=by apply yT;rw[v.length];rw[k2];rfl
             have o1:∃k,((j.filter λe=> !seen.contains e.born).filter λe=>yF (e.born<since))=[k]/\k.born=L.born/\VR m L.key k.key/\VR m L.val k.val:=by
              have B4:=u;have qd:((y.filter λe=> !seen.contains e.born).filter λe=>yF (e.born<since))=[L]:=k1;rw[qd]at B4;generalize((j.filter λe=> !seen.contains e.born).filter λe=>yF (e.born<since))=i at B4⊢;cases B4 with
              |cons a b c=>cases c;exact⟨_,rfl,rfl,VR.Ct m a,b⟩
             let⟨k,o1,b1,b2,b3⟩:=o1;have rl:OR T m pl (.mapIter (O q) since (seen.push L.born) A) (ug (O pq.aH) since (seen.push L.born) A):=.mapIter _ _ _ B hs;let⟨s1,s2,s3,s4⟩:=Cu w Q (λ_ _ _ h=>by cases h) rl.calm;refine⟨xC #[zP Y,k.key,k.val],m,_,_,?_,.refl _,.tuple (.Cs (.bool _) (.Cs b2 (.Cs b3 .Nl))),(d.az q).put hm (by rw[pH];exact C) F rl s1 s2 s3 s4⟩;simp only[hs,xP,uK,zn,kL (P:=P) Q rfl,kL (P:=P) S rfl,zY,X,if_false,fl,o1,o2];simp[vp,Cx (P:=P) Q rfl,b1]
         .cases e
       |_=>cases e
   |_=>cases e
 .cases e
end
section
variable{T:au}{P:zo}
def EM:E->Option Nat
 |.slice (O a) _ _=>O a.block
 |_=>U
def Yq:(cu h v).g n=h.g n:=by
 unfold cu;split
 .exact pH _ _ _
 .rfl
def JE(h:H)(v:E):Le h (cu h v):=by
 unfold cu;split
 .exact jP _ _
 .exact .refl _
def QZ(h:H)(v:E)(e:EM v=O n):(cu h v).b<=n\/(cu h v).rd.testBit n=Y:=by
 unfold EM at e;split at e
 .cases e;exact ma _ _
 .cases e
def Inv.cu{b:gy}{m:M}{c:Nat->Option ai}{h:H}{w:zu}(a:Inv T b m c h w)(v:E):Inv T b m c (Am.cu h v) w:=by
 unfold Am.cu;split
 .exact a.az _
 .exact a
def LR.flat{m:M}:∀{es a:List E},LR m es a->LR m (es.flatMap ah) (a.flatMap λx=>x.cells.toList)
 |_,_,.Nl=>.Nl
 |_,_,.Cs h b=>by simpa using h.cells.append b.flat
def JF{f:E->List E}{a:Nat}:∀{es:List E}{j:Nat},(∀e∈es,I (f e)=a)->(es.flatMap f).take (j*a)=(es.take j).flatMap f
 |[],j,_=>by simp
 |x::es,0,_=>by simp
 |x::es,j+1,h=>by have b:=h x (by simp);have:=JF (es:=es) (j:=j) (λe c=>h e (by simp[c]));rw[vl,show(j+1)*a=I (f x)+j*a from by rw[b,xD];omega,wW,this];simp
def Ea{f:E->List E}{a:Nat}:∀{es:List E}{j:Nat},(∀e∈es,I (f e)=a)->(es.flatMap f).drop (j*a)=(es.drop j).flatMap f
 |[],j,_=>by simp
 |x::es,0,_=>by simp
 |x::es,j+1,h=>by have b:=h x (by simp);have:=Ea (es:=es) (j:=j) (λe c=>h e (by simp[c]));rw[vl,show(j+1)*a=I (f x)+j*a from by rw[b,xD];omega,wU,this];simp
def Mu{Γ:gy}{m:M}(d:Inv T Γ m B h W)(e:Am.zH h k i v=O l)(hl:I l=k*i)
 (V:VR m v N)(ht:∀b,EM v=O b->Γ.cX b)(Q:lenOf v=O k):∃S,(yO i k N).run P W=.ok ⟨S⟩ W/\LR m l S:=by
 unfold Am.zH at e;split at e
 .cases e;cases V;exact⟨[],by simp[yO],.Nl⟩
 .rename_i b off r cap;cases X:h.g b with
  |none=>rw[X]at e;cases e
  |some o=>
   rw[X]at e;cases o with
   |cells c0 e0 g=>
    have e:cut c0 off (k*i)=O l:=e;let⟨h1,h2⟩:=TF e;rcases V.lk with⟨pl,A,hm,hc,rfl⟩|⟨h4,h5,pl,a,hm,rfl⟩
    .let⟨S,pre,post,e',R⟩:=d.row hm X (ht b rfl);refine⟨(S.drop off).take (k*i),?_,?_⟩
     .have:=QH (P:=P) R.heap (off:=off) (n:=k*i) (by rw[(R.rel.drop off).length];exact h1);rw[R.pre]at this;simpa[yO]using this
     .rw[h2];exact(R.rel.drop off).take _
    .subst h4;cases Q;refine⟨[],by simp[yO,loadCells,loadCellsFrom],?_⟩;have:l=[]:=yT (by rw[hl];simp);rw[this];exact .Nl
   |_=>cases e
 .rename_i off p r es q;cases e;injection Q with Q;obtain⟨r,rfl⟩:∃j:Nat,j=r:=⟨r,rfl⟩;obtain⟨off,rfl⟩:∃j:Nat,j=off:=⟨off,rfl⟩;subst Q;cases V with
  |@data _ t _ pre post _ _ A cc y _ hi h C hlen hc hkk=>
   let⟨⟨e',f,hw⟩,_⟩:=d.de _ _ hi;have hR:=((h.drop off).take r).flat
   have F:=hR.length;rw[hl]at F;have hd:∀e∈(t.drop off).take r,I e.cells.toList=y:=λe L=>C e (xf (vV L));have s:=MI (f:=λx=>x.cells.toList) hd;have aIj:=h.length;have u:I ((t.drop off).take r)=r:=by rw[wV,wK];omega
   rw[u,F]at s;refine⟨((t.drop off).take r).flatMap (λx=>x.cells.toList),?_,hR⟩
   have e1:((t.flatMap λx=>x.cells.toList).drop (off*y)).take (r*i)=((t.drop off).take r).flatMap (λx=>x.cells.toList):=by rw[Ea (f:=λx=>x.cells.toList) C,s,JF (f:=λx=>x.cells.toList) (λe L=>C e (xf L))]
   have:=QH (P:=P) hw (off:=off*y) (n:=r*i) (by rw[Ea (f:=λx=>x.cells.toList) C,MI (f:=λx=>x.cells.toList) (λe L=>C e (xf L)),s];exact vb _ (by rw[wK];omega))
   rw[e1]at this;simpa[yO]using this
  |@gi _ _ _ _ _ a _ _=>
   refine⟨[],?_,by simpa using LR.Nl⟩;cases a with
   |none=>simp[yO]
   |some a=>simp[yO,loadCells,loadCellsFrom]
 .cases e
def Y8(a:Nat):∀(r c:Nat),c<a->wQ a r c<=a+(a+768)/4
 |0,c,h=>by simp only[wQ];omega
 |r+1,c,h=>by
  simp only[wQ];rw[if_neg (by omega)];by_cases b:c+(c+768)/4<a
  .exact Y8 a r _ b
  .cases r with
   |zero=>simp only[wQ];omega
   |succ r=>simp only[wQ];rw[if_pos (by omega)];omega
def nextslicecap_le{HU cap:Nat}(h:cap<HU):wF HU cap<=2*HU+768:=by
 unfold wF;split
 .omega
 .split
  .omega
  .have:=Y8 HU 4 cap h;omega
def Mv{a:Array E}:I (xr a n).toList=n*a.size:=by simp[xr]
def run_append_room(b:bM T P){c:Array zQ}{g:zQ}{HJ:Option vL}{OO :Nat}{w w':zu}
 (e:iS T c.toList[0]?=O (zf s))(f:iS T c.toList[1]?=O (zf g))(r:zI T s=O k)(u:∀w,(vO v).run P w=.ok n w)(d:m+n<=OO)
 (x:(yO k n v).run P w=.ok ⟨l⟩ w)(i:∀a,HJ=O a->(storeCells (a.add (m*k)) l).run P w=.ok () w')(h:HJ=U->w'=w):
 (xH c t #[zL HJ m OO,v]).run P w=.ok (zL HJ (m+n) OO) w':=by
 cases j:c.toList[0]? with
 |none=>rw[j]at e;cases e
 |some p=>
  cases o:c.toList[1]? with
  |none=>rw[o]at f;cases f
  |some q=>
   rw[j]at e;rw[o]at f;have y:c[0]?=O p:=by simpa using j
   have A:c[1]?=O q:=by simpa using o
   have e:T.u p=O (zf s):=e;have f:T.u q=O (zf g):=f;simp only[xH,y,wD,uZ,wG,zn,dw b e,zY,kS b r,A,dw b f,yA,y8,if_false,u,if_pos d,sn,if_true,x];cases HJ with
   |none=>simp[h rfl]
   |some a=>simp[i a rfl]
end
section
variable{T:au}{P:zo}
def run_append_grow(e:bM T P){f:Array zQ}{o:zQ}{i:TypeInfo}{d:Option vL}
 (h:iS T f.toList[0]?=O (zf s))(j:iS T f.toList[1]?=O (zf o))(C:T.cw.g s=O i)(L:∀W,(vO v).run P W=.ok n W)(g:¬k+n<=m)
 (M:i.bytes<=65536)(hn:k+n<=1073741824)(Q:∀W,(vk s).run P W=.ok N W)
 (R:(yO i.size k (zL d k m)).run P {W with drawn:=W.drawn+1}=.ok ⟨l⟩ {W with drawn:=W.drawn+1})
 (S:(yO i.size n v).run P {W with drawn:=W.drawn+1}=.ok ⟨p⟩ {W with drawn:=W.drawn+1}):
 ∃c,k+n<=c/\(xH f t #[zL d k m,v]).run P W=.ok (zL (pO W.heap.size) (k+n) c)
  {W with drawn:=W.drawn+1,heap:=W.heap.push (yP ⟨l++(p++(xr N.cells (c-(k+n))).toList)⟩ s (0,0))}:=by
 cases y:f.toList[0]? with
 |none=>rw[y]at h;cases h
 |some F=>
  cases A:f.toList[1]? with
  |none=>rw[A]at j;cases j
  |some H=>
   rw[y]at h;rw[A]at j;have V:f[0]?=O F:=by simpa using y
   have X:f[1]?=O H:=by simpa using A
   have h:T.u F=O (zf s):=h;have j:T.u H=O (zf o):=j;have hs:zI T s=O i.size:=by unfold zI;rw[C];rfl
   have B:=run_typeInfo (P:=P) (e.cw s i C);refine⟨(so (k+n) m s).cut (W.tape W.drawn (so (k+n) m s)),by simp only[Question.cut];omega,?_⟩
   have r:¬wF (k+n) m*i.bytes>2^48:=by have a:=nextslicecap_le (HU:=k+n) (cap:=m) (by omega);have b:wF (k+n) m*i.bytes<=(2*1073741824+768)*65536:=Nat.mul_le_mul (by omega) M;omega
   have u:¬((((k+n:Nat):Int)>zx.max)/\(False\/i.bytes=0)):=by rintro⟨q,_⟩;simp[IntKind.max,y9,xJ]at q;omega
   simp only[xH,V,wD,uZ,wG,zn,dw e h,zY,kS e hs,X,dw e j,yA,y8,if_false,L,if_neg g,B,if_neg u,if_neg r,run_choose,vp,sQ,R,sn,if_true,S,Q,D4];have x:∀N:Array E,(⟨l⟩:Array E)++(⟨p⟩:Array E)++N=⟨l++(p++N.toList)⟩:=λN=>by apply wY;simp
   rw[x]
def Xu{o:gy}{m:M}(b:Inv T o m B h W){rest:List E}(F:Fin o (h.w (K l t Y)))
 (s:LR m l p)(hlen:I l=n*k)(q:zI T t=O k)(j:0<k)(r:n<=i)(c:I rest=(i-n)*k):
 ∃d f,ct m d/\VR d (zL (pO h.n) n n) (zL (pO W.heap.size) n i)/\
  Inv T o d f (h.w (K l t Y)) {W with drawn:=W.drawn+1,heap:=W.heap.push (yP ⟨p++rest⟩ t (0,0))}:=by
 have u:Inv T o m B h {W with drawn:=W.drawn+1}:=b.world rfl ⟨λ_=>rfl,rfl,rfl,rfl⟩
 let⟨d,f,v,x,y⟩:=DY u (o':=yP ⟨p++rest⟩ t (0,0)) (pl:=⟨W.heap.size,0,n*k,(i-n)*k,k⟩) F rfl (λd A _=>by have:=OR.cells (T:=T) (m:=d) (pl:=⟨W.heap.size,0,n*k,(i-n)*k,k⟩) (pre:=[]) (post:=rest) (e:=t) (e':=t) (g:=Y) (s.mono A) rfl hlen (uq c.symm) (λa=>by cases a) j (λ_=>q);simpa using this) (λ_ _ _ a=>by injection a with _ _ a;exact a.symm)
 refine⟨d,f,v,VR.slice (off:=0) x (zt ⟨by simp,?_⟩),y⟩;have:i*k=n*k+(i-n)*k:=by rw[<-xD];congr 1;omega
 simpa using this
def RS{m:M}(e:Am.lenOf v=O n)(h:VR m v N):∃a b,N=zL a n b:=by
 cases h with
 |cP k c=>injection e with e;subst e;exact⟨_,_,rfl⟩
 |slice d f=>injection e with e;subst e;exact⟨_,_,rfl⟩
 |empty d=>injection e with e;subst e;exact⟨_,_,rfl⟩
 |data=>injection e with e;subst e;exact⟨_,_,rfl⟩
 |gi=>injection e with e;subst e;exact⟨_,_,rfl⟩
 |_=>cases e
def VR.len{m:M}{a:Option vL}{c:Nat}(h:VR m (zL a n c) v):∃b d,v=zL b n d:=by cases h<;>exact⟨_,_,rfl⟩
set_option maxHeartbeats 1000000 in
def afB(tok:bM T P){ts:Array zQ}{el2:zQ}{x' o:E}{d:Array w8}
 (h0:iS T ts.toList[0]?=O (zf s))(h1:iS T ts.toList[1]?=O (zf el2))(Du:Am.lenOf v=O n)
 (e:XC T h s (zU (vU k d j G) ⟨l⟩ ⟨p⟩) v p j n (T.cw.g s)=.v o g):
 bu T P h o g (λm=>VR m (zU (vU k d j G) ⟨l⟩ ⟨p⟩) N/\VR m v x') (xH ts t #[N,x']):=by
 cases hi:T.cw.g s with
 |none=>rw[hi]at e;cases e
 |some i=>
 rw[hi]at e;let⟨c,e⟩:=gu (r:=XB (cu h v) s i.size (zU (vU k d j G) ⟨l⟩ ⟨p⟩) p j n (zH h j i.size (zU (vU k d j G) ⟨l⟩ ⟨p⟩)) (zH h n i.size v)) e;cases FK:zV i.size 0 with
 |true=>rw[FK]at c;cases c
 |false=>
 rw[FK]at c;let⟨c1,c⟩:=iG c;let⟨c2,c3⟩:=iG c;have BH:0<i.size:=ti (rE FK);have Q:=fC c1;have Ui:j+n<=1073741824:=fC c2;cases LZ:jV T s with
 |none=>rw[LZ]at c3;cases c3
 |some zz=>
 let⟨i2,q,y1,y2,y3,y4,y5,y6⟩:=Nz tok LZ;rw[hi]at y1;cases y1;have Vs:q.cells.size=i.size:=by rw[<-y4,y3,<-Gx];simp
 have eU:zI T s=O i.size:=by unfold zI;rw[hi];rfl
 cases ho:zH h j i.size (zU (vU k d j G) ⟨l⟩ ⟨p⟩)with
 |none=>rw[ho]at e;cases e
 |some B=>
 cases rk:zH h n i.size v with
 |none=>rw[ho,rk]at e;cases e
 |some C=>
 rw[ho,rk]at e;let⟨c,e⟩:=gu (r:=bN (QQ (cu h v) s (zl j n) (il B C) p) (.v (zU (vU k d j G) ⟨l⟩ ⟨p⟩) (cu h v)) (zV n 0)) e;let⟨c1,c⟩:=iG c;let⟨c2,c3⟩:=iG c;have B5:I C=n*i.size:=by rw[<-fX];exact hJ c1
 have Dv:I B=j*i.size:=by rw[<-fX];exact hJ c2
 have A:∀R m X w,Fin R (cu h v)->Inv T R m X h w->VR m (zU (vU k d j G) ⟨l⟩ ⟨p⟩) N->VR m v x'->
  Inv T R m X (cu h v) w/\(∀w,(vO x').run P w=.ok n w)/\
  (∀M,M.heap=w.heap->jZ w M->∃o',(yO i.size j N).run P M=.ok ⟨o'⟩ M/\LR m B o')/\
  (∀M,M.heap=w.heap->jZ w M->∃L,(yO i.size n x').run P M=.ok ⟨L⟩ M/\LR m C L):=by
  intro R m X w F f xs xx;have Vt:∀b,EM v=O b->R.cX b:=λb hb=>(QZ h v hb).elim (λv=>(F.hi b v).1) (F.rd b);refine⟨f.cu _,?_,λM B6 FL=>?_,λM B6 FL=>?_⟩
  .obtain⟨a',L,rfl⟩:=RS Du xx;intro w;rfl
  .exact Mu (f.world B6 FL) ho Dv xs (λb hb=>by cases hb) rfl
  .exact Mu (f.world B6 FL) rk B5 xx Vt Du
 cases S:zV n 0 with
 |true=>
  rw[S]at e;have hn:=hJ S;subst hn;have e:aK.v (zU (vU k d j G) ⟨l⟩ ⟨p⟩) (cu h v)=.v o g:=e;cases e;refine⟨JE h v,λR m X w F f⟨xs,xx⟩=>?_⟩;let⟨I1,q2,q3,q4⟩:=A R m X w F f xs xx;let⟨d',k3,k4⟩:=q4 w rfl (.refl w);have hd:d'=[]:=yT (by rw[k4.length,B5];simp);subst hd
  obtain⟨b',L,rfl,hle⟩:∃b' L,N=zL b' j L/\j<=L:=by
   cases xs with
   |data hi h hs hl hc u=>exact⟨_,_,rfl,hc⟩
   |gi ha u=>exact⟨_,_,rfl,ya _⟩
  have qV:=run_append_room (P:=P) (t:=t) (HJ:=b') (w:=w) (w':=w) (n:=0) (OO:=L) tok h0 h1 eU q2 hle k3 (λa _=>by simp[storeCells]) (λ_=>rfl);exact⟨_,m,X,w,qV,.refl _,xs,I1⟩
 |false=>
  rw[S]at e;have hn:=rE S;have e:QQ (cu h v) s (zl j n) (il B C) p=.v o g:=e
  obtain⟨kk,V,rfl⟩:∃kk V,p=[yV kk (yj V)]:=by
   rcases p with _|⟨cv,_|⟨cv2,cl⟩⟩
   .cases e
   .cases cv with
    |int kk ci=>
     cases ci with
     |ofNat V=>exact⟨kk,V,rfl⟩
     |negSucc V=>cases e
    |_=>cases e
   .cases cv with
    |int kk ci=>cases ci<;>cases e
    |_=>cases e
  have e:cond (ze (zl j n) V) .f (kO (cu h v) s (zl j n) (il B C))=.v o g:=e;cases y:ze (zl j n) V with
  |true=>rw[y]at e;cases e
  |false=>
  rw[y]at e;have y:V<j+n:=Jr y;rw[qH]at e;have e:aK.v (zL (pO (cu h v).n) (j+n) (j+n)) ((cu h v).w (K (B++C) s Y))=.v o g:=e;injection e with e1 e2;have K9:Le (cu h v) g:=by rw[<-e2];exact lr _ _
  refine⟨(JE h v).trans K9,λR m X w F f⟨xs,xx⟩=>?_⟩;let⟨I1,q2,q3,q4⟩:=A R m X w (F.of_le K9) f xs xx;let⟨o',k1,k2⟩:=q3 {w with drawn:=w.drawn+1} rfl ⟨λ_=>rfl,rfl,rfl,rfl⟩;let⟨d',k3,k4⟩:=q4 {w with drawn:=w.drawn+1} rfl ⟨λ_=>rfl,rfl,rfl,rfl⟩
  obtain⟨b',L,rfl,hcc⟩:∃b' L,N=zL b' j L/\L=V:=by
   cases xs with
   |data hi h hs hl hc u=>
    refine⟨_,_,rfl,?_⟩;rcases u with u|u
    .cases u
    .injection u with u;injection u with _ u;injection u with u;exact u.symm
   |gi ha u=>
    refine⟨_,_,rfl,?_⟩;rcases u with u|u|u
    .cases u
    .injection u with u;injection u with _ u;injection u with u;exact u.symm
    .injection u with u;cases u
  let⟨W,k5,k6⟩:=run_append_grow (P:=P) (t:=t) tok h0 h1 hi q2 (by omega) Q Ui y6 k1 k3;let⟨m',dW,j1,j2,j3⟩:=Xu (rest:=(xr q.cells (W-(j+n))).toList) I1 (by rw[e2];exact F) (k2.append k4) (by rw[yD,Dv,B5,xD]) eU BH k5 (by rw[Mv,Vs]);rw[vq]at j3;exact⟨_,m',dW,_,k6,j1,by rw[<-e1];exact j2,by rw[<-e2];exact j3⟩
set_option maxHeartbeats 1000000 in
def My(tok:bM T P){ts:Array zQ}{s' x x' j:E}
 (e:jO T h x (iS T ts.toList[0]?) (iS T ts.toList[1]?) N (Am.lenOf x)=.v j g):bu T P h j g (λm=>VR m N s'/\VR m x x') (xH ts t #[s',x']):=by
 unfold jO at e;split at e;case h_3=>cases e
 case h_2=>
  rename_i h0 h1 Du;exact afB tok h0 h1 Du e
 rename_i el el2 base p u n h0 h1 Du;cases hi:T.cw.g el with
 |none=>rw[hi]at e;cases e
 |some i=>
 rw[hi]at e;let⟨c,e⟩:=gu (r:=Z4 T (cu (cu h (zL base p u)) x) el i.size base p u n (zH h p i.size (zL base p u)) (zH h n i.size x)) e;cases FK:zV i.size 0 with
 |true=>rw[FK]at c;cases c
 |false=>
 rw[FK]at c;let⟨c1,c⟩:=iG c;let⟨c2,c3⟩:=iG c;have BH:0<i.size:=ti (rE FK);have ard:=fC c1;have Ui:p+n<=1073741824:=fC c2;cases LZ:jV T el with
 |none=>rw[LZ]at c3;cases c3
 |some zz=>
 let⟨i2,l,y1,y2,y3,y4,y5,y6⟩:=Nz tok LZ;rw[hi]at y1;cases y1;have Vs:l.cells.size=i.size:=by rw[<-y4,y3,<-Gx];simp
 have eU:zI T el=O i.size:=by unfold zI;rw[hi];rfl
 cases ho:zH h p i.size (zL base p u)with
 |none=>rw[ho]at e;cases e
 |some A=>
 cases rk:zH h n i.size x with
 |none=>rw[ho,rk]at e;cases e
 |some B=>
 rw[ho,rk]at e;let⟨c,e⟩:=gu (r:=MP T (cu (cu h (zL base p u)) x) el i.size p u n A B base) e;let⟨c1,c⟩:=iG c;let⟨c2,c3⟩:=iG c;have B5:I B=n*i.size:=by rw[<-fX];exact hJ c1
 have Dv:I A=p*i.size:=by rw[<-fX];exact hJ c2
 have ady:=Q5 c3;generalize L0:cu (cu h (zL base p u)) x=q at e;have W:Le h q:=by rw[<-L0];exact(JE _ _).trans (JE _ _)
 have Da:∀b,q.g b=h.g b:=λb=>by rw[<-L0,Yq,Yq]
 have y:∀L m Q w,Fin L q->Inv T L m Q h w->VR m (zL base p u) s'->VR m x x'->
  Inv T L m Q q w/\(∀b,EM (zL base p u)=O b->L.cX b)/\(∀w,(vO x').run P w=.ok n w)/\
  (∀w2,w2.heap=w.heap->jZ w w2->∃o',(yO i.size p s').run P w2=.ok ⟨o'⟩ w2/\LR m A o')/\
  (∀w2,w2.heap=w.heap->jZ w w2->∃C,(yO i.size n x').run P w2=.ok ⟨C⟩ w2/\LR m B C):=by
  intro L m Q w F f S X;have F0:Fin L (cu h (zL base p u)):=by rw[<-L0]at F;exact F.of_le (JE _ _)
  have ts1:∀b,EM (zL base p u)=O b->L.cX b:=λb hb=>(QZ h _ hb).elim (λx=>(F0.hi b x).1) (F0.rd b)
  have Vt:∀b,EM x=O b->L.cX b:=λb hb=>by have:=QZ (cu h (zL base p u)) x hb;rw[L0]at this;exact this.elim (λx=>(F.hi b x).1) (F.rd b)
  refine⟨by rw[<-L0];exact(f.cu _).cu _,ts1,?_,λw2 B6 FL=>?_,λw2 B6 FL=>?_⟩
  .obtain⟨a',C,rfl⟩:=RS Du X;intro w;rfl
  .exact Mu (f.world B6 FL) ho Dv S ts1 rfl
  .exact Mu (f.world B6 FL) rk B5 X Vt Du
 have fresh:∀(hh:H)(hv:j=zL (pO hh.n) (p+n) (p+n))(V:g=hh.w (K (A++B) el Y))(L:gy)(m:M)(Q Dw:Nat->Option ai)(w:zu),Fin L g->Le q g->Inv T L m Q h w->Inv T L m Dw hh w->
  VR m (zL base p u) s'->VR m x x'->(∀b' C,s'=zL b' p C->¬p+n<=C)->
  ∃v' m' dW w',(xH ts t #[s',x']).run P w=.ok v' w'/\ct m m'/\VR m' j v'/\Inv T L m' dW g w':=by
  intro hh hv V L m Q Dw w F hle f I1 S X oJ;let⟨_,_,q3,q4,q5⟩:=y L m Q w (F.of_le hle) f S X;obtain⟨b',C,rfl⟩:=S.len;let⟨o',k1,k2⟩:=q4 {w with drawn:=w.drawn+1} rfl ⟨λ_=>rfl,rfl,rfl,rfl⟩;let⟨d',k3,k4⟩:=q5 {w with drawn:=w.drawn+1} rfl ⟨λ_=>rfl,rfl,rfl,rfl⟩;let⟨are,k5,k6⟩:=run_append_grow (P:=P) (t:=t) tok h0 h1 hi q3 (oJ b' C rfl) ard Ui y6 k1 k3;subst V;let⟨m',dW,j1,j2,j3⟩:=Xu (rest:=(xr l.cells (are-(p+n))).toList) I1 F (k2.append k4) (by rw[yD,Dv,B5,xD]) eU BH k5 (by rw[Mv,Vs]);rw[vq]at j3;exact⟨_,m',dW,_,k6,j1,by rw[hv];exact j2,j3⟩
 rcases base with _|⟨b,off,_|sp⟩
 .
  let⟨c,eB⟩:=gu (r:=bN (kO q el n B) (.v (zL U 0 0) q) (zV n 0)) e;let⟨c1,c2⟩:=iG c;have e1:=hJ c1;have e2:=hJ c2;subst e1;subst e2;cases hb:zV n 0 with
  |true=>
   rw[hb]at eB;have L4:=hJ hb;subst L4;have e:aK.v (zL U 0 0) q=.v j g:=eB;cases e;refine⟨W,λL m Q w F f⟨S,X⟩=>?_⟩;let⟨I1,_,q3,_,q5⟩:=y L m Q w F f S X;cases S;let⟨d',k3,k4⟩:=q5 w rfl (.refl w);exact⟨_,m,Q,w,run_append_room (t:=t) tok h0 h1 eU q3 (zR _) k3 (λa ha=>by cases ha) (λ_=>rfl),.refl _,.cP 0 0,I1⟩
  |false=>
   rw[hb]at eB;have L4:=rE hb;have e:aK.v (zL (pO q.n) n n) (q.w (K B el Y))=.v j g:=eB;injection e with e1 e2;have hold:A=[]:=yT (by rw[Dv];simp);subst hold;have v:Le q g:=by rw[<-e2];exact lr _ _
   refine⟨W.trans v,λL m Q w F f⟨S,X⟩=>?_⟩;let⟨I1,_⟩:=y L m Q w (F.of_le v) f S X;refine fresh q (by rw[<-e1];simp) (by rw[<-e2];simp) L m Q Q w F v f I1 S X (λb' C V=>?_);cases S;injection V with _ _ V;omega
 .
  have e:kq T q b off el i.size p u n A B (q.g b)=.v j g:=e;rw[Da]at e;cases hg:h.g b with
  |none=>rw[hg]at e;cases e
  |some o=>
  rw[hg]at e;cases o with
  |cells c e' k=>
   have B7:q.g b=O (K c e' k):=by rw[Da];exact hg
   have e:bN (mP T q b el i.size (zl p n) (zl off (z7 u i.size)) (il A B) c e' k)
    (bN (Nu q b off (zl p n) u e' k (kx (zl off (z7 p i.size)) B c)) (.v (zL (O ⟨b,off,U⟩) p u) q) (zV n 0))
    (ze (zl p n) u)=.v j g:=e
   cases hb:ze (zl p n) u with
   |true=>
    rw[hb]at e;have atr:p+n<=u:=fC hb;cases hn:zV n 0 with
    |true=>
     rw[hn]at e;have L4:=hJ hn;subst L4;have e:aK.v (zL (O ⟨b,off,U⟩) p u) q=.v j g:=e;cases e;refine⟨W,λL m Q w F f⟨S,X⟩=>?_⟩;let⟨I1,q2,q3,_,q5⟩:=y L m Q w F f S X;let⟨d',k3,k4⟩:=q5 w rfl (.refl w);have PV:d'=[]:=yT (by rw[k4.length,B5];simp);subst PV;have Vu:=S;rcases S.lk with⟨pl,cd,hm,hc,rfl⟩|⟨h4,h5,pl,a,hm,rfl⟩
     .let⟨_,_,_,_,R⟩:=f.row hm hg (q2 b rfl);have:=hc.le R.pos;exact⟨_,m,Q,w,run_append_room (t:=t) tok h0 h1 eU q3 (by omega) k3 (λa ha=>rfl) (λha=>by cases ha),.refl _,Vu,I1⟩
     .subst h4;subst h5;exact⟨_,m,Q,w,run_append_room (t:=t) tok h0 h1 eU q3 (zR _) k3 (λa ha=>rfl) (λha=>by cases ha),.refl _,Vu,I1⟩
    |false=>
     rw[hn]at e;have L4:=rE hn;cases AV:kx (zl off (z7 p i.size)) B c with
     |none=>rw[AV]at e;cases e
     |some d=>
      rw[AV]at e;have e:aK.v (zL (O ⟨b,off,U⟩) (p+n) u) (q.p b (K d e' k))=.v j g:=e;cases e;refine⟨W.trans (oU _ _ _ B7),λL m Q w F f⟨S,X⟩=>?_⟩;let⟨I1,q2,q3,_,q5⟩:=y L m Q w (F.of_le (oU _ _ _ B7)) f S X;let⟨d',k3,k4⟩:=q5 w rfl (.refl w);rcases S.lk with⟨pl,cd,hm,hc,rfl⟩|⟨h4,h5,pl,a,hm,rfl⟩
      .let⟨_,_,_,_,R⟩:=f.row hm hg (q2 b rfl);have oI:=hc.le R.pos;let⟨w',dW,s1,s2⟩:=Xg (P:=P) I1 hm B7 AV k4 ady F;refine⟨_,m,dW,w',run_append_room (t:=t) (w':=w') tok h0 h1 eU q3 (by omega) k3 (λa ha=>?_) (λha=>by cases ha),.refl _,.slice hm hc,s2⟩;cases ha;rw[kT,yp];exact s1
      .omega
   |false=>
    rw[hb]at e;have atr:u<p+n:=Jr hb;have e:mP T q b el i.size (p+n) (off+u*i.size) (il A B) c e' k=.v j g:=e;rw[qH]at e;cases k with
    |false=>
     have e:aK.v (zL (pO q.n) (p+n) (p+n)) (q.w (K (A++B) el Y))=.v j g:=e;injection e with e1 e2;have v:Le q g:=by rw[<-e2];exact lr _ _
     refine⟨W.trans v,λL m Q w F f⟨S,X⟩=>?_⟩;let⟨I1,q2,_⟩:=y L m Q w (F.of_le v) f S X;refine fresh q e1.symm e2.symm L m Q Q w F v f I1 S X (λb' C V=>?_);rcases S.lk with⟨pl,cd,hm,hc,rfl⟩|⟨h4,h5,pl,a,hm,rfl⟩
     .let⟨_,_,_,_,R⟩:=f.row hm hg (q2 b rfl);injection V with _ _ V;have:=hc.tight R.pos (R.tight rfl);omega
     .injection V with _ _ V;omega
    |true=>
     have e:cond (Ns (zI T e') (O i.size)) (bN (kO q el (p+n) (A++B)) (kO (q.d b) el (p+n) (A++B)) (zV (off+u*i.size) (dh c))) .f=.v j g:=e;let⟨hss,e⟩:=gu e;let⟨sz2,r1,r2⟩:=Xt hss;cases r2;cases BI:zV (off+u*i.size) (dh c)with
     |false=>
      rw[BI]at e;have Uj:=rE BI;rw[fX]at Uj;have e:aK.v (zL (pO q.n) (p+n) (p+n)) (q.w (K (A++B) el Y))=.v j g:=e;injection e with e1 e2;have v:Le q g:=by rw[<-e2];exact lr _ _
      refine⟨W.trans v,λL m Q w F f⟨S,X⟩=>?_⟩;let⟨I1,q2,_⟩:=y L m Q w (F.of_le v) f S X;refine fresh q e1.symm e2.symm L m Q Q w F v f I1 S X (λb' C V=>?_);rcases S.lk with⟨pl,cd,hm,hc,rfl⟩|⟨h4,h5,pl,a,hm,rfl⟩
      .let⟨_,_,_,_,R⟩:=f.row hm hg (q2 b rfl);injection V with _ _ V;have L5:pl.sz=i.size:=by have:=R.sz rfl;rw[r1]at this;injection this with this;exact this.symm
       rcases hc with hc|⟨hc,_⟩
       .omega
       .rw[L5,<-R.BF]at hc;omega
      .injection V with _ _ V;omega
     |true=>
      rw[BI]at e;have Uj:=hJ BI;rw[fX]at Uj;have e:aK.v (zL (pO (q.d b).n) (p+n) (p+n)) ((q.d b).w (K (A++B) el Y))=.v j g:=e;injection e with e1 e2;have v:Le q g:=by rw[<-e2];exact(aa4 _ _).trans (lr _ _)
      refine⟨W.trans v,λL m Q w F f⟨S,X⟩=>?_⟩;let⟨I1,q2,q3,q4,q5⟩:=y L m Q w (F.of_le v) f S X
      have grow:(∀b' C,s'=zL b' p C->¬p+n<=C)->∃v' m' dW w',(xH ts t #[s',x']).run P w=.ok v' w'/\ct m m'/\VR m' j v'/\Inv T L m' dW g w':=λoJ=>by have I2:=I1.drop (b:=b) (by rw[<-e2]at F;exact F.of_le (lr _ _)) B7;exact fresh (q.d b) e1.symm e2.symm L m Q _ w F v f I2 S X oJ
      have Vu:=S;rcases S.lk with⟨pl,cd,hm,hc,rfl⟩|⟨h4,h5,pl,a,hm,rfl⟩
      .by_cases hin:p+n<=cd
       .let⟨C,pre,post,e'',R⟩:=f.row hm hg (q2 b rfl);have L5:pl.sz=i.size:=by have:=R.sz rfl;rw[r1]at this;injection this with this;exact this.symm
        have hcr:off+cd*i.size=pl.BF+pl.ext:=by
         rcases hc with hc|⟨_,hc⟩
         .omega
         .rw[L5]at hc;exact hc
        let⟨o',k1,k2⟩:=q4 w rfl (.refl w);let⟨d',k3,k4⟩:=q5 w rfl (.refl w)
        have adz:A=(c.drop off).take (p*i.size)/\p*i.size<=I (c.drop off):=by have V:rK off (z7 p i.size) (rD (h.g b))=O A:=ho;rw[hg]at V;have V:cut c off (p*i.size)=O A:=V;let⟨a1,a2⟩:=TF V;exact⟨a2,a1⟩
        have hlc:=R.rel.length;have aIk:=R.BF;have aID:=R.ext;have PW:I d'=n*i.size:=by rw[k4.length,B5]
        have oI:p*i.size+off<=I c:=by
         have:=adz.2;rw[wK]at this;by_cases Pj:off<=I c
         .omega
         .omega
        have hmul:(p+n)*i.size=p*i.size+n*i.size:=xD _ _ _;have aIl:(p+n)*i.size<=cd*i.size:=vb _ hin;have Vv:=run_storeCells_at P pl.aH (pl.sh+off+p*i.size) e'' d' 0 ⟨pre++(C++post)⟩ w R.heap (by simp[R.pre];omega) (k4.JZ ady);have Pj:off<=I C:=by omega
        have L1:(pre++(C++post)).take (pl.sh+off+p*i.size+0)=(pre++C.take off)++(C.drop off).take (p*i.size):=by rw[xP,yp,<-R.pre,wW,uD (by omega),List.take_add,vq]
        have L2:(pre++(C++post)).drop (pl.sh+off+p*i.size+0+I d')=(C++post).drop (off+p*i.size+I d'):=by rw[xP,show pl.sh+off+p*i.size+I d'=pl.sh+(off+p*i.size+I d') from by omega,<-R.pre,wU]
        rw[L1,L2]at Vv;have L3:(pre++C.take off++(C.drop off).take (p*i.size)++d'++(C++post).drop (off+p*i.size+I d'))=(pre++C.take off)++(((C.drop off).take (p*i.size)++d')++(C++post).drop (off+p*i.size+I d')):=by simp
        rw[L3]at Vv;let⟨s1,s2,s3,s4⟩:=XU w (c2:=((pre++C.take off)++(((C.drop off).take (p*i.size)++d')++(C++post).drop (off+p*i.size+I d'))).toArray) R.heap;have avq:(cd-(p+n))*i.size+(p+n)*i.size=cd*i.size:=by rw[<-xD];congr 1;omega
        have hFn:Fin L ((q.d b).w (K (A++B) el Y)):=by rw[e2];exact F
        have PX:m q.n=U:=(I1.fresh q.n (zR _) (by have:=hFn.next;rw[jR,mR]at this;omega)).1;have adA:ct m (m.eT q.n (O ⟨pl.aH,pl.sh+off,(p+n)*i.size,(cd-(p+n))*i.size,i.size⟩)):=M.TE PX
        have rl:OR T (m.eT q.n (O ⟨pl.aH,pl.sh+off,(p+n)*i.size,(cd-(p+n))*i.size,i.size⟩)) ⟨pl.aH,pl.sh+off,(p+n)*i.size,(cd-(p+n))*i.size,i.size⟩ (K (A++B) el Y)
         (yP ⟨(pre++C.take off)++(((C.drop off).take (p*i.size)++d')++(C++post).drop (off+p*i.size+I d'))⟩ e'' (0,0)):=by
         refine OR.cells (LR.append ?_ (k4.mono adA)) ?_ ?_ ?_ (λh=>by cases h) BH (λ_=>eU)
         .rw[adz.1];exact((R.rel.drop off).take _).mono adA
         .simp[R.pre];omega
         .rw[yD,Dv,B5];exact hmul.symm
         .show(cd-(p+n))*i.size<=I ((C++post).drop (off+p*i.size+I d'));rw[wK,yD];omega
        let⟨j1,dW,j2⟩:=I1.arb (AU:=⟨pl.aH,pl.sh+off,(p+n)*i.size,(cd-(p+n))*i.size,i.size⟩) hFn hm B7 rfl rl s1 s2 s3 s4;refine⟨_,_,dW,_,run_append_room (t:=t) (w':=_) tok h0 h1 eU q3 hin k3 (λa ha=>?_) (λha=>by cases ha),j1,?_,by rw[<-e2];exact j2⟩
        .cases ha;rw[kT];exact Vv
        .rw[<-e1,mR];exact VR.slice (off:=0) (cap:=p+n) (cd:=cd) (pl:=⟨pl.aH,pl.sh+off,(p+n)*i.size,(cd-(p+n))*i.size,i.size⟩) (M.jz _ _ _) (zt ⟨by simp,by show 0+cd*i.size=(p+n)*i.size+(cd-(p+n))*i.size;omega⟩)
       .exact grow (λb' C V=>by injection V with _ _ V;omega)
      .exact grow (λb' C V=>by injection V with _ _ V;omega)
  |_=>cases e
 .cases e
end
section
variable{T:au}{P:zo}
def QL{o:Option E}(e:Jn h b o=.v v g):b=Y/\g=h/\∃a,o=O a/\v=xC #[a,zP G]:=by
 cases o with
 |none=>cases e
 |some a=>
  let⟨c,e⟩:=gu (r:=aK.v (xC #[a,zP G]) h) e;injection e with d f;exact⟨c,f.symm,a,rfl,d.symm⟩
def afR(i:bM T P){xt:zQ}{x' c:E}(e:rJ T h t b (T.u t) (O N)=.v c g):
 bu T P h c g (λm=>VR m N x') (w9 x' xt t b):=by
 have k:∀{a:E},zero T t=O a->∀(m:M)(f d:Option zQ)(Q:String),VR m (xC #[a,zP G]) (xC #[a,zP G]):=λl m _ _ _=>
  .tuple (.Cs (VR.Ac m (CH i l).1) (.Cs (.bool _) .Nl))
 cases o:T.u t with
 |none=>rw[o]at e;cases e
 |some d=>
  rw[o]at e;unfold rJ at e;split at e
  .cases e
  .rename_i F r s;cases r;cases s;obtain⟨rfl,rfl,a,l,rfl⟩:=QL e;refine bu.quiet λm p=>?_;cases p;exact⟨_,k l m U U "",λw=>by cases d<;>simp[w9,dw i o,(CH i l).2]⟩
  .rename_i F u y v r s;cases r;cases s;have j:∀A,d≠ .interface A:=λA L=>v A L;cases q:zV u t with
   |true=>
    rw[q]at e;have n:=hJ q;subst n;cases e;refine bu.quiet λm p=>?_;cases p with
    |@iface _ _ C B=>
     refine⟨cond b (xC #[C,zP Y]) C,?_,λw=>by cases d<;>first|exact absurd rfl (j _)|(cases b<;>simp[w9,dw i o])⟩;cases b
     .exact B
     .exact .tuple (.Cs B (.Cs (.bool _) .Nl))
   |false=>
    rw[q]at e;have n:=rE q;obtain⟨rfl,rfl,a,l,rfl⟩:=QL e;refine bu.quiet λm p=>?_;cases p with
    |iface _ B=>
     exact⟨_,k l m U U "",λw=>by cases d<;>first|exact absurd rfl (j _)|simp[w9,dw i o,n,(CH i l).2]⟩
  .cases e
def XY{a:Array zQ}{d:yU}(e:iS T a.toList[i]?=O d):∃t,a[i]?=O t/\T.u t=O d:=by
 cases h:a.toList[i]? with
 |none=>rw[h]at e;cases e
 |some t=>rw[h]at e;exact⟨t,by simpa using h,e⟩
def Q6(j:bM T P){v:Array zQ}{x' f:E}(e:mX h (iS T v.toList[0]?) N=.v f g):bu T P h f g (λm=>VR m N x') (wL v t #[x']):=by
 cases y:iS T v.toList[0]? with
 |none=>rw[y]at e;cases e
 |some d=>
  rw[y]at e;let⟨t0,p,q⟩:=XY y;unfold mX at e;split at e
  .rename_i C a n c k;cases k;cases e;refine bu.quiet λm l=>?_;obtain⟨L,M,rfl⟩:=l.len;exact⟨_,.int _ _,λw=>by simp[wL,p,dw j q,goInt]⟩
  .rename_i s k;cases k;cases e;refine bu.quiet λm l=>?_;cases l;exact⟨_,.int _ _,λw=>by simp[wL,p,dw j q,goInt]⟩
  .rename_i a b k;cases k;cases e;refine bu.quiet λm l=>?_;cases l;exact⟨_,.int _ _,λw=>by simp[wL,p,dw j q,goInt]⟩
  .rename_i a b r k;cases k;cases A:h.g r with
   |none=>rw[A]at e;cases e
   |some o=>
    rw[A]at e;cases o with
    |map Q R=>
     have e:aK.v (yV zx Q.size) (h.az r)=.v f g:=e;cases e;refine⟨jP h r,λS m V w F i l=>?_⟩;have W:S.cX r:=(ma h r).elim (λN=>(F.hi r N).1) (F.rd r);cases l with
     |map X=>
      let⟨_,o',ho,hO⟩:=i.get X A W;cases hO with
      |@map B u _ hE=>
       refine⟨yV zx (I u:Int),m,V,w,by simp[wL,p,dw j q,kL (P:=P) ho rfl,goInt],.refl _,?_,i.az r⟩;show VR m (yV zx (I B:Int)) (yV zx (I u:Int));rw[hE.length];exact .int _ _
    |_=>cases e
  .rename_i C n k;cases k;cases e;refine bu.quiet λm l=>?_;obtain⟨L,M,rfl⟩:=RS rfl l;exact⟨_,.int _ _,λw=>by simp[wL,p,dw j q,goInt]⟩
  .cases e
end
section
variable{T:au}{P:zo}
def qR(a:Tr E)(b:zh->E)(l:List zh)(m:M):Prop:=∀x∈l,∀u,aA a x=O u->VR m u (b x)
def ajn{x:zh}{l:List zh}:ei q (x::l)=match aA q x with
 |some v=>match ei q l with
  |some r=>O (v::r)
  |none=>U
 |none=>U:=rfl
def Ah{b:Tr E}{ρ:zh->E}{m:M}:∀{l:List zh}{a:List E},ei b l=O a->qR b ρ l m->LR m a (l.map ρ)
 |[],a,e,_=>by have e:O []=O a:=e;cases e;exact .Nl
 |x::l,a,e,h=>by
  rw[ajn]at e;cases c:aA b x with
  |none=>rw[c]at e;cases e
  |some v=>
   rw[c]at e;cases d:ei b l with
   |none=>simp only[d]at e;cases e
   |some r=>
    simp only[d]at e;cases e;exact .Cs (h x (by simp) v c) (Ah d λy f=>h y (by simp[f]))
def agb(x:Nat×zh){l:List (Nat×zh)}:om q (x::l)=match aA q x.2 with
 |some v=>match om q l with
  |some r=>O ((x.1,v)::r)
  |none=>U
 |none=>U:=rfl
def Q1{b:Tr E}{f:zh->E}{m:M}:∀{l:List (Nat×zh)}{a:List (Nat×E)},om b l=O a->qR b f (l.map (·.2)) m->
 ED m a (l.map λ(i,x)=>(i,f x))
 |[],a,e,_=>by have e:O []=O a:=e;cases e;exact .nil
 |(i,x)::l,a,e,h=>by
  rw[agb]at e;cases c:aA b x with
  |none=>simp only[c]at e;cases e
  |some v=>
   simp only[c]at e;cases d:om b l with
   |none=>simp only[d]at e;cases e
   |some r=>
    simp only[d]at e;cases e;exact .cons (h x (by simp) v c) (Q1 d λy g=>h y (by simp only[List.map_cons,zp];exact zt g))
def Vw(T:au)(P:zo)(g:Tr E)(a:zh->E)(h:H)(v:E)(b:H)(o:Oper):Prop:=
 Le h b/\∀Γ m i w,Fin Γ b->Inv T Γ m i h w->qR g a (cG o.op) m->
  ∃c d e f,((zw a o).run P w=.ok (.value c) f\/((zw a o).run P w=.ok .skip f/\c=yh))/\ct m d/\VR d v c/\Inv T Γ d e b f
def bu.val{ρ:zh->E}{o:Oper}{s:Sem E}{X:M->Prop}(H:bu T P h v g X s)(e:∀m,qR q ρ (cG o.op) m->X m)
 (f:∀w,(zw ρ o).run P w=(s.run P w).andThen λa c=>.ok (.value a) c):Vw T P q ρ h v g o:=by
 refine⟨H.1,λi m j w F b r=>?_⟩;let⟨k,l,d,c,h1,n⟩:=H.2 i m j w F b (e m r);exact⟨k,l,d,c,zq (by rw[f,h1];rfl),n⟩
def bu.skip{tm:Tr E}{d:zh->E}{o:Oper}{s:Sem Unit}{X:M->Prop}(H:bu T P h yh g X (do s;sP yh))(j:∀m,qR tm d (cG o.op) m->X m)
 (k:∀w,(zw d o).run P w=(s.run P w).andThen λ_ i=>.ok .skip i):Vw T P tm d h yh g o:=by
 refine⟨H.1,λl m n w F b r=>?_⟩;let⟨u,p,e,i,c,q⟩:=H.2 l m n w F b (j m r);simp only[zn,yA]at c;cases f:s.run P w with
 |ok a t=>
  rw[f]at c;simp only[zY,Result.ok.injEq]at c;obtain⟨rfl,rfl⟩:=c;exact⟨yh,p,e,_,zt ⟨by rw[k,f];rfl,rfl⟩,q⟩
 |halt x t=>rw[f]at c;cases c
def Xv{b c:Type}(r:Result A)(f:A->zu->Result b)(g:b->zu->Result c):(r.andThen f).andThen g=r.andThen λa w=>(f a w).andThen g:=by cases r<;>rfl
def Xe{a b c:Option E}(e:DZ T h t a b c=.v v g):v=yh:=by
 unfold DZ at e;split at e
 .unfold MG at e;split at e
  .let⟨_,e⟩:=gu e;unfold XS at e;split at e
   .unfold TA at e;split at e
    .injection e with e;exact e.symm
    .injection e with e;exact e.symm
    .cases e
   .cases e
  .cases e
 .cases e
def Out.ep{r a:aK}(e:Out.of r=.of a):r=a:=by injection e
def S7{b:zh->E}{m:M}{o:Option zh}{r:Option E}(e:bounds o (iV q o)=O r)(h:qR q b (K8 o) m):BG m r (o.map b):=by
 cases o with
 |none=>have e:O U=O r:=e;cases e;exact .none
 |some x=>
  have e:(match aA q x with|some v=>O (O v)|none=>U)=O r:=e
  cases a:aA q x with
  |none=>rw[a]at e;cases e
  |some v=>rw[a]at e;cases e;exact .some (h x (by simp[K8]) v a)
set_option maxHeartbeats 2000000 in
def MT(L:bM T P){ρ:zh->E}{o:Oper}(e:Am.execOp T q o.type h o.op=.of (.v v g)):Vw T P q ρ h v g o:=by
 let⟨dst,op,type,pos,after,guard⟩:=o;have C:∀{m:M}{x:zh}{u:E}{l:List zh},aA q x=O u->x∈l->qR q ρ l m->VR m u (ρ x):=λhu B r=>r _ B _ hu;cases op
 case move x=>
  obtain⟨e1,rfl⟩:=Bg (o:=aA q x) (Out.ep e);exact bu.val (s:=sP (ρ x)) (X:=λm=>VR m v (ρ x)) (bu.quiet λm B=>⟨_,B,λw=>rfl⟩) (λm r=>C e1 (by simp[cG]) r) (λw=>rfl)
 case assign x=>
  obtain⟨e1,rfl⟩:=Bg (o:=aA q x) (Out.ep e);exact bu.val (s:=sP (ρ x)) (X:=λm=>VR m v (ρ x)) (bu.quiet λm B=>⟨_,B,λw=>rfl⟩) (λm r=>C e1 (by simp[cG]) r) (λw=>rfl)
 case pick c a b=>
  have e:Kb q h a b (aA q c)=.v v g:=Out.ep e;cases hc:aA q c with
  |none=>rw[hc]at e;cases e
  |some cv=>
   rw[hc]at e;exact bu.val (agn (ρ:=ρ) (c':=ρ c) e) (λm r=>⟨C hc (by simp[cG]) r,λu hu=>C hu (by simp[cG]) r,λu hu=>C hu (by simp[cG]) r⟩) (λw=>by simp[zw,Xv])
 case alloc el=>exact bu.val (agK L (Out.ep e)) (λ_ _=>trivial) (λw=>by simp[zw])
 case box el x=>
  have e:Bv h el (aA q x)=.v v g:=Out.ep e;cases B:aA q x with
  |none=>rw[B]at e;cases e
  |some u=>rw[B]at e;exact bu.val (XV (z':=ρ x) e) (λm r=>C B (by simp[cG]) r) (λw=>by simp[zw])
 case build t ps=>
  have e:eK T h t (zero T t) (om q ps.toList)=.v v g:=Out.ep e;cases hp:om q ps.toList with
  |none=>rw[hp]at e;cases hz:zero T t<;>rw[hz]at e<;>cases e
  |some j=>
   rw[hp]at e;exact bu.val (af3 L (FI:=ps.map λ(i,x)=>(i,ρ x)) e) (λm r=>by simpa using Q1 hp r) (λw=>by simp[zw])
 case buildSlice t n ps=>
  have e:iQ T h n (T.u t) (om q ps.toList)=.v v g:=Out.ep e;cases hp:om q ps.toList with
  |none=>rw[hp]at e;unfold iQ at e;split at e<;>first|(cases e;done)|(rename_i j;cases j)
  |some j=>
   rw[hp]at e;exact bu.val (afq L (FI:=ps.map λ(i,x)=>(i,ρ x)) e) (λm r=>by simpa using Q1 hp r) (λw=>by simp[zw])
 case insert t mp k x=>
  have e:DZ T h t (aA q mp) (aA q k) (aA q x)=.v v g:=Out.ep e;cases W:aA q mp with
  |none=>rw[W]at e;cases e
  |some um=>
  cases hk:aA q k with
  |none=>rw[W,hk]at e;cases e
  |some uk=>
  cases B:aA q x with
  |none=>rw[W,hk,B]at e;cases e
  |some ux=>
   rw[W,hk,B]at e;have hv:v=yh:=Xe e;subst hv;exact bu.skip (Xd L (x':=ρ mp) (k':=ρ k) (u':=ρ x) e) (λm r=>⟨C W (by simp[cG]) r,C hk (by simp[cG]) r,C B (by simp[cG]) r⟩) (λw=>by simp[zw])
 case load t a=>
  have e:N8 T h t (aA q a)=.v v g:=Out.ep e;cases Q:aA q a with
  |none=>rw[Q]at e;cases e
  |some u=>rw[Q]at e;exact bu.val (agl L (a':=ρ a) e) (λm r=>C Q (by simp[cG]) r) (λw=>by simp[zw])
 case store t a x=>
  have e:NK T h t (aA q a) (aA q x)=.v v g:=Out.ep e;cases Q:aA q a with
  |none=>rw[Q]at e;cases e
  |some ua=>
  cases B:aA q x with
  |none=>rw[Q,B]at e;cases e
  |some ux=>
   rw[Q,B]at e;have e:o0 (zG T h t ux ua)=.v v g:=e;cases hs:zG T h t ux ua with
   |none=>rw[hs]at e;cases e
   |some h2=>
    rw[hs]at e;cases e;exact bu.skip (af1 L (a':=ρ a) (v':=ρ x) hs) (λm r=>⟨C Q (by simp[cG]) r,C B (by simp[cG]) r⟩) (λw=>by simp[zw])
 case nilCheck x=>
  have e:Jm h (aA q x)=.v v g:=Out.ep e;cases B:aA q x with
  |none=>rw[B]at e;cases e
  |some u=>
   rw[B]at e
   have hu:v=u/\g=h/\((∃a,u=zM (O a))\/(∃f p j,u=zU (za f) p j)\/(∃l p j,u=zU (.yield l) p j)):=by
    unfold Jm at e;split at e
    .rename_i j;injection j with j;injection e with e1 e2;exact⟨by rw[<-e1,j],e2.symm,zq ⟨_,j⟩⟩
    .rename_i j;injection j with j;injection e with e1 e2;exact⟨by rw[<-e1,j],e2.symm,zt (zq ⟨_,_,_,j⟩)⟩
    .rename_i j;injection j with j;injection e with e1 e2;exact⟨by rw[<-e1,j],e2.symm,zt (zt ⟨_,_,_,j⟩)⟩
    .cases e
   obtain⟨rfl,rfl,Uk⟩:=hu;refine⟨.refl _,λΓ m hD w F A r=>?_⟩;have hr:=C B (by simp[cG]) r;refine⟨ρ x,m,hD,w,zq ?_,.refl _,hr,A⟩;generalize V:ρ x=j at hr⊢;rcases Uk with⟨a,rfl⟩|⟨f,p,j,rfl⟩|⟨l,p,j,rfl⟩
   .cases hr;simp[zw,V]
   .cases hr;simp[zw,V]
   .cases hr;simp[zw,V]
 case binOp op t x y yt=>
  have e:fu T h op t x y (aA q x) (aA q y)=.v v g:=Out.ep e;cases B:aA q x with
  |none=>rw[B]at e;cases e
  |some ux=>
  cases hy:aA q y with
  |none=>rw[B,hy]at e;cases e
  |some uy=>
   rw[B,hy]at e;exact bu.val (ahM L (a':=ρ x) (b':=ρ y) e) (λm r=>⟨C B (by simp[cG]) r,C hy (by simp[cG]) r⟩) (λw=>by simp[zw,Xv])
 case unOp op t x=>
  have e:K7 T h op (aA q x)=.v v g:=Out.ep e;cases B:aA q x with
  |none=>rw[B]at e;cases e
  |some u=>rw[B]at e;exact bu.val (ahN L (a':=ρ x) e) (λm r=>C B (by simp[cG]) r) (λw=>by simp[zw])
 case convert s d x=>
  have e:M8 T h s d (aA q x)=.v v g:=Out.ep e;cases B:aA q x with
  |none=>rw[B]at e;cases e
  |some u=>rw[B]at e;exact bu.val (afG L (a':=ρ x) e) (λm r=>C B (by simp[cG]) r) (λw=>by simp[zw])
 case makeInterface t x=>
  have e:Bi h t (T.u t) (aA q x)=.v v g:=Out.ep e;cases B:aA q x with
  |none=>rw[B]at e;cases hu:T.u t with
   |none=>rw[hu]at e;cases e
   |some d=>rw[hu]at e;cases d<;>cases e
  |some u=>rw[B]at e;exact bu.val (af6 L (x':=ρ x) e) (λm r=>C B (by simp[cG]) r) (λw=>by simp[zw])
 case makeFunc fn first R=>
  have e:funcOf h fn (ei q first.toList) (ei q R.toList)=.v v g:=Out.ep e;cases hf:ei q first.toList with
  |none=>rw[hf]at e;cases fn<;>cases e
  |some a=>
  cases hc:ei q R.toList with
  |none=>rw[hf,hc]at e;cases fn<;>cases e
  |some b=>
   rw[hf,hc]at e;cases fn with
   |func f=>
    cases e
    exact bu.val (s:=sR (za f) (first.map ρ) (R.map ρ)) (X:=λm=>LR m a (first.toList.map ρ)/\LR m b (R.toList.map ρ))
     (bu.quiet λm⟨Q,hb⟩=>⟨zU (za f) (first.map ρ) (R.map ρ),by
       have e1:first.map ρ=⟨first.toList.map ρ⟩:=by apply wY;simp
       have e2:R.map ρ=⟨R.toList.map ρ⟩:=by apply wY;simp
       rw[e1,e2];exact .func f Q hb,λw=>by simp[sR]⟩)
     (λm r=>⟨Ah hf (λy hy=>r y (by simp only[cG,xX];exact zq hy)),Ah hc (λy hy=>r y (by simp only[cG,xX];exact zt hy))⟩) (λw=>by simp[zw])
   |_=>cases e
 case makeMap t r=>exact bu.val (afI (t:=t) (ρ:=ρ) (Out.ep e)) (λ_ _=>trivial) (λw=>by simp[zw])
 case makeSlice t l c=>
  have e:A7 T h (T.u t) (aA q l) (aA q c)=.v v g:=Out.ep e;cases hl:aA q l with
  |none=>rw[hl]at e;unfold A7 at e;split at e<;>first|(cases e;done)|(rename_i j _;cases j)
  |some ul=>
  cases hc:aA q c with
  |none=>rw[hl,hc]at e;unfold A7 at e;split at e<;>first|(cases e;done)|(rename_i j;cases j)
  |some uc=>
   rw[hl,hc]at e;exact bu.val (aft L (l':=ρ l) (c':=ρ c) e) (λm r=>⟨C hl (by simp[cG]) r,C hc (by simp[cG]) r⟩) (λw=>by simp[zw])
 case slice t x lo S mx=>
  have e:rO T h t (aA q x) (bounds lo (iV q lo)) (bounds S (iV q S)) (bounds mx (iV q mx))=.v v g:=Out.ep e;unfold rO at e;split at e
  .rename_i ux bl bh bm B hl hh W
   have key:(bh=U->bm=U)/\CF T h bl bh bm (T.u t) ux=.v v g:=by
    split at e
    .cases e
    .rename_i jE;refine⟨λhb=>?_,e⟩;cases bm with
     |none=>rfl
     |some y=>exact(jE y hb rfl).elim
   refine bu.val (af7 L (x':=ρ x) (PP:=lo.map ρ) (Iy:=S.map ρ) (PQ:=mx.map ρ) key.2 key.1) (λm r=>⟨C B (by simp[cG]) r,S7 hl λy hy=>r y ?_,S7 hh λy hy=>r y ?_,S7 W λy hy=>r y ?_⟩) (λw=>by simp[zw])
   .simp only[cG,zp,xX];exact zt (zq hy)
   .simp only[cG,zp,xX];exact zt (zt (zq hy))
   .simp only[cG,zp,xX];exact zt (zt (zt hy))
  .cases e
 case fieldAddr s x f=>
  have e:aX T h s f (aA q x)=.v v g:=Out.ep e;cases B:aA q x with
  |none=>rw[B]at e;cases e
  |some u=>rw[B]at e;exact bu.val (afu L (x':=ρ x) e) (λm r=>C B (by simp[cG]) r) (λw=>by simp[zw])
 case field t x f=>
  have e:G6 T h f (T.u t) (aA q x)=.v v g:=Out.ep e;cases B:aA q x with
  |none=>rw[B]at e;unfold G6 at e;split at e<;>first|(cases e;done)|(rename_i j;cases j)
  |some u=>rw[B]at e;exact bu.val (af4 L (x':=ρ x) e) (λm r=>C B (by simp[cG]) r) (λw=>by simp[zw])
 case indexAddr t x i=>
  have e:dI T h (T.u t) (aA q x) (aA q i)=.v v g:=Out.ep e;cases B:aA q x with
  |none=>rw[B]at e;unfold dI at e;split at e<;>first|(cases e;done)|(rename_i j _;cases j)
  |some ux=>
  cases S:aA q i with
  |none=>rw[B,S]at e;unfold dI at e;split at e<;>first|(cases e;done)|(rename_i j;cases j)
  |some ui=>
   rw[B,S]at e;exact bu.val (afv L (x':=ρ x) (i':=ρ i) e) (λm r=>⟨C B (by simp[cG]) r,C S (by simp[cG]) r⟩) (λw=>by simp[zw])
 case index t x i=>
  have e:indexOf T h t (T.u t) (aA q x) (aA q i)=.v v g:=Out.ep e;cases B:aA q x with
  |none=>rw[B]at e;unfold indexOf at e;split at e<;>first|(cases e;done)|(rename_i j _;cases j)
  |some ux=>
  cases S:aA q i with
  |none=>rw[B,S]at e;unfold indexOf at e;split at e<;>first|(cases e;done)|(rename_i j;cases j)
  |some ui=>
   rw[B,S]at e;exact bu.val (af5 L (x':=ρ x) (i':=ρ i) e) (λm r=>⟨C B (by simp[cG]) r,C S (by simp[cG]) r⟩) (λw=>by simp[zw])
 case lookup t x i ok=>
  have e:Sl T h t ok (aA q x) (aA q i)=.v v g:=Out.ep e;cases B:aA q x with
  |none=>rw[B]at e;cases e
  |some ux=>
  cases S:aA q i with
  |none=>rw[B,S]at e;cases e
  |some ui=>
   rw[B,S]at e;exact bu.val (afP L (x':=ρ x) (k':=ρ i) e) (λm r=>⟨C B (by simp[cG]) r,C S (by simp[cG]) r⟩) (λw=>by simp[zw])
 case mapUpdate t mp k x=>
  have e:DZ T h t (aA q mp) (aA q k) (aA q x)=.v v g:=Out.ep e;cases W:aA q mp with
  |none=>rw[W]at e;cases e
  |some um=>
  cases hk:aA q k with
  |none=>rw[W,hk]at e;cases e
  |some uk=>
  cases B:aA q x with
  |none=>rw[W,hk,B]at e;cases e
  |some ux=>
   rw[W,hk,B]at e;have hv:v=yh:=Xe e;subst hv;exact bu.skip (Xd L (x':=ρ mp) (k':=ρ k) (u':=ρ x) e) (λm r=>⟨C W (by simp[cG]) r,C hk (by simp[cG]) r,C B (by simp[cG]) r⟩) (λw=>by simp[zw])
 case range t x=>
  have e:Es h (T.u t) (aA q x)=.v v g:=Out.ep e;cases B:aA q x with
  |none=>rw[B]at e;unfold Es at e;split at e<;>first|(cases e;done)|(rename_i j;cases j)
  |some u=>rw[B]at e;exact bu.val (af8 L (x':=ρ x) e) (λm r=>C B (by simp[cG]) r) (λw=>by simp[zw])
 case next it b=>
  have e:Ho h b (aA q it)=.v v g:=Out.ep e;cases B:aA q it with
  |none=>rw[B]at e;cases e
  |some u=>rw[B]at e;exact bu.val (agp (x':=ρ it) (t:=type) e) (λm r=>C B (by simp[cG]) r) (λw=>by simp[zw])
 case entry it=>
  have e:NN h (aA q it)=.v v g:=Out.ep e;cases B:aA q it with
  |none=>rw[B]at e;cases e
  |some u=>rw[B]at e;exact bu.val (af9 (x':=ρ it) e) (λm r=>C B (by simp[cG]) r) (λw=>by simp[zw])
 case typeAssert x xt t ok=>
  have e:rJ T h t ok (T.u t) (aA q x)=.v v g:=Out.ep e;cases B:aA q x with
  |none=>rw[B]at e;unfold rJ at e;split at e<;>first|(cases e;done)|(rename_i j;cases j)
  |some u=>rw[B]at e;exact bu.val (afR L (xt:=xt) (x':=ρ x) e) (λm r=>C B (by simp[cG]) r) (λw=>by simp[zw])
 case extract x i=>
  have e:Jz h i (aA q x)=.v v g:=Out.ep e;cases B:aA q x with
  |none=>rw[B]at e;cases e
  |some u=>rw[B]at e;exact bu.val (afH (x':=ρ x) e) (λm r=>C B (by simp[cG]) r) (λw=>by simp[zw])
 case call c=>
  let⟨callee,args,argTypes⟩:=c;have e:Ao T q h argTypes type callee (ei q args.toList)=.of (.v v g):=e;cases Q:ei q args.toList with
  |none=>rw[Q]at e;cases e
  |some l=>
   rw[Q]at e;cases callee with
   |value f=>
    have e:CI l (aA q f)=.of (.v v g):=e;cases hf:aA q f<;>rw[hf]at e<;>cases e
   |invoke r n=>cases e
   |builtin b=>
    have e:qt T h argTypes type l b=.of (.v v g):=e;have hL:∀m,qR q ρ (cG (Op.call ⟨.builtin b,args,argTypes⟩)) m->LR m l (args.toList.map ρ):=λm r=>Ah Q r;have N:args.map ρ=⟨args.toList.map ρ⟩:=by apply wY;simp
    cases b with
    |append=>
     rcases l with _|⟨s,_|⟨x,_|⟨y,j⟩⟩⟩
     .cases e
     .cases e
     .cases V:args.toList.map ρ with
      |nil=>exact⟨(My (P:=P) L (s':=s) (x':=x) (t:=type) (Out.ep e)).1,λΓ m hD w F A r=>by have:=hL m r;rw[V]at this;cases this⟩
      |cons s' q2=>
       cases q2 with
       |nil=>exact⟨(My (P:=P) L (s':=s) (x':=x) (t:=type) (Out.ep e)).1,λΓ m hD w F A r=>by have:=hL m r;rw[V]at this;cases this with|Cs a b=>cases b⟩
       |cons x' q3=>
        cases q3 with
        |cons y q4=>exact⟨(My (P:=P) L (s':=s) (x':=x) (t:=type) (Out.ep e)).1,λΓ m hD w F A r=>by have:=hL m r;rw[V]at this;cases this with|Cs a b=>cases b with|Cs c d=>cases d⟩
        |nil=>
         rw[V]at N
         exact bu.val (My L (s':=s') (x':=x') (t:=type) (Out.ep e)) (λm r=>by have:=hL m r;rw[V]at this;cases this with|Cs a b=>cases b with|Cs c d=>exact⟨a,c⟩)
          (λw=>by simp[zw,resolve,invoke,builtin,N])
     .cases e
    |len=>
     rcases l with _|⟨x,_|⟨y,j⟩⟩
     .cases e
     .cases V:args.toList.map ρ with
      |nil=>exact⟨(Q6 (P:=P) L (x':=x) (t:=type) (Out.ep e)).1,λΓ m hD w F A r=>by have:=hL m r;rw[V]at this;cases this⟩
      |cons x' q2=>
       cases q2 with
       |cons y q3=>exact⟨(Q6 (P:=P) L (x':=x) (t:=type) (Out.ep e)).1,λΓ m hD w F A r=>by have:=hL m r;rw[V]at this;cases this with|Cs a b=>cases b⟩
       |nil=>
        rw[V]at N;exact bu.val (Q6 L (x':=x') (t:=type) (Out.ep e)) (λm r=>by have:=hL m r;rw[V]at this;cases this with|Cs a b=>exact a) (λw=>by simp[zw,resolve,invoke,builtin,N])
     .cases e
    |max=>
     have e:Oa h T.prog (nq l) (uR argTypes type l.toArray)=.v v g:=Out.ep e;let⟨hg,e⟩:=gu (r:=jU h (dT T.prog (uR argTypes type l.toArray))) e;exact bu.val (D5 (X:=λm=>LR m l (args.toList.map ρ)) (s':=uR argTypes type (args.map ρ)) L e (λm r=>by rw[N,r.ground hg])) hL (λw=>by simp[zw,resolve,invoke,builtin])
    |min=>
     have e:Oa h T.prog (nq l) (uS argTypes type l.toArray)=.v v g:=Out.ep e;let⟨hg,e⟩:=gu (r:=jU h (dT T.prog (uS argTypes type l.toArray))) e;exact bu.val (D5 (X:=λm=>LR m l (args.toList.map ρ)) (s':=uS argTypes type (args.map ρ)) L e (λm r=>by rw[N,r.ground hg])) hL (λw=>by simp[zw,resolve,invoke,builtin])
    |_=>cases e
 case defer c=>
  let⟨callee,args,argTypes⟩:=c;have e:Et q callee (ei q args.toList)=.of (.v v g):=e;cases Q:ei q args.toList with
  |none=>rw[Q]at e;cases e
  |some l=>
   rw[Q]at e;cases callee with
   |value f=>
    have e:Bj l (aA q f)=.of (.v v g):=e;cases hf:aA q f<;>rw[hf]at e<;>cases e
   |_=>cases e
 case panic x=>
  have e:CO (aA q x)=.of (.v v g):=e;cases B:aA q x with
  |none=>rw[B]at e;cases e
  |some u=>rw[B]at e;cases u<;>cases e
 all_goals cases e
end
section
variable{T:au}{P:zo}
def XZ{o:Oper}{args:List E}(e:Am.execOp T r o.type h o.op=.call v args):
 ∃g i j,o.op=.call ⟨.value g,i,j⟩/\aA r g=O v/\ei r i.toList=O args:=by
 let⟨dst,s,type,pos,after,guard⟩:=o;cases s
 case call c=>
  let⟨callee,i,j⟩:=c;have e:Ao T r h j type callee (ei r i.toList)=.call v args:=e;cases k:ei r i.toList with
  |none=>rw[k]at e;cases e
  |some l=>
   rw[k]at e;cases callee with
   |value g=>
    have e:CI l (aA r g)=.call v args:=e;cases m:aA r g with
    |none=>rw[m]at e;cases e
    |some u=>rw[m]at e;cases e;exact⟨g,i,j,rfl,m,k⟩
   |invoke d n=>cases e
   |builtin b=>
    have e:qt T h j type l b=.call v args:=e;cases b<;>first|(cases e;done)|(rcases l with _|⟨x,_|⟨y,_|⟨a,q⟩⟩⟩<;>cases e)
 case defer c=>
  let⟨callee,i,j⟩:=c;have e:Et r callee (ei r i.toList)=.call v args:=e;cases k:ei r i.toList with
  |none=>rw[k]at e;cases e
  |some l=>
   rw[k]at e;cases callee with
   |value g=>
    have e:Bj l (aA r g)=.call v args:=e;cases m:aA r g<;>rw[m]at e<;>cases e
   |_=>cases e
 case panic x=>
  have e:CO (aA r x)=.call v args:=e;cases p:aA r x with
  |none=>rw[p]at e;cases e
  |some u=>rw[p]at e;cases u<;>cases e
 all_goals cases e
def ahP{o:Oper}{args:List E}(e:Am.execOp T r o.type h o.op=.rj v args):
 ∃g i j,o.op=.defer ⟨.value g,i,j⟩/\aA r g=O v/\ei r i.toList=O args:=by
 let⟨dst,s,type,pos,after,guard⟩:=o;cases s
 case call c=>
  let⟨callee,i,j⟩:=c;have e:Ao T r h j type callee (ei r i.toList)=.rj v args:=e;cases k:ei r i.toList with
  |none=>rw[k]at e;cases e
  |some l=>
   rw[k]at e;cases callee with
   |value g=>
    have e:CI l (aA r g)=.rj v args:=e;cases m:aA r g<;>rw[m]at e<;>cases e
   |invoke d n=>cases e
   |builtin b=>
    have e:qt T h j type l b=.rj v args:=e;cases b<;>first|(cases e;done)|(rcases l with _|⟨x,_|⟨y,_|⟨a,q⟩⟩⟩<;>cases e)
 case defer c=>
  let⟨callee,i,j⟩:=c;have e:Et r callee (ei r i.toList)=.rj v args:=e;cases k:ei r i.toList with
  |none=>rw[k]at e;cases e
  |some l=>
   rw[k]at e;cases callee with
   |value g=>
    have e:Bj l (aA r g)=.rj v args:=e;cases m:aA r g with
    |none=>rw[m]at e;cases e
    |some u=>rw[m]at e;cases e;exact⟨g,i,j,rfl,m,k⟩
   |_=>cases e
 case panic x=>
  have e:CO (aA r x)=.rj v args:=e;cases p:aA r x with
  |none=>rw[p]at e;cases e
  |some u=>rw[p]at e;cases u<;>cases e
 all_goals cases e
def ahQ{o:Oper}(e:Am.execOp T r o.type h o.op=.aU v):∃x t u,o.op=.panic x/\aA r x=O (.iface t u)/\v=.iface t u:=by
 let⟨dst,p,type,pos,after,guard⟩:=o;cases p
 case call c=>
  let⟨callee,f,j⟩:=c;have e:Ao T r h j type callee (ei r f.toList)=.aU v:=e;cases g:ei r f.toList with
  |none=>rw[g]at e;cases e
  |some l=>
   rw[g]at e;cases callee with
   |value i=>
    have e:CI l (aA r i)=.aU v:=e;cases k:aA r i<;>rw[k]at e<;>cases e
   |invoke d n=>cases e
   |builtin b=>
    have e:qt T h j type l b=.aU v:=e;cases b<;>first|(cases e;done)|(rcases l with _|⟨x,_|⟨y,_|⟨a,q⟩⟩⟩<;>cases e)
 case defer c=>
  let⟨callee,f,j⟩:=c;have e:Et r callee (ei r f.toList)=.aU v:=e;cases g:ei r f.toList with
  |none=>rw[g]at e;cases e
  |some l=>
   rw[g]at e;cases callee with
   |value i=>
    have e:Bj l (aA r i)=.aU v:=e;cases k:aA r i<;>rw[k]at e<;>cases e
   |_=>cases e
 case panic x=>
  have e:CO (aA r x)=.aU v:=e;cases m:aA r x with
  |none=>rw[m]at e;cases e
  |some u=>
   rw[m]at e;cases u<;>first|(cases e;done)|(injection e with e;exact⟨x,_,_,rfl,m,e.symm⟩)
 all_goals cases e
def agq{o:Oper}(e:Am.execOp T r o.type h o.op=.pT):∃f g,o.op=.call ⟨.builtin .recover,f,g⟩:=by
 let⟨dst,p,type,pos,after,guard⟩:=o;cases p
 case call c=>
  let⟨callee,f,g⟩:=c;have e:Ao T r h g type callee (ei r f.toList)=.pT:=e;cases i:ei r f.toList with
  |none=>rw[i]at e;cases e
  |some l=>
   rw[i]at e;cases callee with
   |value j=>
    have e:CI l (aA r j)=.pT:=e;cases k:aA r j<;>rw[k]at e<;>cases e
   |invoke d n=>cases e
   |builtin b=>
    have e:qt T h g type l b=.pT:=e;cases b<;>first|exact⟨f,g,rfl⟩|(cases e;done)|(rcases l with _|⟨x,_|⟨y,_|⟨a,q⟩⟩⟩<;>cases e)
 case defer c=>
  let⟨callee,f,g⟩:=c;have e:Et r callee (ei r f.toList)=.pT:=e;cases i:ei r f.toList with
  |none=>rw[i]at e;cases e
  |some l=>
   rw[i]at e;cases callee with
   |value j=>
    have e:Bj l (aA r j)=.pT:=e;cases k:aA r j<;>rw[k]at e<;>cases e
   |_=>cases e
 case panic x=>
  have e:CO (aA r x)=.pT:=e;cases m:aA r x with
  |none=>rw[m]at e;cases e
  |some u=>rw[m]at e;cases u<;>cases e
 all_goals cases e
inductive Kt where
 |plain (cs:List yW)
 |under (c:yW) (rest:List yW)
def mm:Option (List zO)->FrameMode
 |none=>.returning
 |some chain=>vM chain
def Kt.cs:Kt->Option (List zO)->List yW
 |.plain cs,_=>cs
 |.under c rest,m=>{c with mode:=mm m}::rest
def Kt.kind:Kt->CallKind
 |.plain _=>.normal
 |.under ..=>.deferred
def Kt.ok:Kt->Option (List zO)->Prop
 |.plain _,a=>a=U
 |.under ..,_=>True
inductive Bp(m:M):Option Nat->Option Nat->Prop
 |none:Bp m U U
 |some {l:Nat} {pl:Pl} (h:m l=O pl):Bp m (O l) (O pl.aH)
def Bp.mono{m c:M}(d:ct m c){a b:Option Nat}:Bp m a b->Bp c a b
 |.none=>.none
 |.some h=>.some (d.to _ _ h)
def tg(P:zo)(d:Machine)(b:yW)(k:List vH)(e:List yW)(m:M)(a:Act)(w:zu):Ex->Prop
 |.Nr=>xE P d (yX (b.atR a k) e w)
 |.exit id=>∃f,exitTo id f=exitTo id k/\xE P d (yX (b.atR a (.code (.exit id)::f)) e w)
 |.ret=>∃f,xE P d (yX (b.atR a (.code .ret::f)) e w)
 |.panic chain=>∃todo c,CR m chain c/\xE P d (yX {b.atR a todo with mode:=vM c} e w)
def tg.of_steps{j l:Machine}{b:yW}{k:List vH}{n:List yW}{m:M}{a:Act}{e:Ex}(h:xE P j l)(f:tg P l b k n m a W e):tg P j b k n m a W e:=by
 cases e with
 |Nr=>exact h.trans f
 |exit id=>let⟨g,d,i⟩:=f;exact⟨g,d,h.trans i⟩
 |ret=>let⟨g,d⟩:=f;exact⟨g,h.trans d⟩
 |panic o=>let⟨t,c,d,i⟩:=f;exact⟨t,c,d,h.trans i⟩
structure gz(T:au)(Γ:gy)(m:M)(hD:Nat->Option ai)(Kk:Kt)(nt:Nat)(s:S)(a:Act)(kH:Option (List zO))(w:zu):Prop where
 inv:Inv T Γ m hD s.h w
 tm:TR m s.tm a.tmps
 nt:a.tmps.size=nt
 df:DR m s.df a.defers
 ab:PR m s.ab kH
 lV:Kk.ok s.ab
def lG(T:au)(P:zo)(j:Fr)(l:Nat)(s:S)(e:Ex)(g:S)(items:List vH->List vH):Prop:=
 Le s.h g.h/\∀Γ m p c(b:yW) k a f w,Fin Γ g.h->gz T Γ m p c l s a f w->b.kind=c.kind->b.fn=j.fn->Bp m j.round b.roundOf->
  ∃h i n d o,ct m h/\gz T Γ h i c l g n d o/\tg P (yX (b.atR a (items k)) (c.cs f) w) b k (c.cs d) h n o e
def EN(T:au)(P:zo)(a:Fr)(b:Nat)(c:Code)(s:S)(e:Ex)(d:S):Prop:=lG T P a b s e d (λk=>.code c::k)
end
section
variable{T:au}{P:zo}
inductive Pk where
 |ret (v:E)
 |aU (chain:List zO)
inductive RR(m:M):ag->Pk->Prop
 |ret {v v':E} {h:H} {ab:Option (List zO)} (hv:VR m v v'):RR m (.r v h ab) (.ret v')
 |aU {c c':List zO} {h:H} {ab:Option (List zO)} (hc:CR m c c'):RR m (.p c h ab) (.aU c')
 |any {v':E} {h:H} {ab:Option (List zO)}:RR m (.any h ab) (.ret v')
def ag.fin:ag->Option (H×Option (List zO))
 |.r _ h a=>O (h,a)
 |.p _ h a=>O (h,a)
 |.any h a=>O (h,a)
 |_=>U
def D6(P:zo)(kind:CallKind):Next->Option yW
 |.enter f args=>O (Frame.enter P f args kind)
 |.round l f tmps assign body=>O (Frame.round l f tmps assign body kind)
 |_=>U
def CT(P:zo)(b:Machine)(a:Option (List zO))(w:zu):Kt->Pk->Prop
 |.plain (c::d),.ret v=>xE P b (yX (c.finish v) d w)
 |.plain (c::d),.aU e=>xE P b (yX (c.raise e) d w)
 |.plain [],_=>False
 |.under c rest,.ret _=>xE P b (yX {c with mode:=mm (settled a)} rest w)
 |.under c rest,.aU e=>xE P b (yX {c with mode:=mm (O (e++a.getD []))} rest w)
def Kt.may(a:Kt)(f:E):Prop:=(∃c cs,a=.plain (c::cs))\/((∃c r,a=.under c r)/\∃g p q,f=zU (za g) p q)
def jT(f:E)(args:List E):Sem Next:=do let d<-Deferred.ofValue f ⟨args⟩;invoke d.target d.args
def bP(T:au)(P:zo)(f:E)(args:List E)(h:H)(l:Option (List zO))(r:ag):Prop:=
 ∀i d,r.fin=O (i,d)->Le h i/\∀Γ m q a n b e w,a.may f->Fin Γ i->Inv T Γ m q h w->VR m f n->LR m args b->PR m l e->a.ok l->
  ∃nx g,(jT n b).run P w=.ok nx w/\D6 P a.kind nx=O g/\
   ∃j k c o p,ct m j/\Inv T Γ j k i o/\PR j d c/\a.ok d/\RR j r p/\CT P (yX g (a.cs e) w) c o a p
def La(P:zo)(kind:CallKind)(g:FuncId)(fr:yW)(w:zu):Pk->Prop
 |.ret v=>fr.fn=g/\fr.mode=.returning/\fr.defers=[]/\fr.kind=kind/\∃a,P.funcs[g]?=O a/\(Go.results a fr.tmps).run P w=.ok v w
 |.aU b=>fr.fn=g/\fr.mode=vM b/\fr.defers=[]/\fr.kind=kind/\∃a,P.funcs[g]?=O a
def adB(T:au)(P:zo)(p:Func)(s:S)(mode:Option (List zO))(r:ag):Prop:=
 ∀i f,r.fin=O (i,f)->Le s.h i/\∀k m q c(b:yW) todo a g d w,P.funcs[b.fn]?=O p->b.kind=c.kind->b.roundOf=U->Fin k i->
  gz T k m q c a.tmps.size s a g w->PR m mode d->
  ∃j l e n o h,ct m j/\Inv T k j l i n/\PR j f e/\c.ok f/\RR j r o/\
   xE P (yX {b.atR a todo with mode:=mm d} (c.cs g) w) (yX h (c.cs e) n)/\La P c.kind b.fn h n o
structure iB(T:au)(P:zo)(ev:zC->ag):Prop where
 call:∀f args h ab,bP T P f args h ab (ev (.call f args h ab))
 loop:∀fr b s e s' nt,ev (.loop fr b s)=.c e s'->ck nt b=Y->lG T P fr nt s e s' (λk=>.inLoop b::k)
 run:∀fr c s e s' nt,ev (.run fr c s)=.c e s'->ck nt c=Y->EN T P fr nt c s e s'
 Vx:∀fn s mode,adB T P fn s mode (ev (.unwind fn s mode))
section rules
variable{fr:Fr}{nt:Nat}{s s1 s':S}
def lG.refl(items:List vH->List vH)(h:∀(b:yW) k a cs w,xE P (yX (b.atR a (items k)) cs w) (yX (b.atR a k) cs w)):lG T P fr nt s .Nr s items:=
 ⟨.refl _,λ_ m d _ b k a c w _ e _ _ _=>⟨m,d,a,c,w,.refl _,e,h b k a _ w⟩⟩
def lG.head{e:Ex}{items d:List vH->List vH}(h:lG T P fr nt s e s' d)(j:∀(b:yW) k a cs w,xE P (yX (b.atR a (items k)) cs w) (yX (b.atR a (d k)) cs w)):
 lG T P fr nt s e s' items:=by
 refine⟨h.1,λl m n c b k a g w F o p q r=>?_⟩;let⟨t,i,u,f,v,x,y,A⟩:=h.2 l m n c b k a g w F o p q r;exact⟨t,i,u,f,v,x,y,.of_steps (j b k a _ w) A⟩
def lG.seq{e:Ex}{n g:List vH->List vH}(o:lG T P fr nt s .Nr s1 n)(h:lG T P fr nt s1 e s' g):lG T P fr nt s e s' (λk=>n (g k)):=by refine⟨o.1.trans h.1,λp m v c b k a i w F x q r t=>?_⟩;let⟨m1,j,y,d,w1,u,A,B⟩:=o.2 p m v c b (g k) a i w (F.of_le h.1) x q r t;let⟨C,l,H,f,w2,L,M,N⟩:=h.2 p m1 j c b k y d w1 F A q r (t.mono u);exact⟨C,l,H,f,w2,u.trans L,M,.of_steps B N⟩
def lG.pass{e:Ex}{j:List vH->List vH}(f:List vH->List vH)(l:lG T P fr nt s e s' j)(n:e≠ .Nr)(o:∀id k,exitTo id (f k)=exitTo id k):
 lG T P fr nt s e s' (λk=>j (f k)):=by
 refine⟨l.1,λp m r c b k a g w F t u v x=>?_⟩;let⟨m1,h,y,d,w1,A,B,i⟩:=l.2 p m r c b (f k) a g w F t u v x;refine⟨m1,h,y,d,w1,A,B,?_⟩;cases e with
 |Nr=>exact absurd rfl n
 |exit id=>let⟨q,C,H⟩:=i;exact⟨q,by rw[C,o],H⟩
 |ret=>exact i
 |panic L=>exact i
end rules
def agL{b:yW}{a:Act}{k:List vH}{d:List yW}:
 step P (yX (b.atR a (.code (.scope x)::k)) d W)=.next (yX (b.atR a (.code x::.inScope x::k)) d W):=
 step_lone_go (by simp[stepG,stepG.exec,Frame.atR])
def agc{b:yW}{a:Act}{k:List vH}{d:List yW}:
 step P (yX (b.atR a (.inScope x::k)) d W)=.next (yX (b.atR a k) d W):=
 step_lone_go (by simp[stepG,stepG.exec,Frame.atR])
def MU{m:M}{a:Act}(h:TR m r a.tmps){x:zh}(e:aA r x=O N)(b:qG x=Y):VR m N (a.eval x):=by
 cases x with
 |tmp t=>
  let⟨d,h1,c⟩:=h t N e;show VR m N (a.tmps.getD t yh);rw[Array.getD_eq_getD_getElem?,h1];exact c
 |const v=>have e:O v=O N:=e;cases e;exact VR.Ac m b
 |global g=>cases e
 |func f=>have e:O (zU (za f) #[] #[])=O N:=e;cases e;exact .func f .Nl .Nl
end
end Go.Am
