/-
  Parts of the proof: Fw1, Fw2, Fw3, Fw4, Fw5, Fw6, Fw7, Fw8, Fw40, Fw41, Fw9, Fw10, Fw11, Fw12, Fw13, Fw14, Fw15, Fw16, Fw17, Fw18, Fw19, Fw49: the framework (Fw), pure forms (Dn), plain laws (Pl, Th), calls of functions (Ok).
-/
import Derived.Laws.AppendOwn
import Derived.ArgAppend
import Derived.Laws.IdiomCopy
import Derived.Laws.Cells
import Derived.Laws.MakeOwn
import Derived.Calls
import Derived.Orders
import Derived.Laws.Entries
import Derived.Maps.RangeRun

set_option linter.all false
set_option maxHeartbeats 1000000
open Go renaming TypeId->bC,Operand->bH,World->bz,MapEntry->b5,Exit->bU,Addr->b6,IntKind->ca,undef->bL,Program->bQ,Field->cA,sizeOf->eu,typeInfo->cC,run_underlying->b1,storeVar->H5,Oper->bJ,execOp->bF,eqGuard->H6,binOp->cn,resolve->en,builtin->ep,fieldPlace->IR,madeCells->JH,zeroValue->cr,newRow->cB,wpOps->cj,Code->b7,wp_region->H8
open _root_ renaming Nat->bo,Array->bN,Option->bv,DecidableEq->Jz,List->bp,Int->bt,Bool->bA,Unit->bS,rfl->br,and_true->b2,False->bY,true_and->Is,if_true->b8,congrArg->cp,cond_false->cq,cond_true->bK,decide_eq_false->Kh
open Option renaming some->bn,none->bq,map_some->IM,isSome->Jc,isSome_none->JL,isSome_some->Jk,bind_some->IX
open Bool renaming true->bu,false->bw,not_true->JR,not_false->Km,or_false->JT
open Go.World renaming cell?_of_block->Ka,frozen?_of_block->Kb,cell?->Ii,frozen?->Jj,setCells->Jo,setCell->Kq,cell?_setCells_in->Ij,cell?_setCells_out->Iy,frozen?_setCells->Jp
open Go.MapEntry renaming mk->I6
open List renaming length_drop->IK,mem_cons_of_mem->I7,mem_flatten->Iq,mem_of_getElem?->IL,count_cons->I8,take_of_length_le->I9,take_take->Kc,all_eq_true->Ie,replicate->bZ,getElem?_eq_some_iff->Jb,drop_drop->It,append_eq_nil_iff->JE,singleton_append->JG,range->ct,map_map->Iu,pairwise_cons->Kf,map_congr_left->H7,map_append->Ji,getElem?_inj->JM,getElem?_toArray->JP,map_toArray->Jm,map_nil->Jn,foldlM_cons->Kj,any_eq_true->Kl
open Go.Value renaming oneCell'->cf,int->b0,cells->JC,map->Ix,pointer->HY
open Go.Value.pointer renaming injEq->es
open Go.Addr.mk renaming injEq->cm
open Go.Value.slice renaming injEq->cg
open Iff renaming rfl->Ir
open Nat renaming lt_or_gt_of_ne->JA,one_mul->H4,min_self->Kd,beq->bB,eq_of_beq_eq_true->et,ble->bR,mul_le_mul->Jf,blt->b3,beq_refl->Kk,add_assoc->Kn
open Go.Act renaming eval->ck
open Option.some renaming inj->JB
open ByteArray renaming empty->Ja
open Go.Sem renaming run_bind->bP,run_pure->b9
open Go.Result renaming andThen_ok->bT
open Go.Addr renaming add_lit->cy
open Go.Oper renaming wp->cc
open BitVec renaming ofInt->ch
open Decidable renaming decide->bI
open Go.Op renaming equalIn->If,equal->IN,maxDepth->IP,unary->JQ
open Go.Builtin renaming len_->JD,delete_->JO,append_->IU,firstCells->Ko,lenOf->Kp,zeroCells->IV
open Go.Instr renaming loadAt->Jd,sureAddr->cl,fieldAt->IQ,sliceBounds->Ig,sliceBound->Je,sliceAt->JF,fill->Ke,alloc->IS,box->Jg,findNow->Iv,sameNow->JJ,findKey->IT,checkKey->Kg,mapUpdate->HX,keyThatStays->Iw,sameBits->JN,lookup->Jl,storeAt->IW
open Array renaming map->Jh,mapM_eq_mapM_toList->JI,getElem?_eq_some_iff->JK,eraseIdxIfInBounds->Ki,getD_eq_getD_getElem?->JS
open List.Pairwise renaming nil->KS,cons->KT
open Pure renaming pure->Ih
open Go.Region renaming wanted->Iz
theorem U{p:Prop}(h:p:=by omega):p:=h
theorem R{p:Prop}(h:p:=by decide):p:=h
theorem aa{p:Prop}(h:p:=by simp):p:=h
theorem ab{p:Prop}(h:p:=by grind):p:=h
theorem ac{p:Prop}(h:p:=by rfl):p:=h
theorem ae{p:Prop}(h:p:=by simp_all):p:=h
abbrev aC:=@Bool.and_eq_true
abbrev aV:=@Option.some.injEq
abbrev a1:=@Option.bind_eq_some_iff
abbrev a7:=@Nat.eq_of_beq_eq_true
abbrev a8:=@if_neg
abbrev bc:=@if_pos
abbrev cF:=@Option.map_eq_some_iff
abbrev cX:=@List.all_eq_true
abbrev c2:=@List.mem_cons
abbrev c5:=@Nat.le_of_ble_eq_true
abbrev c6:=@Option.some.inj
abbrev c9:=@List.mem_map
abbrev eJ:=@List.mem_cons_of_mem
abbrev eL:=@Nat.le_refl
abbrev eQ:=@List.cons.injEq
abbrev eT:=@Prod.mk.injEq
abbrev e5:=@List.getElem?_eq_some_iff
abbrev fe:=@List.getElem?_cons_zero
abbrev fm:=@List.map_cons
abbrev fq:=@List.getElem?_eq_getElem
abbrev fr:=@List.mem_filter
abbrev fI:=@List.nil_append
abbrev fX:=@List.all_cons
abbrev fY:=@List.mem_append
abbrev gq:=@Bool.or_eq_true
abbrev gv:=@Nat.lt_of_lt_of_le
abbrev gw:=@Nat.lt_or_ge
abbrev gH:=@List.getElem?_map
abbrev gI:=@List.nodup_append
abbrev gU:=@List.length_cons
abbrev gV:=@List.mem_flatten
abbrev gW:=@List.nodup_cons
abbrev hf:=@List.map_congr_left
abbrev hg:=@List.mem_singleton
abbrev hA:=@List.flatten_cons
abbrev hK:=@List.mem_of_getElem?
abbrev hL:=@Nat.zero_add
abbrev hX:=@List.cons_append
abbrev hY:=@Nat.mul_le_mul_right
abbrev iu:=@List.any_eq_true
abbrev iv:=@List.append_of_mem
abbrev iw:=@List.ext_getElem?
abbrev ix:=@Nat.add_mul
abbrev iy:=@Nat.le_trans
abbrev iR:=@Array.getElem?_eq_some_iff
abbrev iU:=@List.filter_eq_self
abbrev jy:=@Array.mem_append_right
abbrev jA:=@List.length_map
abbrev jB:=@List.mem_append_right
abbrev jC:=@List.mem_cons_self
abbrev jD:=@Nat.add_zero
abbrev ko:=@List.eq_nil_of_length_eq_zero
abbrev kp:=@List.filter_cons
abbrev kq:=@List.getElem?_append_left
abbrev kr:=@List.getElem?_append_right
abbrev ks:=@List.getElem?_drop
abbrev kt:=@List.length_eq_one_iff
abbrev ku:=@List.length_nil
abbrev kv:=@List.mem_append_left
abbrev kw:=@List.mem_iff_getElem
abbrev kx:=@List.take_append_drop
abbrev ls:=@List.any_eq_false
abbrev lu:=@List.count_append
abbrev lv:=@List.drop_zero
abbrev lw:=@List.getElem?_take_of_lt
abbrev lx:=@List.perm_iff_count
abbrev ly:=@List.size_toArray
abbrev lz:=@Nat.beq_refl
abbrev mR:=@Array.replicate_succ
abbrev mS:=@Array.replicate_zero
abbrev mT:=@Bool.not_eq_true'
abbrev mY:=@List.any_cons
abbrev mZ:=@List.append_toArray
abbrev m0:=@List.drop_append_of_le_length
abbrev m1:=@List.drop_of_length_le
abbrev m2:=@List.getElem?_cons_succ
abbrev m3:=@List.getElem?_take
abbrev m4:=@List.getElem_mem
abbrev m5:=@List.length_take
abbrev m6:=@List.push_toArray
abbrev m7:=@List.take_append_of_le_length
abbrev n5:=@Array.getElem?_eq_getElem
abbrev n7:=@List.flatten_append
abbrev n8:=@List.getD_eq_getElem?_getD
abbrev n9:=@List.mem_toArray
abbrev oa:=@List.pairwise_cons
abbrev ob:=@Option.isSome_iff_exists
abbrev pd:=@Array.getElem?_toList
abbrev pe:=@List.length_append
abbrev qT:=@List.getElem?_replicate
abbrev dh:=(Bool×((Bool×(List Int×Unit))×(Int×Unit)))×(Bool×(List Int×Unit))×Unit
abbrev di:=(Bool×((Bool×(List Int×Unit))×(Int×(Bool×Unit))))×Int×Unit
abbrev dj:=(Bool×((Bool×(List Int×Unit))×(Int×(Bool×Unit))))×Unit
abbrev dk:=(Bool×((Bool×(List Int×Unit))×(Int×Unit)))×Bool×Unit
abbrev dm:=(Bool×((Bool×(List Int×Unit))×(Int×Unit)))×Int×Unit
abbrev dn:=(Bool×(List Int×Unit))×(Bool×(List Int×Unit))×Unit
abbrev dp:=(Bool×((Bool×(List Int×Unit))×(Int×Unit)))×Unit
abbrev dq:=Bool×((Bool×(List Int×Unit))×(Int×(Bool×Unit)))
abbrev dr:=Bool×((Bool×(List Int×Unit))×(Int×Unit))
abbrev dv:=List (Int×(Int×(Int×Unit)))×Unit
abbrev dw:=(Bool×(List Int×Unit))×Int×Unit
abbrev dx:=(Nat×Nat)×Int×Int×List Int×Unit
abbrev dy:=(Bool×(List Int×Unit))×Unit
abbrev dz:=(Nat×Nat)×Int×List Int×Unit
abbrev dA:=List Int×List Int×Unit
abbrev dB:=(Int×Unit)⊕(Int×Unit)
abbrev dC:=Int×Int×List Int×Unit
abbrev dD:=Bool×(List Int×Unit)
abbrev dE:=Int×(Int×(Int×Unit))
abbrev dF:=List Int×(Int×Unit)
abbrev dG:=List Int×Unit×Unit
abbrev dH:=List Int×Int×Unit
abbrev dI:=Int×List Int×Unit
abbrev dJ:=Nat×Nat×List Nat
abbrev dK:=Unit⊕(Int×Unit)
abbrev dN:=List Int×Unit
abbrev dO:=Int×Bool×Unit
abbrev dP:=Int×Int×Unit
abbrev dQ:=Bool×Unit
abbrev dR:=Int×Unit
abbrev dS:=Nat×Nat
abbrev dT:=List (List Go.Value)
abbrev dU:=Option (List Int)
abbrev dV:=List (List Nat)
abbrev dW:=Option Go.Operand
abbrev dX:=List Go.Operand
abbrev dY:=Array Go.Value
abbrev dZ:=List Go.TypeId
abbrev ea:=List Go.Value
abbrev eb:=Option Nat
abbrev ec:=Array Bool
abbrev ed:=Option dN
abbrev ee:=Option dy
abbrev ef:=Option dR
abbrev eg:=Option dQ
abbrev eh:=List Int
abbrev ei:=List Nat
abbrev ej:=List dS
noncomputable section
namespace Go.gG
variable{a N:bC}{b f:bo}{c h:bH}{e k:bz}{g T:ea}{l:ei}{m:bN b5}{p:bo->ea}{q:bo->ei}{r:bU->Act->bz->Prop}{s:bv b6}{u:ca}{x V:Type}{z:dY}{P:bN (bo×bH)}{Q:Value}{S:bo->Prop}
inductive gJ where
 |aE
 |aG
 deriving Jz
structure aZ where
 m:gJ->bo->Prop
 t:bo->bo×bo
variable{t:aZ}
instance:CoeFun aZ (λ_=>gJ->bo->Prop):=⟨aZ.m⟩
inductive af where
 |int (k:ca)
 |bool
 |str
 |au (m:gJ) (t:af)
 |ptr (m:gJ) (t:af)
 |osl (t:af)
 |opt (k:bo) (t:af)
 |nu (k:bo) (t:af)
 |aM
 |aB (n:bo)
 |eB (t:af)
 |st (t:af)
 |pr (a b:af)
 |nil
 |aY
 |mp (t:af)
 |bh (m:gJ) (t:af)
 |fn (n:bo) (t:af)
 deriving Jz
variable{d o:af}{j:bp (bo×af)}
def af.size:af->bo
 |.pr b c=>b.size+c.size
 |.st a=>a.size
 |.aB d=>d
 |.eB a=>a.size
 |.nil|.aY=>0
 |_=>1
@[reducible] def af.den:af->Type
 |.int _=>bt
 |.bool=>bA
 |.str=>ByteArray
 |.au _ a=>bp a.den
 |.ptr _ a=>bv a.den
 |.osl a=>bp a.den
 |.opt _ a=>a.den
 |.nu _ a=>bv a.den
 |.aM=>bA
 |.aB _=>eh
 |.eB a|.st a=>a.den
 |.pr b c=>b.den×c.den
 |.nil|.aY=>bS
 |.mp a|.bh _ a=>bv (bp (bt×a.den)×bo)
 |.fn _ a=>a.den
def fZ {d:Type} (b:bp (bt×bo×d)) (c:bp (bt×d)) (g:bo):Prop:=
 c.Pairwise (λe f=>e.1<f.1)/\(b.map λa=>(a.1,a.2.2)).Perm c/\(b.map λa=>a.2.1).Nodup/\∀a∈b,a.2.1<g
def aN:af->ea->Value
 |.st _,a|.aB _,a=>.agg a.toArray
 |_,a=>a.headD bL
def a9 (f:bz) (c e:bo) (d:ea):Prop:=∀a b,d[a]?=bn b->f.cell? ⟨c,e+a,bq⟩=bn b
def cM (c:bz) (b e d:bo):Prop:=∀a,e<=a->a<d->(c.cell? ⟨b,a,bq⟩).isSome=bu/\c.frozen? ⟨b,a,bq⟩=bw
def fk (d:bz) (a:bo):bv (bN b5×bo):=match d.heap[a]? with
 |some (.map c b)=>bn (c,b)
 |_=>bq
def aP (c d:bz) (a:bo):Prop:=(∀b,d.cell? ⟨a,b,bq⟩=c.cell? ⟨a,b,bq⟩/\d.frozen? ⟨a,b,bq⟩=c.frozen? ⟨a,b,bq⟩)/\fk d a=fk c a
def aP.refl (a:bz) (b:bo):aP a a b:=⟨λ_=>⟨br,br⟩,br⟩
theorem aP.of_heap (c:k.heap[b]?=e.heap[b]?):aP e k b:=
 ⟨λd=>⟨Ka (a:=⟨b,d,bq⟩) c,Kb (a:=⟨b,d,bq⟩) c⟩,by grind [fk]⟩
def gr (j k:bz) (d:bo):Prop:=∀f b,fk j d=bn (f,b)->∃g e,fk k d=bn (g,e)/\b<=e/\∀(h:bo) (a:b5),g[h]?=bn a->a.born<b->∃(i:bo) (c:b5),f[i]?=bn c/\c.key=a.key/\c.born=a.born
def gr.of_eq (f:fk k b=fk e b):gr e k b:=
 λd a h=>⟨d,a,f.trans h,eL _,λi c g _=>⟨i,c,g,br,br⟩⟩
def gr.refl (a:bz) (b:bo):gr a a b:=.of_eq br
def gr.of_heap {b c:bz} {a:bo} (d:c.heap[a]?=b.heap[a]?):gr b c a:=.of_eq (aP.of_heap d).2
theorem gr.trans {a:bz} (h:gr e k b) (i:gr k a b):gr e a b:=λf c l=>by obtain⟨g,d,j,o,p⟩:=h f c l;obtain⟨n,m,q,r,s⟩:=i g d j;grind
def a9.cQ (a:a9 e b f g) (d:aP e k b):a9 k b f g:=
 λh i c=>by rw[(d.1 _).1];exact a h i c
def cM.cQ {c:bo} (d:cM e b c f) (a:aP e k b):cM k b c f:=
 λi g h=>by rw[(a.1 _).1,(a.1 _).2];exact d i g h
def al (i:aZ) (h:bz):(F:af)->ea->F.den->ei->Prop
 |.int s,a,w,b=>b=[]/\a=[.int s w]
 |.bool,a,d,b=>b=[]/\a=[.bool d]
 |.str,a,E,b=>b=[]/\a=[.string E]
 |.au v c,a,l,b=>b=[]/\∃k o,a=[.slice k l.length o]/\l.length<=o/\(k=bq->o=0)/\(l=[]\/∃d g,k=bn ⟨d,g,bq⟩/\i v d/\∀j f,l[j]?=bn f->∃e,e.length=c.size/\a9 h d (g+j*c.size) e/\al i h c e f [])
 |.ptr v c,a,f,b=>b=[]/\match f with
  |none=>a=[.pointer bq]
  |some x=>∃d g e,a=[.pointer (bn ⟨d,g,bq⟩)]/\i v d/\e.length=c.size/\a9 h d g e/\al i h c e x []
 |.osl c,a,l,b=>∃k o,a=[.slice k l.length o]/\((
   k=bq/\l=[]/\o=0/\b=[])\/∃(d g:bo) (y:dV),k=bn ⟨d,g,bq⟩/\b=d::y.flatten/\y.length=l.length/\l.length<=o/\
   cM h d g (g+o*c.size)/\∀j f p,l[j]?=bn f->y[j]?=bn p->∃e,e.length=c.size/\a9 h d (g+j*c.size) e/\al i h c e f p)
 |.opt s c,a,x,b=>∃d g p e,a=[.pointer (bn ⟨d,g,bq⟩)]/\b=d::p/\e.length=c.size/\a9 h d g e/\cM h d g (g+c.size)/\al i h c e x p/\(s≠0->(d,g)=i.t s)
 |.nu s c,a,f,b=>match f with
  |none=>b=[]/\a=[.pointer bq]
  |some x=>∃d g p e,a=[.pointer (bn ⟨d,g,bq⟩)]/\b=d::p/\e.length=c.size/\a9 h d g e/\cM h d g (g+c.size)/\al i h c e x p/\(s≠0->(d,g)=i.t s)
 |.eB c,a,f,b=>∃D,al ⟨i.m,D⟩ h c a f b
 |.aB w,a,f,b=>b=[]/\f.length=w/\a=f.map (.int .u8)
 |.aM,a,f,b=>b=[]/\a=[.pointer (bif f then bn ⟨(i.t 2).1,(i.t 2).2,bq⟩ else bq)]
 |.st c,a,f,b=>al i h c a f b
 |.pr k d,a,f,b=>∃A B,b=A++B/\al i h k (a.take k.size) f.1 A/\al i h d (a.drop k.size) f.2 B
 |.nil,a,_,b=>b=[]/\a=[]
 |.aY,a,_,_=>a=[]
 |.mp c,a,f,b=>match f with
  |none=>b=[]/\a=[.map bq]
  |some (z,u)=>∃(d:bo) (r:bN b5) (q:bp (bt×bo×c.den)),a=[.map (bn d)]/\b=[d]/\fZ q z u/\fk h d=bn (r,u)/\r.size=q.length/\∀(j:bo) (n:bt×bo×c.den),q[j]?=bn n->∃e:ea,e.length=c.size/\r[j]?=bn (I6 (.int .i64 n.1) (aN c e) n.2.1)/\al i h c e n.2.2 []
 |.bh v c,a,f,b=>match f with
  |none=>b=[]/\a=[.map bq]
  |some (z,u)=>∃(d:bo) (r:bN b5) (q:bp (bt×bo×c.den)),a=[.map (bn d)]/\b=[]/\fZ q z u/\i v d/\fk h d=bn (r,u)/\r.size=q.length/\∀(j:bo) (n:bt×bo×c.den),q[j]?=bn n->∃e:ea,e.length=c.size/\r[j]?=bn (I6 (.int .i64 n.1) (aN c e) n.2.1)/\al i h c e n.2.2 []
 |.fn w c,a,f,b=>b=[]/\∃C:ea,a=[.func (.func w) #[] C.toArray]/\al i h c C f []
theorem al.len {j:aZ} {t:bz}:∀{τ:af} {f:ea} {b:τ.den} {m:ei},al j t τ f b m->f.length=τ.size
 |.int _,_,_,_,a=>by rw[a.2];rfl
 |.bool,_,_,_,a=>by rw[a.2];rfl
 |.str,_,_,_,a=>by rw[a.2];rfl
 |.au _ _,_,_,_,a=>by obtain⟨_,d,g,a,_⟩:=a;rw[a];rfl
 |.ptr _ _,_,b,_,a=>by
  obtain⟨_,a⟩:=a;cases b with
  |none=>simp only at a;rw[a];rfl
  |some u=>obtain⟨c,r,h,a,_⟩:=a;rw[a];rfl
 |.osl _,_,_,_,a=>by obtain⟨d,g,a,_⟩:=a;rw[a];rfl
 |.opt _ _,_,_,_,a=>by obtain⟨d,g,l,h,a,_⟩:=a;rw[a];rfl
 |.nu _ _,_,b,_,a=>by
  cases b with
  |none=>rw[a.2];rfl
  |some u=>obtain⟨c,r,l,h,a,_⟩:=a;rw[a];rfl
 |.eB e,_,_,_,a=>by obtain⟨_,a⟩:=a;exact al.len (τ:=e) a
 |.aB _,_,_,_,a=>by rw[a.2.2,jA,a.2.1];rfl
 |.aM,_,_,_,a=>by rw[a.2];rfl
 |.st e,_,_,_,a=>al.len (τ:=e) a
 |.pr d c,f,_,_,a=>by obtain⟨v,w,_,n,o⟩:=a;have p:=al.len (τ:=d) n;have q:=al.len (τ:=c) o;simp only[m5,IK] at p q;show f.length=d.size+c.size;omega
 |.nil,_,_,_,a=>by rw[a.2];rfl
 |.aY,_,_,_,a=>by rw[show _=[] from a];rfl
 |.mp e,_,b,_,a=>by
  cases b with
  |none=>rw[a.2];rfl
  |some s=>obtain⟨c,k,i,a,_⟩:=a;rw[a];rfl
 |.bh x e,_,b,_,a=>by
  cases b with
  |none=>rw[a.2];rfl
  |some s=>obtain⟨c,k,i,a,_⟩:=a;rw[a];rfl
 |.fn _ _,_,_,_,a=>by obtain⟨_,y,a,_⟩:=a;rw[a];rfl
theorem al.one {j:aZ} {s:bz}:∀{τ:af} {cs:ea} {c:τ.den} {m:ei},al j s τ cs c m->∀e∈cs,e.oneCell'=bu
 |.int _,_,_,_,a=>by rw[a.2];simp[cf]
 |.bool,_,_,_,a=>by rw[a.2];simp[cf]
 |.str,_,_,_,a=>by rw[a.2];simp[cf]
 |.au _ _,_,_,_,a=>by obtain⟨_,d,h,a,_⟩:=a;grind [cf]
 |.ptr _ _,_,c,_,a=>by obtain⟨_,a⟩:=a;grind [cf]
 |.osl _,_,_,_,a=>by obtain⟨d,h,a,_⟩:=a;grind [cf]
 |.opt _ _,_,_,_,a=>by obtain⟨d,h,f,k,a,_⟩:=a;grind [cf]
 |.nu _ _,_,c,_,a=>by
  cases c with
  |none=>rw[a.2];simp[cf]
  |some z=>obtain⟨g,x,f,k,a,_⟩:=a;grind [cf]
 |.eB t,_,_,_,a=>by obtain⟨_,a⟩:=a;exact al.one (τ:=t) a
 |.aB _,_,_,_,a=>by rw[a.2.2];intro e b;obtain⟨_,_,rfl⟩:=c9.1 b;rfl
 |.aM,_,_,_,a=>by rw[a.2];simp[cf]
 |.st t,_,_,_,a=>al.one (τ:=t) a
 |.pr d g,cs,_,_,a=>by
  obtain⟨u,v,_,n,o⟩:=a;have p:=al.one (τ:=d) n;have q:=al.one (τ:=g) o;intro e b;rw[<-kx d.size cs] at b;rcases fY.1 b with b|b
  ·exact p e b
  exact q e b
 |.nil,_,_,_,a=>by rw[a.2];simp
 |.aY,_,_,_,a=>by rw[show _=[] from a];simp
 |.mp t,_,c,_,a=>by
  cases c with
  |none=>rw[a.2];simp[cf]
  |some r=>obtain⟨g,l,i,a,_⟩:=a;grind [cf]
 |.bh w t,_,c,_,a=>by
  cases c with
  |none=>rw[a.2];simp[cf]
  |some r=>obtain⟨g,l,i,a,_⟩:=a;grind [cf]
 |.fn _ _,_,_,_,a=>by obtain⟨_,y,a,_⟩:=a;grind [cf]
theorem al.mono {M M':aZ} {A B:bz} (e:∀n b,M n b->M' n b/\aP A B b):∀{τ:af} {J:ea} {h:τ.den} {x:ei},al M A τ J h x->(∀b∈x,aP A B b)->(c:M'.t=M.t:=by first|rfl|assumption)->al M' B τ J h x
 |.int _,_,_,_,a,_,_|.bool,_,_,_,a,_,_|.str,_,_,_,a,_,_=>a
 |.au n o,_,a0,_,a,_,c=>by obtain⟨E,C,I,g,d,k,l⟩:=a;refine⟨E,C,I,g,d,k,l.imp id ?_⟩;rintro⟨b,r,Q,i,S⟩;refine⟨b,r,Q,(e n b i).1,λz h y=>?_⟩;obtain⟨j,u,v,w⟩:=S z h y;exact⟨j,u,v.cQ (e n b i).2,al.mono e w aa c⟩
 |.ptr n o,_,h,_,a,_,c=>by
  obtain⟨E,a⟩:=a;refine⟨E,?_⟩;cases h with
  |none=>exact a
  |some a3=>
   obtain⟨b,r,j,g,d,k,l,q⟩:=a;exact⟨b,r,j,g,(e n b d).1,k,l.cQ (e n b d).2,al.mono e q aa c⟩
 |.osl o,_,a0,x,a,f,c=>by obtain⟨C,I,g,d⟩:=a;refine⟨C,I,g,d.imp id ?_⟩;rintro⟨b,r,ad,Q,F,ap,s,an,S⟩;have i:aP A B b:=f b ab;refine⟨b,r,ad,Q,F,ap,s,an.cQ i,λz h D y am=>?_⟩;obtain⟨j,u,v,w⟩:=S z h D y am;refine⟨j,u,v.cQ i,al.mono e w (λp s=>f p ?_) c⟩;grind [I7,Iq,IL]
 |.opt T o,_,_,_,a,f,c=>by obtain⟨b,r,D,j,g,d,k,l,q,N,O⟩:=a;have i:aP A B b:=f b ab;exact⟨b,r,D,j,g,d,k,l.cQ i,q.cQ i,al.mono e N (λp s=>f p ab) c,λR=>(O R).trans (congrFun c.symm T)⟩
 |.nu T o,_,h,_,a,f,c=>by
  cases h with
  |none=>exact a
  |some a3=>
   obtain⟨b,r,D,j,g,d,k,l,q,N,O⟩:=a;have i:aP A B b:=f b ab;exact⟨b,r,D,j,g,d,k,l.cQ i,q.cQ i,al.mono e N (λp s=>f p ab) c,λR=>(O R).trans (congrFun c.symm T)⟩
 |.aM,_,_,_,a,_,c=>⟨a.1,by rw[c];exact a.2⟩
 |.st o,_,_,_,a,f,c=>al.mono (τ:=o) e a f c
 |.pr C b,J,_,_,a,f,c=>by obtain⟨U,V,F,g,d⟩:=a;exact⟨U,V,F,al.mono (τ:=C) e g (λp s=>f p (by rw[F];exact kv _ s)) c,al.mono (τ:=b) e d (λp s=>f p (by rw[F];exact jB _ s)) c⟩
 |.nil,_,_,_,a,_,_|.aB _,_,_,_,a,_,_=>a
 |.eB o,_,_,_,a,f,_=>by obtain⟨K,a⟩:=a;exact⟨K,al.mono (M:=⟨M.m,K⟩) (M':=⟨M'.m,K⟩) (τ:=o) e a f br⟩
 |.aY,_,_,_,a,_,_=>a
 |.mp o,_,h,x,a,f,c=>by
  cases h with
  |none=>exact a
  |some G=>
   obtain⟨b,L,H,g,d,P,k,l,q⟩:=a;refine⟨b,L,H,g,d,P,(f b (by rw[d];simp)).2.trans k,l,λz G y=>?_⟩;obtain⟨j,u,v,w⟩:=q z G y;exact⟨j,u,v,al.mono e w aa c⟩
 |.bh n o,_,h,x,a,f,c=>by
  cases h with
  |none=>exact a
  |some G=>
   obtain⟨b,L,H,g,d,P,i,k,l,q⟩:=a;refine⟨b,L,H,g,d,P,(e n b i).1,(e n b i).2.2.trans k,l,λz G y=>?_⟩;obtain⟨j,u,v,w⟩:=q z G y;exact⟨j,u,v,al.mono e w aa c⟩
 |.fn a4 o,_,h,x,a,_,c=>by obtain⟨E,av,g,d⟩:=a;exact⟨E,av,g,al.mono e d aa c⟩
def af.gk:af->bA
 |.aY|.eB _=>bw
 |.au _ a|.ptr _ a|.osl a|.opt _ a|.nu _ a|.st a|.mp a|.bh _ a|.fn _ a=>a.gk
 |.pr b c=>b.gk&&c.gk
 |_=>bu
theorem al.uniq {u:aZ} {E:bz}:∀{τ:af} {r:ea} {g k:τ.den} {i y:ei},τ.gk=bu->al u E τ r g i->al u E τ r k y->i=y
 |.int _,_,_,_,_,_,_,a,b|.bool,_,_,_,_,_,_,a,b|.str,_,_,_,_,_,_,a,b|.au _ _,_,_,_,_,_,_,a,b|.ptr _ _,_,_,_,_,_,_,a,b|.nil,_,_,_,_,_,_,a,b|.fn _ _,_,_,_,_,_,_,a,b|.aM,_,_,_,_,_,_,a,b|.aB _,_,_,_,_,_,_,a,b=>a.1.trans b.1.symm
 |.aY,_,_,_,_,_,e,_,_|.eB _,_,_,_,_,_,e,_,_=>by cases e
 |.bh K j,r,g,k,i,y,_,a,b=>by
  have bl:∀{g:(af.bh K j).den} {i:ei},al u E (.bh K j) r g i->i=[]:=λ{g i} a=>by
   cases g with
   |none=>exact a.1
   |some M=>obtain⟨l,I,F,_,o,_⟩:=a;exact o
  grind
 |.mp j,_,g,k,_,_,_,a,b=>by
  cases g with
  |none=>
   cases k with
   |none=>exact a.1.trans b.1.symm
   |some D=>
    obtain⟨l,I,F,d,_⟩:=b;have:=a.2.symm.trans d;grind
  |some M=>
   obtain⟨l,I,F,d,o,_⟩:=a;cases k with
   |none=>
    have:=d.symm.trans b.2;grind
   |some D=>
    obtain⟨v,bs,an,h,J,_⟩:=b;grind
 |.st j,_,_,_,_,_,e,a,b=>al.uniq (τ:=j) e a b
 |.pr G l,_,_,_,_,_,e,a,b=>by simp only[af.gk,aC] at e;obtain⟨bx,ce,rfl,d,o⟩:=a;obtain⟨ci,co,rfl,z,p⟩:=b;rw[al.uniq (τ:=G) e.1 d z,al.uniq (τ:=l) e.2 o p]
 |.opt n j,_,_,_,_,_,e,a,b=>by
  obtain⟨l,t,i,f,d,rfl,z,p,_,B,_⟩:=a;obtain⟨v,L,T,m,h,rfl,V,A,_,C,_⟩:=b;rw[d] at h;simp only[eQ,es,aV,cm,b2] at h;obtain⟨rfl,rfl⟩:=h;obtain rfl:f=m:=by
   apply iw;intro c;rcases gw c f.length with q|q
   ·have N:=p c f[c] ab;have O:=A c (m[c]'(by omega)) aa
    grind
   grind
  rw[al.uniq (τ:=j) e B C]
 |.nu n j,_,g,k,_,_,e,a,b=>by
  cases g with
  |none=>
   cases k with
   |none=>exact a.1.trans b.1.symm
   |some D=>
    obtain⟨l,t,i,f,d,_⟩:=b;have:=a.2.symm.trans d;grind
  |some M=>
   cases k with
   |none=>
    obtain⟨l,t,i,f,d,_⟩:=a;have:=d.symm.trans b.2;grind
   |some D=>
    obtain⟨l,t,i,f,d,rfl,z,p,_,B,_⟩:=a;obtain⟨v,L,T,m,h,rfl,V,A,_,C,_⟩:=b;rw[d] at h;simp only[eQ,es,aV,cm,b2] at h;obtain⟨rfl,rfl⟩:=h;obtain rfl:f=m:=by
     apply iw;intro c;rcases gw c f.length with q|q
     ·have N:=p c f[c] ab;have O:=A c (m[c]'(by omega)) aa
      grind
     grind
    rw[al.uniq (τ:=j) e B C]
 |.osl j,_,g,k,_,_,e,a,b=>by
  obtain⟨G,av,d,o⟩:=a;obtain⟨ap,a0,h,J⟩:=b;rw[d] at h;simp only[eQ,cg,b2] at h;obtain⟨rfl,cs,rfl⟩:=h;rcases o with⟨rfl,rfl,rfl,rfl⟩|⟨l,t,w,rfl,rfl,N,O,aA,aH⟩
  ·grind
  rcases J with⟨s,_⟩|⟨v,L,x,s,rfl,cv,dl,ds,am⟩
  ·cases s
  simp only[aV,cm,b2] at s;obtain⟨rfl,rfl⟩:=s;have:w=x:=by
   apply iw;intro c;rcases gw c g.length with q|q
   ·have ak:w[c]?=bn (w[c]'(by omega)):=fq U
    have H:x[c]?=bn (x[c]'(by omega)):=fq U
    obtain⟨f,a3,P,R⟩:=aH c g[c] _ ab ak;obtain⟨m,a4,Q,S⟩:=am c (k[c]'(by omega)) _ aa H
    obtain rfl:f=m:=by
     apply iw;intro n;rcases gw n f.length with ad|ad
     ·have d0:=P n f[n] ab;have d1:=Q n (m[n]'(by omega)) aa
      grind
     grind
    rw[ak,H,al.uniq (τ:=j) e R S]
   grind
  grind
inductive ax where
 |idx (i:bo)
 |deref
 |unst
 |unn
 |fst
 |snd
 deriving Jz
variable{i:bp ax}
def al.ld {a:d.den}:al t e (.nu b d) g (bn a) l↔al t e (.opt b d) g a l:=Ir
def al.qj {c:d.den} (a:al t e (.opt b d) g c l):g≠[.pointer bq]:=by obtain⟨f,j,i,h,rfl,_⟩:=a;simp
def aX:(τ:af)->τ.den->bp ax->(a:af)->a.den->Prop
 |τ,d,[],a,b=>∃i:τ=a,i▸d=b
 |.osl e,l,.idx j::c,a,b=>∃f,l[j]?=bn f/\aX e f c a b
 |.opt _ e,d,.deref::c,a,b=>aX e d c a b
 |.nu k e,d,.unn::c,a,b=>∃f,d=bn f/\aX (.opt k e) f c a b
 |.st e,d,.unst::c,a,b=>aX e d c a b
 |.pr g _,d,.fst::c,a,b=>aX g d.1 c a b
 |.pr _ h,d,.snd::c,a,b=>aX h d.2 c a b
 |_,_,_,_,_=>bY
def be:(τ:af)->τ.den->bp ax->(a:af)->a.den->τ.den->Prop
 |τ,_,[],a,b,f=>∃n:τ=a,n▸f=b
 |.osl g,k,.idx i::d,a,b,o=>∃h c,k[i]?=bn h/\be g h d a b c/\o=k.set i c
 |.opt _ g,e,.deref::d,a,b,f=>be g e d a b f
 |.nu j g,e,.unn::d,a,b,f=>∃(h c:(af.opt j g).den),e=bn h/\be (.opt j g) h d a b c/\f=bn c
 |.st g,e,.unst::d,a,b,f=>be g e d a b f
 |.pr l _,e,.fst::d,a,b,f=>∃c,be l e.1 d a b c/\f=(c,e.2)
 |.pr _ m,e,.snd::d,a,b,f=>∃c,be m e.2 d a b c/\f=(e.1,c)
 |_,_,_,_,_,_=>bY
theorem aX.cO {a:d.den} {b:o.den}:aX d a [] o b↔∃c:d=o,c▸a=b:=by cases d<;>exact Ir
theorem be.cO {e a:d.den} {b:o.den}:be d e [] o b a↔∃c:d=o,c▸a=b:=by cases d<;>exact Ir
abbrev Loc:=bv dS
variable{v:Loc}
def ar (i:bz):(τ:af)->Loc->ea->bp ax->(b:af)->Loc->ea->Prop
 |τ,h,a,[],b,d,c=>τ=b/\h=d/\a=c
 |.osl f,_,a,.idx m::e,b,d,c=>∃g k n p j,a=[.slice (bn ⟨g,k,bq⟩) n p]/\m<n/\j.length=f.size/\a9 i g (k+m*f.size) j/\ar i f (bn (g,k+m*f.size)) j e b d c
 |.opt _ f,_,a,.deref::e,b,d,c=>∃g k j,a=[.pointer (bn ⟨g,k,bq⟩)]/\j.length=f.size/\a9 i g k j/\ar i f (bn (g,k)) j e b d c
 |.st f,h,a,.unst::e,b,d,c=>ar i f h a e b d c
 |.nu q f,h,a,.unn::e,b,d,c=>a≠[.pointer bq]/\ar i (.opt q f) h a e b d c
 |.pr l _,h,a,.fst::e,b,d,c=>ar i l h (a.take l.size) e b d c
 |.pr l g,h,a,.snd::e,b,d,c=>ar i g (h.map λo=>(o.1,o.2+l.size)) (a.drop l.size) e b d c
 |_,_,_,_,_,_,_=>bY
theorem a9.eq (c:a9 e b f g) (d:a9 e b f T) (k:g.length=T.length):g=T:=by
 apply iw;intro a;rcases gw a g.length with h|h
 ·have i:=c a g[a] ab;have j:=d a (T[a]'(by omega)) aa
  grind
 grind
theorem ar.fM {x:bz}:∀{q:bp ax} {e:af} {j:Loc} {f:ea} {v w:af} {g h:Loc} {r u:ea},ar x e j f q v g r->ar x e j f q w h u->v=w/\g=h/\r=u
 |[],e,j,f,_,_,_,_,_,_,b,c=>by grind [ar]
 |s::q,e,j,f,_,_,_,_,_,_,b,c=>by
  cases e<;>cases s<;>simp only[ar] at b c
  case osl.idx t i=>
   obtain⟨n,B,F,D,z,ak,_,g,l,o⟩:=b;obtain⟨y,C,G,E,A,d,_,h,m,p⟩:=c;rw[ak] at d;simp only[eQ,cg,aV,cm,b2] at d;obtain⟨⟨rfl,rfl⟩,rfl,rfl⟩:=d;obtain rfl:=l.eq m U;exact ar.fM o p
  case opt.deref k t=>
   obtain⟨n,B,z,ak,g,l,o⟩:=b;obtain⟨y,C,A,d,h,m,p⟩:=c;rw[ak] at d;simp only[eQ,es,aV,cm,b2] at d;obtain⟨rfl,rfl⟩:=d;obtain rfl:=l.eq m U;exact ar.fM o p
  case st.unst t=>exact ar.fM b c
  case nu.unn k t=>exact ar.fM b.2 c.2
  case pr.fst a n=>exact ar.fM b c
  case pr.snd a n=>exact ar.fM b c
def km (c d:bz) (f:Loc) (g:bo) (b:bo):Prop:=
 (∀a,(∀e,f=bn (b,e)->a<e\/e+g<=a)->d.cell? ⟨b,a,bq⟩=c.cell? ⟨b,a,bq⟩)/\
 (∀a,d.frozen? ⟨b,a,bq⟩=c.frozen? ⟨b,a,bq⟩)/\(∀a,(d.cell? ⟨b,a,bq⟩).isSome=(c.cell? ⟨b,a,bq⟩).isSome)/\fk d b=fk c b
def km.cQ (a:km e k v f b) (g:∀c,v≠bn (b,c)):aP e k b:=
 ⟨λd=>⟨a.1 d (λc h=>absurd h (g c)),a.2.1 d⟩,a.2.2.2⟩
def km.vg {j c:bo} (a:km e k v j b) (h:cM e b c f):cM k b c f:=
 λi d g=>by rw[a.2.1,a.2.2.1];exact h i d g
def iV (c:bz) (e:Loc) (d:ea) (f:bo):Prop:=∀b a,e=bn (b,a)->a9 c b a d/\cM c b a (a+f)
theorem a9.take {e:bz} {b d h:bo} {c:ea} (f:a9 e b d c):a9 e b d (c.take h):=λg i a=>by
 rw[m3] at a;split at a
 ·exact f g i a
 grind
theorem a9.drop {f:bz} {b e a:bo} {c:ea} (g:a9 f b e c):a9 f b (e+a) (c.drop a):=λh i d=>by rw[ks] at d;have:=g (a+h) i d;grind
theorem a9.append (d:a9 e b f g) (h:a9 e b (f+g.length) T):a9 e b f (g++T):=λi c a=>by
 rw[List.getElem?_append] at a;split at a
 ·exact d i c a
 have:=h _ c a;grind
def ED {a:bp x} {d:x} (e:a[b]?=bn d):∃c f,a=c++d::f/\c.length=b:=by obtain⟨g,rfl⟩:=e5.1 e;exact⟨a.take b,a.drop (b+1),by rw[List.getElem_cons_drop,kx],ab⟩
def ar.cQ {E:aZ} {A D:bz}:∀{z:bp ax} {τ:af} {w:Loc} {h:ea} {n:τ.den} {r:ei} {B:af} {x:Loc} {p:ea},al E A τ h n r->(∀b∈r,aP A D b)->ar A τ w h z B x p->ar D τ w h z B x p
 |[],τ,_,_,_,_,_,_,_,_,_,a=>by cases τ<;>exact a
 |s::z,τ,w,h,n,r,B,x,p,e,c,a=>by
  cases τ<;>cases s<;>simp only[ar] at a
  case osl.idx t i=>
   obtain⟨b,y,ad,G,q,rfl,P,u,g,v⟩:=a;obtain⟨o,R,f,l⟩:=e;simp only[eQ,cg,b2] at f;obtain⟨rfl,rfl,rfl⟩:=f;rcases l with⟨j,_⟩|⟨F,Q,M,j,rfl,am,an,aA,aH⟩
   ·cases j
   simp only[aV,cm,b2] at j;obtain⟨rfl,rfl⟩:=j;obtain⟨J,S,H,I⟩:=aH i n[i] (M[i]'(by omega)) ab aa
   obtain rfl:=g.eq H U;exact⟨b,y,_,G,q,br,P,u,g.cQ (c b aa),ar.cQ I (λd m=>c d (eJ _ (gV.2 ⟨_,m4 U,m⟩))) v⟩
  case opt.deref k t=>
   obtain⟨b,y,q,rfl,u,g,v⟩:=a;obtain⟨F,Q,T,J,C,rfl,V,N,_,O,_⟩:=e;simp only[eQ,es,aV,cm,b2] at C;obtain⟨rfl,rfl⟩:=C;obtain rfl:=g.eq N U;exact⟨b,y,q,br,u,g.cQ (c b aa),ar.cQ O (λd m=>c d ab) v⟩
  case st.unst t=>exact ar.cQ (τ:=t) e c a
  case nu.unn k t=>
   cases n with
   |some ap=>exact⟨a.1,ar.cQ (τ:=.opt k t) (al.ld.1 e) c a.2⟩
   |none=>exact absurd e.2 a.1
  case pr.fst o b=>
   obtain⟨K,L,rfl,f,l⟩:=e;exact ar.cQ (τ:=o) f (λd m=>c d ab) a
  case pr.snd o b=>
   obtain⟨K,L,rfl,f,l⟩:=e;exact ar.cQ (τ:=b) l (λd m=>c d ab) a
def jg:bp ax->bA
 |[]=>bw
 |.idx _::_|.deref::_=>bu
 |_::a=>jg a
def eD:bp ax->bp ax->bA
 |p,[]=>jg p
 |.idx _::p,.idx _::a|.deref::p,.deref::a|.unst::p,.unst::a|.unn::p,.unn::a|.fst::p,.fst::a|.snd::p,.snd::a=>eD p a
 |.fst::_,.snd::_|.snd::_,.fst::_=>bu
 |_,_=>bw
theorem ar.gT {a:Loc}:ar e d v g [] o a T↔d=o/\v=a/\g=T:=by cases d<;>exact Ir
def gd:bp ax->bp ax->bA
 |.deref::a,.deref::b|.unst::a,.unst::b|.unn::a,.unn::b|.fst::a,.fst::b|.snd::a,.snd::b=>gd a b
 |.fst::_,.snd::_|.snd::_,.fst::_=>bu
 |_,_=>bw
theorem lW (a:bp ax):gd [] a=bw:=by cases a<;>rfl
theorem uW:∀{p q:bp ax},gd p q=bu->eD p q=bu
 |[],q,a=>by grind [lW]
 |s::p,[],a=>by cases s<;>cases a
 |s::p,b::q,a=>by cases s<;>cases b<;>first|(cases a;done)|exact uW (p:=p) (q:=q) a|rfl
theorem kR:∀{p q:bp ax} {τ:af} {h j:τ.den} {l g:af} {m:l.den} {i:g.den},gd p q=bu->be τ h p l m j->aX τ h q g i->aX τ j q g i
 |[],q,_,_,_,_,_,_,_,e,_,_=>by grind [lW]
 |s::p,[],_,_,_,_,_,_,_,e,_,_=>by cases s<;>cases e
 |s::p,r::q,τ,h,j,l,g,m,i,e,c,d=>by
  cases τ<;>cases s<;>simp only[be] at c<;>cases r<;>first|(cases e;done)|(simp only[aX] at d;done)|skip
  case opt.deref.deref k t=>exact kR (p:=p) (q:=q) (τ:=t) e c d
  case st.unst.unst t=>exact kR (p:=p) (q:=q) (τ:=t) e c d
  case nu.unn.unn k t=>
   obtain⟨f,n,rfl,c,rfl⟩:=c;obtain⟨_,o,d⟩:=d;obtain rfl:=c6 o;exact⟨n,br,kR (p:=p) (q:=q) (τ:=.opt k t) e c d⟩
  case pr.fst.fst a b=>
   obtain⟨f,c,rfl⟩:=c;exact kR (p:=p) (q:=q) (τ:=a) e c d
  case pr.snd.snd a b=>
   obtain⟨f,c,rfl⟩:=c;exact kR (p:=p) (q:=q) (τ:=b) e c d
  case pr.fst.snd a b=>
   obtain⟨f,c,rfl⟩:=c;exact d
  case pr.snd.fst a b=>
   obtain⟨f,c,rfl⟩:=c;exact d
theorem al.sub {C:aZ} {B:bz}:∀{p:bp ax} {τ:af} {A:Loc} {q:ea} {n:τ.den} {r:ei} {m:af} {u:m.den} {z:Loc} {o:ea},al C B τ q n r->aX τ n p m u->ar B τ A q p m z o->∃e,al C B m o u e/\∀c∈e,c∈r
 |[],τ,A,q,n,r,m,u,z,o,d,a,b=>by grind [ar.gT,aX.cO]
 |s::p,τ,A,q,n,r,m,u,z,o,d,a,b=>by
  cases τ<;>cases s<;>simp only[aX] at a<;>simp only[ar] at b
  case osl.idx t i=>
   obtain⟨D,F,a⟩:=a;obtain⟨I,S,a3,an,K,f,v,N,w,b⟩:=b;obtain⟨ad,am,rfl,d⟩:=d;rcases d with⟨_,rfl,_⟩|⟨H,R,E,rfl,rfl,a0,ap,P,Q⟩
   ·grind
   have av:i<n.length:=(e5.1 F).1;obtain⟨e,G⟩:∃e,E[i]?=some e:=⟨E[i],fq U⟩;obtain⟨J,O,x,y⟩:=Q i D e F G;simp only[eQ,cg,aV,cm,b2] at f;obtain⟨⟨rfl,rfl⟩,rfl,rfl⟩:=f;obtain rfl:=w.eq x U;obtain⟨g,j,l⟩:=al.sub (p:=p) y a b;exact⟨g,j,λc h=>eJ _ (gV.2 ⟨e,hK G,l c h⟩)⟩
  case opt.deref k t=>
   obtain⟨I,S,K,f,N,w,b⟩:=b;obtain⟨H,R,e,J,rfl,rfl,O,x,P,y,_⟩:=d;simp only[eQ,es,aV,cm,b2] at f;obtain⟨rfl,rfl⟩:=f;obtain rfl:=w.eq x U;obtain⟨g,j,l⟩:=al.sub (p:=p) y a b;exact⟨g,j,λc h=>eJ _ (l c h)⟩
  case st.unst t=>exact al.sub (p:=p) (τ:=t) d a b
  case nu.unn k t=>
   obtain⟨D,rfl,a⟩:=a;exact al.sub (p:=p) (τ:=.opt k t) (al.ld.1 d) a b.2
  case pr.fst T V=>
   obtain⟨L,M,rfl,f,v⟩:=d;obtain⟨g,j,l⟩:=al.sub (p:=p) f a b;exact⟨g,j,λc h=>kv _ (l c h)⟩
  case pr.snd T V=>
   obtain⟨L,M,rfl,f,v⟩:=d;obtain⟨g,j,l⟩:=al.sub (p:=p) v a b;exact⟨g,j,λc h=>jB _ (l c h)⟩
theorem oL {d4:aZ}:∀(ci:bp ax) {τ:af} {loc:Loc} {q:ea} {cv:τ.den} {f2:ei} {J:af} {le:J.den},al d4 e τ q cv f2->iV e loc q τ.size->f2.Nodup->(∀f d,loc=bn (f,d)->f∉f2/\∀r,¬d4 r f)->(∀f∈f2,∀r,¬d4 r f)->aX τ cv ci J le->∃z Q bs T,ar e τ loc q ci J z Q/\al d4 e J Q le bs/\iV e z Q J.size/\f2.Perm (bs++T)/\(∀m g,z=bn (m,g)->(∃d,loc=bn (m,d)/\d<=g/\g+J.size<=d+τ.size)\/m∈T)/\(∀(
   o:bz) (I:aZ) (F:ea) (x:J.den) (ad:ei) (fp:τ.den),
   (∀r f,d4 r f->I r f)->I.t=d4.t->(∀f,(∃r,d4 r f)\/f∈T\/(∃d,loc=bn (f,d))->km e o z J.size f)->
   al I o J F x ad->(z=bq->ci≠[]->F=Q)->(∀f d,z=bn (f,d)->a9 o f d F)->be τ cv ci J x fp->
   ∃n M,al I o τ n fp M/\(ci=[]->n=F)/\(loc=bq->(z≠bq\/F=Q)->n=q)/\(∀f d,loc=bn (f,d)->a9 o f d n)/\M.Perm (ad++T)/\ar o τ loc n ci J z F/\∀(c:bp ax) (P:af) (N:Loc) (L:ea),eD ci c=bu->ar e τ loc q c P N L->ar o τ loc n c P N L)/\
  (∀(c:bp ax) (a4:af) (x:a4.den) (a3:Loc) (dl:ea) (V:ei),gd ci c=bu->a4.gk=bu->aX τ cv c a4 x->ar e τ loc q c a4 a3 dl->al d4 e a4 dl x V->∀b∈V,b∈T/\∀m g,z=bn (m,g)->b≠m):=by
 intro ci
 induction ci with
 |nil=>
  intro τ loc q cv f2 J le em d2 fx ap d3 G;obtain⟨rfl,rfl⟩:=aX.cO.1 G;refine⟨loc,q,f2,[],(by cases τ<;>exact⟨br,br,br⟩),em,d2,aa,λm g a=>.inl ⟨g,a,U,U⟩,?_,λc _ _ _ _ _ a=>by grind [lW]⟩;intro o I F x ad fp _ _ _ A _ am y;obtain⟨_,rfl⟩:=be.cO.1 y;exact⟨F,ad,A,λ_=>rfl,λS a=>a.resolve_left (λc=>c S),am,aa,(by cases τ<;>exact⟨br,br,br⟩),λc _ _ _ l=>by grind [eD,jg]⟩
 |cons t6 ci gt=>
  intro τ loc q cv f2 J le em d2 fx ap d3 G;cases τ<;>cases t6<;>simp only[aX] at G
  case osl.idx t i=>
   obtain⟨bl,f4,G⟩:=G;obtain⟨t7,f1,rfl,em⟩:=em;rcases em with⟨_,rfl,_⟩|⟨f,d,go,rfl,rfl,pl,ty,jp,nd⟩
   ·simp at f4
   have mo:i<cv.length:=(e5.1 f4).1;obtain⟨ib,op⟩:∃ib,go[i]?=some ib:=⟨go[i],fq U⟩;obtain⟨hp,l2,gf,mc⟩:=nd i bl ib f4 op;obtain⟨fT,lb,f5,t3⟩:=ED op;have vm:∀v,v<cv.length->d+v*t.size+t.size<=d+f1*t.size:=λv l=>(by have:(v+1)*t.size<=f1*t.size:=hY _ U;grind);have gh:iV e (bn (f,d+i*t.size)) hp t.size:=(by rintro an s a;simp only[aV,eT] at a;obtain⟨rfl,rfl⟩:=a;exact⟨gf,λC k am=>jp C U ab⟩);have mt:=fx;rw[f5] at mt;simp only[n7,hA,gW,gI,fY,not_or] at mt;obtain⟨⟨ts,gc,tt⟩,mp,⟨fz,gs,t0⟩,t1⟩:=mt;obtain⟨z,Q,bs,T,d5,d6,d7,H,R,d8,fs⟩:=gt (loc:=bn (f,d+i*t.size)) mc gh fz (by rintro an s a;simp only[aV,eT] at a;obtain⟨rfl,rfl⟩:=a;exact⟨gc,d3 f aa⟩) (λb j=>d3 b (by rw[f5];simp[j])) G;refine⟨z,Q,bs,f::(fT.flatten++(T++lb.flatten)),⟨f,d,_,f1,hp,br,mo,l2,gf,d5⟩,d6,d7,?_,?_,?_,λc _ _ _ _ _ a=>by cases c with|nil=>cases a|cons E c=>cases E<;>cases a⟩
   ·rw[f5];simp only[n7,hA];rw[lx] at H|-;intro b;have:=H b;simp only[lu,I8] at this|-;omega
   ·intro m g a;right;rcases R m g a with⟨s,k,_⟩|k
    ·simp only[aV,eT] at k;rw[k.1];simp
    simp[k]
   intro o I F x ad fp bx d0 u A el d9 y;simp only[be] at y;obtain⟨ol,f7,on,y,rfl⟩:=y;obtain rfl:ol=bl:=(by rw[f4] at on;exact(c6 on).symm);obtain⟨n,M,B,_,_,K,a0,ex,av⟩:=d8 o I F x ad f7 bx d0 (by
     rintro b (a|a|⟨s,a⟩)
     ·exact u b (.inl a)
     ·exact u b (.inr (.inl (by simp[a])))
     simp only[aV,eT] at a;exact u b (.inr (.inl (by rw[<-a.1];simp)))) A
    (by
     intro S v1;exact el S aa) d9 y
   have d1:∀m g,z=bn (m,g)->(m=f/\d+i*t.size<=g/\g+J.size<=d+i*t.size+t.size)\/m∈ib:=by
    intro m g a;rcases R m g a with⟨s,k,am,i3⟩|k
    ·simp only[aV,eT] at k;omega
    exact .inr (H.mem_iff.2 (by simp[k]))
   have f3:=u f (.inr (.inl aa));have ii:∀r b,d4 r b->I r b/\aP e o b:=λr b j=>⟨bx r b j,(u b (.inl ⟨r,j⟩)).cQ (λs a=>by
    rcases d1 b s a with⟨rfl,_⟩|k
    ·exact d3 b aa r j
    exact d3 b (by rw[f5];simp[k]) r j)⟩
   have pm:∀(v:bo) (i2:t.den) (ds:ei),v≠i->cv[v]?=bn i2->go[v]?=bn ds->∀f0:ea,f0.length=t.size->a9 e f (d+v*t.size) f0->a9 o f (d+v*t.size) f0/\∀b∈ds,aP e o b:=by
    intro v i2 ds is l ft f0 kg i0;have vs:v<cv.length:=(e5.1 l).1;have mg:∀b∈ds,b∈fT.flatten\/b∈lb.flatten:=by
     intro b j;rw[f5] at ft;rcases gw v fT.length with a|a
     ·rw[kq a] at ft;exact .inl (gV.2 ⟨ds,hK ft,j⟩)
     rw[kr a] at ft;obtain⟨c,D⟩:∃c,v-fT.length=c+1:=⟨v-fT.length-1,U⟩;rw[D] at ft;simp only[m2] at ft;exact .inr (gV.2 ⟨ds,hK ft,j⟩)
    refine⟨?_,?_⟩
    ·intro C i1 f6;have kd:C<f0.length:=(e5.1 f6).1;rw[f3.1]
     ·exact i0 C i1 f6
     intro g a;rcases d1 f g a with⟨_,k,am⟩|k
     ·rcases JA is with v0|u8
      ·left;have:(v+1)*t.size<=i*t.size:=hY _ U;rw[ix,H4] at this;omega
      right;have:(i+1)*t.size<=v*t.size:=hY _ U;rw[ix,H4] at this;omega
     exact absurd k gc
    intro b j;refine(u b (.inr (.inl ?_))).cQ ?_
    ·rcases mg b j with a|a<;>simp[a]
    intro g a;rcases d1 b g a with⟨rfl,_⟩|k
    ·rcases mg b j with a|a
     ·exact ts a
     exact tt a
    rcases mg b j with a|a
    ·exact t1 b a b (.inl k) rfl
    exact t0 b k b a br
   refine⟨[.slice (bn ⟨f,d,bq⟩) cv.length f1],f::(fT++M::lb).flatten,⟨bn ⟨f,d,bq⟩,f1,aa,.inr ⟨f,d,fT++M::lb,br,br,?_,by simpa using ty,f3.vg jp,?_⟩⟩,aa,λ_ _=>rfl,?_,?_,⟨f,d,_,f1,n,br,mo,by rw[B.len],K f _ rfl,ex⟩,?_⟩
   ·rw[f5] at pl;simpa using pl
   ·intro v i2 ds l G;by_cases is:v=i
    ·subst is;rw[List.getElem?_set_self mo] at l;obtain rfl:=c6 l;rw[kr U,t3,Nat.sub_self] at G;simp only[fe,aV] at G;subst G;exact⟨n,by rw[B.len],K f _ rfl,B⟩
    rw[List.getElem?_set_ne (λa=>is a.symm)] at l;have ft:go[v]?=bn ds:=by
     rw[f5];rcases gw v fT.length with a|a
     ·rw[kq a] at G|-;exact G
     rw[kr a] at G|-;obtain⟨c,D⟩:∃c,v-fT.length=c+1:=⟨v-fT.length-1,U⟩;rw[D] at G|-;simpa using G
    obtain⟨f0,kg,i0,no⟩:=nd v i2 ds l ft;obtain⟨of,ok⟩:=pm v i2 ds is l ft f0 kg i0;exact⟨f0,kg,of,no.mono ii ok⟩
   ·intro an s a;have io:=(ap an s a).1;refine((d2 an s a).1).cQ ((u an (.inr (.inr ⟨s,a⟩))).cQ ?_);intro g f9;rcases d1 an g f9 with⟨rfl,_⟩|k
    ·exact io aa
    exact io (by rw[f5];simp[k])
   ·rw[lx] at a0|-;intro b;have:=a0 b;simp only[n7,hA,lu,I8] at this|-;omega
   intro c P N L l D;cases c with
   |nil=>exact D
   |cons E c=>
    cases E<;>simp only[eD] at l<;>first|(cases l;done)|skip
    rename_i C;obtain⟨an,s,v3,t9,lk,k,am,i3,ic,i8⟩:=D;simp only[eQ,cg,aV,cm,b2] at k;obtain⟨⟨rfl,rfl⟩,rfl,rfl⟩:=k;by_cases os:C=i
    ·subst os;obtain rfl:=ic.eq gf U;exact⟨f,d,_,f1,n,br,am,B.len,K f _ rfl,av c P N L l i8⟩
    have rg:cv[C]?=bn cv[C]:=fq am;have or:go[C]?=bn (go[C]'(by omega)):=fq _
    obtain⟨f0,kg,i0,no⟩:=nd C _ _ rg or;obtain rfl:=ic.eq i0 U;obtain⟨of,ok⟩:=pm C _ _ os rg or lk i3 ic;exact⟨f,d,_,f1,lk,br,am,i3,of,ar.cQ no ok i8⟩
  case opt.deref v t=>
   obtain⟨f,d,ib,hp,rfl,rfl,l2,gf,jp,mc,t4⟩:=em;simp only[gW] at fx;obtain⟨ut,t2⟩:=fx;have gh:iV e (bn (f,d)) hp t.size:=(by rintro an s a;grind);obtain⟨z,Q,bs,T,d5,d6,d7,H,R,d8,fs⟩:=gt (loc:=bn (f,d)) mc gh t2 ab (λb j=>d3 b ab) G;refine⟨z,Q,bs,f::T,⟨f,d,hp,br,l2,gf,d5⟩,d6,d7,?_,?_,?_,?_⟩
   rotate_left 3
   ·intro c a4 x a3 dl V a fz co ce A b j;cases c with
    |nil=>cases a
    |cons E c=>
     cases E<;>first|(cases a;done)|skip
     simp only[ar] at ce;obtain⟨an,s,ul,ak,up,tf,ce⟩:=ce;simp only[eQ,es,aV,cm,b2] at ak;obtain⟨rfl,rfl⟩:=ak;obtain rfl:=tf.eq gf U;obtain⟨w,O⟩:=fs c a4 x a3 dl V a fz co ce A b j;exact⟨by simp[w],O⟩
   ·rw[lx] at H|-;intro b;have:=H b;simp only[lu,I8] at this|-;omega
   ·intro m g a;right;rcases R m g a with⟨s,k,_⟩|k
    ·simp only[aV,eT] at k;rw[k.1];simp
    simp[k]
   intro o I F x ad fp bx d0 u A el d9 y;simp only[be] at y;obtain⟨n,M,B,_,_,K,a0,ex,av⟩:=d8 o I F x ad fp bx d0 (by
     rintro b (a|a|⟨s,a⟩)
     ·exact u b (.inl a)
     ·exact u b (.inr (.inl (by simp[a])))
     simp only[aV,eT] at a;exact u b (.inr (.inl (by rw[<-a.1];simp)))) A
    (λS _=>el S aa) d9 y
   have f3:=u f (.inr (.inl aa));refine⟨[.pointer (bn ⟨f,d,bq⟩)],f::M,⟨f,d,M,n,br,br,B.len,K f d br,f3.vg jp,B,λl=>(t4 l).trans (congrFun d0.symm v)⟩,aa,λ_ _=>rfl,?_,?_,⟨f,d,n,br,B.len,K f d br,ex⟩,?_⟩
   ·intro an s a;have io:=(ap an s a).1;refine((d2 an s a).1).cQ ((u an (.inr (.inr ⟨s,a⟩))).cQ ?_);intro g f9;rcases R an g f9 with⟨rt,k,_⟩|k
    ·simp only[aV,eT] at k;exact io (by rw[k.1];simp)
    exact io (eJ _ (H.mem_iff.2 (by simp[k])))
   ·rw[lx] at a0|-;intro b;have:=a0 b;simp only[lu,I8] at this|-;omega
   intro c P N L l D;cases c with
   |nil=>exact D
   |cons E c=>
    cases E<;>simp only[eD] at l<;>first|(cases l;done)|skip
    obtain⟨an,s,lk,k,i3,ic,i8⟩:=D;simp only[eQ,es,aV,cm,b2] at k;obtain⟨rfl,rfl⟩:=k;obtain rfl:=ic.eq gf U;exact⟨f,d,n,br,B.len,K f d br,av c P N L l i8⟩
  case st.unst t=>
   obtain⟨z,Q,bs,T,d5,d6,d7,H,R,d8,fs⟩:=gt (loc:=loc) (τ:=t) em d2 fx ap d3 G;refine⟨z,Q,bs,T,d5,d6,d7,H,R,?_,?_⟩
   rotate_left 1
   ·intro c a4 x a3 dl V a fz co ce A b j;cases c with
    |nil=>cases a
    |cons E c=>
     cases E<;>first|(cases a;done)|skip
     exact fs c a4 x a3 dl V a fz co ce A b j
   intro o I F x ad fp bx d0 u A el d9 y;obtain⟨n,M,B,t5,gl,K,a0,ex,av⟩:=d8 o I F x ad fp bx d0 u A (λS _=>el S aa) d9 y;refine⟨n,M,B,aa,gl,K,a0,ex,?_⟩;intro c P N L l D;cases c with
   |nil=>
    obtain⟨rfl,rfl,rfl⟩:=ar.gT.1 D;obtain⟨_,_,bl⟩:=ar.gT.1 (av [] t loc q (by simpa[eD,jg] using l) (ar.gT.2 ⟨br,br,br⟩));exact ar.gT.2 ⟨br,br,bl⟩
   |cons E c=>
    cases E<;>simp only[eD] at l<;>first|(cases l;done)|skip
    exact av c P N L l D
  case nu.unn v t=>
   obtain⟨ol,rfl,G⟩:=G;obtain⟨z,Q,bs,T,d5,d6,d7,H,R,d8,fs⟩:=gt (loc:=loc) (τ:=.opt v t) (al.ld.1 em) d2 fx ap d3 G;refine⟨z,Q,bs,T,⟨(al.ld.1 em).qj,d5⟩,d6,d7,H,R,?_,?_⟩
   rotate_left 1
   ·intro c a4 x a3 dl V a fz co ce A b j;cases c with
    |nil=>cases a
    |cons E c=>
     cases E<;>first|(cases a;done)|skip
     obtain⟨_,S,co⟩:=co;obtain rfl:=c6 S;exact fs c a4 x a3 dl V a fz co ce.2 A b j
   intro o I F x ad fp bx d0 u A el d9 y;simp only[be] at y;obtain⟨_,f7,S,y,rfl⟩:=y;obtain rfl:=c6 S;obtain⟨n,M,B,t5,gl,K,a0,ex,av⟩:=d8 o I F x ad f7 bx d0 u A (λS _=>el S aa) d9 y;refine⟨n,M,al.ld.2 B,aa,gl,K,a0,⟨B.qj,ex⟩,?_⟩;intro c P N L l D;cases c with
   |nil=>
    obtain⟨rfl,rfl,rfl⟩:=ar.gT.1 D;obtain⟨_,_,bl⟩:=ar.gT.1 (av [] (.opt v t) loc q (by simpa[eD,jg] using l) (ar.gT.2 ⟨br,br,br⟩));exact ar.gT.2 ⟨br,br,bl⟩
   |cons E c=>
    cases E<;>simp only[eD] at l<;>first|(cases l;done)|skip
    exact⟨B.qj,av c P N L l D.2⟩
  case pr.fst h fn=>
   obtain⟨f8,V,rfl,k,am⟩:=em;have ne:=k.len;have a3:=am.len;simp only[m5,IK] at ne a3;have gh:iV e loc (q.take h.size) h.size:=λf d a=>⟨(d2 f d a).1.take,λC w O=>(d2 f d a).2 C w (by show C<d+(h.size+fn.size);omega)⟩;simp only[gI] at fx;obtain⟨mp,fz,gs⟩:=fx;obtain⟨z,Q,bs,T,d5,d6,d7,H,R,d8,fs⟩:=gt (loc:=loc) k gh mp (λf d a=>⟨λc=>(ap f d a).1 (by simp[c]),(ap f d a).2⟩) (λb j=>d3 b ab) G;refine⟨z,Q,bs,T++V,d5,d6,d7,?_,?_,?_,?_⟩
   rotate_left 3
   ·intro c a4 x a3 dl lt a it co ce A b j;cases c with
    |nil=>cases a
    |cons E c=>
     cases E<;>first|(cases a;done)|skip
     ·obtain⟨w,O⟩:=fs c a4 x a3 dl lt a it co ce A b j;exact⟨by simp[w],O⟩
     obtain⟨ds,B,K⟩:=al.sub (p:=c) am co ce;have ge:b∈V:=K b (by rw[<-al.uniq it A B];exact j);refine⟨by simp[ge],λm g f4 bl=>?_⟩;subst bl;rcases R b g f4 with⟨s,ak,_⟩|ak
     ·exact(ap b s ak).1 (by simp[ge])
     exact gs b (H.mem_iff.2 (by simp[ak])) b ge br
   ·rw[lx] at H|-;intro b;have:=H b;simp only[lu] at this|-;omega
   ·intro m g a;rcases R m g a with⟨s,w,O,aA⟩|w
    ·exact .inl ⟨s,w,O,by show g+J.size<=s+(h.size+fn.size);omega⟩
    exact .inr (by simp[w])
   intro o I F x ad fp bx d0 u A el d9 y;simp only[be] at y;obtain⟨f7,y,rfl⟩:=y;obtain⟨n,M,B,_,gl,K,a0,ex,av⟩:=d8 o I F x ad f7 bx d0 (by
     rintro b (a|a|a)
     ·exact u b (.inl a)
     ·exact u b (.inr (.inl (by simp[a])))
     exact u b (.inr (.inr a))) A (λS _=>el S aa) d9 y
   have d1:∀m g,z=bn (m,g)->(∃d,loc=bn (m,d)/\d<=g/\g+J.size<=d+h.size)\/m∈f8:=λm g a=>(R m g a).imp id (λc=>H.mem_iff.2 (by simp[c]));have ii:∀r b,d4 r b->I r b/\aP e o b:=λr b j=>⟨bx r b j,(u b (.inl ⟨r,j⟩)).cQ (λs a=>by
    rcases d1 b s a with⟨d,c,_⟩|c
    ·exact(ap b d c).2 r j
    exact d3 b (by simp[c]) r j)⟩
   have rd:∀b∈V,aP e o b:=λb j=>(u b (.inr (.inl (by simp[j])))).cQ (λg a=>by
    rcases d1 b g a with⟨d,c,_⟩|c
    ·exact(ap b d c).1 (by simp[j])
    exact gs b c b j br)
   have rs:=B.len;refine⟨n++q.drop h.size,M++V,⟨M,V,br,?_,?_⟩,aa,?_,?_,?_,(by
    show ar o h loc ((n++q.drop h.size).take h.size) ci J z F;rw[m7 U,I9 U];exact ex),?_⟩
   ·rw[m7 U,I9 U];exact B
   ·rw[m0 U,m1 U,fI];exact am.mono ii rd
   ·intro w O;rw[gl w O,kx]
   ·intro f d a;refine(K f d a).append ?_;rw[rs];intro C i1 f6;have f3:=u f (.inr (.inr ⟨d,a⟩));have kd:C<(q.drop h.size).length:=(e5.1 f6).1;simp only[IK] at kd;rw[f3.1]
    ·exact((d2 f d a).1.drop) C i1 f6
    intro g f9;rcases d1 f g f9 with⟨rt,w,O,aA⟩|c
    ·rw[a] at w;simp only[aV,eT,Is] at w;omega
    exact absurd (by simp[c]) (ap f d a).1
   ·rw[lx] at a0|-;intro b;have:=a0 b;simp only[lu] at this|-;omega
   intro c P N L l D;have ak:(n++q.drop h.size).take h.size=n:=(by rw[m7 U,I9 U]);have hs:(n++q.drop h.size).drop h.size=q.drop h.size:=(by rw[m0 U,m1 U,fI]);cases c with
   |nil=>
    obtain⟨rfl,rfl,rfl⟩:=ar.gT.1 D;obtain⟨_,_,bl⟩:=ar.gT.1 (av [] h loc (q.take h.size) (by simpa[eD,jg] using l) (ar.gT.2 ⟨br,br,br⟩));exact ar.gT.2 ⟨br,br,by rw[bl,kx]⟩
   |cons E c=>
    cases E<;>simp only[eD] at l<;>first|(cases l;done)|skip
    ·show ar o h loc ((n++q.drop h.size).take h.size) c P N L;rw[ak];exact av c P N L l D
    show ar o fn (loc.map λc=>(c.1,c.2+h.size)) ((n++q.drop h.size).drop h.size) c P N L;rw[hs];exact ar.cQ am rd D
  case pr.snd h fn=>
   obtain⟨f8,V,rfl,k,am⟩:=em;have ne:=k.len;have a3:=am.len;simp only[m5,IK] at ne a3;have gh:iV e (loc.map λc=>(c.1,c.2+h.size)) (q.drop h.size) fn.size:=by
    intro f d a;cases loc with
    |none=>grind
    |some c=>
     obtain⟨t8,cs⟩:=c;simp only[IM,aV,eT] at a;obtain⟨rfl,rfl⟩:=a;exact⟨(d2 _ _ rfl).1.drop,λC w O=>(d2 _ _ rfl).2 C U (by show C<cs+(h.size+fn.size);omega)⟩
   simp only[gI] at fx;obtain⟨mp,fz,gs⟩:=fx;have gc:∀f d,(loc.map λc=>(c.1,c.2+h.size))=bn (f,d)->∃cs,loc=bn (f,cs)/\d=cs+h.size:=by
    intro f d a;cases loc with
    |none=>grind
    |some c=>
     grind
   obtain⟨z,Q,bs,T,d5,d6,d7,H,R,d8,fs⟩:=gt (loc:=loc.map λc=>(c.1,c.2+h.size)) am gh fz (λf d a=>by grind) (λb j=>d3 b ab) G;refine⟨z,Q,bs,T++f8,d5,d6,d7,?_,?_,?_,?_⟩
   rotate_left 3
   ·intro c a4 x a3 dl lt a it co ce A b j;cases c with
    |nil=>cases a
    |cons E c=>
     cases E<;>first|(cases a;done)|skip
     ·obtain⟨ds,B,K⟩:=al.sub (p:=c) k co ce;have ge:b∈f8:=K b (by rw[<-al.uniq it A B];exact j);refine⟨by simp[ge],λm g f4 bl=>?_⟩;subst bl;rcases R b g f4 with⟨s,ak,_⟩|ak
      ·obtain⟨cs,hs,_⟩:=gc _ _ ak;exact(ap b cs hs).1 (by simp[ge])
      exact gs b ge b (H.mem_iff.2 (by simp[ak])) rfl
     obtain⟨w,O⟩:=fs c a4 x a3 dl lt a it co ce A b j;exact⟨by simp[w],O⟩
   ·rw[lx] at H|-;intro b;have:=H b;simp only[lu] at this|-;omega
   ·intro m g a;rcases R m g a with⟨s,w,O,aA⟩|w
    ·obtain⟨cs,aH,rfl⟩:=gc _ _ w;exact .inl ⟨cs,aH,U,by show g+J.size<=cs+(h.size+fn.size);omega⟩
    exact .inr (by simp[w])
   intro o I F x ad fp bx d0 u A el d9 y;simp only[be] at y;obtain⟨f7,y,rfl⟩:=y;obtain⟨n,M,B,_,gl,K,a0,ex,av⟩:=d8 o I F x ad f7 bx d0 (by
     rintro b (a|a|⟨d,a⟩)
     ·exact u b (.inl a)
     ·exact u b (.inr (.inl (by simp[a])))
     obtain⟨cs,aH,rfl⟩:=gc _ _ a;exact u b (.inr (.inr ⟨cs,aH⟩))) A (λS _=>el S aa) d9 y
   have d1:∀m g,z=bn (m,g)->(∃d,loc=bn (m,d)/\d+h.size<=g/\g+J.size<=d+h.size+fn.size)\/m∈V:=λm g a=>by
    rcases R m g a with⟨s,w,O,aA⟩|c
    ·obtain⟨cs,aH,rfl⟩:=gc _ _ w;exact .inl ⟨cs,aH,O,aA⟩
    exact .inr (H.mem_iff.2 (by simp[c]))
   have ii:∀r b,d4 r b->I r b/\aP e o b:=λr b j=>⟨bx r b j,(u b (.inl ⟨r,j⟩)).cQ (λs a=>by
    rcases d1 b s a with⟨d,c,_⟩|c
    ·exact(ap b d c).2 r j
    exact d3 b (by simp[c]) r j)⟩
   have ps:∀b∈f8,aP e o b:=λb j=>(u b (.inr (.inl (by simp[j])))).cQ (λg a=>by
    rcases d1 b g a with⟨d,c,_⟩|c
    ·exact(ap b d c).1 (by simp[j])
    exact gs b j b c br)
   have rs:=B.len;refine⟨q.take h.size++n,f8++M,⟨f8,M,br,?_,?_⟩,aa,?_,?_,?_,(by
    show ar o fn (loc.map λc=>(c.1,c.2+h.size)) ((q.take h.size++n).drop h.size) ci J z F;rw[m0 (by simp;omega),m1 (by simp;omega),fI];exact ex),?_⟩
   ·rw[m7 (by simp;omega),Kc,Kd];exact k.mono ii ps
   ·rw[m0 (by simp;omega),m1 (by simp;omega),fI];exact B
   ·intro w O;rw[gl (by rw[w];rfl) O,kx]
   ·intro f d a;have f3:=u f (.inr (.inr ⟨d,a⟩));have to:a9 o f d (q.take h.size):=by
     intro C i1 f6;have kd:C<(q.take h.size).length:=(e5.1 f6).1;simp only[m5] at kd;rw[f3.1]
     ·exact((d2 f d a).1.take) C i1 f6
     intro g f9;rcases d1 f g f9 with⟨rt,w,O,aA⟩|c
     ·rw[a] at w;simp only[aV,eT,Is] at w;omega
     exact absurd (by simp[c]) (ap f d a).1
    refine to.append ?_;have:=K f (d+h.size) (by rw[a];rfl);rwa[m5,Nat.min_eq_left U]
   ·rw[lx] at a0|-;intro b;have:=a0 b;simp only[lu] at this|-;omega
   intro c P N L l D;have ak:(q.take h.size++n).take h.size=q.take h.size:=(by rw[m7 (by simp;omega),Kc,Kd]);have hs:(q.take h.size++n).drop h.size=n:=(by rw[m0 (by simp;omega),m1 (by simp;omega),fI]);cases c with
   |nil=>
    obtain⟨rfl,rfl,rfl⟩:=ar.gT.1 D;obtain⟨_,_,bl⟩:=ar.gT.1 (av [] fn (loc.map λc=>(c.1,c.2+h.size)) (q.drop h.size) (by simpa[eD,jg] using l) (ar.gT.2 ⟨br,br,br⟩));exact ar.gT.2 ⟨br,br,by rw[bl,kx]⟩
   |cons E c=>
    cases E<;>simp only[eD] at l<;>first|(cases l;done)|skip
    ·show ar o h loc ((q.take h.size++n).take h.size) c P N L;rw[ak];exact ar.cQ k ps D
    show ar o fn (loc.map λc=>(c.1,c.2+h.size)) ((q.take h.size++n).drop h.size) c P N L;rw[hs];exact av c P N L l D
theorem kW {i:aZ} (h:bp ax) {loc:Loc} {v:d.den} {τ':af} {y:τ'.den} (E:al i e d g v l) (F:iV e loc g d.size) (G:l.Nodup) (H:∀a b,loc=bn (a,b)->a∉l/\∀f,¬i f a) (I:∀a∈l,∀f,¬i f a) (J:aX d v h τ' y):∃c k r o,ar e d loc g h τ' c k/\al i e τ' k y r/\iV e c k τ'.size/\l.Perm (r++o)/\(∀q s,c=bn (q,s)->(∃b,loc=bn (q,b)/\b<=s/\s+τ'.size<=b+d.size)\/q∈o)/\(∀(
   j:bz) (p:aZ) (m:ea) (C:τ'.den) (x:ei) (B:d.den),
   (∀f a,i f a->p f a)->p.t=i.t->(∀a,(∃f,i f a)\/a∈o\/(∃b,loc=bn (a,b))->km e j c τ'.size a)->
   al p j τ' m C x->(c=bq->h≠[]->m=k)->(∀a b,c=bn (a,b)->a9 j a b m)->be d v h τ' C B->
   ∃n z,al p j d n B z/\(h=[]->n=m)/\(loc=bq->(c≠bq\/m=k)->n=g)/\(∀a b,loc=bn (a,b)->a9 j a b n)/\z.Perm (x++o)/\ar j d loc n h τ' c m/\∀(u:bp ax) (D:af) (A:Loc) (w:ea),eD h u=bu->ar e d loc g u D A w->ar j d loc n u D A w):=by
 obtain⟨c,k,r,o,K,L,M,N,O,P,_⟩:=oL h E F G H I J;grind
structure aW where
 p:bo->Prop
 t:bo->bo×bo
variable{w:aW}
instance:CoeFun aW (λ_=>bo->Prop):=⟨aW.p⟩
instance:CoeOut aW (bo->Prop):=⟨aW.p⟩
def AR (a c:bo->Prop):gJ->bo->Prop
 |.aE=>a
 |.aG=>λb=>a b\/c b
def az (a:aW) (b:bo->Prop):aZ:=⟨AR a.p b,a.t⟩
theorem hq {c:gJ} (a:az w S c b):w b\/S b:=by cases c;exact .inl a;exact a
inductive ag where
 |dead
 |val (τ:af) (x:τ.den)
 |ref (id:bo) (p:bp ax)
 |addr (id:bo) (p:bp ax)
 |view (id:bo) (p:bp ax) (k7 jZ:bo)
 |app (id:bo) (p:bp ax) (τ:af) (ys:bp τ.den) (own:ei)
 |aS (v:Value)
 |bb (l:bp ag)
 |agg (l:bp ag)
 |aR (f:bo) (l:bp ag)
 |fy (id:bo) (p:bp ax) (k:bt)
 |c0 (a:ag)
abbrev aj:=(a:af)×a.den
variable{n:bp (bo×aj)}{O:aj}
structure aq where
 g:bp (bo×ag)
 h:bp (bo×aj)
variable{y:aq}
def ah {a:Type}:bp (bo×a)->bo->bv a
 |[],_=>bq
 |(k,v)::r,n=>bif bB k n then bn v else ah r n
theorem aU (b:bo) (d:x) (c:bp (bo×x)) (a:bo):ah ((b,d)::c) a=if b=a then bn d else ah c a:=by
 show(bif bB b a then bn d else ah c a)=_;by_cases e:b=a
 ·simp_all
 rw[a8 e];grind [et]
def gt (a:bp (bo×ag)) (b:bo):ag:=match ah a b with|some c=>c|none=>.dead
structure a6 where
 I0:aW
 B:bo->Prop
 F0:bo->Prop
 w0:bz
 n:bo
 pin:ei
 vs:bo->Value
 fx:bA
def a6.ok (a:a6) (d:bo):Prop:=d<a.n/\d∉a.pin
inductive aJ (M:aZ) (w:bz) (h:bp (bo×aj)) (rt:bo->ea) (fp:bo->ei):ag->Value->Prop
 |dead (v:Value):aJ M w h rt fp .dead v
 |aS (v:Value):aJ M w h rt fp (.aS v) v
 |val {τ:af} {x:τ.den} {cs:ea} (r:al M w τ cs x []):aJ M w h rt fp (.val τ x) (aN τ cs)
 |ref {id:bo} {p:bp ax} {t:aj} {τ':af} {loc:Loc} {cs:ea} (l8:ah h id=bn t) (pX:ar w t.1 bq (rt id) p τ' loc cs):aJ M w h rt fp (.ref id p) (aN τ' cs)
 |addr {id:bo} {p:bp ax} {t:aj} {τ':af} {b o:bo} {cs:ea} (l8:ah h id=bn t) (pX:ar w t.1 bq (rt id) p τ' (bn (b,o)) cs):aJ M w h rt fp (.addr id p) (.pointer (bn ⟨b,o,bq⟩))
 |view {id:bo} {p:bp ax} {k7 jZ:bo} {t:aj} {τ':af} {loc:Loc} {b o len cap:bo} (l8:ah h id=bn t) (pX:ar w t.1 bq (rt id) p (.osl τ') loc [.slice (bn ⟨b,o,bq⟩) len cap]) (pU:k7<=jZ) (zS:jZ<=len) (Fk:len<=cap):aJ M w h rt fp (.view id p k7 jZ) (.slice (bn ⟨b,if cap=k7 then o else o+k7*τ'.size,bq⟩) (jZ-k7) (cap-k7))
 |fV (id:bo) (p:bp ax):aJ M w h rt fp (.view id p 0 0) (.slice bq 0 0)
 |app {id:bo} {p:bp ax} {τ:af} {ys:bp τ.den} {own:ei} {t:aj} {loc:Loc} {ov:ea} {xs:bp τ.den} {f1 f2:ei} {v:Value} (l8:ah h id=bn t) (Fp:τ.gk=bu) (pX:ar w t.1 bq (rt id) p (.osl τ) loc ov) (vz:aX t.1 t.2 p (.osl τ) xs) (pU:al M w (.osl τ) ov xs f1) (Fm:∀b∈f1,b∈fp id) (zS:al M w (.osl τ) [v] (xs++ys) f2) (Fs:∀i∈own,i≠id/\∃u,ah h i=bn u) (Ft:∀b∈f2,b∈f1\/∃i∈own,b∈fp i) (Fq:f2.Nodup):aJ M w h rt fp (.app id p τ ys own) v
 |bb {l:bp ag} {vs:dY} (pW:l.length=vs.size) (pV:∀(i:bo) (a:ag) (v:Value),l[i]?=bn a->vs[i]?=bn v->aJ M w h rt fp a v):aJ M w h rt fp (.bb l) (.tuple vs)
 |agg {l:bp ag} {vs:ea} (pW:l.length=vs.length) (pV:∀(i:bo) (a:ag) (v:Value),l[i]?=bn a->vs[i]?=bn v->aJ M w h rt fp a v):aJ M w h rt fp (.agg l) (.agg (vs.map λv=>v.cells.toList).flatten.toArray)
 |fy {id:bo} {p:bp ax} {k:bt} {t:aj} {τ':af} {loc:Loc} {b c i:bo} {bj:bN b5} {e:b5} (l8:ah h id=bn t) (pX:ar w t.1 bq (rt id) p (.mp τ') loc [.map (bn b)]) (zW:b∈fp id) (vA:fk w b=bn (bj,c)) (jZ:bj[i]?=bn e) (Fo:e.key=.int .i64 k):aJ M w h rt fp (.fy id p k) (.int .i64 (e.born:bt))
 |aR {f:bo} {l:bp ag} {vs:dY} (pW:l.length=vs.size) (pV:∀(i:bo) (a:ag) (v:Value),l[i]?=bn a->vs[i]?=bn v->aJ M w h rt fp a v):aJ M w h rt fp (.aR f l) (.func (.func f) #[] vs)
 |c0 {a:ag} {v:Value} {b:bo} (zW:M .aE b) (Fl:w.cell? ⟨b,0,bq⟩=bn v) (Fr:v.oneCell'=bu) (r7:aJ M w h rt fp a v):aJ M w h rt fp (.c0 a) (.pointer (bn ⟨b,0,bq⟩))
structure aK (C:a6) (st:aq) (tc:dY) (w:bz) (I:aW) (rt:bo->ea) (fp:bo->ei):Prop where
 n:tc.size=C.n
 i0:∀b,C.I0 b->I b
 it:C.fx=bu->I.t=C.I0.t
 i1:∀b,I b->C.I0 b\/C.w0.heap.size<=b\/C.F0 b
 ib:∀b,I b\/C.B b->b<w.heap.size
 tree:∀id t,ah st.h id=bn t->al (az I C.B) w t.1 (rt id) t.2 (fp id)/\(fp id).Nodup/\∀b∈fp id,¬I b/\¬C.B b/\b<w.heap.size/\(C.w0.heap.size<=b\/C.F0 b)
 dis:∀i j t u,ah st.h i=bn t->ah st.h j=bn u->i≠j->∀b∈fp i,b∉fp j
 tmp:∀k,aJ (az I C.B) w st.h rt fp (gt st.g k) (tc.getD k bL)
 frame:∀b,b<C.w0.heap.size->¬C.F0 b->w.heap[b]?=C.w0.heap[b]?
 evo:∀b,b<C.w0.heap.size->gr C.w0 w b
 size:C.w0.heap.size<=w.heap.size
 os:w.os=C.w0.os
 tape:w.tape=C.w0.tape
 output:w.output=C.w0.output
 pin:∀k∈C.pin,tc.getD k bL=C.vs k
def cV (a:a6) (e:aq) (f:dY) (g:bz):Prop:=∃b d c,aK a e f g b d c
structure c1 (w w':bz):Prop where
 os:w'.os=w.os
 tape:w'.tape=w.tape
 output:w'.output=w.output
 size:w.heap.size<=w'.heap.size
 heap:∀b,b<w.heap.size->w'.heap[b]?=w.heap[b]?
def c1.refl (a:bz):c1 a a:=⟨br,br,br,eL _,λ_ _=>rfl⟩
def c1.trans {c d e:bz} (a:c1 c d) (b:c1 d e):c1 c e:=
 ⟨b.os.trans a.os,b.tape.trans a.tape,b.output.trans a.output,iy a.size b.size,λg f=>(b.heap g (gv f a.size)).trans (a.heap g f)⟩
def c1.drew {b c:bz} (a:c1 b c):c1 b c.drew:=⟨a.os,a.tape,a.output,a.size,a.heap⟩
theorem c1.alloc (a:bz) (b:Obj):c1 a (a.alloc b):=⟨br,br,br,aa,λc d=>by
 show(a.heap.push b)[c]?=_;grind⟩
theorem aJ.mono {M M':aZ} {r u:bz} {v y:bp (bo×aj)} {w C:bo->ea} {s x:bo->ei} (n:∀A c,M A c->M' A c/\aP r u c) (d:∀id m,ah v id=bn m->al M r m.1 (w id) m.2 (s id)/\∀c∈s id,aP r u c) {j:ag} {b:Value} (F:aJ M r v w s j b) (o:∀id m,ah v id=bn m->ah y id=bn m/\C id=w id/\x id=s id) (ad:M'.t=M.t:=by first|rfl|assumption):aJ M' u y C x j b:=by
 induction F with
 |dead b=>exact .dead b
 |aS b=>exact .aS b
 |val T=>exact .val (T.mono n aa)
 |ref a g=>
  obtain⟨h,i,_⟩:=o _ _ a;exact .ref h (by rw[i];exact g.cQ (d _ _ a).1 (d _ _ a).2)
 |addr a g=>
  obtain⟨h,i,_⟩:=o _ _ a;exact .addr h (by rw[i];exact g.cQ (d _ _ a).1 (d _ _ a).2)
 |fV id B=>exact .fV id B
 |view a g e f E=>
  obtain⟨h,i,_⟩:=o _ _ a;exact .view h (by rw[i];exact g.cQ (d _ _ a).1 (d _ _ a).2) e f E
 |@app id B τ a3 av m ap U a0 V D b a O g J e H f am an P=>
  obtain⟨h,i,S⟩:=o _ _ a;obtain⟨R,z⟩:=d _ _ a;have I:∀c∈D,aP r u c:=λc k=>ab;refine .app h O (by rw[i];exact g.cQ R z) J (e.mono n (λc k=>z c (H c k))) ab (f.mono n I) ?_ ?_ P
  ·grind
  grind
 |fy a g k N K L=>
  obtain⟨h,i,S⟩:=o _ _ a;exact .fy h (by rw[i];exact g.cQ (d _ _ a).1 (d _ _ a).2) ab (by rw[((d _ _ a).2 _ k).2];exact N) K L
 |bb p _ l=>exact .bb p (λq j b e f=>l q j b e f)
 |agg p _ l=>exact .agg p (λq j b e f=>l q j b e f)
 |aR p _ l=>exact .aR p (λq j b e f=>l q j b e f)
 |c0 k G Q _ l=>exact .c0 (n _ _ k).1 (by rw[((n _ _ k).2.1 0).1];exact G) Q l
def aw (c:bp (bo×ag)):bH->ag
 |.tmp g=>gt c g
 |.const (.int d e)=>.val (.int d) e
 |.const (.bool a)=>.val .bool a
 |.const (.string f)=>.val .str f
 |.const h=>.aS h
 |.func b=>.aR b []
 |.global _=>.dead
def aJ.int {c:aZ} {g:bz} {e:bp (bo×aj)} {f:bo->ea} {d:bo->ei} (a:ca) (b:bt):aJ c g e f d (.val (.int a) b) (.int a b):=
 .val (τ:=.int a) (cs:=[.int a b]) ⟨br,br⟩
def aJ.bool {b:aZ} {f:bz} {d:bp (bo×aj)} {e:bo->ea} {c:bo->ei} (a:bA):aJ b f d e c (.val .bool a) (.bool a):=
 .val (τ:=.bool) (cs:=[.bool a]) ⟨br,br⟩
def aJ.str {b:aZ} {f:bz} {d:bp (bo×aj)} {e:bo->ea} {c:bo->ei} (a:ByteArray):aJ b f d e c (.val .str a) (.string a):=
 .val (τ:=.str) (cs:=[.string a]) ⟨br,br⟩
def aK.aw {e:a6} {c:aq} {a:Act} {l:bz} {f:aW} {j:bo->ea} {i:bo->ei} (m:aK e c a.tmps l f j i) (d:bH):aJ (az f e.B) l c.h j i (aw c.g d) (a.eval d):=by
 cases d with
 |tmp o=>exact m.tmp o
 |const p=>
  cases p<;>simp only[gG.aw,ck]
  case int k n=>exact .int k n
  case bool b=>exact .bool b
  case string s=>exact .str s
  all_goals exact .aS _
 |func q=>exact .aR (vs:=#[]) aa aa
 |global r=>exact .dead _
theorem fS {d:Type}:∀(c b:bp (bo×d)) (a:bo),ah (c++b) a=(ah c a).or (ah b a)
 |[],b,a=>by simp[ah]
 |(k,v)::c,b,a=>by rw[hX,aU,aU,fS c b a];grind
theorem gz (c:bo) (b:ag) (d:bp (bo×ag)) (a:bo):gt ((c,b)::d) a=if c=a then b else gt d a:=by grind [aU,gt]
theorem aK.put {d:a6} (a:aK d y z e w p q) (i:d.ok b) {av:ag} {v:Value} (l:aJ (az w d.B) e y.h p q av v):aK d ⟨(b,av)::y.g,y.h⟩ (z.setIfInBounds b v) e w p q where
 n:=by simpa using a.n
 i0:=a.i0
 it:=a.it
 i1:=a.i1
 ib:=a.ib
 tree:=a.tree
 dis:=a.dis
 tmp:=λc=>by
  show aJ _ _ _ _ _ (gt ((b,av)::y.g) c) _;unfold gt;rw[aU];have k:b<z.size:=(by rw[a.n];exact i.1);by_cases f:b=c
  ·simp_all
  rw[a8 f];have:(z.setIfInBounds b v).getD c bL=z.getD c undef:=ae;rw[this];exact a.tmp c
 frame:=a.frame
 evo:=a.evo
 size:=a.size
 os:=a.os
 tape:=a.tape
 output:=a.output
 pin:=λc f=>by have:b≠c:=λj=>i.2 (j▸f);rw[<-a.pin c f];simp_all
structure m8 (C:a6) (st:aq) (w w':bz) (I':aW) (new:bp (bo×aj)) (rtn:bo->ea) (fpn:bo->ei):Prop where
 tree:∀id t,ah new id=bn t->ah st.h id=bq/\al (az I' C.B) w' t.1 (rtn id) t.2 (fpn id)/\(fpn id).Nodup/\∀b∈fpn id,w.heap.size<=b/\b<w'.heap.size/\¬I' b
 dis:∀i j t u,ah new i=bn t->ah new j=bn u->i≠j->∀b∈fpn i,b∉fpn j
def m8.nil {b:a6}:m8 b y e k w [] p q:=
 ⟨(λ_ _ a=>by cases a),(λ_ _ _ _ a=>by cases a)⟩
theorem m8.one {C:a6} {st:aq} {w':bz} {I':aW} {id:bo} {t:aj} {cs:ea} {f:ei} (m:ah st.h id=bq) (n:al (az I' C.B) w' t.1 cs t.2 f) (k:f.Nodup) (j:∀a∈f,e.heap.size<=a/\a<w'.heap.size/\¬I' a):m8 C st e w' I' [(id,t)] (λ_=>cs) (λ_=>f) where
 tree:=λg i b=>by
  rw[aU] at b;split at b
  ·grind
  cases b
 dis:=λg o p i c d l=>by
  rw[aU] at c d;split at c
  ·split at d
   ·omega
   cases d
  cases c
def bg (d:bp (bo×aj)) {a:Type} (b c:bo->a):bo->a:=λid=>match ah d id with|some _=>b id|none=>c id
theorem aK.ext {l:a6} {I':aW} {rtn:bo->ea} {fpn:bo->ei} (c:aK l y z e w p q) (f:c1 e k) (D:∀a,w a->I' a) (E:∀a,I' a->w a\/(e.heap.size<=a/\a<k.heap.size)) {new:bp (bo×aj)} (s:m8 l y e k I' new rtn fpn) (L:I'.t=w.t:=by first|rfl|assumption):aK l ⟨y.g,new++y.h⟩ z k I' (bg new rtn p) (bg new fpn q):=by
 have M:∀A a,az w l.B A a->az I' l.B A a/\aP e k a:=λA a b=>by
  refine⟨?_,.of_heap (f.heap a (c.ib a (hq b)))⟩;cases A
  ·exact D a b
  exact b.imp (D a) id
 have ap:(az I' l.B).t=(az w l.B).t:=L;have V:∀id d,ah y.h id=bn d->ah (new++y.h) id=bn d/\bg new rtn p id=p id/\bg new fpn q id=q id:=λid d j=>by
  have:ah new id=bq:=by
   cases S:ah new id with
   |none=>rfl
   |some m=>have:=(s.tree id m S).1;grind
  grind [fS,bg]
 have F:∀id d,ah (new++y.h) id=bn d->(ah new id=bn d/\bg new rtn p id=rtn id/\bg new fpn q id=fpn id)\/(ah y.h id=bn d/\bg new rtn p id=p id/\bg new fpn q id=q id):=λid d j=>(by grind [fS,ah,bg]);have N:∀id d,ah y.h id=bn d->∀a∈q id,aP e k a:=λid d j a b=>.of_heap (f.heap a ((c.tree id d j).2.2 a b).2.2.1);refine{n:=c.n,i0:=λa b=>D a (c.i0 a b),it:=λad=>L.trans (c.it ad),i1:=?_,ib:=?_,tree:=?_,dis:=?_,tmp:=?_,frame:=?_,evo:=λa b=>(c.evo a b).trans (.of_heap (f.heap a (gv b c.size))),size:=iy c.size f.size,os:=f.os.trans c.os,tape:=f.tape.trans c.tape,output:=f.output.trans c.output,pin:=c.pin}
 ·intro a b;rcases E a b with b|⟨b,_⟩
  ·exact c.i1 a b
  exact .inr (.inl (iy c.size b))
 ·intro a b;rcases b with b|b
  ·rcases E a b with b|⟨_,b⟩
   ·exact gv (c.ib a (.inl b)) f.size
   omega
  exact gv (c.ib a (.inr b)) f.size
 ·intro id d j;rcases F id d j with⟨i,C,o⟩|⟨i,C,o⟩
  ·obtain⟨_,G,H,aA⟩:=s.tree id d i;rw[C,o];refine⟨G,H,λa b=>?_⟩;obtain⟨I,J,K⟩:=aA a b;exact⟨K,λQ=>by have:=c.ib a (.inr Q);omega,J,.inl (iy c.size I)⟩
  obtain⟨G,H,aA⟩:=c.tree id d i;rw[C,o];refine⟨G.mono M (N id d i),H,λa b=>?_⟩;obtain⟨I,J,K,an⟩:=aA a b;exact⟨λr=>(E a r).elim I (λav=>by omega),J,gv K f.size,an⟩
 ·intro u v d m T U O a b;rcases F u d T with⟨i,_,o⟩|⟨i,_,o⟩<;>rcases F v m U with⟨x,_,P⟩|⟨x,_,P⟩<;>rw[o] at b<;>rw[P]
  ·exact s.dis u v d m i x O a b
  ·intro r;have:=((s.tree u d i).2.2.2 a b).1;have:=((c.tree v m x).2.2 a r).2.2.1;omega
  ·intro r;have:=((s.tree v m x).2.2.2 a r).1;have:=((c.tree u d i).2.2 a b).2.2.1;omega
  exact c.dis u v d m i x O a b
 ·intro am;exact(c.tmp am).mono M (λid d j=>⟨(c.tree id d j).1,N id d j⟩) V
 intro a b R;rw[f.heap a (gv b c.size)];exact c.frame a b R
def aK.vu {b:a6} (a:aK b y z e w p q) (c:c1 e k):aK b y z k w p q:=by have:=a.ext (rtn:=p) (fpn:=q) c (λ_ a=>a) (λ_ a=>.inl a) (new:=[]) .nil;exact this
def iE:bp (bo×ag)->aq->Prop
 |[],_=>True
 |(k,a)::r,st=>gt st.g k=a/\iE r st
def iF:bp (bo×aj)->aq->Prop
 |[],_=>True
 |(k,t)::r,st=>ah st.h k=bn t/\iF r st
def iE.get {b:bp (bo×ag)} (c:iE b y):∀a,gt b a=.dead\/gt b a=gt y.g a:=by
 induction b with
 |nil=>exactλa=>.inl br
 |cons f b e=>
  obtain⟨i,h⟩:=f;intro a;rw[gz];split
  ·rename_i d;subst d;exact .inr c.1.symm
  exact e c.2 a
def iF.get (c:iF n y):∀a b,ah n a=bn b->ah y.h a=bn b:=by
 induction n with
 |nil=>intro a b c;cases c
 |cons g n f=>
  obtain⟨j,i⟩:=g;intro a b d;rw[aU] at d;split at d
  ·rename_i e;subst e;rw[<-d];exact c.1
  exact f c.2 a b d
mutual
def ag.ids:ag->ei
 |.dead|.val _ _|.aS _=>[]
 |.ref id _|.addr id _|.view id _ _ _|.fy id _ _=>[id]
 |.app id _ _ _ c=>id::c
 |.bb a|.agg a|.aR _ a=>ag.h7 a
 |.c0 b=>b.ids
def ag.h7:bp ag->ei
 |[]=>[]
 |a::b=>a.ids++ag.h7 b
end
theorem ag.oS {l:bp ag} {i:bo} {a:ag} (b:l[i]?=bn a) {id:bo} (c:id∈a.ids):id∈ag.h7 l:=by
 induction l generalizing i with
 |nil=>grind
 |cons f e d=>
  grind [ag.h7]
theorem aJ.j5 {y z:aZ} {B:bp (bo×aj)} {F:bo->ea} {A:bo->ei} (u:∀D b,y D b->z D b/\aP e k b) {c:ag} (I:aJ y e n p q c Q) (f:∀id∈c.ids,∀x,ah n id=bn x->ah B id=bn x/\F id=p id/\A id=q id/\al y e x.1 (p id) x.2 (q id)/\∀b∈q id,aP e k b) (ap:z.t=y.t:=by first|rfl|assumption):aJ z k B F A c Q:=by
 induction I with
 |dead Q=>exact .dead Q
 |aS Q=>exact .aS Q
 |val ad=>exact .val (ad.mono u aa)
 |ref h g=>
  obtain⟨i,j,_,r,l⟩:=f _ (by simp[ag.ids]) _ h;exact .ref i (by rw[j];exact g.cQ r l)
 |addr h g=>
  obtain⟨i,j,_,r,l⟩:=f _ (by simp[ag.ids]) _ h;exact .addr i (by rw[j];exact g.cQ r l)
 |fV id E=>exact .fV id E
 |view h g a d H=>
  obtain⟨i,j,_,r,l⟩:=f _ (by simp[ag.ids]) _ h;exact .view i (by rw[j];exact g.cQ r l) a d H
 |@app id E bx bs a4 x a3 am bl an G Q h R g M a K d av a0 S=>
  obtain⟨i,j,V,U,C⟩:=f _ (by simp[ag.ids]) _ h;have L:∀b∈G,aP e k b:=λb m=>(by grind [ag.ids]);refine .app i R (by rw[j];exact g.cQ U C) M (a.mono u (λb m=>C b (K b m))) ab (d.mono u L) ?_ ?_ S
  ·grind [ag.ids]
  grind [ag.ids]
 |fy h g m P N O=>
  obtain⟨i,j,V,r,l⟩:=f _ (by simp[ag.ids]) _ h;exact .fy i (by rw[j];exact g.cQ r l) ab (by rw[(l _ m).2];exact P) N O
 |bb v _ o=>exact .bb v (λw c Q a d=>o w c Q a d (λid s=>f id (ag.oS a s)))
 |agg v _ o=>exact .agg v (λw c Q a d=>o w c Q a d (λid s=>f id (ag.oS a s)))
 |aR v _ o=>exact .aR v (λw c Q a d=>o w c Q a d (λid s=>f id (ag.oS a s)))
 |c0 m J T _ o=>exact .c0 (u _ _ m).1 (by rw[((u _ _ m).2.1 0).1];exact J) T (o λid s=>f id (by grind [ag.ids]))
def aK.oA {o:a6} {m:aq} (a:aK o m z e w p q) (v:iE y.g m) (d:iF y.h m) (x:∀c,∀id∈(gt y.g c).ids,(ah y.h id).isSome=bu):aK o y z e w p q where
 n:=a.n
 i0:=a.i0
 it:=a.it
 i1:=a.i1
 ib:=a.ib
 tree:=λid b f=>a.tree id b (d.get id b f)
 dis:=λs t b i l A=>a.dis s t b i (d.get s b l) (d.get t i A)
 tmp:=λc=>by
  rcases v.get c with k|k
  ·rw[k];exact .dead _
  have:=x c;rw[k] at this|-;refine(a.tmp c).j5 (λB j u=>⟨u,aP.refl e j⟩) (λid l b f=>?_);obtain⟨i,r⟩:=ob.1 (this id l);have:=d.get id i r;rw[f] at this;obtain rfl:=c6 this;exact⟨r,br,br,(a.tree id b f).1,λj _=>aP.refl e j⟩
 frame:=a.frame
 evo:=a.evo
 size:=a.size
 os:=a.os
 tape:=a.tape
 output:=a.output
 pin:=a.pin
def hl (a:bp (bo×ag)) (b:bp (bo×aj)):bA:=a.all λc=>c.2.ids.all λid=>(ah b id).isSome
theorem hl.get {a:bp (bo×ag)} (f:hl a n=bu) (c:bo):∀id∈(gt a c).ids,(ah n id).isSome=bu:=by
 intro id b;unfold gt at b;cases d:ah a c with
 |none=>grind [ag.ids]
 |some e=>
  rw[d] at b;have g:(c,e)∈a:=by
   clear f b
   induction a with
   |nil=>cases d
   |cons i j h=>
    grind [I7,JB,aU]
  grind [Ie,hl]
section
mutual
def bi (P:bQ):af->bC->Prop
 |.int g,T=>∃a,P.info? T=bn a/\a.size=1/\a.bytes<=24/\a.zero=bn (.int g 0)/\P.underlying T=bn (.int g)
 |.bool,T=>∃a,P.info? T=bn a/\a.size=1/\a.bytes<=24/\a.zero=bn (.bool bw)/\P.underlying T=bn .bool
 |.str,T=>∃a,P.info? T=bn a/\a.size=1/\a.bytes<=24/\a.zero=bn (.string Ja)/\P.underlying T=bn .string
 |.au _ b,T|.osl b,T=>∃a E,P.info? T=bn a/\a.size=1/\a.bytes<=24/\a.zero=bn (.slice bq 0 0)/\P.underlying T=bn (.slice E)/\bi P b E
 |.ptr _ b,T|.opt _ b,T|.nu _ b,T=>∃a E,P.info? T=bn a/\a.size=1/\a.bytes<=24/\a.zero=bn (.pointer bq)/\P.underlying T=bn (.pointer E)/\bi P b E
 |.aM,T=>∃a E,P.info? T=bn a/\a.size=1/\a.bytes<=24/\a.zero=bn (.pointer bq)/\P.underlying T=bn (.pointer E)
 |.aB d,T=>0<d/\∃a E,P.info? T=bn a/\a.size=d/\a.bytes<=24*d/\a.zero=bn (.agg (bZ d (b0 .u8 0)).toArray)/\P.underlying T=bn (.array d E)
 |.st b,T=>0<b.size/\∃a f e,P.info? T=bn a/\a.size=b.size/\a.bytes<=24*b.size/\a.zero=bn (.agg e)/\P.underlying T=bn (.struct f)/\fd P b f.toList 0 e.toList/\e.size=b.size
 |.mp b,T|.bh _ b,T=>∃a c E,P.info? T=bn a/\a.size=1/\a.bytes<=24/\a.zero=bn (.map bq)/\P.underlying T=bn (.map c E)/\P.underlying c=bn (.int .i64)/\bi P b E
 |.fn _ _,T=>∃a h i j,P.info? T=bn a/\a.size=1/\a.bytes<=24/\a.zero=bn .nilFunc/\P.underlying T=bn (.func h i j)
 |_,_=>bY
def fd (P:bQ):af->bp cA->bo->ea->Prop
 |.pr a g,c::h,e,b=>c.offset=e/\bi P a c.type/\0<a.size/\(∃d f,P.info? c.type=bn d/\d.zero=bn f/\b.take a.size=f.cells.toList)/\fd P g h (e+a.size) (b.drop a.size)
 |.nil,[],_,b=>b=[]
 |_,_,_,_=>bY
end
def g6:af->bA
 |.st _|.aB _=>bu
 |_=>bw
structure x3 (P:bQ) (τ:af) (T:bC) (i:TypeInfo):Prop where
 info:P.info? T=bn i
 size:i.size=τ.size
 bytes:i.bytes<=24*τ.size
 pos:0<τ.size
def bi.info {P:bQ}:∀{τ:af} {T:bC},bi P τ T->∃a h,x3 P τ T a/\P.underlying T=bn h/\(match h with|.struct _|.array _ _=>bu|_=>bw)=g6 τ
 |.int _,_,⟨a,b,c,d,_,e⟩|.bool,_,⟨a,b,c,d,_,e⟩|.str,_,⟨a,b,c,d,_,e⟩|.au _ _,_,⟨a,_,b,c,d,_,e,_⟩|.osl _,_,⟨a,_,b,c,d,_,e,_⟩|.ptr _ _,_,⟨a,_,b,c,d,_,e,_⟩|.opt _ _,_,⟨a,_,b,c,d,_,e,_⟩|.nu _ _,_,⟨a,_,b,c,d,_,e,_⟩|.aM,_,⟨a,_,b,c,d,_,e⟩=>⟨a,_,⟨b,c,d,by simp[af.size]⟩,e,br⟩
 |.aB _,_,⟨g,a,_,b,c,d,_,e⟩|.st i,_,⟨g,a,_,_,b,c,d,_,e,_⟩=>⟨a,_,⟨b,c,d,g⟩,e,br⟩
 |.pr _ _,_,f|.nil,_,f|.aY,_,f=>f.elim
 |.mp _,_,⟨a,_,_,b,c,d,_,e,_⟩|.bh _ _,_,⟨a,_,_,b,c,d,_,e,_⟩|.fn _ _,_,⟨a,_,_,_,b,c,d,_,e⟩=>⟨a,_,⟨b,c,d,by simp[af.size]⟩,e,br⟩
theorem bi.r8 {P:bQ}:∀{τ:af} {T:bC},bi P τ T->∃h,h.cells.size=τ.size/\∀d,P.info? T=bn d->d.zero=bn h
 |.int _,_,⟨d,a,_,_,b,_⟩|.bool,_,⟨d,a,_,_,b,_⟩|.str,_,⟨d,a,_,_,b,_⟩=>⟨_,br,λe c=>by rw[a] at c;cases c;exact b⟩
 |.au _ _,_,⟨d,_,a,_,_,b,_⟩|.osl _,_,⟨d,_,a,_,_,b,_⟩|.ptr _ _,_,⟨d,_,a,_,_,b,_⟩|.opt _ _,_,⟨d,_,a,_,_,b,_⟩|.nu _ _,_,⟨d,_,a,_,_,b,_⟩|.aM,_,⟨d,_,a,_,_,b,_⟩=>⟨_,br,λe c=>by rw[a] at c;cases c;exact b⟩
 |.st o,_,⟨i,d,_,k,a,l,m,b,n,_,j⟩=>⟨.agg k,j,λe c=>by grind⟩
 |.aB g,_,⟨i,d,_,a,_,_,b,_⟩=>⟨.agg (bZ g (b0 .u8 0)).toArray,by show(bZ g (b0 .u8 0)).toArray.size=g;simp,λe c=>by rw[a] at c;cases c;exact b⟩
 |.pr _ _,_,f|.nil,_,f|.aY,_,f=>f.elim
 |.mp _,_,⟨d,_,_,a,_,_,b,_⟩=>⟨_,br,λe c=>by rw[a] at c;cases c;exact b⟩
 |.bh _ _,_,⟨d,_,_,a,_,_,b,_⟩=>⟨_,br,λe c=>by rw[a] at c;cases c;exact b⟩
 |.fn _ _,_,⟨d,_,_,_,a,_,_,b,_⟩=>⟨_,br,λe c=>by rw[a] at c;cases c;exact b⟩
section
variable {P:bQ} {τ:af} {T:bC}
def bi.sizeOf (c:bi P τ T) (b:bz):(eu T).run P b=.ok τ.size b:=by obtain⟨e,d,a,_⟩:=c.info;simp[eu,cC,a.info,a.size]
def bi.isAgg (c:bi P τ T) (a:bz):(Go.isAgg T).run P a=.ok (g6 τ) a:=by obtain⟨g,b,f,e,d⟩:=c.info;simp only[Go.isAgg,bP,b1 e,bT];rw[<-d];cases b<;>rfl
def bi.pos (a:bi P τ T):0<τ.size:=by obtain⟨d,c,b,_⟩:=a.info;exact b.pos
def sQ:∀{τ:af} {T:bC},bi P τ T->g6 τ=bw->τ.size=1
 |.int _,_,_,_|.bool,_,_,_|.str,_,_,_|.au _ _,_,_,_|.osl _,_,_,_|.ptr _ _,_,_,_|.opt _ _,_,_,_|.nu _ _,_,_,_|.aM,_,_,_|.mp _,_,_,_|.bh _ _,_,_,_|.fn _ _,_,_,_=>rfl
 |.st _,_,_,a|.aB _,_,_,a=>by cases a
 |.pr _ _,_,a,_|.nil,_,a,_|.aY,_,a,_=>a.elim
def nU (a:g6 τ=bw):aN τ g=g.headD undef:=by cases τ<;>first|rfl|cases a
def qs (a:g6 τ=bu):aN τ g=.agg g.toArray:=by cases τ<;>first|rfl|cases a
theorem hS (d:bi P τ T) (c:g.length=τ.size) (e:∀a∈g,a.oneCell'=bu):(aN τ g).cells=g.toArray:=by
 cases b:g6 τ with
 |true=>rw[qs b];rfl
 |false=>
  rw[nU b];rw[sQ d b] at c;obtain⟨a,rfl⟩:=kt.1 c;have:=e a aa;cases a<;>first|rfl|grind [cf]
theorem nW {w:bz} {b o:bo} {cs:ea} (a:bi P τ T) (e:a9 w b o cs) (c:cs.length=τ.size):(loadVar T ⟨b,o,bq⟩).run P w=.ok (aN τ cs) w:=by
 simp only[loadVar,bP,a.isAgg,bT];cases g:g6 τ with
 |true=>
  simp only[b8,bP,a.sizeOf,bT];rw[<-c,run_loadCells_list w ⟨b,o,bq⟩ cs (λh d f=>by rw[cy];exact e h d f)];simp_all [qs]
 |false=>
  rw[sQ a g] at c;obtain⟨d,rfl⟩:=kt.1 c;have:=e 0 d br;simp_all [nU,jD]
theorem xv {cs:ea} (c:bi P τ T) (i:cs.length=τ.size) (d:∀j∈cs,j.oneCell'=bu) (g:cM e f b (b+τ.size)):(H5 T ⟨f,b,bq⟩ (aN τ cs)).run P e=.ok () (e.setCells f b cs):=by have k:=run_storeCells_cells (P:=P) f b cs 0 e (λa h=>by simpa using(g (b+a) U U).1) (λa h=>by simpa using(g (b+a) U U).2) d;simp only[H5,hS c i d,bP,c.sizeOf,bT];grind
end
def hd:(τ:af)->bv τ.den
 |.int _=>bn (0:bt)
 |.bool=>bn bw
 |.str=>bn Ja
 |.au _ _|.osl _=>bn []
 |.ptr _ _=>bn bq
 |.opt _ _=>bq
 |.nu _ _=>bn bq
 |.aM=>bn bw
 |.aB c=>bn (bZ c 0)
 |.st d=>hd d
 |.pr a b=>match hd a,hd b with|some e,some f=>bn (e,f)|_,_=>bq
 |.nil=>bn ()
 |.aY|.eB _=>bq
 |.mp _|.bh _ _=>bn bq
 |.fn _ _=>bq
mutual
theorem mQ {P:bQ}:∀{τ:af} {T:bC} {g:τ.den},bi P τ T->hd τ=bn g->∃b l,P.info? T=bn b/\b.zero=bn l/\l=aN τ l.cells.toList/\∀(e:aZ) (f:bz),al e f τ l.cells.toList g []
 |.int q,_,g,⟨b,c,h,i,d,j⟩,a=>⟨b,_,c,d,br,λe f=>by cases a;exact⟨br,br⟩⟩
 |.bool,_,g,⟨b,c,h,i,d,j⟩,a=>⟨b,_,c,d,br,λe f=>by cases a;exact⟨br,br⟩⟩
 |.str,_,g,⟨b,c,h,i,d,j⟩,a=>⟨b,_,c,d,br,λe f=>by cases a;exact⟨br,br⟩⟩
 |.au _ _,_,g,⟨b,_,c,h,i,d,j,_⟩,a=>⟨b,_,c,d,br,λe f=>by cases a;exact⟨br,bq,0,br,eL _,λ_=>rfl,.inl br⟩⟩
 |.osl _,_,g,⟨b,_,c,h,i,d,j,_⟩,a=>⟨b,_,c,d,br,λe f=>by cases a;exact⟨bq,0,br,.inl ⟨br,br,br,br⟩⟩⟩
 |.ptr _ _,_,g,⟨b,_,c,h,i,d,j,_⟩,a=>⟨b,_,c,d,br,λe f=>by cases a;exact⟨br,br⟩⟩
 |.opt _ _,_,_,_,a=>by cases a
 |.nu _ _,_,g,⟨b,_,c,h,i,d,j,_⟩,a=>⟨b,_,c,d,br,λe f=>by cases a;exact⟨br,br⟩⟩
 |.aM,_,g,⟨b,_,c,h,i,d,j⟩,a=>⟨b,_,c,d,br,λe f=>by cases a;exact⟨br,br⟩⟩
 |.aB r,_,g,⟨p,b,_,c,h,i,d,j⟩,a=>⟨b,_,c,d,br,λe f=>by cases a;exact⟨br,aa,by simp[JC]⟩⟩
 |.st n,_,g,⟨_,b,o,s,c,h,i,d,j,m,_⟩,a=>⟨b,_,c,d,br,λe f=>xS (τ:=n) m a e f⟩
 |.pr _ _,_,_,k,_|.nil,_,_,k,_|.aY,_,_,k,_=>k.elim
 |.mp _,_,g,⟨b,_,_,c,h,i,d,j,_⟩,a=>⟨b,_,c,d,br,λe f=>by cases a;exact⟨br,br⟩⟩
 |.bh _ _,_,g,⟨b,_,_,c,h,i,d,j,_⟩,a=>⟨b,_,c,d,br,λe f=>by cases a;exact⟨br,br⟩⟩
 |.fn _ _,_,_,_,a=>by cases a
theorem xS {P:bQ}:∀{τ:af} {l:bp cA} {g:bo} {f:ea} {e:τ.den},fd P τ l g f->hd τ=bn e->∀(b:aZ) (d:bz),al b d τ f e []
 |.pr j k,s::x,g,f,e,a,c,b,d=>by
  obtain⟨t,m,u,⟨v,B,q,r,aA⟩,n⟩:=a;simp only[hd] at c;split at c
  ·rename_i z A o p;cases c;obtain⟨w,C,h,i,_,y⟩:=mQ (τ:=j) m o;rw[q] at h;obtain rfl:=c6 h;rw[r] at i;obtain rfl:=c6 i;exact⟨[],[],br,ab,xS (τ:=k) n p b d⟩
  grind
 |.nil,[],_,f,e,a,c,b,d=>⟨br,a⟩
 |.pr _ _,[],_,_,_,a,_,_,_|.nil,_::_,_,_,_,a,_,_,_=>a.elim
 |.int _,_,_,_,_,a,_,_,_|.bool,_,_,_,_,a,_,_,_|.str,_,_,_,_,a,_,_,_|.au _ _,_,_,_,_,a,_,_,_|.osl _,_,_,_,_,a,_,_,_|.ptr _ _,_,_,_,_,a,_,_,_|.opt _ _,_,_,_,_,a,_,_,_|.nu _ _,_,_,_,_,a,_,_,_|.aM,_,_,_,_,a,_,_,_|.aB _,_,_,_,_,a,_,_,_|.st _,_,_,_,_,a,_,_,_|.aY,_,_,_,_,a,_,_,_|.mp _,_,_,_,_,a,_,_,_|.bh _ _,_,_,_,_,a,_,_,_|.fn _ _,_,_,_,_,a,_,_,_=>by cases a
end
def aD:af->af->bA
 |.int g,.int h=>if g=h then bu else bw
 |.bool,.bool|.str,.str|.nil,.nil=>bu
 |.au _ a,.au _ b|.au _ a,.osl b|.osl a,.au _ b|.osl a,.osl b|.ptr _ a,.ptr _ b|.ptr _ a,.opt _ b|.opt _ a,.ptr _ b|.opt _ a,.opt _ b|.nu _ a,.nu _ b|.nu _ a,.opt _ b|.nu _ a,.ptr _ b|.opt _ a,.nu _ b|.ptr _ a,.nu _ b=>aD a b
 |.nu _ _,.aM|.opt _ _,.aM|.ptr _ _,.aM|.aM,.aM=>bu
 |.aB j,.aB i=>bB j i
 |.st a,.st b|.mp a,.mp b|.mp a,.bh _ b|.bh _ a,.mp b|.bh _ a,.bh _ b=>aD a b
 |.fn _ _,.fn _ _=>bu
 |.pr c d,.pr e f=>aD c e&&aD d f
 |_,_=>bw
theorem aD.size:∀{τ b:af},aD τ b=bu->τ.size=b.size:=by
 intro τ
 induction τ with
 |st h c=>intro b a;cases b<;>simp only[aD] at a<;>first|(simp only[af.size];exact c a)|cases a
 |pr d e f g=>
  intro b a;cases b<;>simp only[aD] at a<;>try (cases a;done)
  simp only[aC] at a;grind [af.size]
 |_=>intro b a;cases b<;>simp[aD] at a<;>simp[af.size,a]
mutual
theorem bi.lay {P:bQ}:∀{τ c:af} {T:bC},aD τ c=bu->bi P τ T->bi P c T
 |.int q,c,_,a,b=>by cases c<;>simp[aD] at a;grind
 |.bool,c,_,a,b|.str,c,_,a,b=>by grind [aD]
 |.au _ k,c,_,a,b=>by obtain⟨g,E,d,h,i,e,f,j⟩:=b;cases c<;>simp only[aD] at a<;>first|exact⟨g,E,d,h,i,e,f,bi.lay a j⟩|cases a
 |.osl k,c,_,a,b=>by obtain⟨g,E,d,h,i,e,f,j⟩:=b;cases c<;>simp only[aD] at a<;>first|exact⟨g,E,d,h,i,e,f,bi.lay a j⟩|cases a
 |.ptr _ k,c,_,a,b=>by obtain⟨g,E,d,h,i,e,f,j⟩:=b;cases c<;>simp only[aD] at a<;>first|exact⟨g,E,d,h,i,e,f,bi.lay a j⟩|exact⟨g,E,d,h,i,e,f⟩|cases a
 |.nu _ k,c,_,a,b=>by obtain⟨g,E,d,h,i,e,f,j⟩:=b;cases c<;>simp only[aD] at a<;>first|exact⟨g,E,d,h,i,e,f,bi.lay a j⟩|exact⟨g,E,d,h,i,e,f⟩|cases a
 |.aM,c,_,a,b=>by cases c<;>simp only[aD] at a<;>first|exact b|cases a
 |.aB r,c,_,a,b=>by
  cases c<;>simp only[aD] at a<;>first|(cases a;done)|skip
  rw[<-a7 a];exact b
 |.opt _ k,c,_,a,b=>by obtain⟨g,E,d,h,i,e,f,j⟩:=b;cases c<;>simp only[aD] at a<;>first|exact⟨g,E,d,h,i,e,f,bi.lay a j⟩|exact⟨g,E,d,h,i,e,f⟩|cases a
 |.st k,c,_,a,b=>by
  obtain⟨p,g,n,o,d,h,i,e,f,j,l⟩:=b;cases c<;>simp only[aD] at a<;>try (cases a;done)
  have:=aD.size a;exact⟨U,g,n,o,d,U,U,e,f,fd.lay a j,U⟩
 |.pr _ _,_,_,_,b|.nil,_,_,_,b|.aY,_,_,_,b=>b.elim
 |.mp k,c,_,a,b=>by obtain⟨g,m,E,d,h,i,e,f,j,l⟩:=b;cases c<;>simp only[aD] at a<;>first|exact⟨g,m,E,d,h,i,e,f,j,bi.lay a l⟩|cases a
 |.bh _ k,c,_,a,b=>by obtain⟨g,m,E,d,h,i,e,f,j,l⟩:=b;cases c<;>simp only[aD] at a<;>first|exact⟨g,m,E,d,h,i,e,f,j,bi.lay a l⟩|cases a
 |.fn _ _,c,_,a,b=>by cases c<;>simp only[aD] at a<;>first|exact b|cases a
theorem fd.lay {P:bQ}:∀{τ c:af} {f:bp cA} {d:bo} {e:ea},aD τ c=bu->fd P τ f d e->fd P c f d e
 |.pr k l,c,m::o,d,e,b,a=>by
  obtain⟨g,h,n,i,j⟩:=a;cases c<;>simp only[aD] at b<;>try (cases b;done)
  simp only[aC] at b;have:=aD.size b.1;exact⟨g,bi.lay b.1 h,U,by rw[<-this];exact i,by rw[<-this];exact fd.lay b.2 j⟩
 |.nil,c,[],_,_,b,a=>by grind [aD]
 |.pr _ _,_,[],_,_,_,a|.nil,_,_::_,_,_,_,a=>a.elim
 |.int _,_,_,_,_,_,a|.bool,_,_,_,_,_,a|.str,_,_,_,_,_,a|.au _ _,_,_,_,_,_,a|.osl _,_,_,_,_,_,a|.ptr _ _,_,_,_,_,_,a|.opt _ _,_,_,_,_,_,a|.nu _ _,_,_,_,_,_,a|.aM,_,_,_,_,_,a|.aB _,_,_,_,_,_,a|.st _,_,_,_,_,_,a|.aY,_,_,_,_,_,a|.mp _,_,_,_,_,_,a=>by cases a
end
structure lD where
 b:bo
 T:bC
 k:ca
 xs:eh
def tn (P:bQ) (a:lD):Prop:=∃b,P.underlying a.T=bn (.array a.xs.length b)/\bi P (.int a.k) b
def xV (P:bQ) (T:bC):Prop:=P.stoodInHeld T=bw/\P.eqGuardType P.depth T=bw/\∃a,P.underlying T=bn (.struct a)/\(a.toList.all λb=>b.name !="_")=bu
structure cG where
 P:bQ
 tt:bp (bC×af)
 ok:∀T τ,ah tt T=bn τ->bi P τ T
 mix:P.follows .mixedOrders=bu
 glob:bp lD:=[]
 gok:∀g∈glob,tn P g:=by intro g h;cases h
 eqs:dZ:=[]
 zt:∀T∈eqs,xV P T:=by intro T h;cases h
end
section
def fG:bo:=4294967296
def c7 {b:Type} (c:bp b) (a:bt):bv b:=if 0<=a then c[a.toNat]? else bq
theorem vl {b:bp x} {a:bt} {c:x} (d:c7 b a=bn c):a=(a.toNat:bt)/\a.toNat<b.length/\b[a.toNat]?=bn c:=by grind [Jb,c7]
inductive eX where
 |bk (av:ag) (new:bp (bo×aj))
 |part (α:Type) (φ:α->Prop) (f:α->ag×bp (bo×aj))
 |bad
def eX.K (e:eX) (Q:ag->bp (bo×aj)->Prop):Prop:=
 match e with
 |.bk c d=>Q c d
 |.part f g b=>∃a:f,g a/\Q (b a).1 (b a).2
 |.bad=>bY
def af.pure:af->bA
 |.osl _|.opt _ _|.nu _ _|.aY|.mp _|.eB _=>bw
 |.st c=>c.pure
 |.pr a b=>a.pure&&b.pure
 |_=>bu
def bm:af->bp ax->bv af
 |τ,[]=>bn τ
 |.osl c,.idx _::b|.opt _ c,.deref::b|.mp c,.deref::b|.st c,.unst::b=>bm c b
 |.nu e c,.unn::b=>bm (.opt e c) b
 |.pr a _,.fst::b=>bm a b
 |.pr _ d,.snd::b=>bm d b
 |_,_=>bq
def cR:af->bo->bv (bp ax×af)
 |.pr a _,0=>bn ([.fst],a)
 |.pr _ c,d+1=>match cR c d with|some b=>bn (.snd::b.1,b.2)|none=>bq
 |_,_=>bq
def cL:af->bo->bo
 |.pr _ _,0=>0
 |.pr a b,c+1=>a.size+cL b c
 |_,_=>0
def jS:(e:af)->e.den->bo->bv aj
 |.pr a _,b,0=>bn ⟨a,b.1⟩
 |.pr _ c,b,d+1=>jS c b.2 d
 |_,_,_=>bq
theorem rW {h:bQ}:∀{τ:af} {j:bp cA} {f:bo} {g:ea} {e:bo} {s:bp ax} {τf:af},fd h τ j f g->cR τ e=bn (s,τf)->∃c,j[e]?=bn c/\c.offset=f+cL τ e/\bi h τf c.type
 |.pr a i,c::m,f,g,0,s,τf,d,b=>by simp only[cR,aV,eT] at b;obtain⟨rfl,rfl⟩:=b;exact⟨c,br,by rw[d.1];rfl,d.2.1⟩
 |.pr a i,c::m,f,g,e+1,s,τf,d,b=>by
  simp only[cR] at b;split at b
  ·rename_i k l;simp only[aV,eT] at b;obtain⟨rfl,rfl⟩:=b;obtain⟨n,o,p,q⟩:=rW (τ:=i) d.2.2.2.2 (s:=k.1) (τf:=k.2) l;grind [cL]
  grind
 |.pr _ _,[],_,_,_,_,_,d,_=>d.elim
 |.int _,_,_,_,_,_,_,_,b|.bool,_,_,_,_,_,_,_,b|.str,_,_,_,_,_,_,_,b|.au _ _,_,_,_,_,_,_,_,b|.osl _,_,_,_,_,_,_,_,b|.ptr _ _,_,_,_,_,_,_,_,b|.opt _ _,_,_,_,_,_,_,_,b|.st _,_,_,_,_,_,_,_,b|.nil,_,_,_,_,_,_,_,b|.aY,_,_,_,_,_,_,_,b=>by cases b
theorem rZ:∀{τ:af} {e:τ.den} {d:bo} {c:aj},jS τ e d=bn c->∃g,cR τ d=bn (g,c.1)
 |.pr a f,e,0,c,b=>by simp only[jS,aV] at b;subst b;exact⟨_,br⟩
 |.pr a f,e,d+1,c,b=>by obtain⟨g,h⟩:=rZ (τ:=f) b;grind [cR]
 |.int _,_,_,_,b|.bool,_,_,_,b|.str,_,_,_,b|.au _ _,_,_,_,b|.osl _,_,_,_,b|.ptr _ _,_,_,_,b|.opt _ _,_,_,_,b|.st _,_,_,_,b|.nil,_,_,_,b|.aY,_,_,_,b=>by cases b
theorem nt:∀{τ:af} {c:bo} {s:bp ax} {tf:af},cR τ c=bn (s,tf)->cL τ c+tf.size<=τ.size
 |.pr a d,0,s,tf,b=>by simp only[cR,aV,eT] at b;obtain⟨_,rfl⟩:=b;simp[cL,af.size]
 |.pr a d,c+1,s,tf,b=>by
  simp only[cR] at b;split at b
  ·rename_i e f;simp only[aV,eT] at b;obtain⟨_,rfl⟩:=b;have:=nt (τ:=d) (s:=e.1) (tf:=e.2) f;grind [cL,af.size]
  grind
 |.int _,_,_,_,b|.bool,_,_,_,b|.str,_,_,_,b|.au _ _,_,_,_,b|.osl _,_,_,_,b|.ptr _ _,_,_,_,b|.opt _ _,_,_,_,b|.st _,_,_,_,b|.nil,_,_,_,b|.aY,_,_,_,b=>by cases b
theorem rY {j:aZ} {w:bz}:∀{τ:af} {f:τ.den} {e:bo} {c:aj} {d:ea},al j w τ d f []->jS τ f e=bn c->al j w c.1 ((d.drop (cL τ e)).take c.1.size) c.2 []/\cL τ e+c.1.size<=τ.size
 |.pr a k,f,0,c,d,i,b=>by simp only[jS,aV] at b;subst b;obtain⟨g,h,n,m,l⟩:=i;obtain⟨rfl,rfl⟩:g=[]/\h=[]:=ae;grind [cL,af.size]
 |.pr a k,f,e+1,c,d,i,b=>by obtain⟨g,h,n,m,l⟩:=i;obtain⟨rfl,rfl⟩:g=[]/\h=[]:=ae;obtain⟨o,p⟩:=rY (τ:=k) l b;grind [It,cL,af.size]
 |.int _,_,_,_,_,_,b|.bool,_,_,_,_,_,b|.str,_,_,_,_,_,b|.au _ _,_,_,_,_,_,b|.osl _,_,_,_,_,_,b|.ptr _ _,_,_,_,_,_,b|.opt _ _,_,_,_,_,_,b|.st _,_,_,_,_,_,b|.nil,_,_,_,_,_,b|.aY,_,_,_,_,_,b=>by cases b
theorem ar.cO {w:bz} {a:Loc}:ar w d v g [] o a T↔d=o/\v=a/\g=T:=by cases d<;>exact Ir
theorem ar.append {w:bz}:∀{p c:bp ax} {τ v x:af} {q r u:Loc} {n l m:ea},ar w τ q n p v r l->ar w v r l c x u m->ar w τ q n (p++c) x u m
 |[],c,τ,_,_,_,_,_,_,_,_,a,b=>by grind [ar.cO]
 |s::p,c,τ,_,_,_,_,_,_,_,_,a,b=>by
  cases τ<;>cases s<;>simp only[ar] at a
  case osl.idx t i=>
   obtain⟨d,o,A,y,e,f,g,h,j,z⟩:=a;exact⟨d,o,A,y,e,f,g,h,j,z.append b⟩
  case opt.deref k t=>
   obtain⟨d,o,e,f,g,h,j⟩:=a;exact⟨d,o,e,f,g,h,j.append b⟩
  case st.unst t=>exact ar.append (p:=p) (τ:=t) a b
  case nu.unn k t=>exact⟨a.1,ar.append (p:=p) (τ:=.opt k t) a.2 b⟩
  case pr.fst t1 t2=>exact ar.append (p:=p) (τ:=t1) a b
  case pr.snd t1 t2=>exact ar.append (p:=p) (τ:=t2) a b
theorem ar.here {w:bz}:ar w d v g [] d v g:=by cases d<;>exact⟨br,br,br⟩
def ar.ty {w:bz}:∀{p:bp ax} {τ c:af} {n q:Loc} {e f:ea},ar w τ n e p c q f->bm τ p=bn c
 |[],τ,_,_,_,_,_,a=>by obtain⟨rfl,_⟩:=ar.cO.1 a;cases τ<;>rfl
 |s::p,τ,_,_,_,_,_,a=>by
  cases τ<;>cases s<;>simp only[ar] at a
  case osl.idx t i=>obtain⟨d,o,u,r,g,h,j,l,b,m⟩:=a;exact m.ty
  case opt.deref k t=>obtain⟨d,o,g,h,j,l,b⟩:=a;exact b.ty
  case st.unst t=>exact ar.ty (p:=p) (τ:=t) a
  case nu.unn k t=>exact ar.ty (p:=p) (τ:=.opt k t) a.2
  case pr.fst t1 t2=>exact ar.ty (p:=p) (τ:=t1) a
  case pr.snd t1 t2=>exact ar.ty (p:=p) (τ:=t2) a
theorem ar.at {w:bz}:∀{r:bp ax} {τ u:af} {g q:Loc} {f h:ea},ar w τ g f r u q h->f.length=τ.size->(∀b o,g=bn (b,o)->a9 w b o f)->h.length=u.size/\∀b o,q=bn (b,o)->a9 w b o h
 |[],τ,_,_,_,_,_,c,j,e=>by grind [ar.cO]
 |s::r,τ,_,g,_,f,_,c,j,e=>by
  cases τ<;>cases s<;>simp only[ar] at c
  case osl.idx t i=>
   obtain⟨b,o,B,A,v,x,m,n,p,y⟩:=c;exact y.at n (λl z d=>by grind)
  case opt.deref k t=>
   obtain⟨b,o,v,x,m,n,p⟩:=c;exact p.at m (λl z d=>by grind)
  case st.unst t=>exact ar.at (τ:=t) c j e
  case nu.unn k t=>exact ar.at (τ:=.opt k t) c.2 j e
  case pr.fst a b=>
   exact ar.at (τ:=a) c (by grind [af.size]) (λb o d=>(e b o d).take)
  case pr.snd a b=>
   refine ar.at (τ:=b) c (by grind [af.size]) (λl o d=>?_);cases g with
   |none=>grind
   |some C=>
    simp only[IM,aV,eT] at d;obtain⟨rfl,rfl⟩:=d;exact(e _ _ rfl).drop
theorem ar.pR {w:bz}:∀{τ:af} {e:bo} {s:bp ax} {τf:af} {l:Loc} {cs:ea},cR τ e=bn (s,τf)->ar w τ l cs s τf (l.map λc=>(c.1,c.2+cL τ e)) ((cs.drop (cL τ e)).take τf.size)
 |.pr a f,0,s,τf,l,cs,d=>by simp only[cR,aV,eT] at d;obtain⟨rfl,rfl⟩:=d;simp_all [lv,ar,cL]
 |.pr a f,e+1,s,τf,l,cs,d=>by
  simp only[cR] at d;split at d
  ·rename_i c g;simp only[aV,eT] at d;obtain⟨rfl,rfl⟩:=d;have:=ar.pR (w:=w) (τ:=f) (s:=c.1) (τf:=c.2) (l:=l.map λc=>(c.1,c.2+a.size)) (cs:=cs.drop a.size) g;simp only[ar,cL];rw[It] at this;cases l with
   |none|some h=>grind
  grind
 |.int _,_,_,_,_,_,b|.bool,_,_,_,_,_,b|.str,_,_,_,_,_,b|.au _ _,_,_,_,_,_,b|.osl _,_,_,_,_,_,b|.ptr _ _,_,_,_,_,_,b|.opt _ _,_,_,_,_,_,b|.st _,_,_,_,_,_,b|.nil,_,_,_,_,_,b|.aY,_,_,_,_,_,b=>by cases b
theorem aX.uniq:∀{p:bp ax} {τ:af} {f:τ.den} {e:af} {g h:e.den},aX τ f p e g->aX τ f p e h->g=h
 |[],τ,_,_,_,_,a,b=>by grind [aX.cO]
 |s::p,τ,_,_,_,_,a,b=>by
  cases τ<;>cases s<;>simp only[aX] at a b
  case osl.idx=>
   obtain⟨i,d,a⟩:=a;obtain⟨j,c,b⟩:=b;rw[d] at c;obtain rfl:=c6 c;exact a.uniq b
  case opt.deref=>exact aX.uniq (p:=p) a b
  case st.unst=>exact aX.uniq (p:=p) a b
  case nu.unn=>
   obtain⟨i,d,a⟩:=a;obtain⟨j,c,b⟩:=b;rw[d] at c;obtain rfl:=c6 c;exact aX.uniq (p:=p) (τ:=.opt _ _) a b
  case pr.fst=>exact aX.uniq (p:=p) a b
  case pr.snd=>exact aX.uniq (p:=p) a b
def Yields (E:cG) (C:a6) (st:aq) (a:Act) (w:bz) (I:aW) (rt:bo->ea) (fp:bo->ei) (o:bJ) (Q:ag->bp (bo×aj)->Prop):Prop:=
 ∃j d e i g f c,(bF a.eval o).run E.P w=.ok (.value j) d/\c1 w d/\(∀b,I b->e b)/\(∀b,e b->I b\/(w.heap.size<=b/\b<d.heap.size))/\m8 C st w d ⟨e,I.t⟩ c i g/\aJ (az ⟨e,I.t⟩ C.B) d (c++st.h) (bg c i rt) (bg c g fp) f j/\Q f c
section
variable {E:cG} {C:a6} {st:aq} {a:Act} {w:bz} {I:aW} {rt:bo->ea} {fp:bo->ei} {o:bJ} {Q:ag->bp (bo×aj)->Prop}
def Yields.pure {v:Value} {b:ag} (e:(bF a.eval o).run E.P w=.ok (.value v) w) (f:aJ (az I C.B) w st.h rt fp b v) (d:Q b []):Yields E C st a w I rt fp o Q:=
 ⟨v,w,I,rt,fp,b,[],e,.refl w,λ_ c=>c,λ_ c=>.inl c,.nil,f,d⟩
def Yields.wp (u:aK C st a.tmps w I rt fp) (k:Yields E C st a w I rt fp o Q) {next:Act->bz->Prop} {j:bU->Act->bz->Prop} {f:bo} (v:o.dst=bn f) (x:C.ok f) (y:∀b c e d,Q b c->e.defers=a.defers->cV C ⟨(f,b)::st.g,c++st.h⟩ e.tmps d->next e d):o.wp E.P a w next j:=by
 obtain⟨z,d,i,B,A,b,c,l,m,n,p,q,r,s⟩:=k;unfold cc;rw[l];show next (a.put o.dst z) d
 rw[v];exact y b c _ _ s br ⟨⟨i,I.t⟩,_,_,(u.ext m n p q).put x r⟩
def g0 (h:BinOp) (a:ca) (d:bt) (g:ca) (b:bt):eX:=
 let c (i:Prop) (f:bt):eX:=if a=g then .part bt (λc=>i/\f=c) (λc=>(.val (.int a) c,[])) else .bad
 let e (f:bA):eX:=if a=g then .bk (.val .bool f) [] else .bad
 match h with
 |.add=>c True (a.wrap (d+b))
 |.sub=>c True (a.wrap (d-b))
 |.mul=>c True (a.wrap (d*b))
 |.quo=>c (b≠0) (a.wrap (d.tdiv b))
 |.rem=>c (b≠0) (d.tmod b)
 |.and=>c True (a.wrap (ch a.bits d&&&ch a.bits b).toNat)
 |.or=>c True (a.wrap (ch a.bits d|||ch a.bits b).toNat)
 |.xor=>c True (a.wrap (ch a.bits d^^^ch a.bits b).toNat)
 |.andNot=>c True (a.wrap (ch a.bits d&&&~~~ch a.bits b).toNat)
 |.shl=>.part bt (λc=>0<=b/\a.wrap (d*2^min b.toNat a.bits)=c) (λc=>(.val (.int a) c,[]))
 |.shr=>.part bt (λc=>0<=b/\d.fdiv (2^min b.toNat a.bits)=c) (λc=>(.val (.int a) c,[]))
 |.eql=>e (d==b)
 |.neq=>e (d !=b)
 |.lss=>e (bI (d<b))
 |.leq=>e (bI (d<=b))
 |.gtr=>e (bI (d>b))
 |.geq=>e (bI (d>=b))
def rf (c:BinOp) (a b:ag):eX:=
 match a,b with
 |.val (.int d) a,.val (.int e) b=>g0 c d a e b
 |.val .bool a,.val .bool b=>match c with
  |.eql=>.bk (.val .bool (a==b)) []
  |.neq=>.bk (.val .bool (!(a==b))) []
  |_=>.bad
 |_,_=>.bad
theorem yq {d:BinOp} {q:bC} {f:ca} {m e:bt} (j:o.op=.binOp d N c h q) (k:a.eval c=.int u m) (l:a.eval h=.int f e) (b:(g0 d u m f e).K Q):Yields E C st a w I rt fp o Q:=by
 have i:∀w,(H6 d N c h (.int u m) (.int f e)).run E.P w=.ok () w:=λw=>(by simp_all [H6]);have r:d=.shl->Yields E C st a w I rt fp o Q:=(by rintro rfl;simp only[g0] at b;obtain⟨g,⟨n,rfl⟩,b⟩:=b;exact .pure (v:=.int u _) (by simp[bF,j,k,l,i,cn,Op.shift,(U:¬e<0)]) (.int u _) b);have s:d=.shr->Yields E C st a w I rt fp o Q:=(by rintro rfl;simp only[g0] at b;obtain⟨g,⟨n,rfl⟩,b⟩:=b;exact .pure (v:=.int u _) (by simp[bF,j,k,l,i,cn,Op.shift,(U:¬e<0)]) (.int u _) b);by_cases p:u=f
 case neg=>
  cases d<;>simp only[g0,p,if_false] at b
  case shl=>grind
  case shr=>grind
  all_goals exact b.elim
 subst p;cases d<;>simp only[g0,b8] at b
 case shl=>grind
 case shr=>grind
 case quo|rem=>
  obtain⟨g,⟨n,rfl⟩,b⟩:=b;exact .pure (v:=.int u _) (by simp_all [bF,cn,Op.intDiv]) (.int u _) b
 case add|sub|mul=>
  obtain⟨g,⟨_,rfl⟩,b⟩:=b;exact .pure (v:=.int u _) (by simp_all [bF,cn,Op.intArith]) (.int u _) b
 case and|or|xor|andNot=>
  obtain⟨g,⟨_,rfl⟩,b⟩:=b;exact .pure (v:=.int u _) (by simp_all [bP,bF,cn,Op.intBits]) (.int u _) b
 all_goals exact .pure (v:=.bool _) (by simp[bF,j,k,l,i,cn,Op.intCmp]) (.bool _) b
def run_equalIn_bool {a:bQ} (w:bz) (d:bo) (b c:bA) (e:a.underlying N=bn .bool):(If (d+1) N (.bool b) (.bool c)).run a w=.ok (b==c) w:=by simp[If,b1 e]
theorem run_eql_bool {a:bQ} (w:bz) (b c:bA) (d:a.underlying N=bn .bool):(cn .eql N (.bool b) (.bool c)).run a w=.ok (.bool (b==c)) w:=by simp_all [run_equalIn_bool,IN,IP,cn]
theorem run_neq_bool {a:bQ} (w:bz) (b c:bA) (d:a.underlying N=bn .bool):(cn .neq N (.bool b) (.bool c)).run a w=.ok (.bool (!(b==c))) w:=by simp_all [run_equalIn_bool,IN,IP,cn]
theorem tO (s:aK C st a.tmps w I rt fp) {m:BinOp} {z:bC} (y:o.op=.binOp m N c h z) (x:∀i j:bA,(m=.eql\/m=.neq)->(aw st.g c=.val .bool i/\aw st.g h=.val .bool j)->E.P.underlying N=bn .bool) (d:(rf m (aw st.g c) (aw st.g h)).K Q):Yields E C st a w I rt fp o Q:=by
 have e:=s.aw c;have f:=s.aw h;unfold rf at d;split at d
 ·rename_i G J H L n p;rw[n] at e;rw[p] at f;obtain⟨b,l⟩:∃b,b=a.eval c:=⟨_,br⟩;obtain⟨A,k⟩:∃b,b=a.eval h:=⟨_,br⟩;rw[<-l] at e;rw[<-k] at f;cases e with|val q=>cases f with|val r=>
  obtain⟨_,rfl⟩:=q;obtain⟨_,rfl⟩:=r;exact yq y l.symm k.symm d
 ·rename_i i j n p;have k:=x i j;have u:aw st.g c=.val .bool i/\aw st.g h=.val .bool j:=⟨n,p⟩;rw[n] at e;rw[p] at f;obtain⟨b,l⟩:∃b,b=a.eval c:=⟨_,br⟩;obtain⟨A,t⟩:∃b,b=a.eval h:=⟨_,br⟩;rw[<-l] at e;rw[<-t] at f;cases e with|val q=>cases f with|val r=>
  obtain⟨_,rfl⟩:=q;obtain⟨_,rfl⟩:=r;have F:a.eval c=.bool i:=l.symm;have D:a.eval h=.bool j:=t.symm;have B:∀w,(H6 m N c h (.bool i) (.bool j)).run E.P w=.ok () w:=λw=>(by simp_all [H6]);split at d
  ·have:=k (.inl br) u;exact .pure (v:=.bool _) (by simp_all [bP,bT,run_eql_bool,bF]) (.bool _) d
  ·have:=k (.inr br) u;exact .pure (v:=.bool _) (by simp_all [bP,bT,run_neq_bool,bF]) (.bool _) d
  exact d.elim
 exact d.elim
end
end
section
section
variable {E:cG} {C:a6} {st:aq} {a:Act} {w:bz} {I:aW} {rt:bo->ea} {fp:bo->ei} {o:bJ} {Q:ag->bp (bo×aj)->Prop}
theorem aK.notM (c:aK C st z w I rt fp) {id:bo} (e:ah st.h id=bn O):∀a∈fp id,∀b,¬az I C.B b a:=λa d b f=>by have:=(c.tree id O e).2.2 a d;grind [hq]
theorem aK.fF (c:aK C st z w I rt fp) {id:bo} (e:ah st.h id=bn O) {p:bp ax} {τ:af} {f:τ.den} (k:aX O.1 O.2 p τ f) (l:ar w O.1 bq (rt id) p d v g):∃_e:d=τ,∃a,al (az I C.B) w τ g f a/\iV w v g τ.size/\∀i∈a,i∈fp id:=by obtain⟨n,m,_⟩:=c.tree id O e;obtain⟨t,o,a,u,j,q,r,s,_⟩:=kW p (loc:=bq) n (λ_ _ b=>by cases b) m (λ_ _ b=>by cases b) (c.notM e) k;obtain⟨rfl,rfl,rfl⟩:=l.fM j;grind
def aK.xp (c:aK C st z w I rt fp) {id:bo} (f:ah st.h id=bn O) (e:ar w O.1 bq (rt id) i d v g):g.length=d.size/\∀a o,v=bn (a,o)->a9 w a o g:=e.at (c.tree id O f).1.len (λ_ _ b=>by cases b)
theorem ie {v:aZ}:∀{p:bp ax} {τ:af} {H:Loc} {l:ea} {j:τ.den} {g:ei} {G:bo} {c:af} {I:Loc} {q:ea},al v w τ l j g->ar w τ H l p (.opt G c) I q->∃d o e,q=[.pointer (bn ⟨d,o,bq⟩)]/\e.length=c.size/\a9 w d o e
 |[],τ,_,_,_,_,_,_,_,_,a,b=>by obtain⟨rfl,rfl,rfl⟩:=ar.cO.1 b;obtain⟨d,o,g,e,r,_,u,h,_⟩:=a;grind
 |s::p,τ,_,l,j,g,_,_,_,_,a,b=>by
  cases τ<;>cases s<;>simp only[ar] at b
  case osl.idx c i=>
   obtain⟨d,o,P,L,e,rfl,t,u,h,n⟩:=b;obtain⟨K,M,f,a⟩:=a;simp only[eQ,cg,b2] at f;obtain⟨rfl,rfl,rfl⟩:=f;rcases a with⟨m,_⟩|⟨x,J,D,m,_,Q,R,aA,aH⟩
   ·cases m
   cases m;obtain⟨A,N,y,z⟩:=aH i j[i] (D[i]'(by omega)) aa aa
   obtain rfl:=h.eq y U;exact ie (p:=p) z n
  case opt.deref k c=>
   obtain⟨d,o,e,rfl,u,h,n⟩:=b;obtain⟨x,J,g,A,f,_,O,E,_,F,_⟩:=a;simp only[eQ,es,aV,cm,b2] at f;obtain⟨rfl,rfl⟩:=f;obtain rfl:=h.eq E U;exact ie (p:=p) F n
  case st.unst c=>exact ie (p:=p) (τ:=c) a b
  case nu.unn k c=>
   cases j with
   |some S=>exact ie (p:=p) (τ:=.opt k c) (al.ld.1 a) b.2
   |none=>exact absurd a.2 b.1
  case pr.fst t1 t2=>obtain⟨B,C,_,r,_⟩:=a;exact ie (p:=p) (τ:=t1) r b
  case pr.snd t1 t2=>obtain⟨B,C,_,_,t⟩:=a;exact ie (p:=p) (τ:=t2) t b
def ew (tt:bp (bC×af)) (a:bC):bv af:=match ah tt a with|some (.au _ b)=>bn b|_=>bq
def gP (tt:bp (bC×af)) (a:bC):bv af:=match ah tt a with|some (.st b)=>bn b|_=>bq
theorem ew.ok {a:bC} {e:af} (c:ew E.tt a=bn e):∃d b,E.P.info? a=bn d/\E.P.underlying a=bn (.slice b)/\bi E.P e b:=by
 unfold ew at c;split at c
 ·rename_i j k f;cases c;obtain⟨d,b,g,_,_,_,h,i⟩:=E.ok a _ f;grind
 grind
theorem gP.ok {a:bC} {d:af} (c:gP E.tt a=bn d):∃b e,E.P.underlying a=bn (.struct b)/\fd E.P d b.toList 0 e:=by
 unfold gP at c;split at c
 ·rename_i k f;cases c;obtain⟨_,j,b,e,g,_,_,_,h,i,_⟩:=E.ok a _ f;grind
 grind
def mh (tt:bp (bC×af)) (e:bp (bo×aj)) (g:bC) (b:ag):eX:=
 match ew tt g with
 |none=>.bad
 |some _=>match b with
  |.val (.au _ _) a=>.bk (.val (.int .i64) (a.length:bt)) []
  |.aS (.slice bq 0 0)=>.bk (.val (.int .i64) (0:bt)) []
  |.ref id d=>match ah e id with
   |some ⟨c,b⟩=>match bm c d with
    |some (.osl f)=>.part (bp f.den) (λa=>aX c b d (.osl f) a) (λa=>(.val (.int .i64) (a.length:bt),[]))
    |_=>.bad
   |none=>.bad
  |.view _ _ i h=>.bk (.val (.int .i64) ((h-i:bo):bt)) []
  |.app id d c j _=>match ah e id with
   |some ⟨k,b⟩=>.part (bp c.den) (λa=>aX k b d (.osl c) a) (λa=>(.val (.int .i64) ((a.length+j.length:bo):bt),[]))
   |none=>.bad
  |_=>.bad
def nC (g:ew E.tt N=bn d) (h:o.op=.call {callee:=.builtin .len,args:=#[c],argTypes:=#[N]}) (i:a.eval c=.slice s b f):(bF a.eval o).run E.P w=.ok (.value (.int .i64 b)) w:=by obtain⟨k,j,_,e,_⟩:=ew.ok g;simp[bF,h,en,invoke,ep,i,JD,b1 e,goInt]
theorem AC (s:aK C st a.tmps w I rt fp) (j:o.op=.call {callee:=.builtin .len,args:=#[c],argTypes:=#[N]}) (b:(mh E.tt st.h N (aw st.g c)).K Q):Yields E C st a w I rt fp o Q:=by
 have d:=s.aw c;unfold mh at b;split at b
 ·exact b.elim
 rename_i T i;generalize f:a.eval c=U at d;split at b
 ·rename_i R B u e;rw[e] at d;cases d with|val A=>
  obtain⟨_,p,q,rfl,_⟩:=A;exact .pure (nC i j f) (.int _ _) b
 ·rename_i e;rw[e] at d;cases d;exact .pure (nC i j f) (.int _ _) b
 ·rename_i id t e;rw[e] at d;split at b
  ·rename_i F D l;split at b
   ·rename_i B O;obtain⟨u,m,b⟩:=b;cases d with|ref k n=>
    rw[l] at k;cases k;obtain⟨rfl,G,z,_⟩:=s.fF l m n;obtain⟨p,q,rfl,_⟩:=z;exact .pure (nC i j f) (.int _ _) b
   exact b.elim
  exact b.elim
 ·rename_i id t P L e;rw[e] at d;cases d with
  |fV|view k n=>exact .pure (nC i j f) (.int _ _) b
 ·rename_i id t F V S e;rw[e] at d;split at b
  ·rename_i ad D l;obtain⟨u,m,b⟩:=b;cases d with|app k M n x H J v=>
   rw[l] at k;cases k;obtain⟨p,q,r,_⟩:=v;simp only[eQ,b2] at r;have y:=aX.uniq m x;subst y;rw[r] at f;have:=nC (w:=w) i j f;rw[pe] at this;exact .pure this (.int _ _) b
  exact b.elim
 exact b.elim
def ar.vG {o a c:bo} (e:f<a) (h:g.length=d.size) (i:a9 w b (o+f*d.size) g):ar w (.osl d) v [.slice (bn ⟨b,o,bq⟩) a c] [.idx f] d (bn (b,o+f*d.size)) g:=⟨b,o,a,c,g,br,e,h,i,ar.here⟩
def ar.rP {o:bo} (a:g.length=d.size) (c:a9 w b o g):ar w (.opt f d) v [.pointer (bn ⟨b,o,bq⟩)] [.deref] d (bn (b,o)) g:=⟨b,o,g,br,a,c,ar.here⟩
def ma (
 tt:bp (bC×af)) (i:bp (bo×aj)) (k:bC) (e d:ag):eX:=
 match ew tt k with
 |none=>.bad
 |some g=>match d with
  |.val (.int _) d=>match e with
   |.val (.au m b) n=>bif aD g b then .part b.den (λh=>c7 n d=bn h) (λh=>(.val (.ptr m b) (bn h),[])) else .bad
   |.ref id c=>match ah i id with
    |some ⟨f,e⟩=>match bm f c with
     |some (.osl b)=>bif aD g b then .part (bp b.den×bo) (λa=>aX f e c (.osl b) a.1/\d=(a.2:bt)/\a.2<a.1.length) (λa=>(.addr id (c++[.idx a.2]),[])) else .bad
     |_=>.bad
    |none=>.bad
   |.view id c j l=>match ah i id with
    |some ⟨f,e⟩=>match bm f c with
     |some (.osl b)=>bif aD g b then .part (bp b.den×bo) (λa=>aX f e c (.osl b) a.1/\d=(a.2:bt)/\a.2<l-j) (λa=>(.addr id (c++[.idx (j+a.2)]),[])) else .bad
     |_=>.bad
    |none=>.bad
   |_=>.bad
  |_=>.bad
def sf {i:af} (m:ew E.tt N=bn i) (p:aD i d=bu) (q:o.op=.indexAddr N h c) {e g j:bo} (s:a.eval h=.slice (bn ⟨e,g,bq⟩) f j) (n:a.eval c=.int u b) (v:b<f):(bF a.eval o).run E.P w=.ok (.value (.pointer (bn ⟨e,g+b*d.size,bq⟩))) w:=by obtain⟨x,t,_,k,l⟩:=ew.ok m;have r:=(l.lay p).sizeOf w;have:(0:bt)<=(b:bt)/\(b:bt)<(f:bt):=⟨U,U⟩;simp[bF,q,s,n,Instr.indexAt,asIntOf,b1 k,this,r,cy];omega
theorem Aa (A:aK C st a.tmps w I rt fp) {y:bH} (L:o.op=.indexAddr N y c) (b:(ma E.tt st.h N (aw st.g y) (aw st.g c)).K Q):Yields E C st a w I rt fp o Q:=by
 have k:=A.aw y;have J:=A.aw c;unfold ma at b;split at b
 ·exact b.elim
 rename_i S H;generalize M:a.eval y=d9 at k;generalize O:a.eval c=el at J;split at b
 case h_2=>exact b.elim
 rename_i an P bs;rw[bs] at J;cases J with|val R=>
 obtain⟨_,rfl⟩:=R;split at b
 ·rename_i ds f v q;cases d:aD S f with
  |false=>rw[d] at b;exact b.elim
  |true=>
   rw[d] at b;obtain⟨T,dl,b⟩:=b;rw[q] at k;cases k with|val R=>
   obtain⟨_,V,ad,rfl,ap,av,aA⟩:=R;obtain⟨ak,a4,bl⟩:=vl dl;rcases aA with rfl|⟨z,u,rfl,ce,aH⟩
   ·grind
   obtain⟨D,n,p,B⟩:=aH _ _ bl;have cv:a.eval c=.int an (P.toNat:bo):=(by rw[O];show b0 an P=_;grind);exact .pure (sf H d L M cv a4) (.val (τ:=.ptr ds f) (x:=bn T) (cs:=[.pointer (bn ⟨z,u+P.toNat*f.size,bq⟩)]) ⟨br,z,_,D,br,ce,n,p,B⟩) b
 ·rename_i id d0 q;split at b
  case h_2=>exact b.elim
  rename_i a0 T j;split at b
  case h_2=>exact b.elim
  rename_i f co;cases d:aD S f with
  |false=>rw[d] at b;exact b.elim
  |true=>
   rw[d] at b;obtain⟨⟨v,e⟩,⟨r,rfl,l⟩,b⟩:=b;simp only at r l b;rw[q] at k;cases k with|ref t s=>
   rw[j] at t;cases t;obtain⟨rfl,bx,i,_⟩:=A.fF j r s;obtain⟨V,ad,rfl,i⟩:=i;rcases i with⟨_,rfl,_⟩|⟨z,u,F,rfl,_,ap,av,aA,aH⟩
   ·grind
   obtain⟨D,n,p,B⟩:=aH e v[e] (F[e]'(by omega)) aa aa
   exact .pure (sf H d L M O l) (.addr j (s.append (ar.vG l n p))) b
 ·rename_i id d0 m d3 q;split at b
  case h_2=>exact b.elim
  rename_i a0 T j;split at b
  case h_2=>exact b.elim
  rename_i f co;cases d:aD S f with
  |false=>rw[d] at b;exact b.elim
  |true=>
   rw[d] at b;obtain⟨⟨v,e⟩,⟨r,rfl,l⟩,b⟩:=b;simp only at r l b;rw[q] at k;cases k with|fV=>omega|view t s d4 d5 d6=>
   rename_i z u d7 ad;rw[j] at t;cases t;obtain⟨a3,bx,i,_⟩:=A.fF j r s;cases a3;obtain⟨V,d2,am,i⟩:=i;simp only[eQ,cg,b2] at am;obtain⟨rfl,rfl,rfl⟩:=am;rcases i with⟨G,_⟩|⟨d1,d8,F,G,_,ap,av,aA,aH⟩
   ·cases G
   cases G;have ci:m+e<v.length:=U;obtain⟨D,n,p,B⟩:=aH (m+e) v[m+e] (F[m+e]'(by omega)) aa aa
   have:=sf (w:=w) H d L M O l;rw[a8 U,(ab:u+m*f.size+e*f.size=u+(m+e)*f.size)] at this;exact .pure this (.addr j (s.append (ar.vG ci n p))) b
 exact b.elim
def al.pure {h:aZ} {w:bz}:∀{τ:af} {i:ea} {e:τ.den} {g:ei},τ.pure=bu->al h w τ i e g->g=[]
 |.int _,_,_,_,_,b|.bool,_,_,_,_,b|.str,_,_,_,_,b|.au _ _,_,_,_,_,b|.ptr _ _,_,_,_,_,b|.nil,_,_,_,_,b=>b.1
 |.st k,_,_,_,c,b=>al.pure (τ:=k) c b
 |.pr a f,_,_,_,c,b=>by simp only[af.pure,aC] at c;obtain⟨n,o,rfl,j,d⟩:=b;rw[al.pure (τ:=a) c.1 j,al.pure (τ:=f) c.2 d];rfl
 |.osl _,_,_,_,c,_|.opt _ _,_,_,_,c,_|.nu _ _,_,_,_,c,_=>by cases c
 |.aM,_,_,_,_,b|.aB _,_,_,_,_,b=>b.1
 |.bh _ _,_,e,_,_,b=>by
  cases e with
  |none=>exact b.1
  |some p=>obtain⟨f,m,l,_,d,_⟩:=b;exact d
 |.fn _ _,_,_,_,_,b=>b.1
 |.aY,_,_,_,c,_=>by cases c
def sK (id:bo) (b:bp ax) (a:bA):ag:=bif a then .ref id (b++[.unn]) else .aS (.pointer bq)
def lj (d:af) (f:d.den) (id:bo) (c:bp ax) (b:af):eX:=
 bif b.pure then .part b.den (λa=>aX d f c b a) (λa=>(.val b a,[])) else match b with
  |.nu g e=>.part (bv e.den) (λa=>aX d f c (.nu g e) a) (λa=>(sK id c (Jc a),[]))
  |_=>.bk (.ref id c) []
def lp (c:bo):af->bv (bp ax×af)
 |.opt e d=>bif bB e c then bn ([],d) else(lp c d).map λb=>(.deref::b.1,b.2)
 |.nu e d=>bif bB e c then bn ([.unn],d) else(lp c d).map λb=>(.unn::.deref::b.1,b.2)
 |.st d=>(lp c d).map λb=>(.unst::b.1,b.2)
 |.pr a f=>match lp c a with
  |some b=>bn (.fst::b.1,b.2)
  |none=>(lp c f).map λb=>(.snd::b.1,b.2)
 |_=>bq
def h6:bp ax->(h:af)->h.den->bA
 |[],.opt e _,_=>bB e 2
 |.deref::b,.opt _ d,c|.unst::b,.st d,c=>h6 b d c
 |.unn::b,.nu e d,c=>match c with
  |some g=>h6 b (.opt e d) g
  |none=>bw
 |.fst::b,.pr a _,c=>h6 b a c.1
 |.snd::b,.pr _ f,c=>h6 b f c.2
 |_,_,_=>bw
def vB:∀{d:bp ax} {b:af} {c:b.den},h6 d b c=bu->∃e f,aX b c d (.opt 2 e) f
 |[],b,c,a=>by
  cases b<;>simp only[h6] at a<;>try (cases a;done)
  rename_i j i;obtain rfl:=a7 a;exact⟨i,c,br,br⟩
 |s::d,b,c,a=>by
  have g:=λ{b:af} {c:b.den}=>@vB d b c;cases s<;>cases b<;>simp only[h6] at a<;>try (cases a;done)
  all_goals first
   |exact g a
   |(
    split at a
    ·obtain⟨e,f,h⟩:=g a;exact⟨e,f,_,br,h⟩
    cases a)
def l7 (b:af) (d:b.den) (id:bo) (a:bA):ag:=match a,lp 2 b with
 |true,bn c=>bif h6 c.1 b d then .ref id c.1 else .val .aM a
 |_,_=>.val .aM a
def o1 (a:af) (b:a.den) (id:bo) (d:bp ax) (t:af):eX:=match t with
 |.aM=>.part bA (λc=>aX a b d .aM c) (λc=>(l7 a b id c,[]))
 |t=>lj a b id d t
def im:af->bA
 |.st _|.pr _ _|.nil|.aY|.aB _|.eB _=>bw
 |_=>bu
def iG:af->bA
 |.nil=>bu
 |.pr a b=>im a&&iG b
 |_=>bw
def oK:(d:af)->d.den->bp ag
 |.pr a c,b=>.val a b.1::oK c b.2
 |_,_=>[]
def iG.one {τ:af} (a:im τ=bu):τ.size=1/\∀cs,aN τ cs=cs.headD undef:=by cases τ<;>first|(cases a;done)|exact⟨br,λ_=>rfl⟩
def ve {g:aZ} {w:bz} {h:bp (bo×aj)} {rt:bo->ea} {fp:bo->ei}:∀{t:af} {c:ea} {e:t.den},iG t=bu->al g w t c e []->(oK t e).length=c.length/\∀(b:bo) (a:ag) (f:Value),(oK t e)[b]?=bn a->c[b]?=bn f->aJ g w h rt fp a f
 |.nil,c,e,_,j=>by obtain rfl:=j.2;exact⟨br,λb a f d _=>by cases d⟩
 |.pr a o,c,e,i,j=>by
  simp only[iG,aC] at i;obtain⟨x,y,r,d,k⟩:=j;obtain⟨rfl,rfl⟩:=JE.1 r.symm;obtain⟨ak,q⟩:=iG.one i.1;have m:=d.len;rw[ak] at d k m;cases c with
  |nil=>cases m
  |cons f c=>
   obtain⟨s,u⟩:=ve (t:=o) i.2 k;refine⟨cp (· +1) s,λb p v l n=>?_⟩;cases b with
   |zero=>
    cases l;cases n;have:=aJ.val (M:=g) (w:=w) (h:=h) (rt:=rt) (fp:=fp) d;rw[q] at this;exact this
   |succ b=>exact u b p v l n
def lf:(t:af)->t.den->ag
 |.fn b t,a=>bif iG t then .aR b (oK t a) else .val (.fn b t) a
 |t,a=>.val t a
def Cb {w:bz} {rt:bo->ea} {fp:bo->ei} {b:d.den} (i:al t w d g b []):aJ t w n rt fp (lf d b) (aN d g):=by
 cases d<;>first|exact .val i|skip
 rename_i c d;cases f:iG d with
 |false=>
  have:lf (.fn c d) b=.val (.fn c d) b:=(by simp only[lf,f,cq]);rw[this];exact .val i
 |true=>
  have:lf (.fn c d) b=.aR c (oK d b):=(by simp only[lf,f,bK]);rw[this];obtain⟨_,p,rfl,e⟩:=i;obtain⟨l,m⟩:=ve (h:=n) (rt:=rt) (fp:=fp) f e;exact .aR (by simpa using l) (λk a o j e=>m k a o j (by simpa using e))
def mj (tt:bp (bC×af)) (f:bp (bo×aj)) (g:bC) (c:ag):eX:=
 match ah tt g with
 |none=>.bad
 |some e=>match c with
  |.val (.ptr _ a) (bn i)=>bif aD e a then .bk (lf a i) [] else .bad
  |.c0 h=>bif im e then .bk h [] else .bad
  |.addr id b=>match ah f id with
   |some ⟨d,c⟩=>match bm d b with
    |some a=>bif aD e a then o1 d c id b a else .bad
    |none=>.bad
   |none=>.bad
  |.ref id b=>match ah f id with
   |some ⟨d,c⟩=>match bm d b with
    |some (.opt _ a)=>bif aD e a then lj d c id (b++[.deref]) a else .bad
    |_=>.bad
   |none=>.bad
  |_=>.bad
theorem sw {e:af} (h:ah E.tt N=bn e) (k:aD e d=bu) (l:o.op=.load N c) (m:a.eval c=.pointer (bn ⟨b,f,bq⟩)) (i:a9 w b f g) (j:g.length=d.size):(bF a.eval o).run E.P w=.ok (.value (aN d g)) w:=by have:=nW ((E.ok N e h).lay k) i j;simp_all [bF,Jd,cl]
def s1 (p:aK C st a.tmps w I rt fp) {id:bo} {s:d.den} (j:ah st.h id=bn ⟨d,s⟩) {k:af} (e:ar w d bq (rt id) i k v g) (f:(bF a.eval o).run E.P w=.ok (.value (aN k g)) w) (b:(lj d s id i k).K Q):Yields E C st a w I rt fp o Q:=by
 unfold lj at b;cases m:k.pure with
 |true=>
  rw[m] at b;obtain⟨n,l,b⟩:=b;obtain⟨_,t,c,_⟩:=p.fF j l e;have:=c.pure m;subst this;exact .pure f (.val c) b
 |false=>
  rw[m] at b;simp only[cq] at b;split at b
  ·rename_i q r;obtain⟨n,l,b⟩:=b;obtain⟨_,t,c,_⟩:=p.fF j l e;cases n with
   |none=>
    obtain⟨_,rfl⟩:=c;exact .pure f (.aS _) b
   |some n=>
    have x:=(al.ld.1 c).qj;have u:ar w d bq (rt id) (i++[.unn]) (.opt q r) v g:=e.append ⟨x,ar.here⟩;have y:aJ (az I C.B) w st.h rt fp (.ref id (i++[.unn])) (aN (.opt q r) g):=.ref j u;exact .pure f y b
  exact .pure f (.ref j e) b
theorem Eh (f:aK C st a.tmps w I rt fp) {id:bo} {τ:af} {l:τ.den} (c:ah st.h id=bn ⟨τ,l⟩) (n:ar w τ bq (rt id) i d v g) (p:(bF a.eval o).run E.P w=.ok (.value (aN d g)) w) (b:(o1 τ l id i d).K Q):Yields E C st a w I rt fp o Q:=by
 unfold o1 at b;split at b
 ·obtain⟨L,y,b⟩:=b;obtain⟨_,r,j,_⟩:=f.fF c y n;have x:r=[]:=j.pure (τ:=.aM) rfl;subst x;refine .pure p ?_ b;show aJ _ _ _ _ _ (l7 τ l id L) _;unfold l7;split
  ·rename_i k S;cases u:h6 k.1 τ l with
   |false=>exact .val j
   |true=>
    obtain⟨J,V,A⟩:=vB u;obtain⟨G,H,aA⟩:=f.tree id _ c;obtain⟨T,M,O,U,D,F,_⟩:=kW k.1 (loc:=bq) G (λ_ _ b=>by cases b) H (λ_ _ b=>by cases b) (f.notM c) A;obtain⟨e,o,_,_,rfl,_,_,_,_,_,z⟩:=F;have m:(e,o)=I.t 2:=z R;obtain⟨_,rfl⟩:=j;have s:aJ (az I C.B) w st.h rt fp (.ref id k.1) (aN (.opt 2 J) [.pointer (bn ⟨e,o,bq⟩)]):=.ref c D;have N:(I.t 2).1=e/\(I.t 2).2=o:=(by rw[<-m];exact⟨br,br⟩);have q:(az I C.B).t 2=(e,o):=m.symm;show aJ _ _ _ _ _ (.ref id k.1) (.pointer (bn ⟨((az I C.B).t 2).1,((az I C.B).t 2).2,bq⟩));rw[q];exact s
  exact .val j
 exact s1 f c n p b
theorem AF (p:aK C st a.tmps w I rt fp) (y:o.op=.load N c) (d:(mj E.tt st.h N (aw st.g c)).K Q):Yields E C st a w I rt fp o Q:=by
 have f:=p.aw c;unfold mj at d;split at d
 ·exact d.elim
 rename_i n r;generalize z:a.eval c=u at f;split at d
 ·rename_i av m F i;cases e:aD n m with
  |false=>rw[e] at d;exact d.elim
  |true=>
   rw[e] at d;rw[i] at f;cases f with|val T=>
   obtain⟨_,q,O,G,rfl,S,D,aA,aH⟩:=T;exact .pure (sw r e y z aA D) (Cb aH) d
 ·rename_i ad i;cases s:im n with
  |false=>rw[s] at d;exact d.elim
  |true=>
   rw[s] at d;rw[i] at f;cases f with|c0 an J am L=>
   obtain⟨ak,H⟩:=iG.one s;rename_i u q;have:=nW (E.ok N n r) (cs:=[u]) (w:=w) (b:=q) (o:=0) (λB a0 A=>by
    cases B with
    |zero=>cases A;exact J
    |succ B=>cases A) (by rw[ak];rfl)
   have M:(bF a.eval o).run E.P w=.ok (.value u) w:=(by rw[H] at this;simp_all [bF,Jd,cl]);exact .pure M L d
 ·rename_i id R i;split at d
  case h_2=>exact d.elim
  rename_i U F k;split at d
  case h_2=>exact d.elim
  rename_i m t;cases e:aD n m with
  |false=>rw[e] at d;exact d.elim
  |true=>
   rw[e] at d;rw[i] at f;cases f with|addr l j=>
   rw[k] at l;cases l;have:=j.ty;rw[t] at this;cases this;obtain⟨S,D⟩:=p.xp k j;grind [Eh,sw]
 ·rename_i id R i;split at d
  case h_2=>exact d.elim
  rename_i U F k;split at d
  case h_2=>exact d.elim
  rename_i m t;cases e:aD n m with
  |false=>rw[e] at d;exact d.elim
  |true=>
   rw[e] at d;rw[i] at f;cases f with|ref l j=>
   rename_i a3 ap V;rw[k] at l;cases l;have:=j.ty;rw[t] at this;cases this;obtain⟨q,O,G,rfl,v,x⟩:=ie (p.tree id _ k).1 j;exact s1 p k (j.append (ar.rP v x)) (sw r e y z x v) d
 exact d.elim
def l0 (tt:bp (bC×af)) (g:bp (bo×aj)) (h:bC) (k:ag) (c:bo):eX:=
 match gP tt h with
 |none=>.bad
 |some e=>match k with
  |.val (.ptr i (.st a)) (bn l)=>bif aD e a then match jS a l c with
   |some ⟨j,m⟩=>.bk (.val (.ptr i j) (bn m)) []
   |none=>.bad
   else .bad
  |.ref id b=>match ah g id with
   |some ⟨f,_⟩=>match bm f b with
    |some (.opt _ (.st a))=>bif aD e a then match cR a c with
     |some (d,_)=>.bk (.addr id (b++(.deref::.unst::d))) []
     |none=>.bad
     else .bad
    |_=>.bad
   |none=>.bad
  |.addr id b=>match ah g id with
   |some ⟨f,_⟩=>match bm f b with
    |some (.st a)=>bif aD e a then match cR a c with
     |some (d,_)=>.bk (.addr id (b++(.unst::d))) []
     |none=>.bad
     else .bad
    |_=>.bad
   |none=>.bad
  |_=>.bad
def rV {j:af} (p:gP E.tt N=bn j) (r:aD j d=bu) {h:af} (u:cR d b=bn (i,h)) (s:o.op=.fieldAddr N c b) {g:bo} (v:a.eval c=.pointer (bn ⟨f,g,bq⟩)):(bF a.eval o).run E.P w=.ok (.value (.pointer (bn ⟨f,g+cL d b,bq⟩))) w:=by obtain⟨l,z,m,n⟩:=gP.ok p;obtain⟨k,y,t,e⟩:=rW (fd.lay r n) u;have x:h.size≠0:=(by have:=e.pos;omega);have q:l[b]?=bn k:=ab;simp[bF,s,v,IQ,b1 m,q,cl,IR,e.sizeOf,x,cy,t]
theorem zC (G:aK C st a.tmps w I rt fp) (y:o.op=.fieldAddr N c b) (d:(l0 E.tt st.h N (aw st.g c) b).K Q):Yields E C st a w I rt fp o Q:=by
 have m:=G.aw c;unfold l0 at d;split at d
 ·exact d.elim
 rename_i D v;generalize A:a.eval c=a0 at m;split at d
 ·rename_i U e L r;cases i:aD D e with
  |false=>rw[i] at d;exact d.elim
  |true=>
   rw[i] at d;simp only[bK] at d;split at d
   case h_2=>exact d.elim
   rename_i n ap H;rw[r] at m;cases m with|val am=>
   obtain⟨_,f,j,u,rfl,ad,av,aA,aH⟩:=am;obtain⟨t,k⟩:=rZ H;obtain⟨J,an⟩:=rY (τ:=e) aH H;have S:=aH.len;simp only[af.size] at S J an;exact .pure (rV v i k y A) (.val (τ:=.ptr U n) (x:=bn ap) (cs:=[.pointer (bn ⟨f,j+cL e b,bq⟩)]) ⟨br,f,_,_,br,ad,ab,aA.drop.take,J⟩) d
 ·rename_i id V r;split at d
  case h_2=>exact d.elim
  rename_i M L q;split at d
  case h_2=>exact d.elim
  rename_i R e z;cases i:aD D e with
  |false=>rw[i] at d;exact d.elim
  |true=>
   rw[i] at d;simp only[bK] at d;split at d
   case h_2=>exact d.elim
   rename_i t n k;rw[r] at m;cases m with|ref s p=>
   rw[q] at s;cases s;have:=p.ty;rw[z] at this;cases this;obtain⟨f,j,u,rfl,O,P⟩:=ie (G.tree id _ q).1 p;rename_i T;have B:ar w (.opt R (.st e)) T [.pointer (bn ⟨f,j,bq⟩)] (.deref::.unst::t) n (bn (f,j+cL e b)) ((u.drop (cL e b)).take n.size):=⟨f,j,u,br,O,P,ar.pR (l:=bn (f,j)) k⟩;exact .pure (rV v i k y A) (.addr q (p.append B)) d
 ·rename_i id V r;split at d
  case h_2=>exact d.elim
  rename_i M L q;split at d
  case h_2=>exact d.elim
  rename_i e z;cases i:aD D e with
  |false=>rw[i] at d;exact d.elim
  |true=>
   rw[i] at d;simp only[bK] at d;split at d
   case h_2=>exact d.elim
   rename_i t n k;rw[r] at m;cases m with|addr s p=>
   rw[q] at s;cases s;have:=p.ty;rw[z] at this;cases this;rename_i f j F;have B:ar w (.st e) (bn (f,j)) F (.unst::t) n (bn (f,j+cL e b)) ((F.drop (cL e b)).take n.size):=ar.pR (l:=bn (f,j)) k;exact .pure (rV v i k y A) (.addr q (p.append B)) d
 exact d.elim
def ns (
 tt:bp (bC×af)) (i:bp (bo×aj)) (h:bC) (c:ag) (d:bo):eX:=
 match gP tt h with
 |none=>.bad
 |some f=>match c with
  |.val (.st a) k=>bif aD f a then match jS a k d with
   |some ⟨b,l⟩=>.bk (.val b l) []
   |none=>.bad
   else .bad
  |.ref id e=>match ah i id with
   |some ⟨g,c⟩=>match bm g e with
    |some (.st a)=>bif aD f a then match cR a d with
     |some (j,b)=>lj g c id (e++(.unst::j)) b
     |none=>.bad
     else .bad
    |_=>.bad
   |none=>.bad
  |_=>.bad
theorem vd {l:af} (r:gP E.tt N=bn l) (t:aD l d=bu) {e:af} (v:cR d b=bn (i,e)) (u:o.op=.field N c b) (x:a.eval c=aN (.st d) g) (A:cL d b+e.size<=g.length):(bF a.eval o).run E.P w=.ok (.value (aN e ((g.drop (cL d b)).take e.size))) w:=by
 obtain⟨m,F,p,q⟩:=gP.ok r;obtain⟨h,B,k,f⟩:=rW (fd.lay t q) v;have D:=f.pos;have s:m[b]?=bn h:=ab;simp only[hL] at k;have y:a.eval c=.agg g.toArray:=x;have z:(part h.type g.toArray h.offset).run E.P w=.ok (aN e ((g.drop (cL d b)).take e.size)) w:=by
  simp only[part,bP,f.isAgg,bT,k];cases j:g6 e with
  |true=>
   rw[qs j];simp only[b8,bP,f.sizeOf,bT,b9];grind
  |false=>
   have n:=sQ f j;rw[nU j,n];have C:cL d b<g.length:=U;have:(g.drop (cL d b)).take 1=[g[cL d b]]:=(by grind [List.drop_eq_getElem_cons]);simp_all
 simp[bF,u,y,Instr.field,b1 p,s,asAgg,z]
theorem zE (m:aK C st a.tmps w I rt fp) (u:o.op=.field N c b) (d:(ns E.tt st.h N (aw st.g c) b).K Q):Yields E C st a w I rt fp o Q:=by
 have j:=m.aw c;unfold ns at d;split at d
 ·exact d.elim
 rename_i B s;generalize x:a.eval c=R at j;split at d
 ·rename_i f J l;cases e:aD B f with
  |false=>rw[e] at d;exact d.elim
  |true=>
   rw[e] at d;simp only[bK] at d;split at d
   case h_2=>exact d.elim
   rename_i q S t;rw[l] at j;cases j with|val z=>
   obtain⟨A,i⟩:=rZ t;obtain⟨H,P⟩:=rY (τ:=f) z t;have F:=z.len;simp only[af.size] at F;exact .pure (vd s e i u x U) (.val H) d
 ·rename_i id M l;split at d
  case h_2=>exact d.elim
  rename_i L J p;split at d
  case h_2=>exact d.elim
  rename_i f D;cases e:aD B f with
  |false=>rw[e] at d;exact d.elim
  |true=>
   rw[e] at d;simp only[bK] at d;split at d
   case h_2=>exact d.elim
   rename_i A q i;rw[l] at j;cases j with|ref v n=>
   rename_i T y r;rw[p] at v;cases v;have:=n.ty;rw[D] at this;cases this;obtain⟨G,O⟩:=m.xp p n;have k:ar w (.st f) y r (.unst::A) q (y.map λk=>(k.1,k.2+cL f b)) ((r.drop (cL f b)).take q.size):=ar.pR i;exact s1 m p (n.append k) (vd s e i u x (by rw[G];exact nt i)) d
 exact d.elim
def ms (f:bp (bo×aj)) (b:ag):eX:=
 match b with
 |.val (.ptr h d) b=>.part d.den (λc=>b=bn c) (λc=>(.val (.ptr h d) (bn c),[]))
 |.ref id a=>match ah f id with
  |some ⟨i,_⟩=>match bm i a with
   |some (.opt _ _)=>.bk (.ref id a) []
   |_=>.bad
  |none=>.bad
 |.addr id a=>.bk (.addr id a) []
 |.aR e g=>.bk (.aR e g) []
 |_=>.bad
theorem Bc (p:aK C st a.tmps w I rt fp) (L:o.op=.nilCheck c) (b:(ms st.h (aw st.g c)).K Q):Yields E C st a w I rt fp o Q:=by
 have d:=p.aw c;unfold ms at b;generalize M:a.eval c=D at d;split at b
 ·rename_i u l m e;obtain⟨m,rfl,b⟩:=b;rw[e] at d;cases d with|val B=>
  obtain⟨_,f,k,n,rfl,z,A,aA,aH⟩:=B;exact .pure (v:=.pointer (bn ⟨f,k,bq⟩)) (by simp_all [bF,aN]) (.val (τ:=.ptr u l) (x:=bn m) (cs:=[.pointer (bn ⟨f,k,bq⟩)]) ⟨br,f,k,n,br,z,A,aA,aH⟩) b
 ·rename_i id y e;split at b
  case h_2=>exact b.elim
  rename_i F m j;split at b
  case h_2=>exact b.elim
  rename_i l t;rw[e] at d;cases d with|ref q i=>
  rw[j] at q;cases q;have:=i.ty;rw[t] at this;cases this;obtain⟨f,k,n,rfl,G,H⟩:=ie (p.tree id _ j).1 i;exact .pure (v:=.pointer (bn ⟨f,k,bq⟩)) (by simp_all [bF,aN]) (.ref (τ':=.opt _ l) j i) b
 ·rename_i id y e;rw[e] at d;cases d with|addr j i=>
  exact .pure (by simp_all [bF]) (.addr j i) b
 ·rename_i J N e;rw[e] at d;cases d with|aR s r=>
  exact .pure (by simp_all [bF]) (.aR s r) b
 exact b.elim
def kK (d:bv ag) (b a:bo):Prop:=
 match d with
 |none=>a=b
 |some (.val (.int _) c)=>c=(a:bt)
 |some _=>bY
def mH (tt:bp (bC×af)) (k:bp (bo×aj)) (j:bC) (d:ag) (g f:bv ag):eX:=
 match ew tt j with
 |none=>.bad
 |some h=>match d with
  |.val (.au l b) e=>bif aD h b then
   .part dS (λa=>kK g 0 a.1/\kK f e.length a.2/\a.1<=a.2/\a.2<=e.length) (λa=>(.val (.au l b) ((e.take a.2).drop a.1),[])) else .bad
  |.ref id c=>match ah k id with
   |some ⟨i,d⟩=>match bm i c with
    |some (.osl b)=>bif aD h b then
     .part (bp b.den×bo×bo) (λa=>aX i d c (.osl b) a.1/\kK g 0 a.2.1/\kK f a.1.length a.2.2/\a.2.1<=a.2.2/\a.2.2<=a.1.length) (λa=>(.view id c a.2.1 a.2.2,[])) else .bad
    |_=>.bad
   |none=>.bad
  |_=>.bad
def ri (a:Act) (e:dW) (c b:bo):Prop:=
 match e with
 |none=>b=c
 |some f=>∃d,a.eval f=.int d b
theorem s7 {l:af} (q:ew E.tt N=bn l) (t:aD l d=bu) {j g:dW} (u:o.op=.slice N c j g bq) {h e:bo} (x:a.eval c=.slice s h e) (k:ri a j 0 f) (i:ri a g h b) (C:f<=b) (D:b<=e):(bF a.eval o).run E.P w=.ok (.value (.slice (if e=f then s else s.map (·.add (f*d.size))) (b-f) (e-f))) w:=by
 obtain⟨G,A,_,n,p⟩:=ew.ok q;have v:=(p.lay t).sizeOf w;have ak:(0:bt)<=(b:bt)/\(b:bt)<=(e:bt):=⟨U,U⟩;have B:(0:bt)<=(f:bt)/\(f:bt)<=(b:bt):=⟨U,U⟩;have m:(Ig bu h e (j.map a.eval) (g.map a.eval) bq).run E.P w=.ok (f,b,e) w:=by
  cases j with
  |none=>
   obtain rfl:f=0:=k;cases g with
   |none=>obtain rfl:b=h:=i;simp[Ig]
   |some z=>obtain⟨y,r⟩:=i;simp_all [Ig,Je,asIntOf]
  |some I=>
   obtain⟨H,F⟩:=k;cases g with
   |none=>obtain rfl:b=h:=i;simp_all [Ig,Je,asIntOf]
   |some z=>
    obtain⟨y,r⟩:=i;simp_all [Ig,Je,asIntOf]
 simp[bF,u,x,JF,Instr.slice,b1 n,m,v]
theorem nh (i:aK C st a.tmps w I rt fp) {d:dW} (c:kK (d.map (aw st.g)) b f):ri a d b f:=by
 cases d with
 |none=>exact c
 |some h=>
  have:=i.aw h;simp only[IM,kK] at c;split at c
  ·grind
  ·rename_i k m e;simp only[aV] at e;rw[e] at this;subst c;generalize j:a.eval h=n at this;cases this with|val l=>obtain⟨_,rfl⟩:=l;exact⟨k,j⟩
  grind
theorem EA (e:aK C st a.tmps w I rt fp) {L y:dW} (z:o.op=.slice N c L y bq) (b:(mH E.tt st.h N (aw st.g c) (L.map (aw st.g)) (y.map (aw st.g))).K Q):Yields E C st a w I rt fp o Q:=by
 have r:=e.aw c;unfold mH at b;split at b
 ·exact b.elim
 rename_i O v;generalize D:a.eval c=co at r;split at b
 ·rename_i ad i F u;cases f:aD O i with
  |false=>rw[f] at b;exact b.elim
  |true=>
   rw[f] at b;obtain⟨⟨d,m⟩,⟨j,k,l,s⟩,b⟩:=b;simp only at j k l s b;rw[u] at r;cases r with|val ap=>
   obtain⟨_,P,q,rfl,an,M,aA⟩:=ap;have t:=s7 (w:=w) v f z D (nh e j) (nh e k) l U;have V:((F.take m).drop d).length=m-d:=ab;refine .pure t (.val (τ:=.au ad i) (x:=(F.take m).drop d) (cs:=[_]) ⟨br,_,q-d,by rw[V],U,?_,?_⟩) b
   ·intro bl;by_cases bs:q=d
    ·omega
    simp_all
   by_cases bx:m=d
   ·grind
   right;rcases aA with rfl|⟨p,n,rfl,R,aH⟩
   ·grind
   refine⟨p,n+d*i.size,by rw[a8 U];simp[cy],R,λci av y=>?_⟩;grind
 ·rename_i id am u;split at b
  case h_2=>exact b.elim
  rename_i a0 av B;split at b
  case h_2=>exact b.elim
  rename_i i ce;cases f:aD O i with
  |false=>rw[f] at b;exact b.elim
  |true=>
   rw[f] at b;obtain⟨⟨F,d,m⟩,⟨G,j,k,l,s⟩,b⟩:=b;simp only at G j k l s b;rw[u] at r;cases r with|ref J H=>
   rw[B] at J;cases J;obtain⟨rfl,a3,A,_⟩:=e.fF B G H;obtain⟨P,q,rfl,A⟩:=A;rcases A with⟨rfl,rfl,rfl,_⟩|⟨p,n,a4,rfl,_,an,M,aA,aH⟩
   ·have S:m=0:=ab;subst S;have T:d=0:=U;subst T;exact .pure (s7 (w:=w) v f z D (nh e j) (nh e k) (eL _) (eL _)) (.fV id am) b
   have t:=s7 (w:=w) v f z D (nh e j) (nh e k) l U;have:(if q=d then bn (⟨p,n,bq⟩:b6) else(bn (⟨p,n,bq⟩:b6)).map (·.add (d*i.size)))=bn ⟨p,if q=d then n else n+d*i.size,bq⟩:=(by grind [cy]);rw[this] at t;exact .pure t (.view B H l s M) b
 exact b.elim
end
end
section
def eZ:(i:af)->ea->bv i.den
 |.int d,b=>match b with
  |[.int e n]=>if d=e then bn n else bq
  |_=>bq
 |.bool,b=>match b with
  |[.bool c]=>bn c
  |_=>bq
 |.str,b=>match b with
  |[.string s]=>bn s
  |_=>bq
 |.au _ _,b=>match b with
  |[.slice bq 0 0]=>bn []
  |_=>bq
 |.osl _,b=>match b with
  |[.slice bq 0 0]=>bn []
  |_=>bq
 |.ptr _ _,b=>match b with
  |[.pointer bq]=>bn bq
  |_=>bq
 |.nu _ _,b=>match b with
  |[.pointer bq]=>bn bq
  |_=>bq
 |.aM,b=>match b with
  |[.pointer bq]=>bn bw
  |_=>bq
 |.aB _,_|.eB _,_=>bq
 |.st f,b=>eZ f b
 |.pr a c,b=>match eZ a (b.take a.size),eZ c (b.drop a.size) with
  |some g,bn h=>bn (g,h)
  |_,_=>bq
 |.nil,b=>match b with
  |[]=>bn ()
  |_=>bq
 |.opt _ _,_|.aY,_|.mp _,_|.bh _ _,_|.fn _ _,_=>bq
theorem i9 {M:aZ} {w:bz}:∀{τ:af} {d:ea} {c:τ.den},eZ τ d=bn c->al M w τ d c []
 |.int j,d,c,b=>by
  simp only[eZ] at b;split at b
  ·split at b
   ·rename_i f;cases b;subst f;exact⟨br,br⟩
   grind
  grind
 |.bool,d,c,b=>by simp only[eZ] at b;split at b<;>cases b;exact⟨br,br⟩
 |.str,d,c,b=>by simp only[eZ] at b;split at b<;>cases b;exact⟨br,br⟩
 |.au _ _,d,c,b=>by simp only[eZ] at b;split at b<;>cases b;exact⟨br,bq,0,br,eL _,λ_=>rfl,.inl br⟩
 |.osl _,d,c,b=>by simp only[eZ] at b;split at b<;>cases b;exact⟨bq,0,br,.inl ⟨br,br,br,br⟩⟩
 |.ptr _ _,d,c,b=>by simp only[eZ] at b;split at b<;>cases b;exact⟨br,br⟩
 |.st i,d,c,b=>i9 (τ:=i) (by grind [eZ])
 |.pr a e,d,c,b=>by
  simp only[eZ] at b;split at b
  ·rename_i c k g h;cases b;exact⟨[],[],br,i9 (τ:=a) g,i9 (τ:=e) h⟩
  grind
 |.nil,d,c,b=>by simp only[eZ] at b;split at b<;>cases b;exact⟨br,br⟩
 |.opt _ _,d,c,b=>by grind [eZ]
 |.nu _ _,d,c,b=>by simp only[eZ] at b;split at b<;>cases b;exact⟨br,br⟩
 |.aM,d,c,b=>by simp only[eZ] at b;split at b<;>cases b;exact⟨br,br⟩
 |.aB _,d,c,b|.eB _,d,c,b|.aY,d,c,b|.mp _,d,c,b|.bh _ _,d,c,b|.fn _ _,d,c,b=>by grind [eZ]
theorem vf (d:bo):∀(e:ea) (b:bo) (a:dY),let f:=(e.zipIdx b).foldl (λa (h:Value×bo)=>a.setIfInBounds (d+h.2) h.1) a
 f.size=a.size/\(∀c,c<d+b\/d+b+e.length<=c->f[c]?=a[c]?)/\(d+b+e.length<=a.size->∀c g,e[c]?=bn g->f[d+b+c]?=bn g)
 |[],b,a=>⟨br,λ_ _=>rfl,λ_ c g i=>by grind⟩
 |x::e,b,a=>by obtain⟨j,k,l⟩:=vf d e (b+1) (a.setIfInBounds (d+b) x);grind [List.zipIdx_cons]
theorem oI (k:bo->bv dS):∀(j:bp (bo×Value)) (c:dY),(∀a∈j,∃f b,k a.1=bn (f,b)/\a.2.cells.size=b/\f+b<=c.size)->(j.Pairwise λa g=>∀o b n r,k a.1=bn (o,b)->k g.1=bn (n,r)->o+b<=n\/n+r<=o)->∃g,Ke k c j=bn g/\g.size=c.size/\(∀d,(∀a∈j,∀o b,k a.1=bn (o,b)->d<o\/o+b<=d)->g[d]?=c[d]?)/\(∀a∈j,∀o b,k a.1=bn (o,b)->∀d e,a.2.cells[d]?=bn e->g[o+d]?=bn e)
 |[],c,_,_=>⟨c,br,br,λ_ _=>rfl,λa h=>by cases h⟩
 |(i,e)::j,c,w,s=>by
  obtain⟨f,b,u,y,E⟩:=w (i,e) aa;simp only at u y;rw[oa] at s;have x:e.cells.zipIdx.foldl (λl (a:Value×bo)=>l.setIfInBounds (f+a.2) a.1) c=(e.cells.toList.zipIdx 0).foldl (λl (a:Value×bo)=>l.setIfInBounds (f+a.2) a.1) c:=(by rw[<-Array.foldl_toList,Array.toList_zipIdx]);obtain⟨p,m,q⟩:=vf f e.cells.toList 0 c;rw[<-x] at p m q;simp only[Array.length_toList] at m q;generalize B:e.cells.zipIdx.foldl (λl (a:Value×bo)=>l.setIfInBounds (f+a.2) a.1) c=v at p m q;obtain⟨g,F,z,A,G⟩:=oI k j v (λa h=>by
   grind) s.2
  refine⟨g,?_,by rw[z,p],λd t=>?_,λa h n r C d H D=>?_⟩
  ·grind [Ke,decide]
  ·rw[A d (λa h=>t a (eJ _ h)),m d (by have:=t (i,e) aa f b u;omega)]
  rcases c2.1 h with rfl|h
  ·grind
  grind
section
variable {E:cG} {C:a6} {st:aq} {a:Act} {w:bz} {I:aW} {rt:bo->ea} {fp:bo->ei} {o:bJ} {Q:ag->bp (bo×aj)->Prop}
theorem a9.alloc {w:bz} {c:dY} {e:bC} {o:bo} {d:ea} (f:∀a b,d[a]?=bn b->c[o+a]?=bn b):a9 (w.alloc (.cells c e)) w.heap.size o d:=λa b g=>by simp_all
theorem cM.alloc {w:bz} {a:dY} {c:bC} {d b:bo} (e:b<=a.size):cM (w.alloc (.cells a c)) w.heap.size d b:=λg _ f=>by grind [World.cell?_alloc_new,World.frozen?_alloc_new]
theorem Yields.new {d:bo} {t:aj} {e:Value} {cs:ea} {f:ei} {cells:dY} {T:bC} (l:ah st.h d=bq) (g:aK C st a.tmps w I rt fp) (p:(bF a.eval o).run E.P w=.ok (.value e) (w.alloc (.cells cells T))) (r:e=aN t.1 cs) (q:al (az I C.B) (w.alloc (.cells cells T)) t.1 cs t.2 f) (j:∀c∈f,c=w.heap.size) (m:f.Nodup) (n:Q (.ref d []) [(d,t)]):Yields E C st a w I rt fp o Q:=by
 refine⟨e,_,I,λ_=>cs,λ_=>f,.ref d [],[(d,t)],p,.alloc w _,λ_ b=>b,λ_ b=>.inl b,.one l q m (λc i=>?_),?_,n⟩
 ·rw[j c i];exact⟨eL _,aa,λb=>by have:=g.ib _ (.inl b);omega⟩
 rw[r];have k:ah ([(d,t)]++st.h) d=bn t:=(by rw[JG,aU,bc br]);refine .ref (t:=t) (τ':=t.1) (loc:=bq) k ?_;grind [ar.here,aU,bg]
def mm (tt:bp (bC×af)) (g:bp (bo×af)) (h:bp (bo×aj)) (b:bo) (f:bC) (e d:ag):eX:=
 match ew tt f,ah g b,ah h b with
 |some i,bn (.osl c),bq=>match hd c,e,d with
  |some j,.val (.int _) e,.val (.int _) d=>bif aD i c&&bR c.size 2000 then
   .part dS (λa=>e=(a.1:bt)/\d=(a.2:bt)/\a.1<=a.2/\a.2<=fG) (λa=>(.ref b [],[(b,⟨.osl c,bZ a.1 j⟩)])) else .bad
  |_,_,_=>.bad
 |_,_,_=>.bad
theorem AN (a:dY) (d b c:bo) (e:Value) (_hz:0<a.size) (h:a[c]?=bn e) (g:b<d):(JH a (d*a.size))[b*a.size+c]?=bn e:=by have i:c<a.size:=(iR.1 h).1;have f:(b+1)*a.size<=d*a.size:=hY _ g;rw[ix,H4] at f;grind [Nat.add_comm,Nat.add_mul_mod_self_right,Nat.mod_eq_of_lt,JH]
theorem AP (p:aK C st a.tmps w I rt fp) {m:bH} (V:o.op=.makeSlice N m c) (e:(mm E.tt j st.h b N (aw st.g m) (aw st.g c)).K Q):Yields E C st a w I rt fp o Q:=by
 have r:=p.aw m;have q:=p.aw c;unfold mm at e;split at e
 case h_2=>exact e.elim
 rename_i bx u O co S;split at e
 case h_2=>exact e.elim
 rename_i ci a3 d4 a0 d3 an G F;cases k:(aD bx u&&bR u.size 2000) with
 |false=>rw[k] at e;exact e.elim
 |true=>
  rw[k] at e;simp only[aC] at k;obtain⟨⟨n,i⟩,⟨rfl,rfl,J,y⟩,e⟩:=e;simp only at J y e;have d0:=c5 k.2;rw[G] at r;rw[F] at q;generalize am:a.eval m=d7 at r;generalize ad:a.eval c=d6 at q;cases r with|val bl=>cases q with|val bs=>
  obtain⟨_,rfl⟩:=bl;obtain⟨_,rfl⟩:=bs;obtain⟨ap,v,_,L,M⟩:=ew.ok O;have z:=M.lay k.1;obtain⟨t,l,D,a4,aA,aH⟩:=mQ z an;obtain⟨d2,_,cP,_⟩:=z.info;have x:=cP.info;rw[D] at x;cases x;have A:l.cells.size=u.size:=(by have:=(aH (az I C.B) w).len;omega);have R:(t.bytes:bt)*(i:bt)<=281474976710656:=(by have:t.bytes*i<=48000*fG:=Jf (by have:=cP.bytes;omega) y;grind [Int.natCast_mul,fG]);have s:=run_make (P:=E.P) w N v t l L D a4 a3 a0 (n:bt) (i:bt) U U R (by grind [fG]);simp only[Int.toNat_natCast,cP.size] at s;rw[<-A] at s;refine .new (d:=b) (cells:=JH l.cells (i*l.cells.size)) (T:=v) (cs:=[.slice (bn ⟨w.heap.size,0,bq⟩) n i]) (f:=[w.heap.size]) S p ?_ br ?_ aa aa e
  ·simp[bF,V,am,ad,aN,s]
  refine⟨bn ⟨w.heap.size,0,bq⟩,i,aa,.inr ⟨w.heap.size,0,bZ n [],br,aa,aa,ab,cM.alloc (by grind [size_madeCells]),λav ce H d1 cv=>?_⟩⟩;have ds:av<n:=ab;obtain rfl:ci=ce:=ab;obtain rfl:[]=H:=ab;refine⟨l.cells.toList,U,a9.alloc (λap d5 dl=>?_),aH _ _⟩;rw[hL,<-A];grind [AN]
def nc (tt:bp (bC×af)) (d:bp (bo×af)) (e:bp (bo×aj)) (a:bo) (c:bC):eX:=
 match ah tt c,ah d a,ah e a with
 |some f,bn b,bq=>match hd b with
  |some g=>bif aD f b then .bk (.ref a []) [(a,⟨.opt 0 b,g⟩)] else .bad
  |none=>.bad
 |_,_,_=>.bad
theorem Yields.box {e:af} {i:e.den} {cs:ea} (r:ah st.h b=bq) (j:aK C st a.tmps w I rt fp) (_hT:bi E.P e N) (u:(bF a.eval o).run E.P w=.ok (.value (.pointer (bn ⟨w.heap.size,0,bq⟩))) (w.alloc (.cells cs.toArray N))) (v:∀l,(∀g c,az I C.B g c->aP w l c)->al (az I C.B) l e cs i []) (s:Q (.ref b []) [(b,⟨.opt 0 e,i⟩)]):Yields E C st a w I rt fp o Q:=by have n:∀g c,az I C.B g c->aP w (w.alloc (.cells cs.toArray N)) c:=λg c p=>.of_heap ((c1.alloc w _).heap c (j.ib c (hq p)));have k:=v _ n;have q:=k.len;refine .new (d:=b) (t:=⟨.opt 0 e,i⟩) (cs:=[.pointer (bn ⟨w.heap.size,0,bq⟩)]) (f:=[w.heap.size]) r j u br ⟨w.heap.size,0,[],cs,br,br,q,a9.alloc (λy z x=>by grind),cM.alloc ab,k,λm=>absurd rfl m⟩ aa aa s
theorem x9 (g:aK C st a.tmps w I rt fp) (l:o.op=.alloc N) (c:(nc E.tt j st.h b N).K Q):Yields E C st a w I rt fp o Q:=by
 unfold nc at c;split at c
 case h_2=>exact c.elim
 rename_i f q i s k;split at c
 case h_2=>exact c.elim
 rename_i v m;cases d:aD f q with
 |false=>rw[d] at c;exact c.elim
 |true=>
  rw[d] at c;have e:=(E.ok N f i).lay d;obtain⟨t,r,n,p,aA,aH⟩:=mQ e m;refine .box (cs:=r.cells.toList) k g e ?_ (λu _=>aH _ _) c;simp[bF,l,IS,cr,cC,n,p,newVar,cB]
def ot (tt:bp (bC×af)) (e:bp (bo×aj)) (a:bo) (d:bC) (b:ag):eX:=
 match ah tt d,ah e a with
 |some f,bq=>match b with
  |.val c b=>bif aD f c then .bk (.ref a []) [(a,⟨.opt 0 c,b⟩)] else .bad
  |_=>.bad
 |_,_=>.bad
theorem yB (j:aK C st a.tmps w I rt fp) (t:o.op=.box N c) (d:(ot E.tt st.h b N (aw st.g c)).K Q):Yields E C st a w I rt fp o Q:=by
 have f:=j.aw c;unfold ot at d;split at d
 case h_2=>exact d.elim
 rename_i l r s;split at d
 case h_2=>exact d.elim
 rename_i x A p;cases e:aD l x with
 |false=>rw[e] at d;exact d.elim
 |true=>
  rw[e] at d;rw[p] at f;generalize u:a.eval c=y at f;cases f with|val i=>
  rename_i m;have k:=(E.ok N l r).lay e;refine .box (cs:=m) s j k ?_ (λz q=>i.mono (λv n e=>⟨e,q v n e⟩) aa) d;simp[bF,t,u,Jg,newVar,cB,hS k i.len i.one]
def coe (a:af) (b:ag):bv a.den:=
 match b with
 |.val d b=>if h:d=a then bn (h▸b) else bq
 |.aS c=>eZ a c.cells.toList
 |_=>bq
def oz (a:af):bp ag->bv (bp a.den)
 |[]=>bn []
 |x::c=>match coe a x,oz a c with
  |some d,bn b=>bn (d::b)
  |_,_=>bq
theorem rr (i:bi E.P d N) {f:ag} {e:Value} (c:aJ t w n rt fp f e) {g:d.den} (a:coe d f=bn g):al t w d e.cells.toList g []:=by
 unfold coe at a;split at a
 ·rename_i k j;split at a
  ·rename_i h;subst h;cases a;cases c with|val b=>
   rw[hS i b.len b.one];exact b
  grind
 ·cases c;exact i9 a
 grind
def mE:bp (bo×bH)->bo->bA
 |[],_=>bu
 |q::b,a=>bB q.1 a&&mE b (a+1)
def ni (tt:bp (bC×af)) (g:bp (bo×af)) (i:bp (bo×aj)) (h:bH->ag) (b:bo) (f:bC) (d:bo) (c:bp (bo×bH)):eX:=
 match ew tt f,ah i b with
 |some e,bq=>
  let a:=match ah g b with|some (.osl a)=>a|_=>e
  bif aD e a&&bR a.size 2000&&bR d 1000&&mE c 0&&bB c.length d then
   match oz a (c.map λj=>h j.2) with
   |some k=>.bk (.ref b []) [(b,⟨.osl a,k⟩)]
   |none=>.bad
  else .bad
 |_,_=>.bad
theorem ue {d:af}:∀{c:bp ag} {b:bp d.den},oz d c=bn b->b.length=c.length/\∀(e:bo) (f:d.den),b[e]?=bn f->∃y:ag,c[e]?=bn y/\coe d y=bn f
 |[],b,a=>by cases a;grind
 |y::c,b,a=>by
  simp only[oz] at a;split at a
  ·rename_i l k j g;cases a;obtain⟨h,i⟩:=ue g;grind
  grind
theorem kc:∀{e:bp (bo×bH)} {d:bo},mE e d=bu->∀(a:bo) (b:bo×bH),e[a]?=bn b->b.1=d+a
 |[],_,_,a,b,c=>by grind
 |x::e,d,c,a,b,f=>by
  simp only[mE,aC] at c;cases a with
  |zero=>simp_all
  |succ a=>have:=kc c.2 a b ab;omega
theorem yE (F:aK C st a.tmps w I rt fp) {y:bo} {i:bN (bo×bH)} (d4:o.op=.buildSlice N b i) (k:(ni E.tt j st.h (aw st.g) y N b i.toList).K Q):Yields E C st a w I rt fp o Q:=by
 unfold ni at k;split at k
 case h_2=>exact k.elim
 rename_i a0 dl ds;generalize f2:(match ah j y with|some (.osl e)=>e|_=>a0)=e at k;simp only at k;cases m:(aD a0 e&&bR e.size 2000&&bR b 1000&&mE i.toList 0&&bB i.toList.length b) with
 |false=>rw[m] at k;exact k.elim
 |true=>
  rw[m] at k;simp only[aC] at m;obtain⟨⟨⟨⟨a4,z⟩,A⟩,D⟩,O⟩:=m;have z:=c5 z;have A:=c5 A;have O:i.toList.length=b:=a7 O;simp only[bK] at k;split at k
  case h_2=>exact k.elim
  rename_i q d9;obtain⟨an,L,_,co,cv⟩:=ew.ok dl;have s:=cv.lay a4;obtain⟨H,fn,cP,_⟩:=s.info;have f0:=s.pos;obtain⟨bl,bs⟩:=ue d9;simp only[jA] at bl;have d8:q.length=b:=U;have fz:b*e.size<=16777216:=(by have:b*e.size<=1000*2000:=Jf A z;omega);have R:∀(c:bo) (l:bo×bH),i.toList[c]?=bn l->∃n:e.den,q[c]?=bn n/\al (az I C.B) w e (a.eval l.2).cells.toList n []:=(by intro c l u;have d2:c<q.length:=ab;obtain⟨gf,ak,v⟩:=bs c q[c] aa;rw[gH,u] at ak;simp only[IM,aV] at ak;subst ak;exact⟨q[c],aa,rr s (F.aw l.2) v⟩);obtain⟨am,d0,d1⟩:∃a3:dY,(b*e.size=0->a3=#[])/\(b*e.size≠0->∃r,(cr L).run E.P w=.ok r w/\a3=r.cells):=by
   by_cases p:b*e.size=0
   ·simp_all
   obtain⟨r,_,em⟩:=bi.r8 s;exact⟨r.cells,λk=>absurd k p,λ_=>⟨r,by simp[cr,cC,cP.info,em H cP.info],br⟩⟩
  obtain⟨ap,av,f7,f8,eq⟩:=oI (λH=>bn (H*e.size,e.size)) (i.toList.map λl=>(l.1,a.eval l.2)) ((Array.range (b*e.size)).map (am[· %am.size]!)) (by
   intro l d6;obtain⟨f6,d5,rfl⟩:=c9.1 d6;obtain⟨c,u,rfl⟩:=kw.1 d5;have x:i.toList[c]?=bn i.toList[c]:=aa;obtain⟨n,_,G⟩:=R c _ x;have fs:=kc D c _ x;have:(c+1)*e.size<=b*e.size:=hY _ U;rw[ix,H4] at this;refine⟨_,_,br,by have:=G.len;omega,?_⟩;grind) (by
   rw[List.pairwise_iff_getElem];intro c J u d3 d2 f4 f9 f5 gc ak v;simp only[List.getElem_map,aV,eT] at ak v;simp only[jA] at u d3;have bx:=kc D c i.toList[c] aa;have ce:=kc D J i.toList[J] aa;obtain⟨rfl,rfl⟩:=ak;obtain⟨rfl,rfl⟩:=v;left;rw[bx,ce];have:(0+c+1)*e.size<=(0+J)*e.size:=hY _ U;grind)
  have f1:ap.size=b*e.size:=ab;refine .new (d:=y) (t:=⟨.osl e,q⟩) (cells:=ap) (T:=L) (cs:=[.slice (bn ⟨w.heap.size,0,bq⟩) b b]) (f:=[w.heap.size]) ds F ?_ br ?_ aa aa k
  ·have d7:=s.sizeOf w;have fT:¬(16777216<b*e.size):=U;have S:(Jh (λn=>(n.fst,a.eval n.snd)) i).toList=i.toList.map λl=>(l.1,a.eval l.2):=aa;simp only[bF,d4,Instr.buildSlice,bP,b1 co,bT,d7];rw[a8 U];by_cases p:b*e.size=0
   ·rw[bc p];obtain rfl:=d0 p;rw[S];simp only[bP,b9,bT,av,cB,newObj];rfl
   rw[a8 p];obtain⟨r,el,rfl⟩:=d1 p;rw[S];simp only[bP,b9,bT,el,av,cB,newObj];rfl
  refine⟨bn ⟨w.heap.size,0,bq⟩,b,by rw[d8],.inr ⟨w.heap.size,0,bZ b [],br,aa,ab,ab,cM.alloc U,λc n ci G ft=>?_⟩⟩;have u:c<b:=ab;obtain rfl:[]=ci:=ab;have x:i.toList[c]?=bn (i.toList[c]'(by omega)):=by simp
  obtain⟨ge,ad,V⟩:=R c _ x;rw[G] at ad;obtain rfl:=c6 ad;refine⟨_,V.len,a9.alloc (λan ex fx=>?_),V.mono (λf3 M m=>⟨m,.of_heap ((c1.alloc w _).heap M (F.ib M (hq m)))⟩) aa⟩;have:=eq (i.toList[c].1,a.eval i.toList[c].2) (c9.2 ⟨i.toList[c],m4 _,br⟩) _ _ rfl an ex ab;grind [kc]
end
end
section
def g9 (a:bp (bo×bH)) (b:bo):dW:=ah a b
def jk (
 g:bH->ag) (e:bp (bo×bH)):af->bo->bv aj
 |.pr a h,d=>
  match(match g9 e d with
   |none=>match hd a with
    |some j=>bn (⟨a,j⟩:aj)
    |none=>bq
   |some c=>match g c with
    |.val f b=>bif aD a f then bn ⟨f,b⟩ else bq
    |.aS i=>match eZ a i.cells.toList with
     |some b=>bn ⟨a,b⟩
     |none=>bq
    |_=>bq),jk g e h (d+1) with
  |some c,bn b=>bn ⟨.pr c.1 b.1,(c.2,b.2)⟩
  |_,_=>bq
 |.nil,_=>bn ⟨.nil,()⟩
 |_,_=>bq
def hm:bp (bo×bH)->bo->bA
 |[],_=>bu
 |q::b,a=>bR a q.1&&hm b (q.1+1)
def db:af->bo
 |.pr _ a=>db a+1
 |_=>0
theorem sg:∀{e:bp (bo×bH)} {d:bo},hm e d=bu->∀b∈e,d<=b.1
 |[],_,_,b,a=>by cases a
 |x::e,d,a,b,c=>by
  simp only[hm,aC] at a;rcases c2.1 c with rfl|c
  ·simp_all
  have:=sg a.2 b c;have:=c5 a.1;omega
def si:∀{b:bp (bo×bH)} {d:bo},hm b d=bu->b.Pairwise λc f=>c.1<f.1
 |[],_,_=>KS
 |x::b,d,a=>by simp only[hm,aC] at a;exact KT (λc e=>by have:=sg a.2 c e;omega) (si a.2)
theorem mi {e:Type}:∀{d:bp (bo×e)} {b:bo} {c:e},ah d b=bn c->(b,c)∈d
 |[],_,_,a=>by cases a
 |(f,v0)::r,b,c,a=>by
  rw[aU] at a;split at a
  ·grind
  exact eJ _ (mi a)
def sv {g:Type}:∀{e:bp (bo×g)} {d:bo},ah e d=bq->∀c∈e,c.1≠d
 |[],_,_,c,a=>by cases a
 |(h,v0)::r,d,b,c,a=>by
  rw[aU] at b;split at b
  ·cases b
  rename_i f;rcases c2.1 a with rfl|a
  ·exact f
  exact sv b c a
theorem j6 {j:bQ}:∀{u:af} {l:bp cA} {e:bo} {f:ea},fd j u l e f->∀d,d<db u->∃h i,cR u d=bn (h,i)
 |.pr a g,k::m,e,f,c,0,_=>⟨_,_,br⟩
 |.pr a g,k::m,e,f,c,d+1,b=>by obtain⟨h,i,n⟩:=j6 (u:=g) c.2.2.2.2 d (by grind [db]);grind [cR]
 |.pr _ _,[],_,_,c,_,_=>c.elim
 |.int _,_,_,_,_,_,b|.bool,_,_,_,_,_,b|.str,_,_,_,_,_,b|.au _ _,_,_,_,_,_,b|.osl _,_,_,_,_,_,b|.ptr _ _,_,_,_,_,_,b|.opt _ _,_,_,_,_,_,b|.st _,_,_,_,_,_,b|.nil,_,_,_,_,_,b|.aY,_,_,_,_,_,b=>by grind [db]
theorem l1:∀{u:af} {e c:bo} {s s':bp ax} {t t':af},cR u e=bn (s,t)->cR u c=bn (s',t')->e<c->cL u e+t.size<=cL u c
 |.pr a f,0,c+1,s,s',t,t',b,d,_=>by simp only[cR,aV,eT] at b;obtain⟨_,rfl⟩:=b;simp[cL]
 |.pr a f,e+1,c+1,s,s',t,t',b,d,k=>by
  simp only[cR] at b d;cases g:cR f e with
  |none=>grind
  |some i=>
   cases h:cR f c with
   |none=>grind
   |some j=>
    rw[g] at b;rw[h] at d;simp only[aV,eT] at b d;obtain⟨_,rfl⟩:=b;obtain⟨_,rfl⟩:=d;have:=l1 (u:=f) (s:=i.1) (t:=i.2) (s':=j.1) (t':=j.2) g h U;grind [cL]
 |.int _,_,_,_,_,_,_,b,_,_|.bool,_,_,_,_,_,_,b,_,_|.str,_,_,_,_,_,_,b,_,_|.au _ _,_,_,_,_,_,_,b,_,_|.osl _,_,_,_,_,_,_,b,_,_|.ptr _ _,_,_,_,_,_,_,b,_,_|.opt _ _,_,_,_,_,_,_,b,_,_|.st _,_,_,_,_,_,_,b,_,_|.nil,_,_,_,_,_,_,b,_,_|.aY,_,_,_,_,_,_,b,_,_=>by cases b
theorem rX:∀{u:af} {c:bo} {s:bp ax} {t:af},cR u c=bn (s,t)->c<db u
 |.pr a d,0,_,_,_=>by simp[db]
 |.pr a d,c+1,s,t,b=>by
  simp only[cR] at b;split at b
  ·rename_i e f;have:=rX (u:=d) (s:=e.1) (t:=e.2) f;grind [db]
  grind
 |.int _,_,_,_,b|.bool,_,_,_,b|.str,_,_,_,b|.au _ _,_,_,_,b|.osl _,_,_,_,b|.ptr _ _,_,_,_,b|.opt _ _,_,_,_,b|.st _,_,_,_,b|.nil,_,_,_,b|.aY,_,_,_,b=>by cases b
theorem sh:∀{d:bp (bo×bH)} {e:bo} {b:bo×bH},hm d e=bu->b∈d->g9 d b.1=bn b.2
 |[],_,_,_,a=>by cases a
 |x::d,e,b,a,c=>by
  simp only[hm,aC] at a;obtain⟨f,g⟩:=x;unfold g9;rw[aU];rcases c2.1 c with rfl|c
  ·rw[bc br]
  have:=sg a.2 b c;simp only at this;rw[a8 U];exact sh a.2 c
section
variable {E:cG} {C:a6} {st:aq} {a:Act} {w:bz} {I:aW} {rt:bo->ea} {fp:bo->ei} {o:bJ} {Q:ag->bp (bo×aj)->Prop}
def oq (tt:bp (bC×af)) (e:bH->ag) (d:bC) (a:bp (bo×bH)):eX:=
 match gP tt d with
 |none=>.bad
 |some c=>bif hm a 0&&a.all (λf=>b3 f.1 (db c)) then match jk e a c 0 with
  |some b=>.bk (.val (.st b.1) b.2) []
  |none=>.bad
  else .bad
theorem wh {z:bQ} {l:aZ} {b:bp (bo×aj)} {q:bH->ag} {j:bH->Value} (v:∀c,aJ l w b rt fp (q c) (j c)) {parts:bp (bo×bH)} {cells:ea}:∀{u:af} {n:bo} {B:bp cA} {off:bo} {zs:ea} {i:aj},fd z u B off zs->jk q parts u n=bn i->cells.length=off+u.size->(∀e p d,cR u e=bn (p,d)->(∀c,g9 parts (n+e)=bn c->(j c).cells.size=d.size/\(cells.drop (off+cL u e)).take d.size=(j c).cells.toList)/\(g9 parts (n+e)=bq->(cells.drop (off+cL u e)).take d.size=(zs.drop (cL u e)).take d.size))->al l w i.1 (cells.drop off) i.2 []/\i.1.size=u.size
 |.pr a A,n,L::V,off,zs,i,r,g,E,o=>by
  simp only[jk] at g;split at g
  case h_2=>cases g
  rename_i c am h I;cases g;obtain⟨M,C,N,⟨R,an,T,U,aA⟩,D⟩:=r;have t:=o 0 _ a br;simp only[jD,cL,lv] at t;have O:al l w c.1 ((cells.drop off).take a.size) c.2 []/\c.1.size=a.size:=by
   split at h
   ·grind [mQ]
   rename_i k F;have f:=v k;obtain⟨S,x⟩:=t.1 k F;split at h
   ·rename_i d K m;cases s:aD a d with
    |false=>grind
    |true=>
     rw[s] at h;cases h;rw[m] at f;rw[x];generalize H:j k=J at f;cases f with|val y=>
     rw[hS (C.lay s) y.len y.one];grind [aD.size]
   ·rename_i J m;split at h
    ·rename_i K Q;cases h;rw[m] at f;rw[x];generalize H:j k=ad at f;cases f;grind [i9]
    grind
   grind
  have P:=wh v (parts:=parts) (cells:=cells) (u:=A) (n:=n+1) (off:=off+a.size) (zs:=zs.drop a.size) D I (by grind [af.size]) (by
   intro e p d G;have:=o (e+1) (.snd::p) d (by simp[cR,G]);grind [It,cL])
  refine⟨⟨[],[],br,?_,?_⟩,by grind [af.size]⟩
  ·grind
  simp_all
 |.nil,n,[],off,zs,i,r,g,E,o=>by cases g;exact⟨⟨br,by grind [List.drop_eq_nil_iff,af.size]⟩,br⟩
 |.pr _ _,_,[],_,_,_,b,_,_,_|.nil,_,_::_,_,_,_,b,_,_,_=>b.elim
 |.int _,_,_,_,_,_,b,_,_,_|.bool,_,_,_,_,_,b,_,_,_|.str,_,_,_,_,_,b,_,_,_|.au _ _,_,_,_,_,_,b,_,_,_|.osl _,_,_,_,_,_,b,_,_,_|.ptr _ _,_,_,_,_,_,b,_,_,_|.opt _ _,_,_,_,_,_,b,_,_,_|.st _,_,_,_,_,_,b,_,_,_|.aY,_,_,_,_,_,b,_,_,_=>by cases b
theorem wi {z:bQ} {m:aZ} {b:bp (bo×aj)} {o:bH->ag} {h:bH->Value} (p:∀c,aJ m w b rt fp (o c) (h c)) {s:bp (bo×bH)}:∀{u:af} {n:bo} {B:bp cA} {r:bo} {y:ea} {x:aj},fd z u B r y->jk o s u n=bn x->∀e v g,cR u e=bn (v,g)->∀c,g9 s (n+e)=bn c->(h c).cells.size=g.size
 |.pr a A,n,N::T,r,y,x,E,k,e,v,g,d,c,q=>by
  simp only[jk] at k;split at k
  case h_2=>cases k
  rename_i ad am i I;obtain⟨O,C,P,⟨Q,an,R,S,aA⟩,D⟩:=E;cases e with
  |zero=>
   simp only[cR,aV,eT] at d;obtain⟨_,rfl⟩:=d;rw[jD] at q;rw[q] at i;have f:=p c;simp only at i;split at i
   ·rename_i g L j;cases F:aD a g with
    |false=>grind
    |true=>
     rw[j] at f;generalize H:h c=K at f;cases f with|val l=>
     rw[hS (C.lay F) l.len l.one];have:=l.len;grind [aD.size]
   ·rename_i K j;split at i
    ·rename_i L J;rw[j] at f;generalize H:h c=V at f;cases f;have:=(i9 (M:=m) (w:=w) J).len;omega
    grind
   grind
  |succ e=>
   simp only[cR] at d;split at d
   ·rename_i t G;simp only[aV,eT] at d;obtain⟨_,rfl⟩:=d;exact wi p (u:=A) (n:=n+1) D I e t.1 t.2 G c (by rwa[(U:n+1+e=n+(e+1))])
   grind
 |.pr _ _,_,[],_,_,_,b,_,_,_,_,_,_,_=>b.elim
 |.nil,_,_,_,_,_,_,_,_,_,_,d,_,_=>by cases d
 |.int _,_,_,_,_,_,b,_,_,_,_,_,_,_|.bool,_,_,_,_,_,b,_,_,_,_,_,_,_|.str,_,_,_,_,_,b,_,_,_,_,_,_,_|.au _ _,_,_,_,_,_,b,_,_,_,_,_,_,_|.osl _,_,_,_,_,_,b,_,_,_,_,_,_,_|.ptr _ _,_,_,_,_,_,b,_,_,_,_,_,_,_|.opt _ _,_,_,_,_,_,b,_,_,_,_,_,_,_|.st _,_,_,_,_,_,b,_,_,_,_,_,_,_|.aY,_,_,_,_,_,b,_,_,_,_,_,_,_=>by cases b
theorem run_places {P:bQ} (w:bz):∀(d:af) (h:bp cA) (c:bo) (g:ea),fd P d h c g->(h.mapM λe=>do Ih (e.offset,<-eu e.type):Sem ej).run P w=.ok ((ct (db d)).map λf=>(c+cL d f,match cR d f with|some k=>k.2.size|none=>0)) w
 |.pr a i,e::l,c,g,b=>by have j:=run_places w i l (c+a.size) (g.drop a.size) b.2.2.2.2;simp only[List.mapM_cons,bP,b.2.1.sizeOf,bT,b9,j];simp only[db,List.range_succ_eq_map,fm,Iu,b.1,cL,jD,cR];congr 2;apply hf;intro f _;simp only[Function.comp,cL,cR];grind
 |.nil,[],_,_,_=>rfl
 |.pr _ _,[],_,_,b|.nil,_::_,_,_,b=>b.elim
 |.int _,_,_,_,b|.bool,_,_,_,b|.str,_,_,_,b|.au _ _,_,_,_,b|.osl _,_,_,_,b|.ptr _ _,_,_,_,b|.opt _ _,_,_,_,b|.st _,_,_,_,b|.aY,_,_,_,b=>by cases b
theorem yu (av:aK C st a.tmps w I rt fp) {i:bN (bo×bH)} (ds:o.op=.build N i) (e:(oq E.tt (aw st.g) N i.toList).K Q):Yields E C st a w I rt fp o Q:=by
 unfold oq at e;split at e
 ·exact e.elim
 rename_i b O;cases p:(hm i.toList 0&&i.toList.all (λc=>b3 c.1 (db b))) with
 |false=>rw[p] at e;exact e.elim
 |true=>
  rw[p] at e;simp only[aC,cX] at p;obtain⟨a4,D⟩:=p;simp only[bK] at e;split at e
  case h_2=>exact e.elim
  rename_i el a0;obtain⟨q,r,j,bl,ex,bs,bx,m,fn⟩:∃q r j,E.P.info? N=some q/\q.size=b.size/\q.zero=some (.agg j)/\E.P.underlying N=some (.struct r)/\fd E.P b r.toList 0 j.toList/\j.size=b.size:=by
   unfold gP at O;split at O
   ·rename_i f5 ci;cases O;obtain⟨_,q,r,j,fT,f0,_,aH,cP,ka,iM⟩:=E.ok N _ ci;grind
   grind
  have S:=wi (λd=>av.aw d) m a0;have R:=run_places (P:=E.P) w b r.toList 0 j.toList m;simp only[hL] at R S;generalize ft:((ct (db b)).map λk=>(cL b k,match cR b k with|some c=>c.2.size|none=>0))=V at R;have y:∀k L l,cR b k=bn (L,l)->k<db b->V.toArray[k]?=bn (cL b k,l.size):=ab;obtain⟨J,d5,f1,d6,d7⟩:=oI (λq=>V.toArray[q]?) (i.toList.map λc=>(c.1,a.eval c.2)) j (by
   intro c z;obtain⟨h,F,rfl⟩:=c9.1 z;have t:h.1<db b:=c5 (D h F);obtain⟨L,l,f⟩:=j6 m h.1 t;refine⟨_,_,y _ _ _ f t,S _ _ _ f h.2 ?_,by simp_all [nt]⟩;grind [sh]) (by
   rw[List.pairwise_map];refine(si a4).imp_of_mem ?_;intro c ad z d2 t d4 d8 fz f2 ak am;have B:c.1<db b:=c5 (D c z);have a3:ad.1<db b:=c5 (D ad d2);obtain⟨d9,em,s⟩:=j6 m c.1 B;obtain⟨f3,f4,p⟩:=j6 m ad.1 a3;rw[y _ _ _ s B] at ak;rw[y _ _ _ p a3] at am;cases ak;cases am;exact .inl (l1 s p t))
  have fx:J.toList.length=b.size:=ab;obtain⟨ap,eq⟩:=wh (w:=w) (λd=>av.aw d) (parts:=i.toList) (cells:=J.toList) (u:=b) (n:=0) (off:=0) m a0 U (by
   intro H L l f;have co:H<db b:=rX f;simp only[hL];have fs:=nt f;refine⟨λd G=>?_,λG=>?_⟩
   ·have cv:=mi G;have T:=S H L l f d G;refine⟨T,?_⟩;apply iw;intro A;rcases gw A l.size with x|x
    ·obtain⟨M,d3⟩:∃M,(a.eval d).cells[A]?=some M:=⟨_,n5 U⟩;have:=d7 (H,a.eval d) (c9.2 ⟨(H,d),cv,br⟩) _ _ (y _ _ _ f co) A M d3;grind
    grind
   apply iw;intro A;rcases gw A l.size with x|x
   ·rw[lw x,lw x,ks,ks];simp only[pd];refine d6 _ ?_;intro c z d4 d8 ak;obtain⟨h,F,rfl⟩:=c9.1 z;have dl:=sv G h F;have B:h.1<db b:=c5 (D h F);obtain⟨d9,em,s⟩:=j6 m h.1 B;rw[y _ _ _ s B] at ak;cases ak;rcases JA dl with t|ce
    ·have:=l1 s f t;omega
    have:=l1 f s ce;omega
   grind)
  rw[lv] at ap;refine .pure (v:=.agg J) ?_ (.val (τ:=.st el.1) (cs:=J.toList) ap) e;have d1:(Jh (λd=>(d.fst,a.eval d.snd)) i).toList=i.toList.map λc=>(c.1,a.eval c.2):=aa;have d0:(r.mapM λan=>do Ih (an.offset,<-eu an.type):Sem (bN dS)).run E.P w=.ok V.toArray w:=(by rw[JI,Sem.run_map,R];rfl);have T:(cr N).run E.P w=.ok (.agg j) w:=(by simp[cr,cC,bl,bs]);simp only[bF,ds,Instr.build,bP,T,b1 bx,bT,d0,d1,JC,d5];rfl
end
end
section
def eE {α:Type}:bp (bt×α)->bt->bv α
 |[],_=>bq
 |(a,v)::r,k=>if a=k then bn v else eE r k
def ho {α:Type}:bp (bt×α)->bt->α->bp (bt×α)
 |[],k,v=>[(k,v)]
 |(a,u)::r,k,v=>if k<a then(k,v)::(a,u)::r else if k=a then(k,v)::r else(a,u)::ho r k v
def fo {α:Type} (l:bp (bt×α)) (a:bt):bp (bt×α):=l.filter λb=>bI (b.1≠a)
def hQ {α:Type} (b:bv (bp (bt×α)×bo)) (a:bt):bv α:=b.bind λc=>eE c.1 a
def nF {α:Type} (a:bv (bp (bt×α)×bo)):bt:=match a with|some b=>(b.1.length:bt)|none=>0
section
variable {α:Type}
theorem qa:∀{l:bp (bt×α)} {c:bt} {d:α},eE l c=bn d->(c,d)∈l
 |[],_,_,b=>by cases b
 |(a,u)::r,c,d,b=>by
  simp only[eE] at b;split at b
  ·grind
  exact eJ _ (qa b)
theorem v9:∀{l:bp (bt×α)} {c:bt},eE l c=bq->∀d,(c,d)∉l
 |[],_,_,_=>by simp
 |(a,u)::r,c,b,d=>by
  simp only[eE] at b;split at b
  ·cases b
  rename_i g;intro f;rcases c2.1 f with e|e
  ·grind
  exact v9 b d e
theorem xC {l:bp (bt×α)} (c:l.Pairwise (λa b=>a.1<b.1)):(l.map (·.1)).Nodup:=by grind
theorem AM {l:bp (bt×α)} (c:(l.map (·.1)).Nodup) {a:bt} {b:α}:eE l a=bn b↔(a,b)∈l:=by
 constructor
 ·exact qa
 intro d
 induction l with
 |nil=>cases d
 |cons e h g=>
  obtain⟨f,i⟩:=e;simp only[fm,gW] at c;simp only[eE];grind
theorem wa:∀{l:bp (bt×α)} {d:bt} {e:α} {c:bt×α},c∈ho l d e->c=(d,e)\/c∈l
 |[],d,e,c,b=>by grind [ho]
 |(a,u)::r,d,e,c,b=>by
  simp only[ho] at b;split at b
  ·grind
  split at b
  ·grind
  rcases c2.1 b with b|b
  ·grind
  exact(wa b).imp id (eJ _)
theorem sz:∀{l:bp (bt×α)} {c:bt} {d:α},l.Pairwise (λa b=>a.1<b.1)->(ho l c d).Pairwise (λa b=>a.1<b.1)
 |[],c,d,_=>by simp[ho]
 |(a,u)::r,c,d,h=>by
  rw[oa] at h;simp only[ho];split
  ·grind [Kf]
  rename_i g;split
  ·grind [Kf]
  rename_i f;rw[oa];refine⟨λi e=>?_,sz h.2⟩;rcases wa e with rfl|e
  ·omega
  grind
def AK {l:bp (bt×α)} {d:bt} (c:l.Pairwise (λa b=>a.1<b.1)):(fo l d).Pairwise (λa b=>a.1<b.1):=c.filter _
theorem sy:∀{l:bp (bt×α)} {k:bt} {v:α},l.Pairwise (λa b=>a.1<b.1)->(ho l k v).Perm ((k,v)::fo l k)
 |[],k,v,_=>by simp[ho,fo]
 |(a,u)::r,k,v,h=>by
  rw[oa] at h;simp only[ho];split
  ·rename_i d;have:fo ((a,u)::r) k=(a,u)::r:=by
    unfold fo;grind [List.filter_eq_self]
   rw[this]
  rename_i d;split
  ·rename_i c;subst c;have:fo ((k,u)::r) k=r:=by
    unfold fo;rw[kp,a8 aa,iU];grind
   rw[this]
  rename_i c;have:fo ((a,u)::r) k=(a,u)::fo r k:=(by unfold fo;grind);rw[this];exact((sy h.2).cons _).trans (.swap _ _ _)
end
section
variable {P:bQ} {w:bz} {b:bo} {bj:bN b5} {c:bo}
theorem hR:fk w b=bn (bj,c)↔w.heap[b]?=bn (.map bj c):=by grind [fk]
def jq (a:w.heap[b]?=bn (.map bj c)):(setObj b (.map m f)).run P w=.ok () {w with heap:=w.heap.setIfInBounds b (.map m f)}:=by simp[setObj,Sem.run,a]
def run_getObj_map (a:w.heap[b]?=bn (.map bj c)):(getObj b).run P w=.ok (.map bj c) w:=by simp[getObj,Sem.run,a]
def va {j:ca} (b:bt):∀(bj:bp b5) (c:eh) (d:bo),bj.map (·.key)=c.map (b0 .i64)->b∉c->Iv (.int j) (.int .i64 b) bj d=bn bq
 |[],_,_,_,_=>rfl
 |e::bj,[],_,a,_=>by cases a
 |e::bj,f::c,d,a,h=>by simp only[fm,eQ] at a;have i:(b==f)=bw:=ab;simp only[Iv,a.1,JJ,b8,i];exact va b bj c (d+1) a.2 (λg=>h (eJ _ g))
theorem vb {kd:ca} (b:bt):∀(bj:bp b5) (d:eh) (f:bo),bj.map (·.key)=d.map (b0 .i64)->b∈d->∃c e,d[c]?=bn b/\bj[c]?=bn e/\Iv (.int kd) (.int .i64 b) bj f=bn (bn (f+c,e.val))
 |[],[],_,_,a|[],_::_,_,a,_|e::bj,[],_,a,_=>by cases a
 |e::bj,g::d,f,a,m=>by
  simp only[fm,eQ] at a;by_cases h:b=g
  ·subst h;refine⟨0,e,br,br,?_⟩;simp_all [b8,beq_self_eq_true,Iv,JJ]
  have n:(b==g)=bw:=ab;obtain⟨c,i,j,k,l⟩:=vb b bj d (f+1) a.2 ((c2.1 m).resolve_left h);refine⟨c+1,i,by simpa using j,by simpa using k,?_⟩;simp only[Iv,a.1,JJ,b8,n];rw[l];grind
structure eK (M:aZ) (w:bz) (t:af) (b:bo) (l:bp (bt×t.den)) (c:bo) (bj:bN b5) (L:bp (bt×bo×t.den)):Prop where
 iL:fZ L l c
 h:w.heap[b]?=bn (.map bj c)
 n:bj.size=L.length
 e:∀(i:bo) (q:bt×bo×t.den),L[i]?=bn q->∃ds:ea,ds.length=t.size/\bj[i]?=bn (I6 (.int .i64 q.1) (aN t ds) q.2.1)/\al M w t ds q.2.2 []
variable {M:aZ} {t:af} {l:bp (bt×t.den)} {L:bp (bt×bo×t.den)}
theorem eK.keys (f:eK M w t b l c bj L):bj.toList.map (·.key)=(L.map (·.1)).map (b0 .i64):=by
 apply iw;intro d;simp only[gH,pd];rcases gw d L.length with a|a
 ·obtain⟨g,_,h,_⟩:=f.e d L[d] (fq a);grind
 rw[List.getElem?_eq_none a,Array.getElem?_eq_none (by rw[f.n];exact a)];rfl
def fZ.keys {α:Type} {L:bp (bt×bo×α)} {l:bp (bt×α)} {c:bo} (a:fZ L l c):(L.map (·.1)).Perm (l.map (·.1)):=by have:=a.2.1.map (·.1);rwa[Iu] at this
def fZ.nJ {α:Type} {L:bp (bt×bo×α)} {l:bp (bt×α)} {c:bo} (a:fZ L l c):(L.map (·.1)).Nodup:=a.keys.nodup_iff.2 (xC a.1)
def fZ.mem {α:Type} {L:bp (bt×bo×α)} {l:bp (bt×α)} {c:bo} (b:fZ L l c) {a:bt×bo×α} (d:a∈L):eE l a.1=bn a.2.2:=
 (AM (xC b.1)).2 (b.2.1.mem_iff.1 (c9.2 ⟨a,d,br⟩))
theorem fZ.len {α:Type} {L:bp (bt×bo×α)} {l:bp (bt×α)} {c:bo} (a:fZ L l c):L.length=l.length:=by have:=a.2.1.length_eq;grind
theorem s5 {P:bQ} {w:bz} (e:P.underlying a=bn (.int u)) {b:bt} {bj:bp b5} {c:bv (bo×Value)} (d:Iv (.int u) (.int .i64 b) bj 0=bn c):(IT a (.int .i64 b) bj).run P w=.ok c w:=by simp_all [bP,b1,bT,IT]
def ij {P:bQ} {w:bz} (c:P.underlying a=bn (.int u)) (b:bA) (e:bo) (d:bt):(Kg b (e+1) a (.int .i64 d)).run P w=.ok () w:=by simp[Kg,bP,b1 c]
theorem eK.find (j:eK M w t b l c bj L) (v:P.underlying a=bn (.int u)) (d:bt):(eE l d=bq/\(∀o∈L,o.1≠d)/\∀f,(IT a (.int .i64 d) bj.toList).run P f=.ok bq f)\/∃h m i g,eE l d=bn i/\L[h]?=bn (d,m,i)/\g.length=t.size/\bj[h]?=bn ⟨.int .i64 d,aN t g,m⟩/\al M w t g i []/\∀f,(IT a (.int .i64 d) bj.toList).run P f=.ok (bn (h,aN t g)) f:=by
 by_cases k:d∈L.map (·.1)
 ·obtain⟨h,q,r,s,B⟩:=vb (kd:=u) d bj.toList _ 0 j.keys k;rw[gH] at r;obtain⟨⟨C,m,i⟩,n,rfl⟩:=cF.1 r;obtain⟨g,x,p,y⟩:=j.e h _ n;rw[pd,p] at s;cases s;refine .inr ⟨h,m,i,g,j.iL.mem (hK n),n,x,p,y,λf=>s5 v ?_⟩;grind
 refine .inl ⟨?_,λo A q=>k (c9.2 ⟨o,A,q⟩),λf=>s5 v (va d _ _ 0 j.keys k)⟩;cases z:eE l d with
 |none=>rfl
 |some i=>exact absurd (j.iL.keys.mem_iff.2 (c9.2 ⟨_,qa z,br⟩)) k
def eK.empty (M:aZ) (t:af) (a:w.heap[b]?=bn (.map #[] 0)):eK M w t b [] 0 #[] []:=
 ⟨⟨.nil,.refl _,.nil,aa⟩,a,br,aa⟩
def mr {α:Type} (L:bp (bt×bo×α)) (a:bt) (d:α) (c:bo):bp (bt×bo×α)×bo:=
 if a∈L.map (·.1) then(L.map λb=>if b.1=a then(a,b.2.1,d) else b,c) else(L++[(a,c,d)],c+1)
theorem wX {α:Type} {c:bt} {g:α}:∀{b:bp (bt×α)},(b.map (·.1)).Nodup->c∈b.map (·.1)->(b.map λd=>if d.1=c then(c,g) else d).Perm ((c,g)::fo b c)
 |[],_,e=>by cases e
 |(a,u)::b,e,j=>by
  simp only[fm,gW] at e;simp only[fm];by_cases h:a=c
  ·subst h;rw[bc br];have i:(b.map λd=>if d.1=a then(a,g) else d)=b:=by
    conv=>rhs;rw[<-List.map_id b]
    refine hf λd k=>?_;grind
   have f:fo ((a,u)::b) a=b:=(by unfold fo;rw[kp,a8 aa,iU];grind);rw[i,f]
  rw[a8 h];have f:fo ((a,u)::b) c=(a,u)::fo b c:=(by simp_all [kp,bc,fo]);rw[f];refine((wX e.2 ?_).cons _).trans (.swap _ _ _);grind
theorem fZ.put {α:Type} {L:bp (bt×bo×α)} {l:bp (bt×α)} {c:bo} (e:fZ L l c) (d:bt) (g:α):fZ (mr L d g c).1 (ho l d g) (bif (eE l d).isSome then c else c+1)/\(mr L d g c).2=(bif (eE l d).isSome then c else c+1):=by
 have i:(eE l d).isSome=bI (d∈L.map (·.1)):=by
  by_cases h:d∈L.map (·.1)
  ·obtain⟨a,f,rfl⟩:=c9.1 h;rw[e.mem f,decide_eq_true h];rfl
  rw[Kh h];cases i:eE l d with
  |none=>rfl
  |some v=>exact absurd (e.keys.mem_iff.2 (c9.2 ⟨_,qa i,br⟩)) h
 rw[i];unfold mr;have n:((L.map λa=>(a.1,a.2.2)).filter λa=>bI (a.1≠d)).Perm (fo l d):=e.2.1.filter _;by_cases h:d∈L.map (·.1)
 ·rw[bc h,decide_eq_true h];refine⟨⟨sz e.1,?_,?_,?_⟩,br⟩
  ·have ak:((L.map λa=>if a.1=d then(d,a.2.1,g) else a).map λa=>(a.1,a.2.2))=(L.map λa=>(a.1,a.2.2)).map λa=>if a.1=d then(d,g) else a:=by
    simp only[Iu];refine hf λa _=>?_;grind
   show((L.map λa=>if a.1=d then(d,a.2.1,g) else a).map λa=>(a.1,a.2.2)).Perm _;rw[ak];refine(wX ?_ ?_).trans ((n.cons _).trans (sy e.1).symm)
   ·rw[Iu];exact e.nJ
   grind
  ·have ak:((L.map λa=>if a.1=d then(d,a.2.1,g) else a).map λa=>a.2.1)=L.map λa=>a.2.1:=by
    grind [H7,Iu]
   show((L.map λa=>if a.1=d then(d,a.2.1,g) else a).map λa=>a.2.1).Nodup;rw[ak];exact e.2.2.1
  intro a f;obtain⟨p,o,rfl⟩:=c9.1 f;have:=e.2.2.2 p o;grind
 rw[a8 h,Kh h];refine⟨⟨sz e.1,?_,?_,?_⟩,br⟩
 ·have j:fo l d=l:=by
   unfold fo;rw[iU];intro a f;simp only[decide_eq_true_eq];rintro rfl;exact h (e.keys.mem_iff.2 (c9.2 ⟨a,f,br⟩))
  have:=sy (k:=d) (v:=g) e.1;rw[j] at this;refine List.Perm.trans ?_ this.symm;show((L++[(d,c,g)]).map λa=>(a.1,a.2.2)).Perm _;rw[Ji];exact List.perm_append_comm.trans ((e.2.1).cons _)
 ·show((L++[(d,c,g)]).map λa=>a.2.1).Nodup;rw[Ji,gI];refine⟨e.2.2.1,aa,λq m b s r=>?_⟩;obtain⟨a,f,rfl⟩:=c9.1 m;have:=e.2.2.2 a f;grind
 intro a f;rcases fY.1 f with f|f
 ·have:=e.2.2.2 a f;grind
 grind
theorem u6 {α:Type} {h:bt}:∀{b:bp α} (a:α->bt) {f:bo} {d:α},(b.map a).Nodup->b[f]?=bn d->a d=h->b.eraseIdx f=b.filter λi=>bI (a i≠h)
 |[],a,f,d,_,c,_=>by grind
 |x::b,a,0,d,e,c,g=>by simp only[fe,aV] at c;subst c;simp only[fm,gW] at e;rw[List.eraseIdx_cons_zero,kp,a8 ab,iU.2];grind
 |x::b,a,f+1,d,e,c,g=>by simp only[m2] at c;simp only[fm,gW] at e;rw[List.eraseIdx_cons_succ,kp,bc,u6 a e.2 c g];grind
def fZ.del {α:Type} {L:bp (bt×bo×α)} {l:bp (bt×α)} {c:bo} (b:fZ L l c) (d:bt):fZ (L.filter λa=>bI (a.1≠d)) (fo l d) c:=by
 refine⟨AK b.1,?_,?_,λa e=>b.2.2.2 a (fr.1 e).1⟩
 ·have:=b.2.1.filter (λa=>bI (a.1≠d));rw[List.filter_map] at this;exact this
 exact b.2.2.1.sublist (List.filter_sublist.map _)
def al.wm (a:eK M w t b l c bj L):al M w (.mp t) [.map (bn b)] (bn (l,c)) [b]:=⟨b,bj,L,br,br,a.iL,hR.2 a.h,a.n,a.e⟩
def al.wl {a:ei} (d:al M w (.mp t) g (bn (l,c)) a):∃b bj L,g=[.map (bn b)]/\a=[b]/\eK M w t b l c bj L:=by obtain⟨b,bj,L,e,f,h,i,j,k⟩:=d;exact⟨b,bj,L,e,f,h,hR.1 i,j,k⟩
def al.E7 {d:gJ} {a:ei} (e:al M w (.bh d t) g (bn (l,c)) a):∃b bj L,g=[.map (bn b)]/\a=[]/\M d b/\eK M w t b l c bj L:=by obtain⟨b,bj,L,f,h,i,n,j,k,m⟩:=e;exact⟨b,bj,L,f,h,n,i,hR.1 j,k,m⟩
def de (w:bz) (b:bo) (bj:bN b5) (c:bo):World:={w with heap:=w.heap.setIfInBounds b (.map bj c)}
theorem ik (a:w.heap[b]?=bn (.map bj c)):(de w b m f).heap[b]?=bn (.map m f):=by grind [JK,de]
theorem o6 {a:bo} (c:f≠b):(de w b m a).heap[f]?=w.heap[f]?:=by grind [Array.getElem?_setIfInBounds_ne,de]
theorem xy:(de w b m f).heap.size=w.heap.size:=by simp[de]
theorem Ex {es':bN b5} {c':bo} (d:w.heap[b]?=bn (.map bj c)) (a:b6):(de w b es' c').cell? a=w.cell? a:=by grind [Ka,o6,ik,Ii]
theorem Ey {es':bN b5} {c':bo} (d:w.heap[b]?=bn (.map bj c)) (a:b6):(de w b es' c').frozen? a=w.frozen? a:=by grind [Kb,o6,ik,Jj]
def qB {a:bo} (c:f≠b):aP w (de w b m a) f:=.of_heap (o6 c)
theorem eK.update (f:eK M w t b l c bj L) {J:bC} (y:P.underlying N=bn (.map a J)) (E:P.underlying a=bn (.int u)) (d:bt) {o:t.den} (ap:g.length=t.size) (ci:al M w t g o []):∃x K,(HX N (.map (bn b)) (.int .i64 d) (aN t g)).run P w=.ok () (de w b x (bif (eE l d).isSome then c else c+1))/\(∀{s:aZ},(∀r d,M r d->s r d/\d≠b)->s.t=M.t->eK s (de w b x (bif (eE l d).isSome then c else c+1)) t b (ho l d o) (bif (eE l d).isSome then c else c+1) x K)/\gr w (de w b x (bif (eE l d).isSome then c else c+1)) b:=by
 have bl:∀{s:aZ} {x:bN b5} {O:bo},(∀r d,M r d->s r d/\d≠b)->s.t=M.t->∀{g:ea} {o:t.den},al M w t g o []->al s (de w b x O) t g o []:=
  λz y _ _ ce=>ce.mono (λr d C=>⟨(z r d C).1,qB (z r d C).2⟩) aa
 obtain⟨q,cv⟩:=f.iL.put d o;rcases f.find (P:=P) E d with⟨D,G,H⟩|⟨B,d0,d1,co,D,G,H,ad,cs,am⟩
 ·rw[D] at q|-;have C:d∉L.map (·.1):=λdl=>ab;simp only[JL,cq] at q|-;have ak:(mr L d o c).1=L++[(d,c,o)]:=(by simp_all [a8,mr]);rw[ak] at q;refine⟨bj.push ⟨.int .i64 d,aN t g,c⟩,L++[(d,c,o)],?_,λz y=>⟨q,ik f.h,by simp[f.n],λm k p=>?_⟩,?_⟩
  ·simp only[HX,bP,b1 y,bT,run_getObj_map f.h,ij E,H];exact jq f.h
  ·rcases gw m L.length with F|F
   ·rw[kq F] at p;obtain⟨U,R,S,T⟩:=f.e m k p;grind
   rw[kr F] at p;have a0:m-L.length=0:=ab;rw[a0] at p;simp only[fe,aV] at p;subst p;exact⟨g,ap,by rw[Array.getElem?_push,bc (by rw[f.n];omega)],bl z y ci⟩
  intro V Q A;rw[hR.2 f.h] at A;cases A;refine⟨_,_,hR.2 (ik f.h),Nat.le_succ _,λm v av an=>?_⟩;grind
 rw[D] at q|-;have C:d∈L.map (·.1):=c9.2 ⟨_,hK G,br⟩;simp only[Jk,bK] at q|-;have ak:(mr L d o c).1=L.map λk=>if k.1=d then(d,k.2.1,o) else k:=by simp_all [bc,mr]
 rw[ak] at q;have ds:∀(m:bo) (k:bt×bo×t.den),L[m]?=bn k->k.1=d->m=B:=λm k p v=>(by have bs:=f.iL.nJ;have a3:m<(L.map (·.1)).length:=ab;have:=JM a3 bs (i:=m) (j:=B);grind);refine⟨bj.modify B λv=>{v with key:=.int .i64 d,val:=aN t g},L.map λk=>if k.1=d then(d,k.2.1,o) else k,?_,λz y=>⟨q,ik f.h,by simp[f.n],λm k p=>?_⟩,?_⟩
 ·have a4:(Iw (((bj[B]?).map (·.key)).getD (.int .i64 d)) (.int .i64 d)).run P w=.ok (.int .i64 d) w:=by
   rw[ad];simp[Iw,JN]
  simp only[HX,bP,b1 y,bT,run_getObj_map f.h,ij E,am,a4];exact jq f.h
 ·rw[gH] at p;obtain⟨I,bx,rfl⟩:=cF.1 p;by_cases v:I.1=d
  ·grind
  rw[a8 v];obtain⟨U,R,S,T⟩:=f.e m I bx;grind
 intro V Q A;rw[hR.2 f.h] at A;cases A;refine⟨_,_,hR.2 (ik f.h),eL _,λm v av an=>?_⟩;grind
theorem eK.delete (d:eK M w t b l c bj L) {K:bC} (q:P.underlying N=bn (.map a K)) (x:P.underlying a=bn (.int u)) (f:bt) (av:bC) (Q:bC):∃m O,(JO #[N,Q] av #[.map (bn b),.int .i64 f]).run P w=.ok (.tuple #[]) (de w b m c)/\(∀{i:aZ},(∀g f,M g f->i g f/\f≠b)->i.t=M.t->eK i (de w b m c) t b (fo l f) c m O)/\gr w (de w b m c) b:=by
 have a4:∀{i:aZ} {m:bN b5} {R:bo},(∀g f,M g f->i g f/\f≠b)->i.t=M.t->∀{C:ea} {J:t.den},al M w t C J []->al i (de w b m R) t C J []:=
  λs q _ _ ap=>ap.mono (λg f I=>⟨(s g f I).1,qB (s g f I).2⟩) aa
 rcases d.find (P:=P) x f with⟨V,v,F⟩|⟨p,bs,bx,a0,V,v,F,G,a3,ad⟩
 ·have ak:fo l f=l:=by
   unfold fo;rw[iU];intro k bl;simp only[decide_eq_true_eq];grind [v9]
  refine⟨bj,L,?_,λs q=>⟨by rw[ak];exact d.iL,ik d.h,d.n,λj k o=>?_⟩,?_⟩
  ·simp only[JO,bP,b1 q,bT,run_getObj_map d.h,ij x,F,JP,fe,m2];rw[jq d.h];rfl
  ·obtain⟨D,z,A,B⟩:=d.e j k o;grind
  intro U S r;rw[hR.2 d.h] at r;cases r;exact⟨_,_,hR.2 (ik d.h),eL _,λj E H _=>⟨j,E,H,br,br⟩⟩
 have T:L.eraseIdx p=L.filter λk=>bI (k.1≠f):=u6 (·.1) d.iL.nJ v br;refine⟨bj.eraseIdxIfInBounds p,L.eraseIdx p,?_,λs q=>⟨by rw[T];exact d.iL.del f,ik d.h,?_,λj k o=>?_⟩,?_⟩
 ·simp only[JO,bP,b1 q,bT,run_getObj_map d.h,ij x,ad,JP,fe,m2];rw[jq d.h];rfl
 ·have y:p<bj.size:=(iR.1 G).1;have am:p<L.length:=(e5.1 v).1;rw[Ki,dif_pos y,Array.size_eraseIdx,List.length_eraseIdx,bc am,d.n]
 ·have y:p<bj.size:=(iR.1 G).1;rw[List.getElem?_eraseIdx] at o;rw[Ki,dif_pos y];split at o
  ·rename_i an;obtain⟨D,z,A,B⟩:=d.e j k o;grind
  rename_i an;obtain⟨D,z,A,B⟩:=d.e (j+1) k o;grind
 intro U S r;rw[hR.2 d.h] at r;cases r;refine⟨_,_,hR.2 (ik d.h),eL _,λj E H _=>?_⟩;grind
end
end
section
section
variable {E:cG} {C:a6} {st:aq} {a:Act} {w:bz} {I:aW} {rt:bo->ea} {fp:bo->ei} {o:bJ} {Q:ag->bp (bo×aj)->Prop}
def gA (tt:bp (bC×af)) (b:bC):bv af:=match ah tt b with|some (.mp a)=>bn a|some (.bh _ a)=>bn a|_=>bq
theorem gA.ok {c:bC} {f:af} (d:gA E.tt c=bn f):∃a b,E.P.underlying c=bn (.map a b)/\E.P.underlying a=bn (.int .i64)/\bi E.P f b:=by
 unfold gA at d;split at d
 ·rename_i k e;cases d;obtain⟨j,a,b,_,_,_,_,g,h,i⟩:=E.ok c _ e;grind
 ·rename_i l k e;cases d;obtain⟨j,a,b,_,_,_,_,g,h,i⟩:=E.ok c _ e;grind
 grind
def nH (tt:bp (bC×af)) (d:bp (bo×af)) (e:bp (bo×aj)) (a:bo) (c:bC):eX:=
 match gA tt c,ah d a,ah e a with
 |some f,bn (.mp b),bq=>bif aD f b then .bk (.ref a []) [(a,⟨.mp b,bn ([],0)⟩)] else .bad
 |_,_,_=>.bad
theorem A3 (f:aK C st a.tmps w I rt fp) (l:o.op=.makeMap N bq) (c:(nH E.tt j st.h b N).K Q):Yields E C st a w I rt fp o Q:=by
 unfold nH at c;split at c
 case h_2=>exact c.elim
 rename_i m d p q g;cases e:aD m d with
 |false=>rw[e] at c;exact c.elim
 |true=>
 rw[e] at c;have i:(w.alloc (.map #[] 0)).heap[w.heap.size]?=bn (.map #[] 0):=(by show(w.heap.push _)[w.heap.size]?=_;grind);refine⟨.map (bn w.heap.size),w.alloc (.map #[] 0),I,λ_=>[.map (bn w.heap.size)],λ_=>[w.heap.size],.ref b [],[(b,⟨.mp d,bn ([],0)⟩)],?_,.alloc w _,λ_ c=>c,λ_ c=>.inl c,.one g (al.wm (eK.empty _ _ i)) aa (λn e=>?_),?_,c⟩
 ·simp[bF,l,Instr.makeMap,newObj,Sem.run]
 ·simp only[hg] at e;subst e;exact⟨eL _,aa,λc=>by have:=f.ib _ (.inl c);omega⟩
 have k:ah ([(b,(⟨.mp d,bn ([],0)⟩:aj))]++st.h) b=bn ⟨.mp d,bn ([],0)⟩:=(by rw[JG,aU,bc br]);refine .ref (t:=⟨.mp d,bn ([],0)⟩) (τ':=.mp d) (loc:=bq) (cs:=[.map (bn w.heap.size)]) k ?_;have:bg [(b,(⟨.mp d,bn ([],0)⟩:aj))] (λ_=>[Ix (bn w.heap.size)]) rt b=[.map (bn w.heap.size)]:=(by simp[bg,aU]);grind [ar.here]
def p9 (a:af) (c:bv (bp (bt×a.den)×bo)) (d:a.den) (b:bt):bA->ag
 |true=>.bb [.val a ((hQ c b).getD d),.val .bool (hQ c b).isSome]
 |false=>.val a ((hQ c b).getD d)
def ml (tt:bp (bC×af)) (j:bp (bo×aj)) (i:bC) (k c:ag) (f:bA):eX:=
 match gA tt i,c with
 |some h,.val (.int .i64) c=>match k with
  |.val (.bh l a) b=>match hd a with
   |some d=>bif aD h a then .bk (p9 a b d c f) [] else .bad
   |none=>.bad
  |.ref id g=>match ah j id with
   |some e=>match bm e.1 g with
    |some (.mp a)=>match hd a with
     |some d=>bif aD h a then .part (bv (bp (bt×a.den)×bo)) (λb=>aX e.1 e.2 g (.mp a) b) (λb=>(p9 a b d c f,[])) else .bad
     |none=>.bad
    |_=>.bad
   |none=>.bad
  |_=>.bad
 |_,_=>.bad
theorem vZ {l k:bC} (s:E.P.underlying l=bn (.map N k)) (f:E.P.underlying N=bn (.int .i64)) (M:bi E.P d k) {H:bH} {e:bA} (R:o.op=.lookup l c H e) {n:bt} (Q:a.eval H=.int .i64 n) {v:d.den} (T:hd d=bn v) {m:bv (bp (bt×d.den)×bo)} (g:(m=bq/\a.eval c=.map bq)\/∃p t q z y,m=bn (t,q)/\a.eval c=.map (bn p)/\eK (az I C.B) w d p t q z y):∃u,(bF a.eval o).run E.P w=.ok (.value u) w/\∀A:bp (bo×aj),aJ (az I C.B) w A rt fp (p9 d m v n e) u:=by
 obtain⟨G,x,V,ad,aA,aH⟩:=mQ M T;have F:(cr k).run E.P w=.ok x w:=(by simp[cr,cC,V,ad]);have U:∃i,al (az I C.B) w d i ((hQ m n).getD v) []/\(Jl l (a.eval c) (.int .i64 n) e).run E.P w=.ok (if e then .tuple #[aN d i,.bool (hQ m n).isSome] else aN d i) w:=by
  rcases g with⟨rfl,g⟩|⟨p,t,q,z,y,rfl,g,r⟩
  ·refine⟨x.cells.toList,by grind [hQ],?_⟩;rw[g];have O:(IT N (.int .i64 n) []).run E.P w=.ok bq w:=s5 f br;simp only[Jl,bP,b1 s,bT,b9,ij f,O,F];rw[<-aA];cases e<;>rfl
  rw[g];rcases r.find (P:=E.P) f n with⟨b,_,K⟩|⟨a0,a3,a4,J,b,_,an,ap,av,L⟩
  ·refine⟨x.cells.toList,by grind [hQ],?_⟩;simp only[Jl,bP,b1 s,bT,b9,run_getObj_map r.h,ij f,K,F];grind [JL,hQ]
  refine⟨J,by grind [hQ],?_⟩;simp only[Jl,bP,b1 s,bT,b9,run_getObj_map r.h,ij f,L];grind [Jk,hQ]
 obtain⟨i,D,S⟩:=U;refine⟨_,by simp only[bF,R,Q,bP,S];rfl,λA=>?_⟩;cases e with
 |false=>exact .val D
 |true=>
  refine .bb aa (λG am u b j=>?_)
  match G with
  |0=>simp at b j;subst b;subst j;exact .val D
  |1=>simp at b j;subst b;subst j;exact .bool _
  |n+2=>grind
theorem al.sC {b:bv (bp (bt×d.den)×bo)} (e:al t w (.mp d) g b l):(b=bq/\g=[.map bq]/\l=[])\/∃a f c i h,b=bn (f,c)/\g=[.map (bn a)]/\l=[a]/\eK t w d a f c i h:=by
 cases b with
 |none=>exact .inl ⟨br,e.2,e.1⟩
 |some j=>
  obtain⟨f,c⟩:=j;obtain⟨a,i,h,k,m,n⟩:=e.wl;grind
theorem al.xO {j:gJ} {a:bv (bp (bt×d.den)×bo)} (i:al t w (.bh j d) g a l):(a=bq/\g=[.map bq])\/∃b e c h f,a=bn (e,c)/\g=[.map (bn b)]/\eK t w d b e c h f:=by
 cases a with
 |none=>exact .inl ⟨br,i.2⟩
 |some k=>
  obtain⟨e,c⟩:=k;obtain⟨b,h,f,m,_,_,n⟩:=i.E7;grind
theorem AH (s:aK C st a.tmps w I rt fp) {j:bH} {H:bA} (D:o.op=.lookup N c j H) (b:(ml E.tt st.h N (aw st.g c) (aw st.g j) H).K Q):Yields E C st a w I rt fp o Q:=by
 have f:=s.aw c;have t:=s.aw j;unfold ml at b;split at b
 case h_2=>exact b.elim
 rename_i O bx R P;obtain⟨a0,a3,J,L,M⟩:=gA.ok R;rw[P] at t;generalize B:a.eval j=bs at t;cases t with|val ad=>
 obtain⟨_,rfl⟩:=ad;split at b
 ·rename_i av A x r;split at b
  case h_2=>exact b.elim
  rename_i ap u;cases e:aD O A with
  |false=>rw[e] at b;exact b.elim
  |true=>
  rw[e] at b;rw[r] at f;generalize i:a.eval c=an at f;cases f with|val V=>
  obtain⟨am,y,z⟩:=vZ (rt:=rt) (fp:=fp) (I:=I) (C:=C) (E:=E) (w:=w) (a:=a) (m:=x) J L (M.lay e) D B u (by
   rcases V.xO with⟨ak,d⟩|⟨l,v,n,q,k,ak,d,p⟩
   ·exact .inl ⟨ak,by rw[i,d];rfl⟩
   exact .inr ⟨l,v,n,q,k,ak,by rw[i,d];rfl,p⟩)
  exact .pure y (z _) b
 ·rename_i id ce r;split at b
  case h_2=>exact b.elim
  rename_i ci F;split at b
  case h_2=>exact b.elim
  rename_i A bl;split at b
  case h_2=>exact b.elim
  rename_i ap u;cases e:aD O A with
  |false=>rw[e] at b;exact b.elim
  |true=>
  rw[e] at b;obtain⟨x,S,b⟩:=b;rw[r] at f;generalize i:a.eval c=an at f;cases f with|ref G T=>
  rw[F] at G;cases G;obtain⟨rfl,a4,U,_⟩:=s.fF F S T;obtain⟨am,y,z⟩:=vZ (rt:=rt) (fp:=fp) (I:=I) (C:=C) (E:=E) (w:=w) (a:=a) (m:=x) J L (M.lay e) D B u (by
   rcases U.sC with⟨ak,d,_⟩|⟨l,v,n,q,k,ak,d,_,p⟩
   ·exact .inl ⟨ak,by rw[i,d];rfl⟩
   exact .inr ⟨l,v,n,q,k,ak,by rw[i,d];rfl,p⟩)
  exact .pure y (z _) b
 exact b.elim
def mn (tt:bp (bC×af)) (f:bp (bo×aj)) (e:bC) (g:ag):eX:=
 match gA tt e with
 |none=>.bad
 |some _=>match g with
  |.val (.bh _ b) a=>.bk (.val (.int .i64) (nF (α:=b.den) a)) []
  |.ref id d=>match ah f id with
   |some c=>match bm c.1 d with
    |some (.mp b)=>.part (bv (bp (bt×b.den)×bo)) (λa=>aX c.1 c.2 d (.mp b) a) (λa=>(.val (.int .i64) (nF a),[]))
    |_=>.bad
   |none=>.bad
  |_=>.bad
def wj {q r:bC} (l:E.P.underlying N=bn (.map q r)) (p:o.op=.call {callee:=.builtin .len,args:=#[c],argTypes:=#[N]}) {m:bv (bp (bt×d.den)×bo)} (b:(m=bq/\a.eval c=.map bq)\/∃f e g i k,m=bn (e,g)/\a.eval c=.map (bn f)/\eK (az I C.B) w d f e g i k):(bF a.eval o).run E.P w=.ok (.value (.int .i64 (nF m))) w:=by
 rcases b with⟨rfl,b⟩|⟨f,e,g,i,k,rfl,b,j⟩
 ·simp[bF,p,en,invoke,ep,b,JD,b1 l,goInt,nF]
 have s:i.size=e.length:=(by rw[j.n,j.iL.len]);simp only[bF,p,en,invoke,ep,bP,b9,bT,Jm,fm,Jn,b,JD,JP,fe,b1 l,run_getObj_map j.h,goInt,nF,s]
theorem A5 (s:aK C st a.tmps w I rt fp) (t:o.op=.call {callee:=.builtin .len,args:=#[c],argTypes:=#[N]}) (b:(mn E.tt st.h N (aw st.g c)).K Q):Yields E C st a w I rt fp o Q:=by
 have e:=s.aw c;unfold mn at b;split at b
 ·exact b.elim
 rename_i S y;obtain⟨H,J,x,P,R⟩:=gA.ok y;generalize f:a.eval c=T at e;split at b
 ·rename_i G F r p;rw[p] at e;cases e with|val D=>
  refine .pure (wj (I:=I) (C:=C) (m:=r) x t ?_) (.int _ _) b;rcases D.xO with⟨ak,d⟩|⟨j,q,k,n,i,ak,d,l⟩
  ·exact .inl ⟨ak,by rw[f,d];rfl⟩
  exact .inr ⟨j,q,k,n,i,ak,by rw[f,d];rfl,l⟩
 ·rename_i id O p;split at b
  case h_2=>exact b.elim
  rename_i U u;split at b
  case h_2=>exact b.elim
  rename_i F M;obtain⟨r,z,b⟩:=b;rw[p] at e;cases e with|ref v A=>
  rw[u] at v;cases v;obtain⟨rfl,L,B,_⟩:=s.fF u z A;refine .pure (wj (I:=I) (C:=C) (m:=r) x t ?_) (.int _ _) b;rcases B.sC with⟨ak,d,_⟩|⟨j,q,k,n,i,ak,d,_,l⟩
  ·exact .inl ⟨ak,by rw[f,d];rfl⟩
  exact .inr ⟨j,q,k,n,i,ak,by rw[f,d];rfl,l⟩
 exact b.elim
end
end
section
section
variable {E:cG} {C:a6} {st:aq} {a:Act} {w:bz} {I:aW} {rt:bo->ea} {fp:bo->ei} {o:bJ} {Q:ag->bp (bo×aj)->Prop}
def qk (b c d:ag):eX:=
 match b with
 |.val .bool b=>.part bA (λa=>b=a) (λa=>(match a with|true=>c|false=>d,[]))
 |_=>.bad
theorem Cn (e:aK C st a.tmps w I rt fp) {d:bH} (m:o.op=.pick c h d) (b:(qk (aw st.g c) (aw st.g h) (aw st.g d)).K Q):Yields E C st a w I rt fp o Q:=by
 have f:=e.aw c;unfold qk at b;split at b
 case h_2=>exact b.elim
 rename_i i j;obtain⟨i,rfl,b⟩:=b;rw[j] at f;generalize n:a.eval c=l at f;cases f with|val k=>
 obtain⟨_,rfl⟩:=k;cases i
 ·exact .pure (v:=a.eval d) (by simp_all [bF,aN,asBool]) (e.aw d) b
 exact .pure (v:=a.eval h) (by simp_all [bF,aN,asBool]) (e.aw h) b
def te (e:UnOp) (c:ag):eX:=
 match e,c with
 |.neg,.val (.int a) c=>.part bt (λb=>a.wrap (0-c)=b) (λb=>(.val (.int a) b,[]))
 |.xor,.val (.int a) c=>.part bt (λb=>a.wrap (ch a.bits (if a.signed then-1 else a.max)^^^ch a.bits c).toNat=b) (λb=>(.val (.int a) b,[]))
 |.not,.val .bool d=>.bk (.val .bool (!d)) []
 |_,_=>.bad
theorem EU (j:aK C st a.tmps w I rt fp) {i:UnOp} (p:o.op=.unOp i N c) (b:(te i (aw st.g c)).K Q):Yields E C st a w I rt fp o Q:=by
 have d:=j.aw c;unfold te at b;generalize q:a.eval c=m at d;split at b
 ·rename_i f k e;obtain⟨l,rfl,b⟩:=b;rw[e] at d;cases d with|val h=>
  obtain⟨_,rfl⟩:=h;exact .pure (v:=.int f _) (by simp_all [bF,aN,JQ,Op.intArith]) (.int f _) b
 ·rename_i f k e;obtain⟨l,rfl,b⟩:=b;rw[e] at d;cases d with|val h=>
  obtain⟨_,rfl⟩:=h;exact .pure (v:=.int f _) (by simp_all [bF,aN,JQ,Op.intBits]) (.int f _) b
 ·rename_i n e;rw[e] at d;cases d with|val h=>
  obtain⟨_,rfl⟩:=h;exact .pure (v:=.bool _) (by simp_all [bF,aN,JQ]) (.bool _) b
 exact b.elim
def pC (tt:bp (bC×af)) (e d:bC) (a:ag):eX:=
 match ah tt e,ah tt d,a with
 |some (.int _),bn (.int c),.val (.int _) a=>.part bt (λb=>c.wrap a=b) (λb=>(.val (.int c) b,[]))
 |_,_,_=>.bad
theorem yT (k:aK C st a.tmps w I rt fp) {e:bC} (n:o.op=.convert e N c) (b:(pC E.tt e N (aw st.g c)).K Q):Yields E C st a w I rt fp o Q:=by
 have d:=k.aw c;unfold pC at b;split at b
 case h_2=>exact b.elim
 rename_i q f r s i j h;obtain⟨x,rfl,b⟩:=b;generalize p:a.eval c=m at d;rw[h] at d;cases d with|val l=>
 obtain⟨_,rfl⟩:=l;obtain⟨_,_,_,_,_,t⟩:=E.ok e _ i;obtain⟨_,_,_,_,_,u⟩:=E.ok N _ j;exact .pure (v:=.int f _) (by simp_all [b1,bF,aN,convert,Conv.intToInt]) (.int f _) b
def ln (c:ByteArray) (a:bt):bv bt:=if 0<=a then(c[a.toNat]?).map λb=>(b.toNat:bt) else bq
def vV:ByteArray:=⟨#[0,1,2,2,3,3,3,3,4,4,4,4,4,4,4,4,5,5,5,5,5,5,5,5,5,5,5,5,5,5,5,5,6,6,6,6,6,6,6,6,6,6,6,6,6,6,6,6,6,6,6,6,6,6,6,6,6,6,6,6,6,6,6,6,7,7,7,7,7,7,7,7,7,7,7,7,7,7,7,7,7,7,7,7,7,7,7,7,7,7,7,7,7,7,7,7,7,7,7,7,7,7,7,7,7,7,7,7,7,7,7,7,7,7,7,7,7,7,7,7,7,7,7,7,7,7,7,7,8,8,8,8,8,8,8,8,8,8,8,8,8,8,8,8,8,8,8,8,8,8,8,8,8,8,8,8,8,8,8,8,8,8,8,8,8,8,8,8,8,8,8,8,8,8,8,8,8,8,8,8,8,8,8,8,8,8,8,8,8,8,8,8,8,8,8,8,8,8,8,8,8,8,8,8,8,8,8,8,8,8,8,8,8,8,8,8,8,8,8,8,8,8,8,8,8,8,8,8,8,8,8,8,8,8,8,8,8,8,8,8,8,8,8,8,8,8,8,8,8,8,8,8,8,8,8,8]⟩
def qD (tt:bp (bC×af)) (d:bC) (f e:ag):eX:=
 match ah tt d,f,e with
 |some .str,.aS (.string c),.val (.int _) b=>.part bt (λa=>ln c b=bn a) (λa=>(.val (.int .u8) a,[]))
 |some .str,.val .str c,.val (.int _) b=>.part bt (λa=>ln c b=bn a) (λa=>(.val (.int .u8) a,[]))
 |_,_,_=>.bad
theorem EK (x:aK C st a.tmps w I rt fp) (G:o.op=.index N h c) (l:(qD E.tt N (aw st.g h) (aw st.g c)).K Q):Yields E C st a w I rt fp o Q:=by
 have j:=x.aw h;have i:=x.aw c;have u:∀(f:ByteArray) (k:ca) (e b:bt),ah E.tt N=bn .str->a.eval h=.string f->a.eval c=.int k e->ln f e=bn b->Q (.val (.int .u8) b) []->Yields E C st a w I rt fp o Q:=by
  intro f k e b m q p d n;obtain⟨_,_,_,_,_,y⟩:=E.ok N _ m;refine .pure (v:=.int .u8 b) ?_ (.int .u8 b) n;unfold ln at d;split at d
  case isFalse=>cases d
  rename_i D;obtain⟨B,F,rfl⟩:=cF.1 d;simp_all [b1,bF,Instr.index,asIntOf]
 unfold qD at l;split at l
 ·rename_i f k e m q p;obtain⟨b,d,n⟩:=l;rw[q] at j;rw[p] at i;generalize s:a.eval h=z at j;generalize r:a.eval c=y at i;cases j;cases i with|val t=>
  obtain⟨_,rfl⟩:=t;exact u f k e b m s r d n
 ·rename_i f k e m q p;obtain⟨b,d,n⟩:=l;rw[q] at j;rw[p] at i;generalize s:a.eval h=z at j;generalize r:a.eval c=y at i;cases j with|val A=>
  obtain⟨_,rfl⟩:=A;cases i with|val t=>
  obtain⟨_,rfl⟩:=t;exact u f k e b m s r d n
 exact l.elim
def pN (d:ag) (c:bo):eX:=
 match d with
 |.bb b=>match b[c]? with
  |some a=>.bk a []
  |none=>.bad
 |_=>.bad
theorem zz (j:aK C st a.tmps w I rt fp) (q:o.op=.extract c b) (d:(pN (aw st.g c) b).K Q):Yields E C st a w I rt fp o Q:=by
 have f:=j.aw c;unfold pN at d;generalize r:a.eval c=n at f;split at d
 case h_2=>exact d.elim
 rename_i s i;split at d
 case h_2=>exact d.elim
 rename_i h l;rw[i] at f;cases f with|bb p k=>
 rename_i e;have m:b<e.size:=ab;have:e[b]?=bn e[b]:=n5 m;exact .pure (v:=e[b]) (by simp_all [bF,Instr.extract]) (k b h _ l this) d
def nI (c:bA) (a:ag):bp ag->eX
 |[]=>.bk a []
 |y::d=>match a,y with
  |.val (.int b) a,.val (.int e) y=>if b=e then(match c with|true=>nI c (.val (.int b) (if y>a then y else a)) d|false=>nI c (.val (.int b) (if y<a then y else a)) d) else .bad
  |_,_=>.bad
def qe (j:aK C st a.tmps w I rt fp) (m:bA):∀(e:dX) (i:ag) (f:Value),aJ (az I C.B) w st.h rt fp i f->(nI m i (e.map (aw st.g))).K Q->∃d c,((e.map a.eval).foldlM (match m with|true=>Builtin.max2|false=>Builtin.min2) f).run E.P w=.ok d w/\aJ (az I C.B) w st.h rt fp c d/\Q c []
 |[],i,f,k,b=>⟨f,i,br,k,b⟩
 |y::e,i,f,k,b=>by
  have l:=j.aw y;simp only[fm,nI] at b;generalize p:a.eval y=A at l;split at b
  case h_2=>exact b.elim
  rename_i q x v z r;split at b
  case isFalse=>exact b.elim
  rename_i s;subst s;rw[r] at l;cases k with|val t=>cases l with|val u=>
  obtain⟨_,rfl⟩:=t;obtain⟨_,rfl⟩:=u;cases m
  ·obtain⟨d,c,n,o,aA⟩:=qe j bw e _ _ (.int q _) b;refine⟨d,c,?_,o,aA⟩;simp only[fm,Kj,p,bP];exact n
  obtain⟨d,c,n,o,aA⟩:=qe j bu e _ _ (.int q _) b;refine⟨d,c,?_,o,aA⟩;simp only[fm,Kj,p,bP];exact n
def sk:ag->bA
 |.val _ _|.aS _|.aR _ _=>bu
 |_=>bw
def eA (tt:bp (bC×af)) (i:bp (bo×af)) (d:bp (bo×aj)) (b:bH->ag) (g:bo) (h:Op):eX:=
 match h with
 |.move a=>.bk (b a) []
 |.assign a=>bif sk (b a) then .bk (b a) [] else .bad
 |.pick f a n=>qk (b f) (b a) (b n)
 |.alloc c=>nc tt i d g c
 |.box c a=>ot tt d g c (b a)
 |.build c l=>oq tt b c l.toList
 |.buildSlice c e l=>ni tt i d b g c e l.toList
 |.load c a=>mj tt d c (b a)
 |.nilCheck a=>ms d (b a)
 |.binOp h c a n _=>match b a,b n with
  |.val .bool x,.val .bool y=>match ah tt c with
   |some .bool=>rf h (.val .bool x) (.val .bool y)
   |_=>.bad
  |.val (.int k) v,.val (.int s) e=>g0 h k v s e
  |_,_=>.bad
 |.unOp h _ a=>te h (b a)
 |.convert z g a=>pC tt z g (b a)
 |.makeSlice c t f=>mm tt i d g c (b t) (b f)
 |.slice c a u r bq=>mH tt d c (b a) (u.map b) (r.map b)
 |.fieldAddr c a e=>l0 tt d c (b a) e
 |.field c a e=>ns tt d c (b a) e
 |.indexAddr c a j=>ma tt d c (b a) (b j)
 |.index c a j=>qD tt c (b a) (b j)
 |.extract a e=>pN (b a) e
 |.call f=>match f.callee,f.args.toList,f.argTypes.toList with
  |.builtin .len,[a],[c]=>match ew tt c with
   |some _=>mh tt d c (b a)
   |none=>mn tt d c (b a)
  |.builtin .max,a::m,_=>nI bu (b a) (m.map b)
  |.builtin .min,a::m,_=>nI bw (b a) (m.map b)
  |_,_,_=>.bad
 |.makeMap c bq=>nH tt i d g c
 |.lookup c a k w=>ml tt d c (b a) (b k) w
 |.makeFunc (.func p) q o=>bif q.isEmpty then .bk (.aR p (o.toList.map b)) [] else .bad
 |_=>.bad
theorem zw (f:aK C st a.tmps w I rt fp) (c:(eA E.tt j st.h (aw st.g) b o.op).K Q):Yields E C st a w I rt fp o Q:=by
 unfold eA at c;split at c
 ·rename_i d e;exact .pure (v:=a.eval d) (by simp[bF,e]) (f.aw d) c
 ·rename_i d e;cases y:sk (aw st.g d) with
  |false=>rw[y] at c;exact c.elim
  |true=>rw[y] at c;exact .pure (v:=a.eval d) (by simp[bF,e]) (f.aw d) c
 ·grind [Cn]
 ·grind [x9]
 ·grind [yB]
 ·grind [yu]
 ·grind [yE]
 ·grind [AF]
 ·grind [Bc]
 ·rename_i am l d q an e;split at c
  ·rename_i J L r s;split at c
   ·rename_i H;refine tO f e (λ_ _ _ _=>?_) ab;exact(E.ok l _ H).choose_spec.2.2.2.2
   exact c.elim
  ·rename_i r s;refine tO f e (λJ L _ T=>?_) (by rw[r,s];exact c);grind
  exact c.elim
 ·grind [EU]
 ·grind [yT]
 ·grind [AP]
 ·grind [EA]
 ·grind [zC]
 ·grind [zE]
 ·grind [Aa]
 ·grind [EK]
 ·grind [zz]
 ·rename_i D e;obtain⟨P,m,A⟩:=D;simp only at c;split at c
  ·rename_i d l ak R;have k:m=#[d]:=ab;have S:A=#[l]:=ab;grind [A5,AC]
  ·rename_i d i ak;have k:m=(d::i).toArray:=ab;obtain⟨p,B,M,n,aA⟩:=qe (E:=E) f bu i _ _ (f.aw d) c;refine .pure (v:=p) ?_ n aA;simp only[bF,e,en,invoke,ep,bP,b9,bT,k,Builtin.max_];simp_all
  ·rename_i d i ak;have k:m=(d::i).toArray:=ab;obtain⟨p,B,M,n,aA⟩:=qe (E:=E) f bw i _ _ (f.aw d) c;refine .pure (v:=p) ?_ n aA;simp only[bF,e,en,invoke,ep,bP,b9,bT,k,Builtin.min_];simp_all
  exact c.elim
 ·grind [A3]
 ·grind [AH]
 ·rename_i G t F e;cases z:t.isEmpty with
  |false=>rw[z] at c;exact c.elim
  |true=>
   rw[z] at c;obtain rfl:t=#[]:=ab;refine .pure (v:=.func (.func G) #[] (F.map a.eval)) (by simp[bF,e,Instr.makeFunc]) (.aR aa (λad d O u x=>?_)) c;rw[gH] at u;rw[Array.getElem?_map] at x;obtain⟨q,U,rfl⟩:=cF.1 u;obtain⟨N,V,rfl⟩:=cF.1 x;obtain rfl:q=N:=ab;exact f.aw q
 exact c.elim
end
end
def a5 (b:bo) (a:ei):bA:=a.any λc=>bB c b
theorem ey:a5 b l=bu↔b∈l:=by grind [Kk,et,Kl,a5]
def ag.cD (a:ei) (b:ag):bA:=b.ids.any λc=>a5 c a
def ke:bp ax->bv (bp ax)
 |.unst::a=>(ke a).map λb=>.unst::b
 |.unn::_=>bq
 |.fst::_=>bn [.snd]
 |.snd::_=>bn [.fst]
 |_=>bq
def hW:bp ax->bp ax->bv (bp ax)
 |p,[]=>ke p
 |.idx _::p,.idx _::a|.deref::p,.deref::a|.unst::p,.unst::a|.unn::p,.unn::a|.fst::p,.fst::a|.snd::p,.snd::a=>hW p a
 |_,_=>bq
def pZ (a b:bp ax):bA:=eD a b||(hW a b).isSome
def xA:∀{p b:bp ax},ke p=bn b->eD p b=bu
 |.unst::p,b,a=>by obtain⟨d,c,rfl⟩:=cF.1 a;exact xA (p:=p) c
 |.fst::_,_,a=>by cases a;rfl
 |.snd::_,_,a=>by cases a;rfl
 |[],_,a|.idx _::_,_,a|.deref::_,_,a|.unn::_,_,a=>by cases a
def xz:∀{q p b:bp ax},hW p q=bn b->eD p (q++b)=bu
 |[],p,b,a=>by have c:ke p=bn b:=(by cases p<;>exact a);exact xA c
 |s::q,p,b,a=>by
  cases p with
  |nil=>cases s<;>cases a
  |cons d p=>cases s<;>cases d<;>first|(cases a;done)|exact xz (q:=q) (p:=p) a
def xB:∀{p g:bp ax} {τ j:af},bm τ p=bn j->ke p=bn g->∃(o:af) (m:bo),∀(h:bz) (c:Loc) (d:ea),∃k,ar h τ c d g o (c.map λf=>(f.1,f.2+m)) k
 |.unst::p,g,τ,j,e,a=>by
  obtain⟨q,l,rfl⟩:=cF.1 a;cases τ with
  |st n=>exact xB (p:=p) (τ:=n) e l
  |_=>cases e
 |.fst::p,g,τ,j,e,a=>by
  cases a;cases τ with
  |pr b i=>exact⟨i,b.size,λh c d=>⟨d.drop b.size,show ar h i _ _ [] i _ _ from ar.here⟩⟩
  |_=>cases e
 |.snd::p,g,τ,j,e,a=>by
  cases a;cases τ with
  |pr b i=>
   refine⟨b,0,λh c d=>⟨d.take b.size,?_⟩⟩;have:(c.map λf=>(f.1,f.2+0))=c:=ae;rw[this];exact show ar h b c (d.take b.size) [] b c _ from ar.here
  |_=>cases e
 |[],_,_,_,_,a|.idx _::_,_,_,_,_,a|.deref::_,_,_,_,_,a|.unn::_,_,_,_,_,a=>by cases a
theorem mG {m:bz}:∀{q p d:bp ax} {τ e:af} {i:Loc} {h:ea} {f:af} {j:Loc} {g:ea},bm τ p=bn e->hW p q=bn d->ar m τ i h q f j g->∃k,bm f k=bn e/\ke k=bn d
 |[],p,d,τ,e,i,h,f,j,g,c,b,a=>by obtain⟨rfl,_,_⟩:=ar.cO.1 a;have n:ke p=bn d:=(by cases p<;>exact b);grind
 |s::q,p,d,τ,e,i,h,f,j,g,c,b,a=>by
  cases p with
  |nil=>cases s<;>cases b
  |cons l p=>
   cases τ<;>cases s<;>simp only[ar] at a<;>cases l<;>first|(cases b;done)|skip
   case osl.idx.idx=>obtain⟨_,_,_,_,_,_,_,_,_,a⟩:=a;exact mG (q:=q) (p:=p) c b a
   case opt.deref.deref=>obtain⟨_,_,_,_,_,_,a⟩:=a;exact mG (q:=q) (p:=p) c b a
   case st.unst.unst=>exact mG (q:=q) (p:=p) c b a
   case nu.unn.unn=>exact mG (q:=q) (p:=p) (τ:=.opt _ _) c b a.2
   case pr.fst.fst=>exact mG (q:=q) (p:=p) c b a
   case pr.snd.snd=>exact mG (q:=q) (p:=p) c b a
def ar.split {t:bz}:∀{q k:bp ax} {τ l:af} {h j:Loc} {e i:ea},ar t τ h e (q++k) l j i->∃d c b,ar t τ h e q d c b/\ar t d c b k l j i
 |[],k,τ,l,h,j,e,i,a=>⟨τ,h,e,ar.here,a⟩
 |s::q,k,τ,l,h,j,e,i,a=>by
  rw[hX] at a;cases τ<;>cases s<;>simp only[ar] at a
  case osl.idx=>
   obtain⟨m,r,w,u,n,ak,o,p,v,a⟩:=a;obtain⟨d,c,b,f,g⟩:=ar.split (q:=q) a;exact⟨d,c,b,⟨m,r,w,u,n,ak,o,p,v,f⟩,g⟩
  case opt.deref=>
   obtain⟨m,r,n,ak,o,p,a⟩:=a;obtain⟨d,c,b,f,g⟩:=ar.split (q:=q) a;exact⟨d,c,b,⟨m,r,n,ak,o,p,f⟩,g⟩
  case st.unst=>exact ar.split (q:=q) a
  case nu.unn=>
   obtain⟨d,c,b,f,g⟩:=ar.split (q:=q) (τ:=.opt _ _) a.2;exact⟨d,c,b,⟨a.1,f⟩,g⟩
  case pr.fst=>exact ar.split (q:=q) a
  case pr.snd=>exact ar.split (q:=q) a
theorem ar.upper {A:af} {c z:bp ax} (y:bm d c=bn A) (j:hW c i=bn z) (a:ar e d bq T i o (bn (b,f)) g) (x:∀(i:bp ax) (o:af) (m:Loc) (g:ea),eD c i=bu->ar e d bq T i o m g->ar k d bq T i o m g):∃p,ar k d bq T i o (bn (b,f)) p:=by
 obtain⟨E,r,s⟩:=mG y j a;obtain⟨H,D,h⟩:=xB r s;obtain⟨B,t⟩:=h e (bn (b,f)) g;obtain⟨G,l,n,u,v⟩:=ar.split (x _ _ _ _ (xz j) (a.append t));have ak:=u.ty;rw[a.ty] at ak;obtain rfl:=c6 ak;obtain⟨C,w⟩:=h k l n;obtain⟨_,q,_⟩:=v.fM w;cases l with
 |none=>cases q
 |some F=>
  grind
def gj (c:bp (bo×bp ax)):ag->bA
 |.ref id []=>c.any λa=>bB a.1 id
 |.ref id b=>c.any λa=>bB a.1 id&&eD a.2 b
 |.addr id b=>c.any λa=>bB a.1 id&&pZ a.2 b
 |.view id b _ _=>c.any λa=>bB a.1 id&&eD a.2 b
 |_=>bw
def fO (c:ei) (b:bp (bo×bp ax)):ag->bA
 |.aR _ f=>f.all λa=>!(a.cD c)||gj b a
 |.c0 a=>gj b a
 |.app id h _ _ g=>(g.all λe=>!(a5 e c))&&b.any λd=>bB d.1 id&&gd d.2 h
 |a=>gj b a
def cI (b:ei) (c:bp (bo×bp ax)) (a:ag):ag:=bif a.cD b&&!(fO b c a) then .dead else a
def cS (b:ei) (c:bp (bo×bp ax)):ag->ag
 |.bb d=>.bb (d.map (cI b c))
 |a=>cI b c a
def kill (b:ei) (d:bp (bo×bp ax)) (c:bp (bo×ag)):bp (bo×ag):=c.map λa=>(a.1,cS b d a.2)
def del (a:ei) (b:bp (bo×aj)):bp (bo×aj):=b.filter λc=>!(a5 c.1 a)
theorem p0 (a:bp ax):eD [] a=bw:=by grind [eD,jg]
def k2 (b:ei):bp (bo×bp ax):=b.map λa=>(a,[])
theorem jf (c:ei) (e:bp (bo×bp ax)):∀(d:bp (bo×ag)) (b:bo),gt (kill c e d) b=cS c e (gt d b)
 |[],b=>by simp[kill,gt,ah,cS,cI,ag.cD,ag.ids]
 |(f,a)::d,b=>by
  show gt ((f,cS c e a)::kill c e d) b=_;rw[gz,gz];split
  ·rfl
  exact jf c e d b
theorem gQ (a:ei):∀(c:bp (bo×aj)) (b:bo),ah (del a c) b=if b∈a then bq else ah c b
 |[],b=>by simp[del,ah]
 |(d,t)::c,b=>by
  have f:=gQ a c b;simp only[del] at f|-;rw[kp];cases e:a5 d a with
  |true=>
   have:d∈a:=ey.1 e;simp only[JR,Bool.false_eq_true,if_false];grind [aU]
  |false=>
   have:d∉a:=λc=>(by grind [ey]);simp only[Km,b8];grind [aU]
theorem qL {a:ag} (b:a.cD l=bw):∀id∈a.ids,id∉l:=λid d c=>by grind [Kl,ey,ag.cD]
structure hE (C:a6) (st:aq) (w w':bz) (I I':aW) (rt:bo->ea) (fp:bo->ei) (S:ei) (vP:bp (bo×bp ax)) (new:bp (bo×aj)) (rtn:bo->ea) (fpn:bo->ei):Prop where
 size:w.heap.size<=w'.heap.size
 os:w'.os=w.os
 tape:w'.tape=w.tape
 output:w'.output=w.output
 heap:∀b,b<w.heap.size->(∀id∈S,∀t,ah st.h id=bn t->b∉fp id)->w'.heap[b]?=w.heap[b]?
 evo:∀b,b<w.heap.size->gr w w' b
 i:∀b,I b->I' b
 i2:∀b,I' b->I b\/(b<w'.heap.size/\(w.heap.size<=b\/∃id∈S,∃t,ah st.h id=bn t/\b∈fp id))
 tree:∀id t,ah new id=bn t->(id∈S\/ah st.h id=bq)/\al (az I' C.B) w' t.1 (rtn id) t.2 (fpn id)/\(fpn id).Nodup/\∀b∈fpn id,¬I' b/\b<w'.heap.size/\(w.heap.size<=b\/∃vE∈S,∃t',ah st.h vE=bn t'/\b∈fp vE)
 dis:∀i j t u,ah new i=bn t->ah new j=bn u->i≠j->∀b∈fpn i,b∉fpn j
 keep:∀e∈vP,∀t,ah st.h e.1=bn t->∃t',ah new e.1=bn t'/\t'.1=t.1/\rtn e.1=rt e.1/\(∃Fh,bm t.1 e.2=bn Fh)/\∀(q:bp ax) (xT:af) (v8:Loc) (ug:ea),eD e.2 q=bu->ar w t.1 bq (rt e.1) q xT v8 ug->ar w' t.1 bq (rt e.1) q xT v8 ug
 app:∀e∈vP,∀t,ah st.h e.1=bn t->∀(q:bp ax) (τ:af) (xs:bp τ.den) (loc:Loc) (ov:ea) (f1:ei),gd e.2 q=bu->τ.gk=bu->ar w t.1 bq (rt e.1) q (.osl τ) loc ov->aX t.1 t.2 q (.osl τ) xs->al (az I C.B) w (.osl τ) ov xs f1->∃t',ah new e.1=bn t'/\aX t'.1 t'.2 q (.osl τ) xs/\∀b∈f1,b∈fpn e.1/\aP w w' b
 le:I'.t=I.t
theorem aK.il {G:a6} {w':bz} {I':aW} {rtn:bo->ea} {fpn:bo->ei} {S:ei} {keep:bp (bo×bp ax)} {new:bp (bo×aj)} (f:aK G y z e w p q) (k:hE G y e w' w I' p q S keep new rtn fpn):aK G ⟨kill S keep y.g,new++del S y.h⟩ z w' I' (bg new rtn p) (bg new fpn q):=by
 have U:∀av a,az w G.B av a->az I' G.B av a/\aP e w' a:=λav a b=>by
  refine⟨?_,.of_heap (k.heap a (f.ib a (hq b)) (λid _ c j fz=>f.notM j a fz av b))⟩;cases av
  ·exact k.i a b
  exact b.imp (k.i a) id
 have hp:(az I' G.B).t=(az w G.B).t:=k.le;have ci:∀id c,ah (new++del S y.h) id=bn c->(ah new id=bn c/\bg new rtn p id=rtn id/\bg new fpn q id=fpn id)\/
  (ah new id=bq/\id∉S/\ah y.h id=bn c/\bg new rtn p id=p id/\bg new fpn q id=q id):=λid c j=>by
  rw[fS,gQ] at j;cases L:ah new id with
  |none=>
   rw[L] at j;simp only[Option.none_or] at j;split at j
   ·cases j
   rename_i E;exact .inr ⟨br,E,j,by simp[bg,L],by simp[bg,L]⟩
  |some k=>grind [bg]
 have d0:∀id c,ah y.h id=bn c->id∉S->∀a∈q id,aP e w' a:=λid c j E a b=>.of_heap (k.heap a ((f.tree id c j).2.2 a b).2.2.1 (λK ap o J D=>
  f.dis id K c o j J (λd=>E ab) a b D))
 have fp:∀id c,ah y.h id=bn c->id∉S->∀a∈q id,¬I' a:=λid c j E a b M=>by
  have s:=(f.tree id c j).2.2 a b;rcases k.i2 a M with M|⟨_,M|⟨K,ap,o,J,D⟩⟩
  ·grind
  ·omega
  exact f.dis id K c o j J (λd=>E ab) a b D
 refine{n:=f.n,i0:=λa b=>k.i a (f.i0 a b),it:=λf5=>k.le.trans (f.it f5),i1:=?_,ib:=?_,tree:=?_,dis:=?_,tmp:=?_,frame:=?_,evo:=λa b=>(f.evo a b).trans (k.evo a (gv b f.size)),size:=iy f.size k.size,os:=k.os.trans f.os,tape:=k.tape.trans f.tape,output:=k.output.trans f.output,pin:=f.pin}
 ·intro a b;rcases k.i2 a b with b|⟨_,b|⟨K,ap,o,J,D⟩⟩
  ·exact f.i1 a b
  ·exact .inr (.inl (iy f.size b))
  exact .inr ((f.tree K o J).2.2 a D).2.2.2
 ·intro a b;rcases b with b|b
  ·rcases k.i2 a b with b|⟨b,_⟩
   ·exact gv (f.ib a (.inl b)) k.size
   omega
  exact gv (f.ib a (.inr b)) k.size
 ·intro id c j;rcases ci id c j with⟨r,l,v⟩|⟨eq,E,r,l,v⟩
  ·obtain⟨_,A,C,aA⟩:=k.tree id c r;rw[l,v];refine⟨A,C,λa b=>?_⟩;obtain⟨a0,a3,an⟩:=aA a b;rcases an with an|⟨K,ap,o,J,D⟩
   ·exact⟨a0,λex=>by have:=f.ib a (.inr ex);omega,a3,.inl (iy f.size an)⟩
   have s:=(f.tree K o J).2.2 a D;grind
  obtain⟨A,C,aA⟩:=f.tree id c r;rw[l,v];refine⟨A.mono U (d0 id c r E),C,λa b=>?_⟩;obtain⟨a0,a3,an,ge⟩:=aA a b;exact⟨fp id c r E a b,a3,gv an k.size,ge⟩
 ·intro m V c O M f0 d2 a b;rcases ci m c M with⟨r,_,v⟩|⟨eq,E,r,_,v⟩<;>rcases ci V O f0 with⟨ad,_,d8⟩|⟨io,f6,ad,_,d8⟩<;>rw[v] at b<;>rw[d8]
  ·exact k.dis m V c O r ad d2 a b
  ·intro D;rcases((k.tree m c r).2.2.2 a b).2.2 with s|⟨K,ap,o,J,ce⟩
   ·have:=((f.tree V O ad).2.2 a D).2.2.1;omega
   exact f.dis V K O o ad J (λd=>f6 ab) a D ce
  ·intro D;rcases((k.tree V O ad).2.2.2 a D).2.2 with s|⟨K,ap,o,J,ce⟩
   ·have:=((f.tree m c r).2.2 a b).2.2.1;omega
   exact f.dis m K c o r J (λd=>E ab) a b ce
  exact f.dis m V c O r ad d2 a b
 ·intro a4;show aJ _ _ _ _ _ (gt (kill S keep y.g) a4) _;rw[jf];have x:=f.tmp a4;generalize gt y.g a4=u at x;generalize z.getD a4 bL=Q at x;suffices em:∀(u:ag) (Q:Value),aJ (az w G.B) e y.h p q u Q->aJ (az I' G.B) w' (new++del S y.h) (bg new rtn p) (bg new fpn q) (cI S keep u) Q by
   cases u with
   |bb f7=>
    cases x with|bb d3 L=>
    refine .bb ab (λm T O r l=>?_);grind
   |_=>exact em _ _ x
  clear x;have bs:∀(u:ag) (Q:Value),aJ (az w G.B) e y.h p q u Q->u.cD S=bw\/gj keep u=bu->aJ (az I' G.B) w' (new++del S y.h) (bg new rtn p) (bg new fpn q) u Q:=by
   intro u Q x f3;cases d7:u.cD S with
   |false=>
    refine x.j5 U (λid co c j=>?_);have E:=qL d7 id co;have f2:ah new id=bq:=by
     cases L:ah new id with
     |none=>rfl
     |some dl=>
      rcases(k.tree id dl L).1 with s|s
      ·grind
      grind
    refine⟨by simp_all [fS,gQ,a8],by grind [bg],by grind [bg],(f.tree id c j).1,d0 id c j E⟩
   |true=>
    have N:gj keep u=bu:=f3.resolve_left ab;have bl:∀(id:bo) (c:aj),ah y.h id=bn c->∀d∈keep,d.1=id->∃o,ah (new++del S y.h) id=bn o/\o.1=c.1/\bg new rtn p id=p id/\(∃go,bm c.1 d.2=bn go)/\
     ∀(s:bp ax) (el:af) (d9:Loc) (bx:ea),eD d.2 s=bu->ar e c.1 bq (p id) s el d9 bx->ar w' c.1 bq (p id) s el d9 bx:=by
     intro id c j d F co;subst co;obtain⟨o,A,C,aA,am,aH⟩:=k.keep d F _ j;grind [fS]
    have ds:∀(id:bo) (s:bp ax),(keep.any λd=>bB d.1 id&&eD d.2 s)=bu->∃d∈keep,d.1=id/\eD d.2 s=bu:=ae;cases u with
    |ref id R=>
     cases R with
     |nil=>
      obtain⟨d,F,l⟩:=iu.1 (show(keep.any λd=>bB d.1 id)=bu from N);have l:=a7 l;cases x with|ref j H=>
      obtain⟨rfl,rfl,rfl⟩:=ar.cO.1 H;obtain⟨o,A,C,aA,_⟩:=bl id _ j d F l;rw[<-C];refine .ref (loc:=bq) A ?_;grind [ar.here]
     |cons gh R=>
      obtain⟨d,F,l,v⟩:=ds id (gh::R) N;cases x with|ref j H=>
      obtain⟨o,A,C,aA,am,aH⟩:=bl id _ j d F l;have I:=aH _ _ _ _ v H;rw[<-aA,<-C] at I;exact .ref A I
    |addr id R=>
     obtain⟨d,F,l⟩:=iu.1 (show(keep.any λd=>bB d.1 id&&pZ d.2 R)=bu from N);simp only[aC] at l;obtain⟨l,v⟩:=l;have l:=a7 l;cases x with|addr j H=>
     obtain⟨o,A,C,aA,am,aH⟩:=bl id _ j d F l;rcases Bool.or_eq_true_iff.1 v with v|v
     ·have I:=aH _ _ _ _ v H;rw[<-aA,<-C] at I;exact .addr A I
     obtain⟨i3,P⟩:=ob.1 v;obtain⟨_,am⟩:=am;obtain⟨bx,I⟩:=ar.upper am P H aH;rw[<-aA,<-C] at I;exact .addr A I
    |view id R is M=>
     obtain⟨d,F,l,v⟩:=ds id R N;cases x with|fV=>(exact .fV _ _)|view j H f8 f9 gc=>
     obtain⟨o,A,C,aA,am,aH⟩:=bl id _ j d F l;have I:=aH _ _ _ _ v H;rw[<-aA,<-C] at I;exact .view A I f8 f9 gc
    |_=>cases N
  intro u Q x;unfold cI;cases d7:u.cD S with
  |false=>grind
  |true=>
   cases N:fO S keep u with
   |false=>simp only[Km,Bool.and_self,bK];exact .dead _
   |true=>
    simp only[JR,Bool.and_false,cq];cases u with
    |aR gs f7=>
     cases x with|aR d3 L=>
     refine .aR d3 (λm T O r l=>bs T O (L m T O r l) ?_);have:=cX.1 N T (hK r);grind
    |c0 T=>
     cases x with|c0 b ft cs fs=>
     exact .c0 (U _ _ b).1 (by rw[((U _ _ b).2.1 0).1];exact ft) cs (bs T _ fs (.inr N))
    |app id s gl kd cv=>
     cases x with|app j d6 H fT r hs l f4 ic f1=>
     have P:((cv.all λm=>!(a5 m S))&&keep.any λd=>bB d.1 id&&gd d.2 s)=bu:=N;rw[aC] at P;obtain⟨cs,P⟩:=P;have cs:∀m∈cv,m∉S:=λm M d4=>(by grind [ey,Ie]);obtain⟨d,F,P⟩:=iu.1 P;simp only[aC] at P;obtain⟨fx,d1⟩:=P;obtain rfl:=a7 fx;obtain⟨o,A,C,aA⟩:=k.app d F _ j s gl _ _ _ _ d1 d6 H fT r;obtain⟨i8,a0,a3,an,_,gf⟩:=k.keep d F _ j;rw[A] at a0;obtain rfl:=c6 a0;have f2:∀m∈cv,ah new m=bq:=λm M=>by
      cases L:ah new m with
      |none=>rfl
      |some dl=>
       obtain⟨_,jp,ii⟩:=f4 m M;rcases(k.tree m dl L).1 with s|s
       ·grind
       grind
     have d4:bg new rtn p d.1=p d.1:=(by grind [bg]);have d5:=gf s _ _ _ (uW d1) H;rw[<-a3,<-d4] at d5;refine .app (t:=o) (by grind [fS]) d6 d5 C (r.mono U (λa b=>(aA a b).2)) (λa b=>by grind [bg]) (l.mono U (λa b=>?_)) (λm M=>?_) (λa b=>?_) f1
     ·grind
     ·simp_all [fS,gQ,a8]
     grind [bg]
    |_=>exact bs _ Q x (.inr N)
 intro a b fn;rw[k.heap a (gv b f.size)]
 ·exact f.frame a b fn
 intro id _ c j D;have:=((f.tree id c j).2.2 a D).2.2.2;grind
section
def fW (k:aZ) (i:bz) (a:af) (l:bv b6) (d:bp a.den) (g:dV):Prop:=
 g.length=d.length/\(d=[]\/∃e h,l=bn ⟨e,h,bq⟩/\∀(c:bo) (j:a.den) (f:ei),d[c]?=bn j->g[c]?=bn f->∃b,b.length=a.size/\a9 i e (h+c*a.size) b/\al k i a b j f)
theorem fW.au {h:gJ} {a:bp d.den} (c:al t e (.au h d) [.slice s b f] a []):b=a.length/\fW t e d s a (bZ a.length []):=by obtain⟨_,i,j,g,_,_,c⟩:=c;simp only[eQ,cg,b2] at g;obtain⟨rfl,rfl,rfl⟩:=g;refine⟨br,aa,c.imp id ?_⟩;grind
theorem fW.osl {j:bp d.den} (g:al t e (.osl d) [.slice s f b] j l):f=j.length/\f<=b/\∃h,fW t e d s j h/\(∀i∈h.flatten,i∈l)/\(l.Nodup->h.flatten.Nodup)/\((s=bq/\b=0/\l=[])\/∃a c,s=bn ⟨a,c,bq⟩/\l=a::h.flatten/\cM e a c (c+b*d.size)):=by
 obtain⟨q,i,k,g⟩:=g;simp only[eQ,cg,b2] at k;obtain⟨rfl,rfl,rfl⟩:=k;rcases g with⟨rfl,rfl,rfl,rfl⟩|⟨a,c,m,rfl,rfl,o,p,aA,aH⟩
 ·exact⟨br,eL _,[],⟨br,.inl br⟩,aa,aa,.inl ⟨br,br,br⟩⟩
 refine⟨br,p,m,⟨o,.inr ⟨a,c,br,aH⟩⟩,λi n=>eJ _ n,λg=>(gW.1 g).2,.inr ⟨a,c,br,br,aA⟩⟩
theorem fW.cells {b:bp d.den} {p:dV} (i:fW t e d s b p) (v:0<d.size):∃m:ea,m.length=b.length*d.size/\(∀h∈m,h.oneCell'=bu)/\(∀c,s=bn c->b≠[]->∀(j:bo) h,m[j]?=bn h->e.cell? (c.add j)=bn h)/\∀(f:bo) (n:d.den) (l:ei),b[f]?=bn n->p[f]?=bn l->al t e d ((m.drop (f*d.size)).take d.size) n l:=by
 obtain⟨D,i⟩:=i;rcases i with rfl|⟨c,k,rfl,i⟩
 ·simp_all
 have C:∀a,a<b.length*d.size->∃h,e.cell? ⟨c,k+a,bq⟩=bn h/\h.oneCell'=bu:=by
  intro a B;have r:a/d.size<b.length:=(Nat.div_lt_iff_lt_mul v).2 B;obtain⟨g,x,o,q⟩:=i (a/d.size) b[a/d.size] (p[a/d.size]'(by omega)) aa aa
  have E:=Nat.mod_lt a v;have:g[a %d.size]?=bn (g[a %d.size]'(by omega)):=fq _
  refine⟨_,?_,q.one _ (m4 (by omega:a %d.size<g.length))⟩;have:=o _ _ this;grind [Nat.div_add_mod,Nat.mul_comm]
 have A:∀a,((ct (b.length*d.size)).map λa=>(e.cell? ⟨c,k+a,bq⟩).getD bL)[a]?=if a<b.length*d.size then e.cell? ⟨c,k+a,bq⟩ else bq:=by grind
 refine⟨(ct (b.length*d.size)).map λa=>(e.cell? ⟨c,k+a,bq⟩).getD bL,aa,?_,?_,?_⟩
 ·grind
 ·grind [cy]
 intro f n l w z;obtain⟨g,x,o,q⟩:=i f n l w z;have r:f<b.length:=(e5.1 w).1;have:(((ct (b.length*d.size)).map λa=>(e.cell? ⟨c,k+a,bq⟩).getD bL).drop (f*d.size)).take d.size=g:=by
  apply iw;intro j;rcases gw j d.size with u|u
  ·rw[lw u,ks,A];have y:(f+1)*d.size<=b.length*d.size:=hY _ r;rw[ix,H4] at y;rw[bc U];have:g[j]?=bn (g[j]'(by omega)):=fq _
   rw[this,<-Kn];exact o _ _ this
  grind
 grind
section
variable {P:bQ}
theorem yk {w:bz} {ty:bC} {i:TypeInfo} (o:P.underlying N=bn (.slice a)) (B:bi P d a) (h:P.info? a=bn i) (bx:d.size<=1300) {ad yd:bv b6} {n cap m c:bo} {olds news:ea} (O:olds.length=n*d.size) (a3:∀b,ad=bn b->∀(f:bo) (g:Value),olds[f]?=bn g->w.cell? (b.add f)=bn g) (a4:∀b,ad=bn b->b.spot=bq) (K:n<=cap) (a0:ad=bq->cap=0) (v:news.length=m*d.size) (I:∀g∈news,g.oneCell'=bu) (D:∀b,yd=bn b->0<m->∀(f:bo) (g:Value),news[f]?=bn g->w.cell? (b.add f)=bn g) (ce:yd=bq->m=0) (M:∀b,ad=bn b->cM w b.block b.off (b.off+cap*d.size)) (an:n+m<=fG):∃G l,(IU #[N,N] ty #[.slice ad n cap,.slice yd m c]).run P w=.ok G l/\((
   n+m<=cap/\G=.slice ad (n+m) cap/\((ad=bq/\l=w)\/∃b,ad=bn b/\l=w.setCells b.block (b.off+n*d.size) news))\/
   ∃(e:bo) (y:dY),cap<n+m/\n+m<=e/\G=.slice (bn ⟨w.heap.size,0,bq⟩) (n+m) e/\c1 w l/\l.heap[w.heap.size]?=bn (.cells y a (0,0))/\l.heap.size=w.heap.size+1/\e*d.size<=y.size/\∀(f:bo) (g:Value),(olds++news)[f]?=bn g->y[f]?=bn g):=by
 obtain⟨ci,_,cP,_⟩:=B.info;have H:=cP.info;rw[h] at H;cases H;have bs:=B.pos;by_cases E:n+m<=cap
 ·by_cases p:m=0
  ·subst p;obtain rfl:news=[]:=ko U;have L:(Ko d.size 0 (.slice yd 0 c)).run P w=.ok #[] w:=by
    cases yd with
    |none=>rfl
    |some b=>simp[Ko,loadCells,loadCellsFrom]
   refine⟨.slice ad n cap,w,?_,.inl ⟨E,br,?_⟩⟩
   ·cases ad with
    |none=>simp[IU,b1 o,eu,cC,h,Kp,cP.size,K,L]
    |some b=>simp[IU,b1 o,eu,cC,h,Kp,cP.size,K,L,storeCells]
   cases ad with
   |none=>grind
   |some b=>exact .inr ⟨b,br,br⟩
  cases ad with
  |none=>grind
  |some b=>
   cases yd with
   |none=>grind
   |some j=>
    obtain⟨Q,R,S⟩:=b;obtain rfl:S=none:=a4 _ rfl;have ap:(n+m)*d.size<=cap*d.size:=hY _ E;rw[ix] at ap;have q:=run_append_room_cells (P:=P) w N ty a i o h Q R n cap j m c news (by rw[cP.size];exact v) (D j br U) I E (λf am=>(M _ rfl _ ab (by rw[cP.size];grind)).1) (λf am=>(M _ rfl _ ab (by rw[cP.size];grind)).2);rw[cP.size] at q;grind
 obtain⟨k,bl,x⟩:=B.r8;have x:=x i h;have p:0<m:=U;cases yd with
 |none=>grind
 |some j=>
  have J:(n+m)*i.bytes<=140737488355328:=(by have I:(n+m)*i.bytes<=fG*31200:=Jf an (by have:=cP.bytes;omega);grind [fG]);have C:((n+m:bo):bt)<=9223372036854775807:=(by grind [fG]);have A:∀(F:bo),let e:=grownCap w (n+m) F a
   n+m<=e/\c1 w (w.drew.alloc (.cells (olds.toArray++news.toArray++IV k.cells (e-(n+m))) a))/\
   (w.drew.alloc (.cells (olds.toArray++news.toArray++IV k.cells (e-(n+m))) a)).heap[w.heap.size]?=bn (.cells (olds.toArray++news.toArray++IV k.cells (e-(n+m))) a (0,0))/\
   e*d.size<=(olds.toArray++news.toArray++IV k.cells (e-(n+m))).size/\
   ∀(f:bo) (g:Value),(olds++news)[f]?=bn g->(olds.toArray++news.toArray++IV k.cells (e-(n+m)))[f]?=bn g:=by
   intro F e;have V:n+m<=e:=grownCap_ge w (n+m) F a;refine⟨V,(c1.refl w).drew.trans (c1.alloc _ _),heap_alloc_new w.drew _,?_,?_⟩
   ·simp only[Array.size_append,ly,size_zeroCells,bl,O,v,<-ix];grind
   grind
  cases ad with
  |some b=>
   have q:=run_append_grow (P:=P) w N ty a i k o h x b n cap olds (by rw[cP.size];exact O) (a3 b br) j m c news (by rw[cP.size];exact v) (D j br p) U C (growslice_fits U J);obtain⟨z,r,s,t,u⟩:=A cap;exact⟨_,_,q,.inr ⟨_,_,U,z,br,r,s,aa,t,u⟩⟩
  |none=>
   have T:=a0 br;have av:n=0:=U;subst T;subst av;obtain rfl:olds=[]:=ko U;simp only[hL] at C J A;have q:=run_append_nil (P:=P) w N ty a i k o h x j m c news (by rw[cP.size];exact v) (D j br p) p C U;obtain⟨z,r,s,t,u⟩:=A 0;simp only[fI,Array.empty_append] at z r s t u;refine⟨_,_,q,.inr ⟨_,_,U,U,by rw[hL],r,s,aa,t,u⟩⟩
end
end
theorem jr (b:bo):∀(g:ea) (d:bo) (c:bz) (a:bo),a≠b->(c.setCells b d g).heap[a]?=c.heap[a]?
 |[],_,_,_,_=>rfl
 |v::f,d,c,a,e=>by rw[Jo,jr b f _ _ a e];simp only[Kq,Array.getElem?_modify];grind
theorem hV (b:bo):∀(e:ea) (c:bo) (a:bz),(a.setCells b c e).heap.size=a.heap.size
 |[],_,_=>rfl
 |v::d,c,a=>by rw[Jo,hV b d];simp
def hv (b:bo):∀(d:ea) (c:bo) (a:bz),(a.setCells b c d).os=a.os/\(a.setCells b c d).tape=a.tape/\(a.setCells b c d).output=a.output
 |[],_,_=>⟨br,br,br⟩
 |v::e,c,a=>by rw[Jo];exact hv b e _ _
theorem qA (d:bo) (e:ea) (b:bo) (f:bz) (g:∀c,c<e.length->(f.cell? ⟨d,b+c,bq⟩).isSome=bu) (a:bo):((f.setCells d b e).cell? ⟨d,a,bq⟩).isSome=(f.cell? ⟨d,a,bq⟩).isSome:=by
 by_cases h:b<=a/\a<b+e.length
 ·obtain⟨c,rfl⟩:∃c,a=b+c:=⟨a-b,U⟩;grind [Ij]
 grind [Iy]
theorem AQ (b:bz) (c:b6) (d:Value) (a:bo):fk (b.setCell c d) a=fk b a:=by unfold fk Kq;grind
def oR (d:bo):∀(f:ea) (b:bo) (c:bz) (a:bo),fk (c.setCells d b f) a=fk c a
 |[],_,_,_=>rfl
 |v::e,b,c,a=>by rw[Jo,oR d e (b+1),AQ]
theorem js {vs:ea} {o:bo} {w:bz} (a:f≠b):aP w (w.setCells b o vs) f:=.of_heap (jr b vs o w f a)
theorem q9 {P:bQ} {M:aZ} {w:bz} {T ty S:bC} {t:af} {i:TypeInfo} (bx:P.underlying T=bn (.slice S)) (O:bi P t S) (dl:P.info? S=bn i) (d3:t.size<=1300) {ad yd:bv b6} {n cap c:bo} {xs ys:bp t.den} {f1:ei} {fys:dV} (J:al M w (.osl t) [.slice ad n cap] xs f1) (K:fW M w t yd ys fys) (an:f1.Nodup) (bl:∀b∈f1,∀f,¬M f b) (f6:fys.flatten.Nodup) (co:∀b∈f1,b∉fys.flatten) (bs:∀f b,M f b->b<w.heap.size) (cs:∀b∈f1,b<w.heap.size) (d6:∀b∈fys.flatten,b<w.heap.size) (d0:xs.length+ys.length<=fG):∃N g G,(IU #[T,T] ty #[.slice ad n cap,.slice yd ys.length c]).run P w=.ok N g/\al M g (.osl t) [N] (xs++ys) G/\al M g (.osl t) [.slice ad n cap] xs f1/\G.Nodup/\(∀b∈G,b∈f1\/b∈fys.flatten\/(w.heap.size<=b/\b<g.heap.size))/\w.heap.size<=g.heap.size/\g.os=w.os/\g.tape=w.tape/\g.output=w.output/\(∀b,b<w.heap.size->b∉f1->g.heap[b]?=w.heap[b]?)/\(∀f b,M f b->aP w g b)/\(∀b∈fys.flatten,aP w g b)/\(∀b,b<w.heap.size->fk g b=fk w b):=by
 obtain⟨rfl,Q,o,a0,ft,fx,d5⟩:=fW.osl J;have ap:=O.pos;obtain⟨x,L,gc,el,ge⟩:=a0.cells ap;obtain⟨k,d7,d8,d9,f8⟩:=K.cells ap;have am:=a0.1;have f3:=K.1;obtain⟨N,g,I,ci⟩:=yk (P:=P) (w:=w) (ty:=ty) bx O dl d3 (ad:=ad) (yd:=yd) (n:=xs.length) (cap:=cap) (m:=ys.length) (c:=c) (olds:=x) (news:=k) L (λb A e l p=>el b A ab e l p) (λb A=>by grind) Q (λC=>by grind) d7 d8 (λb A f4 e l p=>d9 b A ab e l p) (λC=>by rcases K.2 with rfl|⟨b,f9,u,_⟩;rfl;grind) (λb A=>by
   grind) d0
 have fs:(o++fys).flatten=o.flatten++fys.flatten:=aa;have f5:(o++fys).flatten.Nodup:=ab;have H:∀(a:bo) (v:t.den) (r:ei),(xs++ys)[a]?=bn v->(o++fys)[a]?=bn r->al M w t (((x++k).drop (a*t.size)).take t.size) v r/\∀b∈r,b∈o.flatten\/b∈fys.flatten:=by
  intro a v r d B;rcases gw a xs.length with u|u
  ·rw[kq u] at d;rw[kq U] at B;have j:(a+1)*t.size<=xs.length*t.size:=hY _ u;rw[ix,H4] at j;rw[m0 U,m7 ab];grind [Iq,IL]
  rw[kr u] at d;rw[kr U,am] at B;have j:xs.length*t.size<=a*t.size:=hY _ u;rw[List.drop_append,m1 U,fI,L,show a*t.size-xs.length*t.size=(a-xs.length)*t.size by rw[Nat.sub_mul]];grind [Iq,IL]
 rcases ci with⟨d2,rfl,d4⟩|⟨a3,a4,fT,fz,rfl,s,cv,f0,fp,fn⟩
 ·rcases d4 with⟨rfl,rfl⟩|⟨b,rfl,rfl⟩
  ·have ex:cap=0:=ab;obtain rfl:xs=[]:=ko U;obtain rfl:ys=[]:=ko U;exact⟨_,g,f1,I,ab,J,an,λb A=>.inl A,eL _,br,br,br,λ_ _ _=>rfl,λ_ _ _=>aP.refl _ _,λ_ _=>aP.refl _ _,λ_ _=>rfl⟩
  rcases d5 with⟨C,_⟩|⟨h,q,C,rfl,R⟩
  ·cases C
  cases C;have eq:h∉o.flatten:=(gW.1 an).1;have ce:h∉fys.flatten:=co h aa;have d1:(xs.length+ys.length)*t.size<=cap*t.size:=hY _ d2;rw[ix] at d1;have av:∀e,e<k.length->(w.cell? ⟨h,q+xs.length*t.size+e,bq⟩).isSome=bu:=λe p=>(R _ U U).1;have z:∀f a,M f a->M f a/\aP w (w.setCells h (q+xs.length*t.size) k) a:=λf a d=>⟨d,js (λE=>bl h aa f (E▸d))⟩;have V:cM (w.setCells h (q+xs.length*t.size) k) h q (q+cap*t.size):=λe j D=>(by rw[qA h k _ w av,Jp];exact R e j D);have em:∀e l,(x++k)[e]?=bn l->(w.setCells h (q+xs.length*t.size) k).cell? ⟨h,q+e,bq⟩=bn l:=by
   intro e l p;rcases gw e x.length with u|u
   ·grind [cy,Iy,List.getElem?_append_left]
   rw[kr u] at p;obtain⟨y,rfl⟩:∃y,e=x.length+y:=⟨e-x.length,U⟩;rw[Nat.add_sub_cancel_left] at p;have F:y<k.length:=(e5.1 p).1;rw[L,<-Kn,Ij h k _ w av y F];grind
  refine⟨_,_,h::(o++fys).flatten,I,?_,?_,?_,?_,by rw[hV];omega,(hv _ _ _ _).1,(hv _ _ _ _).2.1,(hv _ _ _ _).2.2,?_,λf a d=>(z f a d).2,λa d=>js (λE=>ce ab),λa _=>oR _ _ _ _ _⟩
  ·refine⟨bn ⟨h,q,bq⟩,cap,aa,.inr ⟨h,q,o++fys,br,br,ab,ab,V,λa v r d B=>?_⟩⟩;obtain⟨j,D⟩:=H a v r d B;refine⟨_,j.len,λe l p=>?_,j.mono z (λy F=>js (λE=>?_))⟩
   ·have ds:(x++k)[a*t.size+e]?=bn l:=by
     grind
    grind
   grind
  ·refine⟨bn ⟨h,q,bq⟩,cap,br,.inr ⟨h,q,o,br,br,am,Q,V,λa v r d B=>?_⟩⟩;have f2:a<xs.length:=(e5.1 d).1;obtain⟨j,D⟩:=H a v r ab ab;refine⟨_,j.len,λe l p=>?_,j.mono z (λy F=>js (λE=>?_))⟩
   ·have ds:(x++k)[a*t.size+e]?=bn l:=by
     grind
    grind
   grind
  ·grind
  ·grind
  grind [jr]
 have z:∀f a,M f a->M f a/\aP w g a:=λf a d=>⟨d,.of_heap (s.heap a (bs f a d))⟩;have f7:∀e,g.cell? ⟨w.heap.size,e,bq⟩=a4[e]?/\g.frozen? ⟨w.heap.size,e,bq⟩=bw:=λe=>(by simp[Ii,Jj,cv]);refine⟨_,g,w.heap.size::(o++fys).flatten,I,?_,J.mono z (λa d=>.of_heap (s.heap a (cs a d))),?_,?_,s.size,s.os,s.tape,s.output,λa d _=>s.heap a d,λf a d=>(z f a d).2,λa d=>.of_heap (s.heap a (d6 a d)),λa d=>(aP.of_heap (s.heap a d)).2⟩
 ·refine⟨bn ⟨w.heap.size,0,bq⟩,a3,aa,.inr ⟨w.heap.size,0,o++fys,br,br,ab,ab,λe _ D=>?_,λa v r d B=>?_⟩⟩
  ·grind
  obtain⟨j,D⟩:=H a v r d B;refine⟨_,j.len,λe l p=>?_,j.mono z (λy F=>.of_heap (s.heap y ?_))⟩
  ·grind
  grind
 ·grind
 grind
section
def be.get:∀{p:bp ax} {τ:af} {c i:τ.den} {h:af} {j:h.den},be τ c p h j i->∃b,aX τ c p h b
 |[],τ,c,_,_,_,a=>by obtain⟨rfl,_⟩:=be.cO.1 a;exact⟨c,aX.cO.2 ⟨br,br⟩⟩
 |s::p,τ,_,_,_,_,a=>by
  cases τ<;>cases s<;>simp only[be] at a
  case osl.idx=>obtain⟨d,e,g,a,_⟩:=a;obtain⟨b,f⟩:=be.get (p:=p) a;exact⟨b,d,g,f⟩
  case opt.deref=>exact be.get (p:=p) a
  case st.unst=>exact be.get (p:=p) a
  case nu.unn=>obtain⟨d,e,g,a,_⟩:=a;obtain⟨b,f⟩:=be.get (p:=p) (τ:=.opt _ _) a;exact⟨b,d,g,f⟩
  case pr.fst=>obtain⟨e,a,_⟩:=a;exact be.get (p:=p) a
  case pr.snd=>obtain⟨e,a,_⟩:=a;exact be.get (p:=p) a
theorem be.same:∀{p:bp ax} {τ:af} {b:τ.den} {e:af} {f:e.den},aX τ b p e f->be τ b p e f b
 |[],τ,b,_,_,a=>by grind [be.cO,aX.cO]
 |s::p,τ,b,_,_,a=>by
  cases τ<;>cases s<;>simp only[aX] at a
  case osl.idx i=>
   obtain⟨c,d,a⟩:=a;refine⟨c,c,d,be.same (p:=p) a,?_⟩;grind [List.set_getElem_self,Jb]
  case opt.deref=>exact be.same (p:=p) a
  case st.unst=>exact be.same (p:=p) a
  case nu.unn=>obtain⟨c,d,a⟩:=a;exact⟨c,c,d,be.same (p:=p) (τ:=.opt _ _) a,d⟩
  case pr.fst=>exact⟨b.1,be.same (p:=p) a,br⟩
  case pr.snd=>exact⟨b.2,be.same (p:=p) a,br⟩
def qd {a:x} {c:bo->x}:bg [(b,O)] (λ_=>a) c b=a:=by simp[bg,aU]
section
variable {E:cG} {C:a6} {st:aq} {a:Act} {A:dY} {w:bz} {I:aW} {rt:bo->ea} {fp:bo->ei} {o:bJ}
theorem Ev {c:bo} (j:g.length=c) (h:cM w f b (b+c)) (d:bo):km w (w.setCells f b g) (bn (f,b)) c d:=by
 have k:∀a,a<g.length->(w.cell? ⟨f,b+a,bq⟩).isSome=bu:=λa i=>(h _ U U).1;refine⟨λa i=>Iy f g b w _ (λe _=>?_),λa=>Jp _ _ _ _ _,λa=>?_,oR _ _ _ _ _⟩
 ·grind
 by_cases e:d=f
 ·grind [qA]
 rw[((js (w:=w) (o:=b) (vs:=g) e).1 a).1]
theorem aK.EJ (q:aK C st A w I rt fp) {id:bo} (r:ah st.h id=bn O) {E:ea} (M:ar w O.1 bq (rt id) i d (bn (b,f)) E) {x:d.den} {s:O.1.den} (z:be O.1 O.2 i d x s) {p:ei} (D:al (az I C.B) w d T x p) (f3:p.Nodup) (a4:id∉l) (fT:∀a∈p,(∃F,∃V:d.den,d.gk=bu/\al (az I C.B) w d E V F/\a∈F)\/∃c∈l,∃j,ah st.h c=bn j/\a∈fp c):cM w b f (f+d.size)/\∃rtn fpn,aK C ⟨kill (id::l) [(id,i)] st.g,(id,⟨O.1,s⟩)::del (id::l) st.h⟩ A (w.setCells b f T) I rtn fpn/\rtn id=rt id/\ar (w.setCells b f T) O.1 bq (rt id) i d (bn (b,f)) T:=by
 obtain⟨cv,Q,ft⟩:=q.tree id O r;obtain⟨V,co⟩:=z.get;obtain⟨f8,el,am,R,an,ex,ap,H,fn,av,a0⟩:=oL i (loc:=bq) cv (λ_ _ k=>by cases k) Q (λ_ _ k=>by cases k) (q.notM r) co;obtain⟨_,ak,ad⟩:=M.fM an;subst ak;subst ad;obtain⟨_,y⟩:=ap b f br;have fx:b∈R:=ab;have bs:b∈fp id:=H.mem_iff.2 ab;have P:=H.nodup_iff.1 Q;rw[gI] at P;obtain⟨f1,N,f2⟩:=P;have fz:∀a∈p,a∈am\/∃c∈l,∃j,ah st.h c=bn j/\a∈fp c:=λa e=>(by grind [al.uniq]);have f4:∀c∈l,∀j,ah st.h c=bn j->∀a∈fp c,a∉fp id:=λc n j m a e J=>q.dis c id j O m r (λo=>a4 (o▸n)) a e J;have ci:∀a∈p,a∉R:=λa e J=>ab;have a3:∀v a,az I C.B v a->a≠b:=λv a e o=>q.notM r b bs v (o▸e);have bx:=Ev (w:=w) D.len y;have ds:al (az I C.B) (w.setCells b f T) d T x p:=D.mono (λv a e=>⟨e,js (a3 v a e)⟩) (λa e=>js (λo=>ci a e ab));have f5:∀u,u<T.length->(w.cell? ⟨b,f+u,bq⟩).isSome=bu:=λu t=>(y _ U (by have:=D.len;omega)).1;have fs:a9 (w.setCells b f T) b f T:=λu d7 t=>(by grind [List.getElem?_eq_getElem,Ij,Jb]);obtain⟨em,G,d0,_,d2,_,f6,d3,d1⟩:=av (w.setCells b f T) (az I C.B) T x p s (λ_ _ k=>k) rfl (λa _=>bx a) ds (λk=>by cases k) (λd8 f9 o=>by grind) z;obtain rfl:=d2 br (.inl aa);have ce:∀a∈G,a∈fp id\/∃c∈l,∃j,ah st.h c=bn j/\a∈fp c:=λa e=>ab;have bl:=q.il (S:=id::l) (keep:=[(id,i)]) (new:=[(id,⟨O.1,s⟩)]) (rtn:=λ_=>rt id) (fpn:=λ_=>G) (w':=w.setCells b f T) (I':=I) ⟨?_,(hv _ _ _ _).1,(hv _ _ _ _).2.1,(hv _ _ _ _).2.2,?_,λa _=>.of_eq (oR _ _ _ _ _),λ_ k=>k,λ_ k=>.inl k,?_,?_,?_,?_,br⟩
 ·exact⟨y,_,_,bl,by rw[qd],d3⟩
 ·grind [hV]
 ·grind [jr]
 ·intro c j m;rw[aU] at m;split at m
  ·rename_i o;subst o;cases m;refine⟨.inl aa,d0,?_,λa e=>?_⟩
   ·grind
   rcases ce a e with k|⟨c,n,j,m,k⟩
   ·grind [hV]
   obtain⟨d5,d6,aA,aH⟩:=(q.tree c j m).2.2 a k;grind [hV]
  cases m
 ·intro c u j d7 n t f0;rw[aU] at n t;split at n
  ·split at t
   ·omega
   cases t
  cases n
 ·intro c n j m;simp only[hg] at n;subst n;rw[r] at m;obtain rfl:=c6 m;refine⟨⟨O.1,s⟩,?_,br,br,⟨_,M.ty⟩,d1⟩;rw[aU,bc br]
 intro c n j m d4 ge gc f7 d9 eq K cs N L dl;simp only[hg] at n;subst n;rw[r] at m;obtain rfl:=c6 m;refine⟨⟨O.1,s⟩,by rw[aU,bc br],kR K z L,λa e=>?_⟩;obtain⟨d5,d6⟩:=a0 d4 _ _ _ _ _ K (by exact cs) L N dl a e;grind [List.mem_append_right,js]
theorem aK.store (p:aK C st A w I rt fp) {id:bo} (v:ah st.h id=bn O) {b:bo} {c:ea} (s:ar w O.1 bq (rt id) i d (bn (b,f)) c) {o:d.den} {n:O.1.den} (u:be O.1 O.2 i d o n) {S2:ei} (x:al (az I C.B) w d T o l) (t:l.Nodup) (q:id∉S2) (r:∀a∈l,(∃e,∃z:d.den,d.gk=bu/\al (az I C.B) w d c z e/\a∈e)\/∃k∈S2,∃y,ah st.h k=bn y/\a∈fp k):cM w b f (f+d.size)/\∃m j,aK C ⟨kill (id::S2) [(id,i)] st.g,(id,⟨O.1,n⟩)::del (id::S2) st.h⟩ A (w.setCells b f T) I m j:=by obtain⟨D,m,j,E,_⟩:=p.EJ v s u x t q r;grind
inductive m9 where
 |bk (s:aq)
 |part (α:Type) (φ:α->Prop) (f:α->aq)
 |bad
def m9.K (c:m9) (Q:aq->Prop):Prop:=
 match c with
 |.bk d=>Q d
 |.part e f b=>∃a:e,f a/\Q (b a)
 |.bad=>bY
def ba (E:cG) (C:a6) (o:bJ) (st:aq) (Q:aq->Prop):Prop:=
 ∀(a:Act) (w:bz),cV C st a.tmps w->∀(next:Act->bz->Prop) (e:bU->Act->bz->Prop),(∀c b d,Q c->b.defers=a.defers->cV C c b.tmps d->next b d)->o.wp E.P a w next e
variable {Q:aq->Prop}
def ba.eval {an:bp (bo×af)} (j:o.dst=bn b) (l:C.ok b) (i:(eA E.tt an st.h (aw st.g) b o.op).K (λc e=>Q ⟨(b,c)::st.g,e++st.h⟩)):ba E C o st Q:=by
 rintro a w ⟨I,rt,fp,d⟩ next r m
 exact(zw d i).wp d j l (λc e f q n k p=>m _ f q n k p)
def j8 (b:bp (bo×aj)) (c:ag):bv (bo×bp ax):=
 match c with
 |.addr id a=>bn (id,a)
 |.ref id a=>match ah b id with
  |some ⟨d,_⟩=>match bm d a with
   |some (.opt _ _)=>bn (id,a++[.deref])
   |_=>bq
  |none=>bq
 |_=>bq
def qC (
 tt:bp (bC×af)) (st:aq) (m:bC) (o v:ag):m9:=
 match j8 st.h o with
 |none=>.bad
 |some (
  id,p)=>match ah st.h id,ah tt m with
  |some ⟨b,e⟩,bn n=>match bm b p with
   |none=>.bad
   |some c=>bif aD n c then match v with
    |.ref d i=>match ah st.h d with
     |some ⟨r,j⟩=>bif bB id d then .bad else
      .part (c.den×b.den) (λa=>aX r j i c a.1/\be b e p c a.1 a.2) (λa=>⟨kill [id,d] [(id,p)] st.g,(id,⟨b,a.2⟩)::del [id,d] st.h⟩)
     |none=>.bad
    |.app d i f q l=>if _e:c=.osl f then
     .part (bp f.den×b.den) (λa=>d=id/\i=p/\aX b e p (.osl f) a.1/\be b e p (.osl f) (a.1++q) a.2) (λa=>⟨kill (id::l) [(id,p)] st.g,(id,⟨b,a.2⟩)::del (id::l) st.h⟩) else .bad
    |v=>match coe c v with
     |some j=>.part b.den (λk=>be b e p c j k) (λk=>⟨kill [id] [(id,p)] st.g,(id,⟨b,k⟩)::del [id] st.h⟩)
     |none=>.bad
   else .bad
  |_,_=>.bad
theorem Cs (n:aK C st a.tmps w I rt fp) {id:bo} (b:j8 st.h (aw st.g c)=bn (id,i)) (l:ah st.h id=bn O) (v:bm O.1 i=bn d):∃k q r,a.eval c=.pointer (bn ⟨k,q,bq⟩)/\ar w O.1 bq (rt id) i d (bn (k,q)) r:=by
 have j:=n.aw c;unfold j8 at b;generalize B:a.eval c=E at j;split at b
 ·rename_i y A m;cases b;rw[m] at j;cases j with|addr f e=>
  rw[l] at f;cases f;have:=e.ty;grind
 ·rename_i y A m;split at b
  case h_2=>cases b
  rename_i G F p;split at b
  case h_2=>cases b
  rename_i D x;cases b;rw[l] at p;cases p;rw[m] at j;cases j with|ref f e=>
  rw[l] at f;cases f;have:=e.ty;rw[x] at this;cases this;obtain⟨k,z,u,rfl,s,t⟩:=ie (n.tree id _ l).1 e;have o:=e.append (ar.rP s t);have:=o.ty;rw[v] at this;cases this;exact⟨k,z,u,br,o⟩
 grind
theorem EI {i:af} (l:ah E.tt N=bn d) (n:aD d i=bu) (t:o.op=.store N h c) (u:a.eval h=.pointer (bn ⟨f,b,bq⟩)) (r:(a.eval c).cells=g.toArray) (s:g.length=i.size) (k:∀c∈g,c.oneCell'=bu) (j:cM w f b (b+i.size)):(bF a.eval o).run E.P w=.ok .skip (w.setCells f b g):=by have q:=(E.ok N d l).lay n;have p:=run_storeCells_cells (P:=E.P) f b g 0 w (λe m=>by simpa using(j (b+e) U U).1) (λe m=>by simpa using(j (b+e) U U).2) k;simp only[jD] at p;have:(H5 N ⟨f,b,bq⟩ (a.eval c)).run E.P w=.ok () (w.setCells f b g):=(by simp only[H5,r,bP,q.sizeOf,bT];grind);simp_all [bF,IW,cl]
theorem EH (d0:o.op=.store N h c) (bs:o.dst=bq) (b:(qC E.tt st N (aw st.g h) (aw st.g c)).K Q):ba E C o st Q:=by
 rintro a w ⟨I,rt,fp,f⟩ next ap ds
 have i:=f.aw c;unfold qC at b;split at b
 ·exact b.elim
 rename_i id f0 d2;split at b
 case h_2=>exact b.elim
 rename_i f7 f6 am q S;split at b
 ·exact b.elim
 rename_i u d5;cases v:aD am u with
 |false=>rw[v] at b;exact b.elim
 |true=>
 rw[v] at b;simp only[bK] at b;obtain⟨O,J,eq,d6,x⟩:=Cs f d2 q d5;have F:=(E.ok N am S).lay v;have D:∀(k:ea) (L:aq) (e:bo->ea) (d:bo->ei),(a.eval c).cells=k.toArray->k.length=u.size->(∀c∈k,c.oneCell'=bu)->cM w O J (J+u.size)->aK C L a.tmps (w.setCells O J k) I e d->Q L->o.wp E.P a w next ap:=by
  intro k L e d ak A a0 a3 d4 d3;unfold cc;rw[EI S v d0 d6 ak A a0 a3];show next (a.put o.dst bL) _
  rw[bs];exact ds _ _ _ d3 br ⟨I,e,d,d4⟩
 split at b
 ·rename_i j V B;split at b
  case h_2=>exact b.elim
  rename_i f8 f4 z;cases T:bB id j with
  |true=>rw[T] at b;exact b.elim
  |false=>
   rw[T] at b;obtain⟨⟨M,an⟩,⟨ci,p⟩,b⟩:=b;have fx:id≠j:=λR=>ae;rw[B] at i;generalize H:a.eval c=el at i;cases i with|ref r G=>
   rw[z] at r;cases r;obtain⟨t,ad,f1⟩:=f.tree j _ z;obtain⟨fT,ex,a4,f2,d8,s,_,U,_⟩:=kW V (τ':=u) (y:=M) t (loc:=bq) (λ_ _ b=>by cases b) ad (λ_ _ b=>by cases b) (f.notM z) ci;obtain⟨rfl,rfl,rfl⟩:=G.fM d8;have dl:a4.Nodup:=(gI.1 (U.nodup_iff.1 ad)).1;obtain⟨n,e,d,m⟩:=f.store q x p s dl (S2:=[j]) ab (λav bl=>.inr ⟨j,aa,_,z,U.mem_iff.2 ab⟩);exact D _ _ e d (by rw[H];exact hS F s.len s.one) s.len s.one n m b
 ·rename_i j V em f5 d9 B;split at b
  case isFalse=>exact b.elim
  rename_i R;subst R;obtain⟨⟨f3,an⟩,⟨rfl,rfl,bx,p⟩,b⟩:=b;rw[B] at i;generalize H:a.eval c=el at i;cases i with|app r cs G ce fn fs l d1 fz cv=>
  rw[q] at r;cases r;obtain rfl:=aX.uniq bx ce;obtain⟨_,ak,A⟩:=x.fM G;subst ak;subst A;have ft:(af.osl em).gk=bu:=cs;obtain⟨n,e,d,m⟩:=f.store q x p l cv (S2:=d9) (λco=>(d1 _ co).1 br) (λav bl=>by
   grind)
  exact D _ _ e d (by rw[H];have:=hS F l.len l.one;exact this) l.len l.one n m b
 split at b
 case h_2=>exact b.elim
 rename_i M d7;obtain⟨an,p,b⟩:=b;have t:=rr F i d7;obtain⟨n,e,d,m⟩:=f.store q x p t aa (S2:=[]) aa aa;exact D _ _ e d aa t.len t.one n m b
end
end
section
theorem pQ (a:bp (bp x)) (c b:bo):((a.take b).drop c).flatten.Sublist a.flatten:=by have d:a.flatten=((a.take b).take c).flatten++((a.take b).drop c).flatten++(a.drop b).flatten:=(by grind [List.flatten_append,List.take_append_drop]);grind
section
variable {E:cG} {C:a6} {st:aq} {a:Act} {A:dY} {w:bz} {I:aW} {rt:bo->ea} {fp:bo->ei} {o:bJ} {Q:aq->Prop}
def py (c:bp (bo×af)) (st:aq) (a:bo) (i:ag):m9:=
 match i with
 |.ref id []=>match ah st.h id with
  |some b=>.bk ⟨(a,.ref a [])::kill [id,a] [] st.g,(a,b)::del [id,a] st.h⟩
  |none=>.bad
 |.ref id f=>bif bB id a then .bad else .bk ⟨(a,.ref id f)::kill [a] [] st.g,del [a] st.h⟩
 |.view id [] e d=>match ah st.h id with
  |some ⟨.osl b,j⟩=>.bk ⟨(a,.ref a [])::kill [id,a] [] st.g,(a,⟨.osl b,(j.take d).drop e⟩)::del [id,a] st.h⟩
  |_=>.bad
 |.aS (.slice bq 0 0)=>match ah c a with
  |some (.osl b)=>.bk ⟨(a,.ref a [])::kill [a] [] st.g,(a,⟨.osl b,[]⟩)::del [a] st.h⟩
  |_=>.bad
 |_=>.bad
theorem hE.one {w':bz} {I':aW} {S:ei} {d:bo} {t:aj} {cs:ea} {f:ei} (y:d∈S\/ah st.h d=bq) (j:w.heap.size<=w'.heap.size) (k:w'.os=w.os) (l:w'.tape=w.tape) (m:w'.output=w.output) (n:∀a,a<w.heap.size->(∀id∈S,∀t,ah st.h id=bn t->a∉fp id)->w'.heap[a]?=w.heap[a]?) (r:∀a,a<w.heap.size->fk w' a=fk w a) (o:∀a,I a->I' a) (p:∀a,I' a->I a\/(a<w'.heap.size/\(w.heap.size<=a\/∃id∈S,∃t,ah st.h id=bn t/\a∈fp id))) (D:al (az I' C.B) w' t.1 cs t.2 f) (z:f.Nodup) (g:∀a∈f,¬I' a/\a<w'.heap.size/\(w.heap.size<=a\/∃i∈S,∃v,ah st.h i=bn v/\a∈fp i)) (q:I'.t=I.t:=by first|rfl|assumption):hE C st w w' I I' rt fp S [] [(d,t)] (λ_=>cs) (λ_=>f):=by
 refine⟨j,k,l,m,n,λa g=>.of_eq (r a g),o,p,?_,?_,(λid s=>by grind),(λid s=>by grind),q⟩
 ·intro u x e;rw[aU] at e;split at e
  ·grind
  cases e
 intro u E x F b c A;rw[aU] at b c;split at b
 ·split at c
  ·omega
  cases c
 cases b
theorem ba.yn (d7:o.op=.assign c) (d3:o.dst=bn b) (am:C.ok b) (e:(py j st b (aw st.g c)).K Q):ba E C o st Q:=by
 rintro a w ⟨I,rt,fp,s⟩ next V d6
 have n:=s.aw c;have ap:(bF a.eval o).run E.P w=.ok (.value (a.eval c)) w:=(by simp[bF,d7]);have H:∀(T:aq) (rtn:bo->ea) (fpn:bo->ei),aK C T (a.tmps.setIfInBounds b (a.eval c)) w I rtn fpn->Q T->o.wp E.P a w next V:=by
  intro T rtn fpn x M;unfold cc;rw[ap];show next (a.put o.dst (a.eval c)) w
  rw[d3];exact d6 _ _ _ M br ⟨I,rtn,fpn,x⟩
 have z:∀(S:ei) (i:aj) (A:ea) (p:ei),b∈S->al (az I C.B) w i.1 A i.2 p->p.Nodup->(∀l∈p,∃a4∈S,∃ex,ah st.h a4=bn ex/\l∈fp a4)->a.eval c=aN i.1 A->Q ⟨(b,.ref b [])::kill S [] st.g,(b,i)::del S st.h⟩->o.wp E.P a w next V:=by
  intro S i A p d4 x D u d8 M;have v:=s.il (hE.one (st:=st) (C:=C) (rt:=rt) (w':=w) (I':=I) (S:=S) (d:=b) (t:=i) (cs:=A) (f:=p) (.inl d4) (eL _) rfl rfl rfl (λ_ _ _=>rfl) (λ_ _=>rfl) (λ_ e=>e) (λ_ e=>.inl e) x D (λl d0=>by
   obtain⟨F,q,fn,v,d1⟩:=u l d0;obtain⟨el,em,aA,aH⟩:=(s.tree F fn v).2.2 l d1;grind))
  refine H _ _ _ (v.put am (av:=.ref b []) ?_) M;rw[d8];refine .ref (t:=i) (loc:=bq) (by rw[fS,aU,bc br];rfl) ?_;rw[qd];exact ar.here
 unfold py at e;split at e
 ·rename_i id m;split at e
  case h_2=>exact e.elim
  rename_i i y;rw[m] at n;obtain⟨R,bl,eq⟩:=s.tree id i y;refine z [id,b] i (rt id) (fp id) aa R bl (λl u=>⟨id,aa,i,y,u⟩) ?_ e;generalize a0:a.eval c=bs at n;cases n with|ref N an=>
  grind [ar.cO]
 ·rename_i id O _ m;cases u:bB id b with
  |true=>rw[u] at e;exact e.elim
  |false=>
   rw[u] at e;have f7:id≠b:=λf1=>ae;have v:=s.il (S:=[b]) (keep:=[]) (new:=[]) (rtn:=rt) (fpn:=fp) (w':=w) (I':=I) ⟨eL _,br,br,br,λ_ _ _=>rfl,λ_ _=>.refl _ _,λ_ e=>e,λ_ e=>.inl e,(λ_ _ e=>by cases e),(λ_ _ _ _ e=>by cases e),(λ_ e=>by cases e),(λ_ e=>by cases e),br⟩;refine H _ _ _ (v.put am (av:=.ref id O) ?_) e;have:=v.aw (a:=a) c;have f2:aw (kill [b] [] st.g) c=.ref id O:=by
    cases c with
    |tmp i=>
     show gt (kill [b] [] st.g) i=_;rw[jf,show gt st.g i=.ref id O from m];grind [ey,cS,cI,ag.cD,ag.ids,a5,absurd]
    |const fs=>exact absurd m (by cases fs<;>simp[aw])
    |global f3|func p=>cases m
   grind
 ·rename_i id k q m;split at e
  case h_2=>exact e.elim
  rename_i i bx y;rw[m] at n;obtain⟨R,bl,eq⟩:=s.tree id _ y;generalize a0:a.eval c=bs at n z H ap;cases n with|fV=>(exact z [id,b] ⟨.osl i,[]⟩ [.slice bq 0 0] [] aa ⟨bq,0,br,.inl ⟨br,br,br,br⟩⟩ aa aa br e)|view N an f8 f9 gc=>
  rename_i l G ge r;rw[y] at N;cases N;obtain⟨ak,_,cv⟩:=ar.cO.1 an;cases ak;obtain⟨fx,fT,L,x⟩:=R;rw[cv] at L;simp only[eQ,cg,b2] at L;obtain⟨rfl,rfl,rfl⟩:=L;rcases x with⟨J,_⟩|⟨fz,gf,ad,J,f5,el,em,aA,aH⟩
  ·cases J
  cases J;have d5:((bx.take q).drop k).length=q-k:=ab;refine z [id,b] ⟨.osl i,(bx.take q).drop k⟩ [.slice (bn ⟨l,if r=k then G else G+k*i.size,bq⟩) (q-k) (r-k)] (l::((ad.take q).drop k).flatten) aa ?_ ?_ ?_ br e
  ·refine⟨bn ⟨l,if r=k then G else G+k*i.size,bq⟩,r-k,by rw[d5],.inr ⟨l,_,(ad.take q).drop k,br,br,ab,ab,?_,?_⟩⟩
   ·intro d9 dl ds;by_cases d2:r=k
    ·grind
    rw[a8 d2] at dl ds;have:k*i.size+(r-k)*i.size=r*i.size:=(by rw[<-ix];grind);exact aA d9 U U
   intro F ft p a3 D;have f6:F<q-k:=ab;rw[ks,lw U] at a3 D;obtain⟨co,ce,f0,ci⟩:=aH (k+F) ft p a3 D;refine⟨co,ce,?_,ci⟩;grind
  ·grind [List.nodup_cons,pQ]
  grind [pQ,I7]
 ·rename_i m;split at e
  case h_2=>exact e.elim
  rename_i i f4;rw[m] at n;refine z [b] ⟨.osl i,[]⟩ [.slice bq 0 0] [] aa ⟨bq,0,br,.inl ⟨br,br,br,br⟩⟩ aa aa ?_ e;generalize a0:a.eval c=bs at n;cases n;rfl
 exact e.elim
end
end
section
inductive gY (σ:af) where
 |bk (ys:bp σ.den)
 |part (α:Type) (φ:α->Prop) (f:α->bp σ.den)
 |bad
def kj (g:bp (bo×aj)) (b:af) (k:ag):gY b:=
 match k with
 |.val (.au _ j) a=>if e:j=b then .bk (e▸a) else .bad
 |.aS (.slice bq 0 0)=>.bk []
 |.ref id c=>match ah g id with
  |some ⟨f,d⟩=>bif b.pure then .part (bp b.den) (λa=>aX f d c (.osl b) a) (λa=>a) else .bad
  |none=>.bad
 |.view id c i h=>match ah g id with
  |some ⟨f,d⟩=>bif b.pure then .part (bp b.den) (λa=>aX f d c (.osl b) a) (λa=>(a.take h).drop i) else .bad
  |none=>.bad
 |_=>.bad
def gY.to {f:af} (g:gY f) (c:bo->Prop) (b:bp f.den->aq):m9:=
 match g with
 |.bk e=>.part bS (λ_=>c e.length) (λ_=>b e)
 |.part h i d=>.part h (λa=>i a/\c (d a).length) (λa=>b (d a))
 |.bad=>.bad
def pw (
 tt:bp (bC×af)) (t:bp (bo×af)) (st:aq) (a:bo) (s:bC) (j k:ag):m9:=
 match ew tt s with
 |none=>.bad
 |some o=>match j with
  |.ref id []=>match ah st.h id with
   |some ⟨.osl b,d⟩=>bif aD o b&&bR b.size 1300 then
    match b.pure,k with
    |false,.ref n []=>match ah st.h n with
     |some ⟨.osl v,c⟩=>if e:v=b then bif bB id n then .bad else .part bS (λ_=>d.length+c.length<=fG) (λ_=>⟨(a,.ref a [])::kill [id,n,a] [] st.g,(a,⟨.osl b,d++(e▸c)⟩)::del [id,n,a] st.h⟩) else .bad
     |_=>.bad
    |_,k=>(kj st.h b k).to (λl=>d.length+l<=fG) (λc=>⟨(a,.ref a [])::kill [id,a] [] st.g,(a,⟨.osl b,d++c⟩)::del [id,a] st.h⟩)
    else .bad
   |_=>.bad
  |.ref id f=>match ah st.h id,ah st.h a with
   |some ⟨m,j⟩,bq=>match bm m f with
    |some (.osl b)=>bif aD o b&&bR b.size 1300&&b.gk then
     match kj st.h b k with
     |.bk c=>.part (bp b.den) (λd=>aX m j f (.osl b) d/\d.length+c.length<=fG) (λ_=>⟨(a,.app id f b c [a])::kill [id] [(id,f),(id,[])] st.g,(a,⟨.aY,()⟩)::(id,⟨m,j⟩)::del [id] st.h⟩)
     |.part u w p=>.part (bp b.den×u) (λi=>aX m j f (.osl b) i.1/\w i.2/\i.1.length+(p i.2).length<=fG) (λi=>⟨(a,.app id f b (p i.2) [a])::kill [id] [(id,f),(id,[])] st.g,(a,⟨.aY,()⟩)::(id,⟨m,j⟩)::del [id] st.h⟩)
     |.bad=>.bad
     else .bad
    |_=>.bad
   |_,_=>.bad
  |.view id [] r q=>match ah st.h id with
   |some ⟨.osl b,d⟩=>bif aD o b&&bR b.size 1300 then
    (kj st.h b k).to (λl=>((d.take q).drop r).length+l<=fG) (λc=>⟨(a,.ref a [])::kill [id,a] [] st.g,(a,⟨.osl b,(d.take q).drop r++c⟩)::del [id,a] st.h⟩)
    else .bad
   |_=>.bad
  |.aS (.slice bq 0 0)=>match ah t a with
   |some (.osl b)=>bif aD o b&&bR b.size 1300 then
    (kj st.h b k).to (λl=>l<=fG) (λc=>⟨(a,.ref a [])::kill [a] [] st.g,(a,⟨.osl b,c⟩)::del [a] st.h⟩)
    else .bad
   |_=>.bad
  |_=>.bad
section
variable {E:cG} {C:a6} {st:aq} {a:Act} {A:dY} {w:bz} {I:aW} {rt:bo->ea} {fp:bo->ei} {o:bJ} {Q:aq->Prop}
def oe (I:aW) (e:bo->Prop) (w:bz) (d:af) (g:Value) (c:bp d.den):Prop:=
 ∃b f a,g=.slice b c.length f/\fW (az I e) w d b c a/\a.flatten=[]
def rU {b:dV} (c:∀a∈b,a=[]):b.flatten=[]:=by
 induction b with
 |nil=>rfl
 |cons f g e=>rw[hA,c f aa,e (λa d=>c a (eJ _ d))];rfl
theorem fW.pure {f:aZ} {e:af} {g:bv b6} {d:bp e.den} {c:dV} (i:e.pure=bu) (a:fW f w e g d c):c.flatten=[]:=by
 refine rU (λm h=>?_);obtain⟨q,a⟩:=a;obtain⟨b,n,rfl⟩:=kw.1 h;rcases a with rfl|⟨k,o,_,a⟩
 ·grind
 have p:b<d.length:=U;obtain⟨l,_,_,j⟩:=a b d[b] c[b] aa aa;exact j.pure i
def gY.holds {c:af} (e:gY c) (b:bp c.den):Prop:=
 match e with
 |.bk f=>b=f
 |.part g h d=>∃a:g,h a/\b=d a
 |.bad=>bY
def gY.qG {f:gY d} {g:bp d.den->aq} (b:(f.to S g).K Q):∃a,f.holds a/\S a.length/\Q (g a):=by
 unfold gY.to at b;cases f with
 |bk a=>obtain⟨_,c,e⟩:=b;exact⟨a,br,c,e⟩
 |part k l j=>obtain⟨h,⟨c,e⟩,i⟩:=b;exact⟨j h,⟨h,c,br⟩,e,i⟩
 |bad=>exact b.elim
theorem mO (x:aK C st a.tmps w I rt fp) {s:bp d.den} (b:(kj st.h d (aw st.g c)).holds s):oe I C.B w d (a.eval c) s:=by
 have f:=x.aw c;unfold kj at b;generalize ad:a.eval c=bs at f;split at b
 ·rename_i a0 bl q j;split at b
  case isFalse=>exact b.elim
  rename_i n;subst n;obtain rfl:s=q:=b;rw[j] at f;cases f with|val E=>
  have N:=E;obtain⟨_,t,m,rfl,_⟩:=N;obtain⟨_,e⟩:=fW.au E;exact⟨t,m,_,br,e,aa⟩
 ·rename_i j;obtain rfl:s=[]:=b;rw[j] at f;cases f;exact⟨bq,0,[],br,⟨br,.inl br⟩,br⟩
 ·rename_i id M j;split at b
  case h_2=>exact b.elim
  rename_i P O o;cases k:d.pure with
  |false=>rw[k] at b;exact b.elim
  |true=>
   rw[k] at b;obtain⟨q,y,rfl⟩:=b;rw[j] at f;cases f with|ref p z=>
   rw[o] at p;cases p;obtain⟨rfl,u,r,_⟩:=x.fF o y z;have L:=r;obtain⟨t,m,rfl,_⟩:=L;obtain⟨_,_,v,e,_⟩:=fW.osl r;exact⟨t,m,v,br,e,e.pure k⟩
 ·rename_i id M i l j;split at b
  case h_2=>exact b.elim
  rename_i P O o;cases k:d.pure with
  |false=>rw[k] at b;exact b.elim
  |true=>
   rw[k] at b;obtain⟨q,y,rfl⟩:=b;rw[j] at f;cases f with|fV=>(exact⟨bq,0,[],br,⟨br,.inl br⟩,br⟩)|view p z am an ap=>
   rename_i F a4 av m;rw[o] at p;cases p;obtain⟨n,u,r,_⟩:=x.fF o y z;cases n;obtain⟨ak,_,v,e,_⟩:=fW.osl r;have K:((q.take l).drop i).length=l-i:=ab;show oe I C.B w d _ ((q.take l).drop i);refine⟨_,m-i,(v.take l).drop i,by rw[K],⟨by simp[e.1],?_⟩,?_⟩
   ·obtain⟨T,e⟩:=e;by_cases V:l=i
    ·grind
    right;rcases e with rfl|⟨Q,a3,n,e⟩
    ·grind
    cases n;refine⟨F,_,br,λD c u f A=>?_⟩;have S:D<l-i:=ab;rw[ks,lw U] at f A;obtain⟨J,G,R,H⟩:=e (i+D) c u f A;refine⟨J,G,?_,H⟩;grind
   have:=e.pure k;grind [pQ]
 exact b.elim
theorem E6 {c e j a:bo} {k:bp d.den} (o:al t w (.osl d) [.slice (bn ⟨c,e,bq⟩) j f] k l) (A:l.Nodup) (C:b<=a) (D:a<=j) (E:j<=f):∃h,al t w (.osl d) [.slice (bn ⟨c,if f=b then e else e+b*d.size,bq⟩) (a-b) (f-b)] ((k.take a).drop b) h/\h.Nodup/\∀n∈h,n∈l:=by
 obtain⟨x,z,m,u⟩:=o;simp only[eQ,cg,b2] at m;obtain⟨rfl,rfl,rfl⟩:=m;rcases u with⟨i,_⟩|⟨y,F,g,i,rfl,G,H,aA,aH⟩
 ·cases i
 cases i;have s:((k.take a).drop b).length=a-b:=ab;have B:((g.take a).drop b).flatten.Sublist g.flatten:=pQ _ _ _;refine⟨c::((g.take a).drop b).flatten,⟨bn ⟨c,if f=b then e else e+b*d.size,bq⟩,f-b,by rw[s],.inr ⟨c,_,(g.take a).drop b,br,br,ab,U,?_,?_⟩⟩,?_,?_⟩
 ·intro v p q;by_cases r:f=b
  ·grind
  rw[a8 r] at p q;have:b*d.size+(f-b)*d.size=f*d.size:=(by rw[<-ix];grind);exact aA v U U
 ·grind
 ·grind
 grind
def tx (d:o.op=.call {callee:=.builtin .append,args:=#[c,h],argTypes:=#[N,N]}) {b:Value} (f:(IU #[N,N] o.type #[a.eval c,a.eval h]).run E.P w=.ok b e):(bF a.eval o).run E.P w=.ok (.value b) e:=by simp only[bF,d,en,invoke,ep,bP,b9,bT,Jm,fm,Jn,f]
theorem ba.om {L M:bH} (ds:o.op=.call {callee:=.builtin .append,args:=#[L,M],argTypes:=#[N,N]}) (a0:o.dst=bn b) (bl:C.ok b) (p:aK C st a.tmps w I rt fp) {next:Act->bz->Prop} (dl:∀J y m,Q J->y.defers=a.defers->cV C J y.tmps m->next y m) {K l:af} (am:ew E.tt N=bn K) (ci:aD K l=bu) (d3:l.size<=1300) {S:ei} (a3:b∈S) {H A:bo} {xs q:bp l.den} {f1:ei} {v:dV} {O:bv b6} {z:bo} (f3:a.eval L=.slice s H A) (d2:al (az I C.B) w (.osl l) [.slice s H A] xs f1) (bx:f1.Nodup) (fz:∀e∈f1,∃i∈S,∃j,ah st.h i=bn j/\e∈fp i) (f4:a.eval M=.slice O q.length z) (bs:fW (az I C.B) w l O q v) (ce:v.flatten.Nodup) (fT:∀e∈v.flatten,∃i∈S,∃j,ah st.h i=bn j/\e∈fp i) (a4:∀e∈f1,e∉v.flatten) (co:xs.length+q.length<=fG) (d0:Q ⟨(b,.ref b [])::kill S [] st.g,(b,⟨.osl l,xs++q⟩)::del S st.h⟩):o.wp E.P a w next r:=by
 obtain⟨i,fn,fs,U,V⟩:=ew.ok am;have F:=V.lay ci;obtain⟨f5,_,cP,_⟩:=F.info;have f2:∀i j,ah st.h i=bn j->∀e∈fp i,e<w.heap.size/\∀G,¬az I C.B G e:=λi j x e k=>⟨((p.tree i j x).2.2 e k).2.2.1,p.notM x e k⟩;obtain⟨u,m,D,f8,d6,_,d7,d8,d9,el,em,eq,d5,f9,_,ex⟩:=q9 (P:=E.P) (ty:=o.type) U F cP.info d3 d2 (c:=z) bs bx (λe k=>by grind) ce a4 (λG e cv=>p.ib e (hq cv)) (λe k=>by grind) (λe k=>by grind) co;have d1:(bF a.eval o).run E.P w=.ok (.value u) m:=tx (E:=E) ds ab;have ap:∀e∈D,(∃i∈S,∃j,ah st.h i=bn j/\e∈fp i)\/(w.heap.size<=e/\e<m.heap.size):=λe k=>by
  rcases d8 e k with n|n|n
  ·grind
  ·grind
  omega
 have d4:=p.il (hE.one (st:=st) (C:=C) (rt:=rt) (w':=m) (I':=I) (S:=S) (d:=b) (t:=⟨.osl l,xs++q⟩) (cs:=[u]) (f:=D) (.inl a3) d9 el em eq (λe k ft=>d5 e k (λfx=>by grind)) ex (λ_ n=>n) (λ_ n=>.inl n) d6 d7 (λe k=>by
   rcases ap e k with⟨i,f0,j,x,an⟩|⟨R,T⟩
   ·obtain⟨f6,f7,aA,aH⟩:=(p.tree i j x).2.2 e an;grind
   exact⟨λad=>by have:=p.ib e (.inl ad);omega,T,.inl R⟩))
 unfold cc;rw[d1];show next (a.put o.dst u) m
 rw[a0];refine dl _ _ _ d0 br ⟨I,_,_,d4.put bl (av:=.ref b []) ?_⟩;have:u=aN (.osl l) [u]:=rfl;rw[this];refine .ref (t:=⟨.osl l,xs++q⟩) (loc:=bq) (by rw[fS,aU,bc br];rfl) ?_;rw[qd];exact ar.here
end
end
section
section
variable {E:cG} {C:a6} {st:aq} {a:Act} {A:dY} {w:bz} {I:aW} {rt:bo->ea} {fp:bo->ei} {o:bJ} {Q:aq->Prop}
theorem tA {a4 f6:bH} (lt:o.op=.call {callee:=.builtin .append,args:=#[a4,f6],argTypes:=#[N,N]}) (co:o.dst=bn b) (it:C.ok b) (q:aK C st a.tmps w I rt fp) {next:Act->bz->Prop} (lk:∀f4 bl w',Q f4->bl.defers=a.defers->cV C f4 bl.tmps w'->next bl w') {a3 p:af} (hp:ew E.tt N=bn a3) (jp:aD a3 p=bu) (mg:p.size<=1300) (d2:p.gk=bu) {id:bo} (i0:aw st.g a4=.ref id i) {n:d.den} (v:ah st.h id=bn ⟨d,n⟩) (is:ah st.h b=bq) {z T:bp p.den} (dl:aX d n i (.osl p) z) {S2:ei} (mt:∃d5 H D,a.eval f6=.slice d5 T.length H/\fW (az I C.B) w p d5 T D/\D.flatten.Nodup/\∀e∈D.flatten,∃f∈S2,∃A,ah st.h f=bn A/\e∈fp f) (ci:∀f∈S2,f≠id/\∃a3,ah st.h f=bn a3) (kd:z.length+T.length<=fG) (ft:Q ⟨(b,.app id i p T (b::S2))::kill [id] [(id,i),(id,[])] st.g,(b,⟨.aY,()⟩)::(id,⟨d,n⟩)::del [id] st.h⟩):o.wp E.P a w next r:=by
 obtain⟨f,t4,ce,gl,go⟩:=ew.ok hp;have d9:=go.lay jp;obtain⟨vm,_,cP,_⟩:=d9.info;have d3:=q.aw a4;rw[i0] at d3;generalize mp:a.eval a4=v4 at d3;cases d3 with|ref s d1=>
 rename_i wf d6 f7;rw[v] at s;cases s;simp only at d1;obtain⟨os,f1,pl⟩:=q.tree id _ v;obtain⟨v0,t6,J,d4,gc,d8,ge,U,up,gf,gh⟩:=oL i (loc:=bq) os (λ_ _ k=>by cases k) f1 (λ_ _ k=>by cases k) (q.notM v) dl;obtain⟨f8,ak,f9⟩:=d1.fM gc;subst f8;subst ak;subst f9;have fs:=U.nodup_iff.1 f1;rw[gI] at fs;obtain⟨kg,fn,lb⟩:=fs;obtain⟨bs,bx,rfl,_⟩:=(show al (az I C.B) w (.osl p) f7 z J from d8);obtain⟨d5,H,D,ne,i1,i3,cv⟩:=mt;have am:∀e∈J,e∈fp id:=λe j=>U.mem_iff.2 ab;have d0:∀e∈fp id,e<w.heap.size/\∀O,¬az I C.B O e:=λe j=>⟨(pl e j).2.2.1,q.notM v e j⟩;have nd:∀e∈D.flatten,e<w.heap.size:=λe j=>(by obtain⟨f,m,A,an,V⟩:=cv e j;exact((q.tree f A an).2.2 e V).2.2.1);obtain⟨f5,w',d7,pr,ps,f3,rd,rg,rs,tf,to,ts,f2,v3,_,t0⟩:=q9 (P:=E.P) (ty:=o.type) gl d9 cP.info mg d8 (c:=H) i1 kg (λe j=>(d0 e (am e j)).2) i3 (λe j ii=>by
  obtain⟨f,m,A,an,V⟩:=cv e ii;exact q.dis id f _ A v an (ci f m).1.symm e (am e j) V)
  (λO e ex=>q.ib e (hq ex)) (λe j=>(d0 e (am e j)).1) nd kd
 have mc:(bF a.eval o).run E.P w=.ok (.value f5) w':=tx (E:=E) lt (by rw[mp,ne];exact pr);have fx:∀e∈d4,e<w.heap.size/\e∉J:=λe j=>⟨(d0 e (U.mem_iff.2 ab)).1,λk=>lb e k e j br⟩;have fz:∀e,(∃O,az I C.B O e)\/e∈d4->aP w w' e:=λe j=>by
  rcases j with⟨O,ex⟩|j
  ·grind
  exact .of_heap (f2 e (fx e j).1 (fx e j).2)
 have hs:∀e R,d6=bn (e,R)->a9 w' e R [.slice bs z.length bx]:=λe R l=>(by have j:e∈d4:=ab;exact(ge e R l).1.cQ (fz e (.inr j)));obtain⟨t7,K,vs,_,no,_,nu,of⟩:=gf w' (az I C.B) [.slice bs z.length bx] z J n (λ_ _ k=>k) rfl (λe j=>by
  have ad:aP w w' e:=fz e (by
   rcases j with k|k|⟨R,k⟩
   ·grind
   ·grind
   grind)
  exact⟨λx _=>(ad.1 x).1,λx=>(ad.1 x).2,λx=>by rw[(ad.1 x).1],ad.2⟩) f3 (λ_ _=>rfl) hs (be.same dl)
 obtain rfl:=no br (.inr br);have ut:K.Perm (fp id):=nu.trans U.symm;have u:b≠id:=λl=>ab;have em:∀e∈d7,e∈J\/e∈D.flatten\/(w.heap.size<=e/\e<w'.heap.size):=λe j=>rg e j
 let L:=d7.filter λe=>bI (w.heap.size<=e)
 have i2:∀e∈L,w.heap.size<=e/\e<w'.heap.size:=λe j=>by
  have ic:=fr.1 j;have ce:w.heap.size<=e:=ab;rcases em e ic.1 with k|k|k
  ·grind
  ·grind
  omega
 have mo:=q.il (S:=[id]) (keep:=[(id,i),(id,[])]) (new:=[(b,⟨.aY,()⟩),(id,⟨d,n⟩)]) (rtn:=λf=>if f=b then[] else rt id) (fpn:=λf=>if f=b then L else K) (w':=w') (I':=I) ⟨rs,tf,to,ts,λe j gt=>f2 e j (λk=>gt id aa _ v (am e k)),λe j=>.of_eq (t0 e j),λ_ k=>k,λ_ k=>.inl k,(by
   intro f G m;rw[aU] at m;split at m
   ·rename_i l;subst l;cases m;refine⟨.inr is,(by simp only[b8];exact br),ab,λe j=>?_⟩;simp only[b8] at j;obtain⟨y,a0⟩:=i2 e j;exact⟨λgs=>by have:=q.ib e (.inl gs);omega,a0,.inl y⟩
   ·rw[aU] at m;split at m
    ·rename_i _ l;subst l;grind
    cases m),(by
   intro f x t1 t2 m i8 u8 e j;have el:∀ap G,ah [(b,(⟨.aY,()⟩:aj)),(id,⟨d,n⟩)] ap=bn G->ap=b\/ap=id:=λap G F=>by
    rw[aU] at F;split at F
    ·omega
    rw[aU] at F;split at F
    ·omega
    cases F
   have M:¬(id=b):=λl=>u l.symm;rcases el f t1 m with rfl|rfl<;>rcases el x t2 i8 with rfl|rfl
   ·omega
   ·grind
   ·grind
   omega),(by
   intro f m G s;have ds:f=(id,i)\/f=(id,[]):=ab;have ce:f.1=id:=ab;have s:ah st.h id=bn G:=ab;rw[v] at s;obtain rfl:=c6 s;have M:¬(id=b):=λl=>u l.symm;refine⟨⟨d,n⟩,by rw[ce,aU,a8 u,aU,bc br],br,ab,(by rcases ds with rfl|rfl;exact⟨_,d1.ty⟩;exact⟨d,by cases d<;>rfl⟩),λf0 _ _ _ F ft=>?_⟩;grind [p0]),(by
   intro f m G s f0 wt v6 on t5 t8 co d2 fn eq l2;have ds:f=(id,i)\/f=(id,[]):=ab;rcases ds with rfl|rfl
   ·rw[v] at s;obtain rfl:=c6 s;have M:¬(id=b):=λl=>u l.symm;refine⟨⟨d,n⟩,by rw[aU,a8 u,aU,bc br],eq,λH io=>?_⟩;obtain⟨y,a0⟩:=gh f0 _ _ _ _ _ co (by exact d2) eq fn l2 H io;grind
   grind [lW]),br⟩
 unfold cc;rw[mc];show next (a.put o.dst f5) w'
 rw[co];refine lk _ _ _ ft br ⟨I,_,_,mo.put it (av:=.app id i p T (b::S2)) ?_⟩;have M:¬(id=b):=λl=>u l.symm;have ol:ah ([(b,(⟨.aY,()⟩:aj)),(id,⟨d,n⟩)]++del [id] st.h) id=bn ⟨d,n⟩:=(by rw[fS,aU,a8 u,aU,bc br];rfl);have on:ah ([(b,(⟨.aY,()⟩:aj)),(id,⟨d,n⟩)]++del [id] st.h) b=bn ⟨.aY,()⟩:=(by rw[fS,aU,bc br];rfl);have fT:ah [(b,(⟨.aY,()⟩:aj)),(id,⟨d,n⟩)] id=bn ⟨d,n⟩:=(by rw[aU,a8 u,aU,bc br]);have or:ah [(b,(⟨.aY,()⟩:aj)),(id,⟨d,n⟩)] b=bn ⟨.aY,()⟩:=(by rw[aU,bc br]);have ul:bg [(b,(⟨.aY,()⟩:aj)),(id,⟨d,n⟩)] (λf=>if f=b then L else K) fp id=K:=(by simp only[bg,fT,a8 M]);have t9:bg [(b,(⟨.aY,()⟩:aj)),(id,⟨d,n⟩)] (λf=>if f=b then L else K) fp b=L:=(by simp only[bg,or,b8]);have pm:bg [(b,(⟨.aY,()⟩:aj)),(id,⟨d,n⟩)] (λf=>if f=b then[] else rt id) rt id=rt id:=(by simp only[bg,fT,a8 M]);have le:ar w' d bq (rt id) i (.osl p) d6 [.slice bs z.length bx]:=of.1;refine .app (t:=⟨d,n⟩) ol d2 (by rw[pm];exact le) dl f3 (λe j=>by grind) ps ?_ ?_ rd
 ·intro f m;rcases c2.1 m with rfl|m
  ·grind
  obtain⟨y,t3,a0⟩:=ci f m;have cs:¬(b=f):=λl=>ab;refine⟨y,t3,?_⟩;rw[fS,aU,a8 cs,aU,a8 (λl=>y l.symm),gQ,a8 ab,a0];rfl
 intro e j;rcases em e j with k|k|k
 ·grind
 ·obtain⟨f,m,A,an,V⟩:=cv e k;obtain⟨y,_⟩:=ci f m;have cs:¬(b=f):=λl=>ab;have v1:ah [(b,(⟨.aY,()⟩:aj)),(id,⟨d,n⟩)] f=bq:=(by rw[aU,a8 cs,aU,a8 (λl=>y l.symm)];rfl);exact .inr ⟨f,eJ _ m,by grind [bg]⟩
 grind
def tz {q:bH} (M:o.op=.call {callee:=.builtin .append,args:=#[c,q],argTypes:=#[N,N]}) (z:o.dst=bn b) (D:C.ok b) (x:aK C st a.tmps w I rt fp) {next:Act->bz->Prop} (L:∀l f n,Q l->f.defers=a.defers->cV C l f.tmps n->next f n) {m:af} (y:ew E.tt N=bn m) (H:aD m d=bu) (R:d.size<=1300) (K:d.gk=bu) {id:bo} (F:aw st.g c=.ref id i) {e:af} {k:e.den} (S:ah st.h id=bn ⟨e,k⟩) (A:ah st.h b=bq) {p j:bp d.den} (G:aX e k i (.osl d) p) (T:oe I C.B w d (a.eval q) j) (J:p.length+j.length<=fG) (O:Q ⟨(b,.app id i d j [b])::kill [id] [(id,i),(id,[])] st.g,(b,⟨.aY,()⟩)::(id,⟨e,k⟩)::del [id] st.h⟩):o.wp E.P a w next r:=by obtain⟨U,s,t,u,v,V⟩:=T;exact tA (S2:=[]) M z D x L y H R K F S A G ⟨U,s,t,u,v,ab,ab⟩ aa J O
end
end
section
section
variable {E:cG} {C:a6} {st:aq} {o:bJ} {Q:aq->Prop}
theorem ba.app {d3:bp (bo×af)} {U:bC} {z L:bH} {s:bo} (y:o.op=.call {callee:=.builtin .append,args:=#[z,L],argTypes:=#[U,U]}) (v:o.dst=bn s) (w:C.ok s) (a:(pw E.tt d3 st s U (aw st.g z) (aw st.g L)).K Q):ba E C o st Q:=by
 rintro A J ⟨F,R,H,c⟩ next f2 x
 have q:=c.aw z;unfold pw at a;split at a
 ·exact a.elim
 rename_i T u;split at a
 ·rename_i id t;split at a
  case h_2=>exact a.elim
  rename_i e l f;cases b:(aD T e&&bR e.size 1300) with
  |false=>rw[b] at a;exact a.elim
  |true=>
  rw[b] at a;simp only[aC] at b;obtain⟨j,d⟩:=b;have d:=c5 d;simp only[bK] at a;rw[t] at q;generalize D:A.eval z=d1 at q;cases q with|ref I ap=>
  rw[f] at I;cases I;obtain⟨ak,_,G⟩:=ar.cO.1 ap;subst ak;subst G;obtain⟨O,P,ft⟩:=c.tree id _ f;obtain⟨a3,ad,f5,_⟩:=(show al (az F C.B) J (.osl e) (R id) l (H id) from O);have dl:A.eval z=.slice a3 l.length ad:=(by rw[D];show(R id).headD bL=_;grind);have d0:al (az F C.B) J (.osl e) [.slice a3 l.length ad] l (H id):=ab;split at a
  ·rename_i k f8 d4;split at a
   case h_2=>exact a.elim
   rename_i d2 r N;split at a
   case isFalse=>exact a.elim
   rename_i bs;subst bs;cases bx:bB id k with
   |true=>rw[bx] at a;exact a.elim
   |false=>
   rw[bx] at a;have d8:id≠k:=λbs=>(by grind [Kk]);obtain⟨_,h,a⟩:=a;have av:=c.aw L;rw[d4] at av;generalize p:A.eval L=go at av;cases av with|ref cv d7=>
   rw[N] at cv;cases cv;obtain⟨ak,_,G⟩:=ar.cO.1 d7;subst ak;subst G;obtain⟨fx,fT,gl⟩:=c.tree k _ N;obtain⟨a4,bl,f6,_⟩:=(show al (az F C.B) J (.osl d2) (R k) r (H k) from fx);have d9:A.eval L=.slice a4 r.length bl:=(by rw[p];show(R k).headD bL=_;grind);have fz:al (az F C.B) J (.osl d2) [.slice a4 r.length bl] r (H k):=ab;obtain⟨_,_,M,n,ci,d6,_⟩:=fW.osl fz;exact ba.om y v w c x u j d (S:=[id,k,s]) aa dl d0 P (λm b=>⟨id,aa,_,f,b⟩) d9 n (d6 fT) (λm b=>⟨k,aa,_,N,ci m b⟩) (λm b d5=>c.dis id k _ _ f N d8 m b (ci m d5)) h a
  obtain⟨r,i,h,a⟩:=gY.qG a;obtain⟨a0,V,M,p,n,am⟩:=mO c i;exact ba.om y v w c x u j d (S:=[id,s]) aa dl d0 P (λm b=>⟨id,aa,_,f,b⟩) p n ab ab ab h a
 ·rename_i id gh f9 t;split at a
  case h_2=>exact a.elim
  rename_i hp gs f ce;split at a
  case h_2=>exact a.elim
  rename_i e gc;cases b:(aD T e&&bR e.size 1300&&e.gk) with
  |false=>rw[b] at a;exact a.elim
  |true=>
  rw[b] at a;simp only[aC] at b;obtain⟨⟨j,d⟩,cs⟩:=b;have d:=c5 d;simp only[bK] at a;split at a
  ·rename_i r i;obtain⟨l,⟨an,h⟩,a⟩:=a;exact tz y v w c x u j d cs t f ce an (mO c (by rw[i];exact br)) h a
  ·rename_i gt hs f3 i;obtain⟨⟨l,fn⟩,⟨an,el,h⟩,a⟩:=a;exact tz y v w c x u j d cs t f ce an (mO c (by rw[i];exact⟨fn,el,br⟩)) h a
  exact a.elim
 ·rename_i id ds co t;split at a
  case h_2=>exact a.elim
  rename_i e l f;cases b:(aD T e&&bR e.size 1300) with
  |false=>rw[b] at a;exact a.elim
  |true=>
  rw[b] at a;simp only[aC] at b;obtain⟨j,d⟩:=b;have d:=c5 d;simp only[bK] at a;rw[t] at q;obtain⟨O,P,ft⟩:=c.tree id _ f;generalize D:A.eval z=d1 at q;cases q with|fV=>(obtain⟨r,i,h,a⟩:=gY.qG a;obtain⟨a0,V,M,p,n,am⟩:=mO c i;exact ba.om y v w c x u j d (S:=[id,s]) aa (xs:=[]) (f1:=[]) D ⟨bq,0,br,.inl ⟨br,br,br,br⟩⟩ aa aa p n ab ab aa ab ab)|view I ap em eq ex=>
  rename_i m gf ge ad;rw[f] at I;cases I;obtain⟨ak,_,G⟩:=ar.cO.1 ap;cases ak;obtain⟨r,i,h,a⟩:=gY.qG a;obtain⟨a0,V,M,p,n,am⟩:=mO c i;rw[G] at O;obtain⟨f0,fp,fs,aA⟩:=E6 (show al (az F C.B) J (.osl e) _ l (H id) from O) P em eq ex;have f7:((l.take co).drop ds).length=co-ds:=(by grind [fW.osl]);exact ba.om y v w c x u j d (S:=[id,s]) aa D fp fs (λm b=>⟨id,aa,_,f,aA m b⟩) p n ab ab ab h a
 ·rename_i t;split at a
  case h_2=>exact a.elim
  rename_i e f4;cases b:(aD T e&&bR e.size 1300) with
  |false=>rw[b] at a;exact a.elim
  |true=>
  rw[b] at a;simp only[aC] at b;obtain⟨j,d⟩:=b;have d:=c5 d;simp only[bK] at a;rw[t] at q;generalize D:A.eval z=d1 at q;cases q;obtain⟨r,i,h,a⟩:=gY.qG a;obtain⟨a0,V,M,p,n,am⟩:=mO c i;exact ba.om y v w c x u j d (S:=[s]) aa (xs:=[]) (f1:=[]) D ⟨bq,0,br,.inl ⟨br,br,br,br⟩⟩ aa aa p n ab ab aa ab ab
 exact a.elim
end
end
section
def ff (E:cG) (C:a6) (B:bN bJ) (g:ei) (st:aq) (Q:aq->Prop):Prop:=
 ∀(a:Act) (e:bz),cV C st a.tmps e->∀c:bU->Act->bz->Prop,(∀d b f,Q d->b.defers=a.defers->cV C d b.tmps f->c .normal b f)->cj E.P B c g a e
def gp (B:bN bJ) (st:aq) (d:bJ) (a:bA):Prop:=
 match d.guard with
 |none=>a=bu
 |some (c,e)=>match(B[c]?).bind (·.dst) with
  |some b=>match gt st.g b with
   |.val .bool f=>(f==e)=a
   |.aS (.tuple _)=>a=bw
   |_=>bY
  |none=>bY
section
variable {E:cG} {C:a6} {st:aq} {B:bN bJ} {Q:aq->Prop}
theorem gp.ok {b:Act} (h:aK C st b.tmps e w p q) {k:bJ} {g:bA} (d:gp B st k g):Iz k (yielded B b.tmps)=g:=by
 unfold gp at d;unfold Iz;split at d
 ·grind
 rename_i s v l;rw[l];split at d
 ·rename_i c i;split at d
  ·rename_i r f;have:=h.tmp c;rw[f] at this;generalize a:b.tmps.getD c bL=o at this;cases this with|val n=>
   obtain⟨_,rfl⟩:=n;have m:b.tmps[c]?=bn (.bool r):=by
    rw[JS] at a;cases j:b.tmps[c]? with
    |none=>rw[j] at a;cases a
    |some u=>rw[j] at a;simp only[Option.getD_some] at a;rw[a];rfl
   simp only[yielded,i,IX,m];rw[<-d];grind
  ·rename_i t f;have:=h.tmp c;rw[f] at this;generalize a:b.tmps.getD c bL=o at this;cases this;subst d;simp only[yielded,i,IX];rw[JS] at a;grind
  grind
 grind
def ff.nil (b:Q st):ff E C B [] st Q:=λa e c _ d=>d st a e b br c
def ff.op {a:bJ} (p:B[b]?=bn a) (t:gp B st a bu) (i:ba E C a st (λd=>ff E C B l d Q)):ff E C B (b::l) st Q:=by intro f v c e q;obtain⟨y,A,z,k⟩:=id c;simp only[cj,p];rw[t.ok k,bc br];exact .inl (i f v c _ _ (λd g w o m r=>o g w r e (λu h x j n s=>q u h x j (n.trans m) s)))
theorem ff.skip {a:bJ} (r:B[f]?=bn a) (o:a.dst=bn b) (q:C.ok b) (u:gp B st a bw) (k:ff E C B l ⟨(b,.aS bL)::st.g,st.h⟩ Q):ff E C B (f::l) st Q:=by intro z x n e s;obtain⟨d,v,j,c⟩:=id n;simp only[cj,r];rw[u.ok c,a8 aa,o];exact k _ x ⟨d,v,j,c.put q (.aS bL)⟩ e (λw i y m p t=>s w i y m p t)
def cV.oA {b:dY} {c:bz} {st a:aq} (f:cV C st b c) (j:iE a.g st) (k:iF a.h st) (l:hl a.g a.h=bu):cV C a b c:=by obtain⟨d,m,e,i⟩:=f;exact⟨d,m,e,i.oA j k (hl.get l)⟩
def J (E:cG) (C:a6) (e:b7) (st:aq) (Q:bU->aq->Prop):Prop:=
 ∀(a:Act) (d:bz),cV C st a.tmps d->a.defers=[]->e.wp E.P (λf b g=>∃c,Q f c/\cV C c b.tmps g/\b.defers=[]) a d
variable {A:bU->aq->Prop}
def J.E8 {a:b7} (f:iE y.g st) (i:iF y.h st) (j:hl y.g y.h=bu) (c:J E C a y A):J E C a st A:=λb k d e=>c b k (d.oA f i j) e
theorem J.region {id:bo} (c:ff E C B (ct B.size) st (λa=>A .normal a)):J E C (.region id B bw) st A:=
 λb i d e=>H8 (c b i d _ (λa _a' _w' g f h=>⟨a,g,h,f.trans e⟩))
theorem J.skip (a:A .normal st):J E C .skip st A:=λ_ _ b c=>wp_skip ⟨st,a,b,c⟩
theorem J.exit {id:bo} (a:A (.exit id) st):J E C (.exit id) st A:=λ_ _ b c=>wp_exit ⟨st,a,b,c⟩
theorem J.ret (a:A .ret st):J E C .ret st A:=λ_ _ b c=>wp_ret ⟨st,a,b,c⟩
def Eu (E:cG) (C:a6) (b:b7) (A:bU->aq->Prop):bU->aq->Prop
 |.normal,a=>J E C b a A
 |e,a=>A e a
def J.seq {d e:b7} (i:J E C d st (Eu E C e A)):J E C (.seq d e) st A:=λf m j k=>by
 refine wp_seq (wp_mono (i f m j k) ?_);rintro h g n ⟨l,a,b,c⟩;cases h with
 |normal=>exact a g n b c
 |_=>exact⟨l,a,b,c⟩
def J.cond {a:bH} {l m:b7} {c:bA} (n:aw st.g a=.val .bool c) (p:c=bu->J E C l st A) (o:c=bw->J E C m st A):J E C (.cond a l m) st A:=by
 rintro b k ⟨f,j,h,e⟩ i;have:=e.aw a;rw[n] at this;generalize q:b.eval a=s at this;cases this with|val r=>
 obtain⟨_,rfl⟩:=r;exact wp_cond_split q (λd=>p d b k ⟨f,j,h,e⟩ i) (λd=>o d b k ⟨f,j,h,e⟩ i)
def rh (id:bo) (A:bU->aq->Prop):bU->aq->Prop
 |.exit b,a=>match bB b id with
  |true=>A .normal a
  |false=>A (.exit b) a
 |e,a=>A e a
theorem J.block {id:bo} {b:b7} (f:J E C b st (rh id A)):J E C (.block id b) st A:=λd m i j=>by
 refine wp_block (wp_mono (f d m i j) ?_);rintro e n o ⟨l,a,g,h⟩;cases e with
 |exit c=>
  simp only[Exit.inBlock];simp only[rh] at a;by_cases k:c=id
  ·subst k;rw[lz] at a;grind
  have:bB c id=bw:=(by grind [et]);grind
 |_=>exact⟨l,a,g,h⟩
def h9 {a c:Type} (b:a->bv (a⊕c)):bo->a->bv c
 |0,_=>bq
 |n+1,e=>match b e with
  |none=>bq
  |some (.inl f)=>h9 b n f
  |some (.inr d)=>bn d
def r4:bo:=1000000
open Classical in
@[irreducible] def loop {σ ρ:Type} (b:σ->bv (σ⊕ρ)) (c:σ):bv ρ:=
 match h9 b r4 c with
 |some a=>bn a
 |none=>if h:∃a,∃d,h9 b d c=bn a then bn h.choose else bq
def sx {e g:Type} {f:e->bv (e⊕g)}:∀{n b:bo} {d:e} {c:g},n<=b->h9 f n d=bn c->h9 f b d=bn c
 |0,_,_,_,_,a=>by cases a
 |n+1,0,_,_,a,_=>by omega
 |n+1,b+1,d,c,h,a=>by
  simp only[h9] at a|-;split at a
  ·cases a
  ·exact sx U a
  omega
def v2 {a:x->bv (x⊕V)} {e:x} {c d:V} (g:h9 a f e=bn c) (h:h9 a b e=bn d):c=d:=
 c6 ((sx (Nat.le_max_left f b) g).symm.trans (sx (Nat.le_max_right f b) h))
theorem AI {c:x->bv (x⊕V)} {e:x} {b:V}:loop c e=bn b↔∃a,h9 c a e=bn b:=by
 unfold loop;constructor
 ·intro f;split at f
  ·exact⟨r4,ab⟩
  split at f
  ·grind
  grind
 rintro⟨a,d⟩;split
 ·rename_i k h;rw[v2 d h]
 have g:∃b,∃a,h9 c a e=bn b:=⟨b,a,d⟩;rw[dif_pos g];obtain⟨j,i⟩:=g.choose_spec;rw[v2 d i]
theorem J.loop {σ ρ L:Type} {b:b7} (gy:σ->aq) {z:σ->bv (σ⊕ρ)} {s:σ} {w:ρ->bv L} {K:L} (O:(loop z s).bind w=bn K) (T:iE (gy s).g st) (U:iF (gy s).h st) (V:hl (gy s).g (gy s).h=bu) (S:∀d q,z d=bn q->(match q with|.inl _=>True|.inr H=>w H=bn K)->J E C b (gy d) (λc t=>match q with
  |.inl r=>c=.normal/\iE (gy r).g t/\iF (gy r).h t/\hl (gy r).g (gy r).h=bu
  |.inr _=>(c=.normal->bY)/\A c t)):J E C (.loop b) st A:=by
 obtain⟨H,am,bl⟩:=a1.1 O;obtain⟨p,i⟩:=AI.1 am;have ap:∀(p:bo) (d:σ) (e:Act) (l:bz),h9 z p d=bn H->cV C (gy d) e.tmps l->e.defers=[]->∀(j:Frame) (w:bp Item) (k:bp Frame),
  ∃c v D,(∃t,A c t/\cV C t v.tmps D/\v.defers=[])/\Arrives E.P (lone (j.at e (.code b::.inLoop b::w)) k l) j w k c v D:=by
  intro p
  induction p with
  |zero=>intro d e l i;cases i
  |succ p an=>
   intro d e l i F G j B k;simp only[h9] at i;cases I:z d with
   |none=>grind
   |some q=>
    rw[I] at i;have R:=S d q I (by
     grind)
    obtain⟨c,m,u,⟨y,a,o,n⟩,f⟩:=R e l F G j (.inLoop b::B) k;cases q with
    |inl r=>
     simp only at i a;obtain⟨rfl,av,a0,aA⟩:=a;obtain⟨N,M,a3,ad,Q⟩:=an r m u i (o.oA av a0 aA) n j B k;exact⟨N,M,a3,ad,.of_steps (Steps.trans f (.one step_inLoop)) Q⟩
    |inr ce=>
     obtain⟨bs,a⟩:=a;cases c with
     |normal=>grind
     |exit id=>exact⟨_,m,u,⟨y,a,o,n⟩,.pass (x:=.inLoop b) rfl (λ_ _=>.inl aa) f⟩
     |goto bx=>exact⟨_,m,u,⟨y,a,o,n⟩,.pass (x:=.inLoop b) rfl (λ_ _=>.inl aa) f⟩
     |ret=>exact⟨_,m,u,⟨y,a,o,n⟩,.pass (x:=.inLoop b) rfl (λ_ _=>.inl aa) f⟩
     |panic a4=>exact⟨_,m,u,⟨y,a,o,n⟩,.pass (x:=.inLoop b) rfl (λ_ _=>.inl aa) f⟩
     |outgrown=>exact⟨_,m,u,⟨y,a,o,n⟩,.pass (x:=.inLoop b) rfl (λ_ _=>.inl aa) f⟩
 refine J.E8 T U V (λe l F G j B k=>?_);obtain⟨c,v,D,a,f⟩:=ap p s e l i F G j B k;exact⟨c,v,D,a,.of_steps (.one step_loop) f⟩
end
end
def k8:gJ->gJ->bA
 |.aE,_|.aG,.aG=>bu
 |.aG,.aE=>bw
def k0:gJ->bA
 |.aG=>bu
 |.aE=>bw
def aQ:af->af->bA
 |.int j,.int k=>if j=k then bu else bw
 |.aB e,.aB a=>bB e a
 |.bool,.bool|.str,.str|.nil,.nil=>bu
 |.au a b,.au d c=>k8 a d&&aQ b c
 |.osl b,.au a c=>k0 a&&aQ b c
 |.ptr a b,.ptr d c=>k8 a d&&aQ b c
 |.nu _ b,.ptr a c=>k0 a&&aQ b c
 |.aM,.aM=>bu
 |.st b,.st c=>aQ b c
 |.pr f g,.pr h i=>aQ f h&&aQ g i
 |.mp b,.bh a c=>k0 a&&aQ b c
 |.bh a b,.bh d c=>k8 a d&&aQ b c
 |.fn e b,.fn a c=>bB e a&&aQ b c
 |_,_=>bw
theorem k8.ok {e:bo->Prop} (g:∀b,S b->e b) {c d:gJ} (f:k8 c d=bu) (a:az w S c b):az w e d b:=by
 cases c<;>cases d
 ·exact a
 ·exact .inl a
 ·cases f
 exact a.imp id (g b)
theorem k0.ok {a:gJ} (b:k0 a=bu):a=.aG:=by cases a;cases b;rfl
theorem aQ.den:∀{e b:af},aQ e b=bu->e.den=b.den:=by
 intro e
 induction e with
 |au f c d=>
  intro b a;cases b<;>simp only[aQ] at a<;>try (cases a;done)
  grind
 |ptr f c d=>
  intro b a;cases b<;>simp only[aQ] at a<;>try (cases a;done)
  grind
 |osl c d=>
  intro b a;cases b<;>simp only[aQ] at a<;>try (cases a;done)
  grind
 |st c d=>
  intro b a;cases b with
  |st m=>grind [aQ]
  |_=>simp only[aQ] at a;cases a
 |pr i j k l=>
  intro b a;cases b<;>simp only[aQ] at a<;>try (cases a;done)
  grind
 |int g|bool|str|nil=>intro b a;cases b<;>simp only[aQ] at a<;>first|rfl|cases a
 |opt _ c _=>grind [aQ]
 |nu g c d=>
  intro b a;cases b<;>simp only[aQ] at a<;>try (cases a;done)
  grind
 |aM=>intro b a;cases b<;>simp only[aQ] at a<;>first|rfl|cases a
 |eB c _=>grind [aQ]
 |aB h=>intro b a;cases b<;>simp only[aQ] at a<;>first|rfl|cases a
 |aY=>grind [aQ]
 |mp c d=>
  intro b a;cases b<;>simp only[aQ] at a<;>try (cases a;done)
  grind
 |bh f c d=>
  intro b a;cases b<;>simp only[aQ] at a<;>try (cases a;done)
  grind
 |fn h c d=>
  intro b a;cases b<;>simp only[aQ] at a<;>try (cases a;done)
  grind
theorem aQ.size:∀{c b:af},aQ c b=bu->c.size=b.size:=by
 intro c
 induction c with
 |st j d=>intro b a;cases b<;>simp only[aQ] at a<;>first|(simp only[af.size];exact d a)|cases a
 |pr e f g h=>
  intro b a;cases b<;>simp only[aQ] at a<;>try (cases a;done)
  simp only[aC] at a;grind [af.size]
 |aB i=>intro b a;cases b<;>simp only[aQ] at a<;>first|exact a7 a|cases a
 |_=>intro b a;cases b<;>simp only[aQ] at a<;>first|rfl|cases a
theorem vx (k:x=V) {d:bv (bp (bt×x)×bo)} {g:bv (bp (bt×V)×bo)} (l:HEq d g):(d=bq/\g=bq)\/∃i a j,d=bn (i,a)/\g=bn (j,a)/\∀e:bp (bt×bo×x),fZ e i a->∃f:bp (bt×bo×V),fZ f j a/\f.length=e.length/\∀(h:bo) (c:bt×bo×V),f[h]?=bn c->∃b:bt×bo×x,e[h]?=bn b/\b.1=c.1/\b.2.1=c.2.1/\HEq b.2.2 c.2.2:=by
 subst k;cases l;cases d with
 |none|some m=>grind
theorem aQ.aN {a b:af} (d:aQ a b=bu) (c:ea):aN b c=gG.aN a c:=by cases a<;>cases b<;>simp only[aQ] at d<;>first|rfl|cases d
theorem vw (f:V=x) {a:bp V} {b:bp x} (g:HEq a b):b.length=a.length/\∀(e:bo) (d:x),b[e]?=bn d->∃c,a[e]?=bn c/\HEq c d:=by subst f;grind
theorem vy (e:x=V) {a:bv x} {c:bv V} (f:HEq a c):(a=bq/\c=bq)\/∃b d,a=bn b/\c=bn d/\HEq b d:=by
 subst e;cases f;cases a with
 |none|some b=>grind
theorem zY {c d:Type} (e:x=c) (f:V=d) {a:x×V} {b:c×d} (g:HEq a b):HEq a.1 b.1/\HEq a.2 b.2:=by grind
theorem al.aG {E:bo->Prop} (O:∀g,E g->S g):∀{q υ:af} {d:ea} {x:q.den} {y:υ.den} {f:ei},aQ q υ=bu->HEq x y->al (az w E) e q d x f->(∀g∈f,S g)->al (az w S) e υ d y []:=by
 intro q
 induction q with
 |int T=>
  intro υ d x y f a c b _;cases υ<;>simp only[aQ] at a<;>try (cases a;done)
  split at a
  ·rename_i L;subst L;cases c;exact⟨br,b.2⟩
  grind
 |bool|str|nil=>intro υ d x y f a c b _;cases υ<;>simp only[aQ] at a<;>first|(cases a;done)|(cases c;exact⟨br,b.2⟩)
 |opt _ j _=>grind [aQ]
 |nu T j i=>
  intro υ d x y f a c b h;cases υ<;>simp only[aQ] at a<;>try (cases a;done)
  rename_i s n;simp only[aC] at a;obtain rfl:=k0.ok a.1;rcases vy (aQ.den a.2) c with⟨rfl,rfl⟩|⟨F,g,rfl,rfl,J⟩
  ·obtain⟨_,rfl⟩:=b;exact⟨br,br⟩
  obtain⟨H,t,ce,I,rfl,rfl,l,m,aA,aH,_⟩:=al.ld.1 b;exact⟨br,H,t,I,br,.inr (h H aa),by grind [aQ.size],m,i a.2 J aH (λr cs=>h r ab)⟩
 |aM=>intro υ d x y f a c b _;cases υ<;>simp only[aQ] at a<;>first|(cases a;done)|(cases c;exact⟨br,b.2⟩)
 |eB j _=>grind [aQ]
 |aB am=>
  intro υ d x y f a c b _;cases υ<;>simp only[aQ] at a<;>try (cases a;done)
  obtain rfl:=a7 a;cases c;exact⟨br,b.2⟩
 |aY=>grind [aQ]
 |mp j i=>
  intro υ d x y f a c b h;cases υ<;>simp only[aQ] at a<;>try (cases a;done)
  simp only[aC] at a;obtain rfl:=k0.ok a.1;rcases vx (aQ.den a.2) c with⟨rfl,rfl⟩|⟨V,r,ad,rfl,rfl,k⟩
  ·exact⟨br,b.2⟩
  obtain⟨g,A,u,l,m,C,aA,aH,cP⟩:=b;obtain⟨v,D,p,k⟩:=k u C;refine⟨g,A,v,l,br,D,.inr (h g ab),aA,U,λo an Q=>?_⟩;grind [aQ.size,aQ.aN]
 |bh s j i=>
  intro υ d x y f a c b h;cases υ<;>simp only[aQ] at a<;>try (cases a;done)
  simp only[aC] at a;rcases vx (aQ.den a.2) c with⟨rfl,rfl⟩|⟨V,r,ad,rfl,rfl,k⟩
  ·exact⟨br,b.2⟩
  obtain⟨g,A,u,l,m,C,P,aA,aH,cP⟩:=b;obtain⟨v,D,p,k⟩:=k u C;refine⟨g,A,v,l,br,D,k8.ok O a.1 P,aA,U,λo an Q=>?_⟩;grind [aQ.size,aQ.aN]
 |fn am j i=>
  intro υ d x y f a c b h;cases υ<;>simp only[aQ] at a<;>try (cases a;done)
  rename_i s n;simp only[aC] at a;obtain rfl:=a7 a.1;obtain⟨_,ap,l,m⟩:=b;exact⟨br,ap,l,i (υ:=n) (x:=x) (y:=y) a.2 c m aa⟩
 |st j i=>
  intro υ d x y f a c b h;cases υ with
  |st n=>exact i (υ:=n) (x:=x) (y:=y) (by grind [aQ]) c b h
  |_=>simp only[aQ] at a;cases a
 |pr F g ds d0=>
  intro υ d x y f a c b h;cases υ<;>simp only[aQ] at a<;>try (cases a;done)
  rename_i r a3;simp only[aC] at a;obtain⟨ci,co,rfl,B,N⟩:=b;obtain⟨ak,bx⟩:=zY (aQ.den a.1) (aQ.den a.2) c;have dl:=aQ.size a.1;exact⟨[],[],br,ab,ab⟩
 |au s j i=>
  intro υ d x y f a c b h;obtain⟨rfl,G,z,rfl,l,m,aA⟩:=b;cases υ<;>simp only[aQ] at a<;>try (cases a;done)
  rename_i K n;simp only[aC] at a;obtain⟨p,k⟩:=vw (aQ.den a.2) c;refine⟨br,G,z,by rw[p],U,m,?_⟩;grind [k8.ok,aQ.size,List.eq_nil_of_length_eq_zero]
 |osl j i=>
  intro υ d x y f a c b h;cases υ<;>simp only[aQ] at a<;>try (cases a;done)
  rename_i K n;simp only[aC] at a;obtain rfl:=k0.ok a.1;obtain⟨G,z,rfl,b⟩:=b;obtain⟨p,k⟩:=vw (aQ.den a.2) c;rcases b with⟨rfl,rfl,rfl,rfl⟩|⟨g,t,M,rfl,rfl,l,m,aA,aH⟩
  ·obtain rfl:y=[]:=ko U;exact⟨br,bq,0,br,eL _,λ_=>rfl,.inl br⟩
  refine⟨br,bn ⟨g,t,bq⟩,z,by rw[p],U,(λa=>by cases a),.inr ⟨g,t,br,.inr (h g aa),λo av R=>?_⟩⟩;obtain⟨a0,B,N⟩:=k o av R;have cv:o<x.length:=(e5.1 B).1;obtain⟨I,a4,bl,bs⟩:=aH o a0 (M[o]'(by omega)) B aa
  grind [I7,Iq,List.getElem_mem,aQ.size]
 |ptr s j i=>
  intro υ d x y f a c b h;obtain⟨rfl,b⟩:=b;cases υ<;>simp only[aQ] at a<;>try (cases a;done)
  rename_i K n;simp only[aC] at a;refine⟨br,?_⟩;rcases vy (aQ.den a.2) c with⟨rfl,rfl⟩|⟨F,g,rfl,rfl,J⟩
  ·exact b
  grind [k8.ok,aQ.size]
inductive gX:(τ:af)->τ.den->(υ:af)->υ.den->Prop
 |same {τ υ:af} {x:τ.den} {y:υ.den} (h:aQ τ υ=bu) (zX:HEq x y):gX τ x υ y
 |ptr {k:bo} {t u:af} {x:t.den} {y:u.den} (h:aQ t u=bu) (zX:HEq x y):gX (.opt k t) x (.ptr .aG u) (bn y)
 |aM {t:af} {x:t.den}:gX (.opt 2 t) x .aM bu
theorem gX.rep {B:bo->Prop} (k:∀a,B a->S a) {n:d.den} {p:o.den} (b:gX d n o p) (i:al (az w B) e d g n l) (h:∀a∈l,S a):al (az w S) e o g p []:=by
 cases b with
 |same b f=>exact i.aG k b f h
 |ptr b f=>
  obtain⟨a,c,s,j,rfl,rfl,v,m,aA,aH,_⟩:=i;exact⟨br,a,c,j,br,.inr (h a aa),by grind [aQ.size],m,aH.aG k b f (λq x=>h q ab)⟩
 |aM=>
  obtain⟨a,c,s,j,rfl,rfl,v,m,aA,aH,u⟩:=i;have r:(a,c)=w.t 2:=u R;refine⟨br,?_⟩;show[HY (bn ⟨a,c,bq⟩)]=[.pointer (bn ⟨(w.t 2).1,(w.t 2).2,bq⟩)];rw[<-r]
def gX.st {c:d.den} {e:o.den} (a:gX d c o e) (b:ea):aN d b=aN o b:=by
 cases a with
 |same a _=>cases d<;>cases o<;>first|rfl|(simp only[aQ] at a;cases a;done)
 |ptr a _|aM=>rfl
section
def e8:af->bA
 |.aM=>bw
 |.opt a t|.nu a t=>bB a 0&&e8 t
 |.au _ t|.ptr _ t|.osl t|.st t|.mp t|.bh _ t|.fn _ t=>e8 t
 |.pr b c=>e8 b&&e8 c
 |_=>bu
def g3:(f:af)->f.den->bA
 |.aM,b=>!b
 |.nu c t,a=>match a with
  |none=>bu
  |some e=>bB c 0&&g3 t e
 |.opt c t,a=>bB c 0&&g3 t a
 |.st t,a=>g3 t a
 |.pr d b,a=>g3 d a.1&&g3 b a.2
 |.int _,_|.bool,_|.str,_|.nil,_|.aY,_|.aB _,_|.eB _,_=>bu
 |.au _ t,_|.ptr _ t,_|.osl t,_|.mp t,_|.bh _ t,_|.fn _ t,_=>e8 t
section
variable {m:gJ->bo->Prop} {t t':bo->bo×bo} {w:bz}
def al.eS:∀{τ:af} {H:ea} {f:τ.den} {l:ei},e8 τ=bu->al ⟨m,t⟩ w τ H f l->al ⟨m,t'⟩ w τ H f l
 |.int _,_,_,_,_,a|.bool,_,_,_,_,a|.str,_,_,_,_,a|.nil,_,_,_,_,a|.aY,_,_,_,_,a|.aB _,_,_,_,_,a|.eB _,_,_,_,_,a=>a
 |.aM,_,_,_,b,_=>by cases b
 |.au _ τ,_,_,_,b,a=>by obtain⟨u,s,y,c,d,h,i⟩:=a;refine⟨u,s,y,c,d,h,i.imp id ?_⟩;rintro⟨e,k,C,D,G⟩;refine⟨e,k,C,D,λr f q=>?_⟩;obtain⟨g,n,o,p⟩:=G r f q;exact⟨g,n,o,al.eS (τ:=τ) b p⟩
 |.ptr _ τ,_,f,_,b,a=>by
  obtain⟨u,a⟩:=a;refine⟨u,?_⟩;cases f with
  |none=>exact a
  |some S=>
   obtain⟨e,k,g,c,d,h,i,j⟩:=a;exact⟨e,k,g,c,d,h,i,al.eS (τ:=τ) b j⟩
 |.osl τ,_,_,_,b,a=>by obtain⟨s,y,c,d⟩:=a;refine⟨s,y,c,d.imp id ?_⟩;rintro⟨e,k,K,C,E,P,M,O,G⟩;refine⟨e,k,K,C,E,P,M,O,λr f l q N=>?_⟩;obtain⟨g,n,o,p⟩:=G r f l q N;exact⟨g,n,o,al.eS (τ:=τ) b p⟩
 |.opt Q τ,_,_,_,b,a=>by obtain⟨e,k,l,g,c,d,h,i,j,A,L⟩:=a;simp only[e8,aC] at b;exact⟨e,k,l,g,c,d,h,i,j,al.eS (τ:=τ) b.2 A,λF=>absurd (a7 b.1) F⟩
 |.nu Q τ,_,f,_,b,a=>by
  cases f with
  |none=>exact a
  |some S=>
   obtain⟨e,k,l,g,c,d,h,i,j,A,L⟩:=a;simp only[e8,aC] at b;exact⟨e,k,l,g,c,d,h,i,j,al.eS (τ:=τ) b.2 A,λF=>absurd (a7 b.1) F⟩
 |.st τ,_,_,_,b,a=>al.eS (τ:=τ) b a
 |.pr s e,_,_,_,b,a=>by obtain⟨I,J,E,c,d⟩:=a;simp only[e8,aC] at b;exact⟨I,J,E,al.eS (τ:=s) b.1 c,al.eS (τ:=e) b.2 d⟩
 |.mp τ,_,f,_,b,a=>by
  cases f with
  |none=>exact a
  |some v=>
   obtain⟨e,z,x,c,d,B,h,i,j⟩:=a;refine⟨e,z,x,c,d,B,h,i,λr v q=>?_⟩;obtain⟨g,n,o,p⟩:=j r v q;exact⟨g,n,o,al.eS (τ:=τ) b p⟩
 |.bh _ τ,_,f,_,b,a=>by
  cases f with
  |none=>exact a
  |some v=>
   obtain⟨e,z,x,c,d,B,D,h,i,j⟩:=a;refine⟨e,z,x,c,d,B,D,h,i,λr v q=>?_⟩;obtain⟨g,n,o,p⟩:=j r v q;exact⟨g,n,o,al.eS (τ:=τ) b p⟩
 |.fn T τ,_,_,_,b,a=>by obtain⟨u,R,c,d⟩:=a;exact⟨u,R,c,al.eS (τ:=τ) b d⟩
def al.lV:∀{τ:af} {p:ea} {c:τ.den} {d:ei},g3 τ c=bu->al ⟨m,t⟩ w τ p c d->al ⟨m,t'⟩ w τ p c d
 |.int _,_,_,_,_,a|.bool,_,_,_,_,a|.str,_,_,_,_,a|.nil,_,_,_,_,a|.aY,_,_,_,_,a|.aB _,_,_,_,_,a|.eB _,_,_,_,_,a=>a
 |.aM,_,c,_,b,a=>by
  cases c with
  |true=>cases b
  |false=>exact a
 |.au _ τ,_,_,_,b,a=>al.eS (τ:=.au _ τ) b a
 |.ptr _ τ,_,_,_,b,a=>al.eS (τ:=.ptr _ τ) b a
 |.osl τ,_,_,_,b,a=>al.eS (τ:=.osl τ) b a
 |.mp τ,_,_,_,b,a=>al.eS (τ:=.mp τ) b a
 |.bh _ τ,_,_,_,b,a=>al.eS (τ:=.bh _ τ) b a
 |.fn _ τ,_,_,_,b,a=>al.eS (τ:=.fn _ τ) b a
 |.opt x τ,_,_,_,b,a=>by obtain⟨e,o,d,h,f,g,i,j,k,l,u⟩:=a;simp only[g3,aC] at b;exact⟨e,o,d,h,f,g,i,j,k,al.lV (τ:=τ) b.2 l,λn=>absurd (a7 b.1) n⟩
 |.nu x τ,_,c,_,b,a=>by
  cases c with
  |none=>exact a
  |some y=>
   obtain⟨e,o,d,h,f,g,i,j,k,l,u⟩:=a;simp only[g3,aC] at b;exact⟨e,o,d,h,f,g,i,j,k,al.lV (τ:=τ) b.2 l,λn=>absurd (a7 b.1) n⟩
 |.st τ,_,_,_,b,a=>al.lV (τ:=τ) b a
 |.pr q e,_,_,_,b,a=>by obtain⟨r,s,v,f,g⟩:=a;simp only[g3,aC] at b;exact⟨r,s,v,al.lV (τ:=q) b.1 f,al.lV (τ:=e) b.2 g⟩
end
mutual
def ag.eS:ag->bA
 |.val τ c=>g3 τ c
 |.app _ _ _ _ _=>bw
 |.bb a|.agg a|.aR _ a=>ag.lT a
 |.c0 b=>b.eS
 |_=>bu
def ag.lT:bp ag->bA
 |[]=>bu
 |a::b=>a.eS&&ag.lT b
end
def ag.pG:∀{e:bp ag} {d:bo} {c:ag},ag.lT e=bu->e[d]?=bn c->c.eS=bu
 |[],_,_,_,a=>by simp at a
 |x::f,0,c,b,a=>by simp only[ag.lT,aC] at b;simp only[fe,aV] at a;rw[<-a];exact b.1
 |x::f,d+1,c,b,a=>by simp only[ag.lT,aC] at b;exact ag.pG b.2 (by simpa using a)
def aJ.eS {m:gJ->bo->Prop} {t t':bo->bo×bo} {w:bz} {rt:bo->ea} {fp:bo->ei} {b:ag} (l:aJ ⟨m,t⟩ w n rt fp b Q) (g:b.eS=bu):aJ ⟨m,t'⟩ w n rt fp b Q:=by
 induction l with
 |dead Q=>exact .dead Q
 |aS Q=>exact .aS Q
 |val v=>exact .val (v.lV g)
 |ref e d=>exact .ref e d
 |addr e d=>exact .addr e d
 |fV id u=>exact .fV id u
 |view e d a c k=>exact .view e d a c k
 |app=>cases g
 |fy e d j r p q=>exact .fy e d j r p q
 |bb h _ f=>exact .bb h (λi b Q a c=>f i b Q a c (ag.pG g a))
 |agg h _ f=>exact .agg h (λi b Q a c=>f i b Q a c (ag.pG g a))
 |aR h _ f=>exact .aR h (λi b Q a c=>f i b Q a c (ag.pG g a))
 |c0 j o s _ f=>exact .c0 j o s (f g)
section
variable {C:a6} {st:aq} {A:dY} {w:bz} {I:aW} {rt:bo->ea} {fp:bo->ei}
def aK.xc (b:aK C st A w I rt fp) (l:C.fx=bw) (m:(st.g.all λa=>a.2.eS)=bu) (n:(st.h.all λa=>g3 a.2.1 a.2.2)=bu) (f:bo->bo×bo):aK C st A w ⟨I.p,f⟩ rt fp:=
 {b with
  it:=λc=>by rw[l] at c;cases c
  tree:=λid t d=>by obtain⟨i,j,k⟩:=b.tree id t d;exact⟨i.lV (cX.1 n _ (mi d)),j,k⟩
  tmp:=λe=>by
   refine(b.tmp e).eS ?_;unfold gt;cases o:ah st.g e with
   |none=>rfl
   |some q=>exact cX.1 m _ (mi o)}
def oN (b:bo) (a:ag):ag:=bif a.cD [b] then(match a with
 |.ref id []=>.ref id []
 |_=>.dead) else a
def j1 (b:bo):ag->ag
 |.bb c=>.bb (c.map (oN b))
 |a=>oN b a
def vv (d:bo):∀(c:bp (bo×ag)) (b:bo),gt (c.map λe=>(e.1,j1 d e.2)) b=j1 d (gt c b)
 |[],b=>by simp[gt,ah,j1,oN,ag.cD,ag.ids]
 |(f,a)::c,b=>by
  show gt ((f,j1 d a)::c.map λe=>(e.1,j1 d e.2)) b=_;rw[gz,gz];split
  ·rfl
  exact vv d c b
def aK.xo (f:aK C st A w I rt fp) {t1:aj} (u:ah st.h b=bn O) (M:al (az I C.B) w t1.1 (rt b) t1.2 (fp b)) (Q:aN t1.1 (rt b)=aN O.1 (rt b)):aK C ⟨st.g.map λj=>(j.1,j1 b j.2),(b,t1)::del [b] st.h⟩ A w I rt fp:=by
 have n:∀a,ah ((b,t1)::del [b] st.h) a=if b=a then bn t1 else ah st.h a:=λa=>by
  rw[aU];split
  ·rfl
  rename_i l;rw[gQ,a8 ab]
 refine{f with tree:=λid t d=>?_,dis:=λo R t ad G H y=>?_,tmp:=λa=>?_}
 ·rw[n] at d;split at d
  ·rename_i l;subst l;obtain rfl:=c6 d;exact⟨M,(f.tree b O u).2⟩
  exact f.tree id t d
 ·have x:∀a k,ah ((b,t1)::del [b] st.h) a=bn k->∃U,ah st.h a=bn U:=λa k c=>by
   rw[n] at c;split at c
   ·rename_i l;subst l;exact⟨O,u⟩
   exact⟨k,c⟩
  obtain⟨t',N⟩:=x _ _ G;obtain⟨T,P⟩:=x _ _ H;exact f.dis o R t' T N P y
 show aJ _ _ _ _ _ (gt (st.g.map λj=>(j.1,j1 b j.2)) a) _;rw[vv];have c:=f.tmp a;generalize gt st.g a=e at c;generalize A.getD a bL=p at c;have z:∀(e:ag) (p:Value),aJ (az I C.B) w st.h rt fp e p->aJ (az I C.B) w ((b,t1)::del [b] st.h) rt fp (oN b e) p:=by
  intro e p c;unfold oN;cases v:e.cD [b] with
  |false=>
   refine c.j5 (λm q K=>⟨K,aP.refl w q⟩) (λid s t d=>?_);have y:=qL v id s;exact⟨by rw[n,a8 ab];exact d,br,br,(f.tree id t d).1,λq _=>aP.refl w q⟩
  |true=>
   simp only[bK];split
   ·rename_i id;cases c with|ref d L=>
    have s:id=b:=(by simp only[ag.cD,ag.ids,mY,List.any_nil,JT,a5] at v;exact(a7 v).symm);subst s;rw[u] at d;cases d;obtain⟨rfl,_,rfl⟩:=ar.cO.1 L;rw[<-Q];exact .ref (loc:=bq) (by rw[n,bc br]) ar.here
   exact .dead _
 cases e with
 |bb S=>
  cases c with|bb J F=>
  refine .bb (by simpa using J) (λo V k i E=>?_);rw[gH] at i;cases r:S[o]? with
  |none=>rw[r] at i;cases i
  |some D=>
   rw[r] at i;obtain rfl:=c6 i;exact z _ _ (F o D k r E)
 |_=>exact z _ _ c
def aK.Ej (y:aK C st A w I rt fp) {k':bo} {k:d.den} (p:ah st.h b=bn ⟨.opt f d,k⟩) (av:al (az I C.B) w (.opt k' d) (rt b) k (fp b)):aK C ⟨st.g,(b,⟨.opt k' d,k⟩)::del [b] st.h⟩ A w I rt fp:=by
 have E:∀i,ah ((b,(⟨.opt k' d,k⟩:aj))::del [b] st.h) i=if b=i then bn ⟨.opt k' d,k⟩ else ah st.h i:=λi=>by
  rw[aU];split
  ·rfl
  rename_i c;rw[gQ,a8 ab]
 have r:ah ((b,(⟨.opt k' d,k⟩:aj))::del [b] st.h) b=bn ⟨.opt k' d,k⟩:=(by rw[E,bc br]);have u:∀i t,i≠b->ah st.h i=bn t->ah ((b,(⟨.opt k' d,k⟩:aj))::del [b] st.h) i=bn t:=λi t J a=>(by rw[E,a8 (λc=>J c.symm)];exact a);refine{y with tree:=λid t a=>?_,dis:=λi a4 t F o am J=>?_,tmp:=λi=>?_}
 ·rw[E] at a;split at a
  ·rename_i c;subst c;obtain rfl:=c6 a;exact⟨av,(y.tree b _ p).2⟩
  exact y.tree id t a
 ·have L:∀f m,ah ((b,(⟨.opt k' d,k⟩:aj))::del [b] st.h) f=bn m->∃cs,ah st.h f=bn cs:=λf m q=>by
   rw[E] at q;split at q
   ·rename_i c;subst c;exact⟨_,p⟩
   exact⟨m,q⟩
  obtain⟨t',a0⟩:=L _ _ o;obtain⟨co,a3⟩:=L _ _ am;exact y.dis i a4 t' co a0 a3 J
 show aJ _ _ _ _ _ (gt st.g i) _;have q:=y.tmp i;generalize gt st.g i=cv at q;generalize A.getD i bL=val at q
 induction q with
 |dead m=>exact .dead m
 |aS m=>exact .aS m
 |val ci=>exact .val ci
 |fV id j=>exact .fV id j
 |@ref id j t H G V a e=>
  by_cases c:id=b
  ·subst c;rw[p] at a;cases a;cases j with
   |nil=>
    obtain⟨rfl,rfl,rfl⟩:=ar.cO.1 e;exact .ref (τ':=.opt k' d) (loc:=bq) r ar.here
   |cons l j=>cases l<;>first|exact .ref (t:=⟨.opt k' d,k⟩) r e|exact e.elim
  exact .ref (u _ _ c a) e
 |@addr id j t H K bl V a e=>
  by_cases c:id=b
  ·subst c;rw[p] at a;cases a;cases j with
   |nil=>obtain⟨_,n,_⟩:=ar.cO.1 e;cases n
   |cons l j=>cases l<;>first|exact .addr (t:=⟨.opt k' d,k⟩) r e|exact e.elim
  exact .addr (u _ _ c a) e
 |@view id j d7 o t H G K bl d6 d0 a e v x M=>
  by_cases c:id=b
  ·subst c;rw[p] at a;cases a;cases j with
   |nil=>obtain⟨n,_,_⟩:=ar.cO.1 e;cases n
   |cons l j=>cases l<;>first|exact .view (t:=⟨.opt k' d,k⟩) r e v x M|exact e.elim
  exact .view (u _ _ c a) e v x M
 |@app id j el d8 ce t G ds d9 d3 d4 m a R e O v N x ap U S=>
  have T:∀i∈ce,i≠id/\∃F,ah ((b,(⟨.opt k' d,k⟩:aj))::del [b] st.h) i=bn F:=λi o=>by
   obtain⟨bs,F,bx⟩:=ap i o;refine⟨bs,?_⟩;by_cases c:i=b
   ·subst c;exact⟨_,r⟩
   exact⟨F,u _ _ c bx⟩
  by_cases c:id=b
  ·subst c;rw[p] at a;cases a;cases j with
   |nil=>obtain⟨n,_,_⟩:=ar.cO.1 e;cases n
   |cons l j=>cases l<;>first|exact .app (t:=⟨.opt k' d,k⟩) r R e O v N x T U S|exact e.elim
  exact .app (u _ _ c a) R e O v N x T U S
 |@fy id j d5 t H G K dl i d2 d1 a e D Q o P=>
  by_cases c:id=b
  ·subst c;rw[p] at a;cases a;cases j with
   |nil=>obtain⟨n,_,_⟩:=ar.cO.1 e;cases n
   |cons l j=>cases l<;>first|exact .fy (t:=⟨.opt k' d,k⟩) r e D Q o P|exact e.elim
  exact .fy (u _ _ c a) e D Q o P
 |bb z _ s=>exact .bb z s
 |agg z _ s=>exact .agg z s
 |aR z _ s=>exact .aR z s
 |c0 D ad an _ s=>exact .c0 D ad an s
def aK.tags (c:aK C st A w I rt fp):∀{L:bp (bo×ag)},(∀b∈L,aJ (az I C.B) w st.h rt fp b.2 (A.getD b.1 bL))->aK C ⟨L++st.g,st.h⟩ A w I rt fp
 |[],_=>c
 |(k,a)::L,h=>by
  have e:=c.tags (L:=L) (λb i=>h b (eJ _ i));refine{e with tmp:=λd=>?_};show aJ _ _ _ _ _ (gt ((k,a)::(L++st.g)) d) _;rw[gz];split
  ·rename_i f;subst f;exact h (k,a) (jC ..)
  exact e.tmp d
def qx:ea->bo×bo
 |[.pointer (bn a)]=>(a.block,a.off)
 |_=>(0,0)
def nq (st:aq):bA:=(st.g.all λa=>a.2.eS)&&st.h.all λa=>g3 a.2.1 a.2.2
def nL (st:aq):bp (bo×aj)->aq
 |[]=>st
 |(a,_)::r=>match ah st.h a with
  |some ⟨.eB c,d⟩=>bif !(g6 c)&&nq st then⟨st.g.map λb=>(b.1,j1 a b.2),(a,⟨c,d⟩)::del [a] st.h⟩ else st
  |_=>nL st r
def wM (d:C.fx=bw) (a:cV C st A w):∀{l:bp (bo×aj)},cV C (nL st l) A w
 |[]=>a
 |(k,_)::r=>by
  unfold nL;split
  ·rename_i m n e;cases c:(!(g6 m)&&nq st) with
   |false=>exact a
   |true=>
    obtain⟨I,rt,fp,b⟩:=a;simp only[aC,mT,nq] at c;obtain⟨j,h,i⟩:=c;obtain⟨⟨f,g⟩,_⟩:=b.tree k _ e;exact⟨_,rt,fp,(b.xc d h i f).xo e g (nU j)⟩
  exact wM d a
def sF (st:aq) (j i:ag):aq:=
 match j,i with
 |.addr id e,.ref a []=>match ah st.h id,ah st.h a with
  |some ⟨.opt 0 c,k⟩,bn ⟨.opt 0 d,l⟩=>match bm (.opt 0 c) e with
   |some (.nu 2 f)=>bif bI (d=f)&&(!(bB id a)&&nq st) then
    ⟨st.g.map λb=>(b.1,j1 a b.2),(a,⟨.nu 2 d,bn l⟩)::del [a] ((id,⟨.opt 1 c,k⟩)::del [id] st.h)⟩ else st
   |_=>st
  |_,_=>st
 |_,_=>st
def A6 (y:C.fx=bw) (c:cV C st A w) {J H:ag}:cV C (sF st J H) A w:=by
 unfold sF;split
 case h_2=>exact c
 rename_i id M a;split
 case h_2=>exact c
 rename_i F K o u s D;split
 case h_2=>exact c
 rename_i G L;cases r:(bI (o=G)&&(!(bB id a)&&nq st)) with
 |false=>exact c
 |true=>
  simp only[aC,mT,nq] at r;obtain⟨_,f,z,B⟩:=r;have f:id≠a:=λv=>(by subst v;rw[lz] at f;cases f);obtain⟨I,rt,fp,x⟩:=c;have p:=x.xc y z B (λE=>if E=1 then qx (rt id) else qx (rt a));have q:=p.Ej (k':=1) s (by
   obtain⟨⟨b,e,i,g,d,j,k,l,m,n,_⟩,_⟩:=p.tree id _ s;refine⟨b,e,i,g,d,j,k,l,m,n,λ_=>?_⟩;show(b,e)=qx (rt id);rw[d];rfl)
  have t:ah ((id,(⟨.opt 1 F,K⟩:aj))::del [id] st.h) a=bn ⟨.opt 0 o,u⟩:=(by rw[aU,a8 f,gQ,a8 ab];exact D);exact⟨_,rt,fp,q.xo (t1:=⟨.nu 2 o,bn u⟩) t (by
   obtain⟨⟨b,e,i,g,d,j,k,l,m,n,_⟩,_⟩:=q.tree a _ t;refine⟨b,e,i,g,d,j,k,l,m,n,λ_=>?_⟩;show(b,e)=qx (rt a);rw[d];rfl) rfl⟩
end
end
end Go.gG
end
