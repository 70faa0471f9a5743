/-
  Parts of the proof: Fw1, Fw2, Fw3, Fw4, Fw5, Fw6, Fw7, Fw8, Fw40, Fw41, Fw9, Fw10, Fw11, Fw12, Fw13, Fw14, Fw15, Fw16, Fw17, Fw18, Fw19, Fw20: the framework (Fw), pure forms (Dn), plain laws (Pl, Th), calls of functions (Ok).
-/
import Derived.Laws.AppendOwn
import Derived.ArgAppend
import Derived.Laws.IdiomCopy
import Derived.Laws.Cells
import Derived.Laws.MakeOwn
import Derived.Calls
import Derived.Orders
import Derived.Laws.Entries
import Derived.Maps.RangeRun

set_option linter.all false
set_option maxHeartbeats 1000000
open Go renaming TypeId->bE,Operand->bL,World->bC,MapEntry->cj,Exit->b5,IntKind->cr,undef->bV,Program->bY,Field->alz,sizeOf->al0,typeInfo->alI,run_underlying->b7,Oper->bQ,execOp->bM,eqGuard->amf,binOp->alm,resolve->alW,builtin->amg,asIntOf->amp,madeCells->aoQ,zeroValue->als,newRow->alX,Code->cq
open _root_ renaming Nat->X,Array->bT,Option->bu,DecidableEq->aoM,List->bm,Int->Z,Bool->bz,Unit->bt,rfl->bn,and_true->cc,False->b4,true_and->amK,if_true->ck,if_false->alV,congrArg->b3,cond_false->bP,cond_true->bF,beq_self_eq_true->alJ,decide_eq_true->alg,decide_eq_false->alK,decide_eq_true_eq->alB,dif_pos->ams
open Option renaming some->Y,none->bo,isSome_none->aoU,isSome_some->an6
open Bool renaming true->bp,false->bq
open Go.World renaming cell?_of_block->apR,frozen?_of_block->apS,cell?->amr,frozen?->an5,setCells->aoc,setCell->ap3,cell?_setCells_in->anz,cell?_setCells_out->aod,frozen?_setCells->aoZ
open Go.MapEntry renaming mk->anZ
open Go.Value renaming oneCell'->alx,int->aln,map->amQ,agg->ap4
open List renaming mem_cons_of_mem->amI,mem_flatten->amJ,mem_of_getElem?->anl,getElem?_take->an0,count_cons->an1,take_take->apT,all_eq_true->amn,getElem?_eq_some_iff->al1,drop_drop->ann,append_eq_nil_iff->aoO,replicate->bJ,range->bI,pairwise_cons->ant,filter_eq_self->amN,map_congr_left->alA,filter_map->aoT,getElem?_inj->an7,getElem?_toArray->aoX,map_toArray->an9,foldlM_cons->apZ,any_eq_true->ap0,getElem?_eq_getElem->bX,mem_append_right->aoe,take_append_drop->anA,getElem_mem->b6,flatten_cons->amt
open Go.Value.pointer renaming injEq->aml
open Go.Addr.mk renaming injEq->aly
open Go.Value.slice renaming injEq->alf
open Iff renaming rfl->anm
open Nat renaming sub_self->amm,min_self->apU,beq->bH,eq_of_beq_eq_true->alZ,ble->b2,add_comm->anr,blt->cb,beq_refl->anv,div_lt_iff_lt_mul->aoa,div_add_mod->aob
open Option.some renaming inj->alU
open ByteArray renaming empty->an2
open Go.Sem renaming run_bind->bW,run_pure->ct
open Go.Result renaming andThen_ok->b1
open Go.Addr renaming add_lit->ame
open Go.Oper renaming wp->alk
open BitVec renaming ofInt->cg
open Decidable renaming decide->br
open Go.Op renaming equalIn->amo,equal->ano,maxDepth->anp,unary->aoY
open Go.Builtin renaming len_->aoN,delete_->aoW,append_->anw,firstCells->ap1,lenOf->ap2,zeroCells->anx
open Go.Instr renaming loadAt->apV,sureAddr->amL,sliceBounds->anq,sliceBound->aoP,fill->apW,box->an3,findNow->amO,sameNow->aoS,findKey->anu,checkKey->apX,mapUpdate->al2,keyThatStays->amP,sameBits->aoV,lookup->an8
open Int renaming natCast_mul->amM
open Array renaming map->an4,mapM_eq_mapM_toList->aoR,eraseIdxIfInBounds->apY,getD_eq_getD_getElem?->ao0
open List.Pairwise renaming nil->ans,cons->arf
open Pure renaming pure->amq
open Go.Region renaming wanted->aof
theorem aa{p:Prop}(h:p:=by omega):p:=h
theorem ab{p:Prop}(h:p:=by decide):p:=h
theorem ac{p:Prop}(h:p:=by simp):p:=h
abbrev ar:=@if_neg
abbrev au:=@if_pos
abbrev aI:=@Option.bind_some
abbrev bc:=@Nat.le_refl
abbrev cE:=@List.getElem?_eq_getElem
abbrev cF:=@Bool.and_eq_true
abbrev cL:=@List.getElem_mem
abbrev cO:=@Nat.le_trans
abbrev cU:=@Nat.lt_or_ge
abbrev dh:=@List.length_map
abbrev eJ:=@Nat.zero_le
abbrev eS:=@List.mem_map
abbrev eV:=@Option.bind_eq_some_iff
abbrev eZ:=@Option.some.injEq
abbrev fw:=@Int.le_of_lt
abbrev fF:=@List.mem_cons
abbrev fH:=@Nat.eq_of_beq_eq_true
abbrev fN:=@List.mem_range
abbrev fO:=@Option.map_eq_some_iff
abbrev fP:=@Int.toNat_natCast
abbrev fU:=@List.take_of_length_le
abbrev gh:=@Int.eq_ofNat_of_zero_le
abbrev gj:=@Nat.mul_le_mul_right
abbrev gq:=@List.mem_singleton
abbrev gu:=@List.length_take
abbrev gx:=@List.mem_cons_of_mem
abbrev gC:=@Option.some.inj
abbrev gL:=@List.map_cons
abbrev g0:=@List.mem_append
abbrev g1:=@Nat.le_of_ble_eq_true
abbrev g7:=@List.all_eq_true
abbrev g8:=@List.mem_iff_getElem
abbrev hx:=@List.nil_append
abbrev hy:=@Nat.pow_add
abbrev hI:=@List.length_append
abbrev hR:=@Nat.min_eq_left
abbrev h0:=@List.getElem?_eq_some_iff
abbrev h1:=@List.mem_filter
abbrev h2:=@List.take_length
abbrev h3:=@Nat.one_mul
abbrev ia:=@List.cons.injEq
abbrev ie:=@List.ext_getElem?
abbrev iy:=@Int.lt_or_le
abbrev iz:=@List.pairwise_iff_getElem
abbrev iG:=@Bool.not_true
abbrev iH:=@List.length_cons
abbrev iI:=@List.nodup_append
abbrev iK:=@Prod.mk.injEq
abbrev iU:=@List.map_congr_left
abbrev iV:=@Nat.two_pow_pos
abbrev jb:=@Int.mul_assoc
abbrev jd:=@List.mem_cons_self
abbrev jq:=@List.range_succ
abbrev jr:=@Option.map_some
abbrev jA:=@Int.mul_comm
abbrev jC:=@List.map_append
abbrev jD:=@Nat.add_mul
abbrev jE:=@Nat.lt_of_lt_of_le
abbrev jK:=@Bool.or_eq_true
abbrev jO:=@Int.mul_le_mul_of_nonneg_left
abbrev jP:=@List.take_add_one
abbrev j3:=@List.getElem?_map
abbrev j4:=@List.nodup_cons
abbrev j5:=@List.take_append_drop
abbrev j6:=@Nat.mul_comm
abbrev ky:=@List.getD_eq_getElem?_getD
abbrev kz:=@Nat.mul_assoc
abbrev kT:=@List.cons_append
abbrev lj:=@Int.natAbs_mul
abbrev lm:=@Int.pow_pos
abbrev ln:=@List.mem_append_right
abbrev lO:=@Int.mul_nonneg
abbrev lQ:=@List.append_assoc
abbrev lR:=@List.getElem_map
abbrev lS:=@List.length_filter_le
abbrev lT:=@List.mem_append_left
abbrev me:=@Int.emod_add_mul_ediv
abbrev mf:=@Int.pow_add
abbrev mh:=@List.filter_cons
abbrev mi:=@List.flatten_cons
abbrev mj:=@List.mem_flatten
abbrev ml:=@Nat.add_zero
abbrev mm:=@Nat.zero_add
abbrev mT:=@Int.ediv_nonneg
abbrev mU:=@List.filter_eq_self
abbrev nm:=@Int.zero_mul
abbrev np:=@List.drop_zero
abbrev nq:=@List.pairwise_cons
abbrev nr:=@Nat.mul_le_mul
abbrev nQ:=@Int.mul_le_mul_of_nonneg_right
abbrev nR:=@List.flatMap_append
abbrev nS:=@List.flatMap_cons
abbrev nT:=@List.length_drop
abbrev nU:=@List.length_singleton
abbrev nV:=@List.nodup_range
abbrev nW:=@List.pairwise_map
abbrev nX:=@Nat.pow_succ
abbrev oA:=@Bool.not_false
abbrev oE:=@Int.emod_nonneg
abbrev oG:=@List.filter_append
abbrev oH:=@List.getElem?_eq_none
abbrev oI:=@List.length_range
abbrev oK:=@Nat.eq_zero_or_pos
abbrev oL:=@Nat.not_lt_zero
abbrev oP:=@Rat.intCast_mul
abbrev pq:=@List.append_nil
abbrev pt:=@List.getElem?_drop
abbrev qg:=@Int.ediv_eq_zero_of_lt
abbrev qh:=@Int.emod_lt_of_pos
abbrev qi:=@Int.mul_pos
abbrev qj:=@Int.natCast_mul
abbrev qm:=@List.any_eq_true
abbrev qn:=@List.drop_eq_nil_of_le
abbrev qo:=@List.filter_congr
abbrev qp:=@List.getElem?_append_left
abbrev qq:=@List.getElem_inj
abbrev qr:=@List.length_eq_one_iff
abbrev qs:=@List.length_nil
abbrev qt:=@List.map_map
abbrev qu:=@List.mem_of_getElem?
abbrev qx:=@Nat.add_assoc
abbrev ru:=@Array.mem_append_right
abbrev rz:=@List.Pairwise.imp_of_mem
abbrev rA:=@List.drop_drop
abbrev rB:=@List.drop_of_length_le
abbrev rC:=@List.eq_nil_of_length_eq_zero
abbrev rD:=@List.getElem?_append_right
abbrev rE:=@List.getElem?_cons_zero
abbrev rF:=@List.getElem?_take_of_lt
abbrev rG:=@List.mem_of_mem_take
abbrev rI:=@Nat.mod_lt
abbrev rJ:=@Nat.pow_le_pow_right
abbrev sL:=@Array.getElem?_eq_some_iff
abbrev sM:=@Bool.and_eq_true_iff
abbrev sQ:=@Int.ediv_lt_of_lt_mul
abbrev sR:=@Int.emod_eq_of_lt
abbrev sS:=@Int.mul_lt_mul_of_pos_right
abbrev sT:=@List.all_cons
abbrev sU:=@List.drop_append_of_le_length
abbrev sV:=@List.length_pos_iff
abbrev sW:=@List.length_replicate
abbrev sX:=@Nat.add_sub_cancel_left
abbrev sY:=@Nat.lt_trichotomy
abbrev sZ:=@Option.getD_some
abbrev s2:=@Rat.mul_eq_zero
abbrev uK:=@Bool.not_eq_true'
abbrev uO:=@Int.ediv_ediv_of_nonneg
abbrev uP:=@Int.ediv_le_self
abbrev uQ:=@List.any_eq_false
abbrev uR:=@List.count_append
abbrev uS:=@List.filter_sublist
abbrev uT:=@List.map_nil
abbrev uU:=@List.perm_iff_count
abbrev uV:=@List.size_toArray
abbrev uW:=@List.take_append_of_le_length
abbrev uX:=@Nat.div_add_mod
abbrev wX:=@Array.replicate_succ
abbrev wY:=@Array.replicate_zero
abbrev wZ:=@Bool.eq_iff_iff
abbrev w5:=@Int.add_mul_ediv_left
abbrev w6:=@Int.natAbs_natCast
abbrev w7:=@List.append_of_mem
abbrev w8:=@List.append_toArray
abbrev w9:=@List.getElem?_cons_succ
abbrev xa:=@List.push_toArray
abbrev xc:=@Nat.lt_succ_self
abbrev xd:=@Nat.mul_le_mul_left
abbrev zy:=@Int.add_mul_emod_self_left
abbrev zz:=@Int.mul_eq_zero
abbrev zA:=@List.filter_filter
abbrev zB:=@List.flatten_append
abbrev zC:=@List.getElem?_set
abbrev zD:=@List.getElem_set_ne
abbrev zE:=@List.map_singleton
abbrev zF:=@List.mem_toArray
abbrev zG:=@List.singleton_append
abbrev Cq:=@Array.getElem?_eq_getElem
abbrev Cr:=@Array.getElem?_toList
abbrev Cs:=@Bool.or_eq_true_iff
abbrev Cy:=@Int.lt_of_mul_lt_mul_left
abbrev Cz:=@Int.mul_ediv_cancel
abbrev CA:=@List.filter_eq_nil_iff
abbrev CB:=@List.getElem?_range
abbrev CC:=@List.idxOf_lt_length_iff
abbrev CD:=@List.mem_take_iff_getElem
abbrev Hk:=@Int.tdiv_eq_ediv_of_nonneg
abbrev Hl:=@Int.tmod_eq_emod_of_nonneg
abbrev Hp:=@List.drop_eq_getElem_cons
abbrev Hq:=@List.filter_cons_of_neg
abbrev Hr:=@List.filter_cons_of_pos
abbrev Hs:=@List.mem_of_find?_eq_some
abbrev Ht:=@Nat.le_of_mul_le_mul_right
abbrev Hv:=@Option.isSome_iff_exists
abbrev dj:=List (Int×(Int×(List Int×(Int×Unit))))×(Option (List (Int×(Int×(List Int×(Int×Unit)))))×Option (List Int)×Unit)×Unit
abbrev dm:=List (Int×(Int×(List Int×(Int×Unit))))×(Option Int×Unit)×Unit
abbrev dn:=(List (List Int)×Unit)×(List (List Int)×Unit)×List Int×Unit
abbrev dp:=(Int×List Int×Unit)⊕((List Int×Unit)⊕(List Int×Bool×Unit))
abbrev dq:=(List Int×Unit)⊕((Int×List Int×Unit)⊕(Unit⊕(Int×Unit)))
abbrev dr:=Int×(List (List Int)×Unit)×(List (List Int)×Unit)×Unit
abbrev dt:=(List (List Int)×Unit)×(List (List Int)×Unit)×Unit
abbrev du:=List Int×(Option (List (List Int)×Unit)×Unit)×Unit
abbrev dv:=Int×(List (List Int)×Unit)×List (List Bool)×Unit
abbrev dw:=(List (List Int)×Unit)×List (List Bool)×Unit
abbrev dx:=Int×(List (List Bool)×(List Bool×Unit))×Unit
abbrev dy:=(List (List Bool)×(List Bool×Unit))×Unit
abbrev dz:=(Int×List Bool×Unit)⊕(Unit⊕(Bool×Unit))
abbrev dA:=List (Int×(Int×(List Int×(Int×Unit))))
abbrev dC:=(List (List Int)×Unit)×List Int×Unit
abbrev dD:=(List Int×Unit)⊕(List Int×Bool×Unit)
abbrev dE:=Unit⊕((Int×Unit)⊕(Unit⊕(Int×Unit)))
abbrev dF:=(Int×List Int×Unit)⊕(List Int×Unit)
abbrev dH:=(Int×Int×Unit)⊕(Unit⊕(Bool×Unit))
abbrev dI:=List (List Bool)×(List Bool×Unit)
abbrev dJ:=(List (List Int)×Unit)×Int×Unit
abbrev dK:=Int×(Int×(List Int×(Int×Unit)))
abbrev dL:=(Int×Unit)⊕(Unit⊕(Bool×Unit))
abbrev dM:=(Int×Unit)⊕(Unit⊕(Int×Unit))
abbrev dN:=(List (List Int)×Unit)×Unit
abbrev dO:=Int×List (List Bool)×Unit
abbrev dP:=Int×(List Int×(Int×Unit))
abbrev dQ:=List (List Bool)×Unit
abbrev dR:=List (List Int)×Unit
abbrev dT:=List Int×Bool×Unit
abbrev dU:=Int×List Bool×Unit
abbrev dV:=List Int×Int×Unit
abbrev dX:=Int×List Int×Unit
abbrev dY:=Nat×Nat×List Nat
abbrev dZ:=Unit⊕(Bool×Unit)
abbrev ea:=Int×Int×Int×Unit
abbrev eb:=Unit⊕(Int×Unit)
abbrev ec:=List Bool×Unit
abbrev ed:=Int×Bool×Unit
abbrev ee:=List Int×Unit
abbrev ef:=Bool×Int×Unit
abbrev eg:=Int×Int×Unit
abbrev eh:=Bool×Unit
abbrev ei:=Int×Unit
abbrev ej:=Nat×Nat
abbrev eo:=List (List Go.Value)
abbrev ep:=Option (List Int)
abbrev er:=List (Option Int)
abbrev es:=List (List Bool)
abbrev et:=List (List Nat)
abbrev eu:=List (List Int)
abbrev ev:=Option Go.Operand
abbrev ew:=Array Go.Value
abbrev ey:=List Go.TypeId
abbrev ez:=List Go.Value
abbrev eA:=Option Int
abbrev ak5:=Option Nat
abbrev ak6:=List Bool
abbrev ak7:=Option eh
abbrev ak8:=Option ei
abbrev ak9:=List Nat
abbrev ala:=List Int
abbrev alb:=List ej
noncomputable section
namespace Go.jN
variable{a x T:bE}{b i:X}{c g:bL}{f m:bC}{h N:ez}{j:X->Prop}{k:ak9}{o:bT cj}{p:X->ak9}{r:X->ez}{s:bu Addr}{t:b5->Act->bC->Prop}{v:cr}{y S:Type}{O:ew}{Q:bT (X×bL)}{R:Value}
inductive eH where
 |bj
 |c9
 deriving aoM
variable{e:eH->X->Prop}
inductive ah where
 |int (k:cr)
 |bool
 |str
 |a8 (m:eH) (t:ah)
 |ptr (m:eH) (t:ah)
 |osl (t:ah)
 |optr (t:ah)
 |st (t:ah)
 |pr (a b:ah)
 |nil
 |eI
 |mp (t:ah)
 |fj (m:eH) (t:ah)
 |fn (n:X) (t:ah)
 deriving aoM
variable{d q:ah}{l:bm (X×ah)}
def ah.size:ah->X
 |.pr a b=>a.size+b.size
 |.st c=>c.size
 |.nil|.eI=>0
 |_=>1
@[reducible] def ah.den:ah->Type
 |.int _=>Z
 |.bool=>bz
 |.str=>ByteArray
 |.a8 _ a=>bm a.den
 |.ptr _ a=>bu a.den
 |.osl a=>bm a.den
 |.optr a=>a.den
 |.st a=>a.den
 |.pr b c=>b.den×c.den
 |.nil=>bt
 |.eI=>bt
 |.mp a=>bu (bm (Z×a.den)×X)
 |.fj _ a=>bu (bm (Z×a.den)×X)
 |.fn _ a=>a.den
def kU {d:Type} (b:bm (Z×X×d)) (c:bm (Z×d)) (g:X):Prop:=
 c.Pairwise (λe f=>e.1<f.1)/\(b.map λa=>(a.1,a.2.2)).Perm c/\(b.map λa=>a.2.1).Nodup/\∀a∈b,a.2.1<g
def c3:ah->ez->Value
 |.st _,a=>.agg a.toArray
 |_,a=>a.headD bV
def fE (f:bC) (c e:X) (d:ez):Prop:=∀a b,d[a]?=Y b->f.cell? ⟨c,e+a,bo⟩=Y b
def ja (c:bC) (b e d:X):Prop:=∀a,e<=a->a<d->(c.cell? ⟨b,a,bo⟩).isSome=bp/\c.frozen? ⟨b,a,bo⟩=bq
def jw (d:bC) (a:X):bu (bT cj×X):=match d.heap[a]? with
 |some (.map c b)=>Y (c,b)
 |_=>bo
def dd (c d:bC) (a:X):Prop:=(∀b,d.cell? ⟨a,b,bo⟩=c.cell? ⟨a,b,bo⟩/\d.frozen? ⟨a,b,bo⟩=c.frozen? ⟨a,b,bo⟩)/\jw d a=jw c a
def dd.refl (a:bC) (b:X):dd a a b:=⟨λ_=>⟨bn,bn⟩,bn⟩
theorem dd.of_heap (c:m.heap[b]?=f.heap[b]?):dd f m b:=
 ⟨λd=>⟨apR (a:=⟨b,d,bo⟩) c,apS (a:=⟨b,d,bo⟩) c⟩,by grind [jw]⟩
def li (j k:bC) (d:X):Prop:=∀f b,jw j d=Y (f,b)->∃g e,jw k d=Y (g,e)/\b<=e/\∀(h:X) (a:cj),g[h]?=Y a->a.born<b->∃(i:X) (c:cj),f[i]?=Y c/\c.key=a.key/\c.born=a.born
def li.of_eq (e:jw m b=jw f b):li f m b:=
 λd a h=>⟨d,a,e.trans h,bc _,λi c g _=>⟨i,c,g,bn,bn⟩⟩
def li.refl (a:bC) (b:X):li a a b:=.of_eq bn
def li.of_heap {b c:bC} {a:X} (d:c.heap[a]?=b.heap[a]?):li b c a:=.of_eq (dd.of_heap d).2
theorem li.trans {a:bC} (h:li f m b) (i:li m a b):li f a b:=λe c k=>by obtain⟨g,d,j,o,p⟩:=h e c k;obtain⟨n,l,q,r,s⟩:=i g d j;grind
def fE.sm (a:fE f b i h) (d:dd f m b):fE m b i h:=
 λe g c=>by rw[(d.1 _).1];exact a e g c
def ja.sm {c:X} (d:ja f b c i) (a:dd f m b):ja m b c i:=
 λh e g=>by rw[(a.1 _).1,(a.1 _).2];exact d h e g
def aW (i:eH->X->Prop) (f:bC):(B:ah)->ez->B.den->ak9->Prop
 |.int z,a,v,d=>d=[]/\a=[.int z v]
 |.bool,a,c,d=>d=[]/\a=[.bool c]
 |.str,a,A,d=>d=[]/\a=[.string A]
 |.a8 s b,a,l,d=>d=[]/\∃k n,a=[.slice k l.length n]/\l.length<=n/\(k=bo->n=0)/\(l=[]\/∃c h,k=Y ⟨c,h,bo⟩/\i s c/\∀j g,l[j]?=Y g->∃e,e.length=b.size/\fE f c (h+j*b.size) e/\aW i f b e g [])
 |.ptr s b,a,g,d=>d=[]/\match g with
  |none=>a=[.pointer bo]
  |some w=>∃c h e,a=[.pointer (Y ⟨c,h,bo⟩)]/\i s c/\e.length=b.size/\fE f c h e/\aW i f b e w []
 |.osl b,a,l,d=>∃k n,a=[.slice k l.length n]/\((
   k=bo/\l=[]/\n=0/\d=[])\/∃(c h:X) (t:et),k=Y ⟨c,h,bo⟩/\d=c::t.flatten/\t.length=l.length/\l.length<=n/\
   ja f c h (h+n*b.size)/\∀j g r,l[j]?=Y g->t[j]?=Y r->∃e,e.length=b.size/\fE f c (h+j*b.size) e/\aW i f b e g r)
 |.optr b,a,w,d=>∃c h r e,a=[.pointer (Y ⟨c,h,bo⟩)]/\d=c::r/\e.length=b.size/\fE f c h e/\ja f c h (h+b.size)/\aW i f b e w r
 |.st b,a,g,d=>aW i f b a g d
 |.pr k c,a,g,d=>∃x f2,d=x++f2/\aW i f k (a.take k.size) g.1 x/\aW i f c (a.drop k.size) g.2 f2
 |.nil,a,_,d=>d=[]/\a=[]
 |.eI,a,_,_=>a=[]
 |.mp b,a,g,d=>match g with
  |none=>d=[]/\a=[.map bo]
  |some (u,q)=>∃(c:X) (p:bT cj) (o:bm (Z×X×b.den)),a=[.map (Y c)]/\d=[c]/\kU o u q/\jw f c=Y (p,q)/\p.size=o.length/\∀(j:X) (m:Z×X×b.den),o[j]?=Y m->∃e:ez,e.length=b.size/\p[j]?=Y (anZ (.int .i64 m.1) (c3 b e) m.2.1)/\aW i f b e m.2.2 []
 |.fj s b,a,g,d=>match g with
  |none=>d=[]/\a=[.map bo]
  |some (u,q)=>∃(c:X) (p:bT cj) (o:bm (Z×X×b.den)),a=[.map (Y c)]/\d=[]/\kU o u q/\i s c/\jw f c=Y (p,q)/\p.size=o.length/\∀(j:X) (m:Z×X×b.den),o[j]?=Y m->∃e:ez,e.length=b.size/\p[j]?=Y (anZ (.int .i64 m.1) (c3 b e) m.2.1)/\aW i f b e m.2.2 []
 |.fn v b,a,g,d=>d=[]/\∃y:ez,a=[.func (.func v) #[] y.toArray]/\aW i f b y g []
theorem aW.len {i:eH->X->Prop} {r:bC}:∀{τ:ah} {e:ez} {b:τ.den} {l:ak9},aW i r τ e b l->e.length=τ.size
 |.int _,_,_,_,a=>by rw[a.2];rfl
 |.bool,_,_,_,a=>by rw[a.2];rfl
 |.str,_,_,_,a=>by rw[a.2];rfl
 |.a8 _ _,_,_,_,a=>by obtain⟨_,c,g,a,_⟩:=a;rw[a];rfl
 |.ptr _ _,_,b,_,a=>by
  obtain⟨_,a⟩:=a;cases b with
  |none=>simp only at a;rw[a];rfl
  |some x=>obtain⟨d,v,j,a,_⟩:=a;rw[a];rfl
 |.osl _,_,_,_,a=>by obtain⟨c,g,a,_⟩:=a;rw[a];rfl
 |.optr _,_,_,_,a=>by obtain⟨c,g,s,j,a,_⟩:=a;rw[a];rfl
 |.st f,_,_,_,a=>aW.len (τ:=f) a
 |.pr c d,e,_,_,a=>by obtain⟨t,f2,_,m,n⟩:=a;have o:=aW.len (τ:=c) m;have p:=aW.len (τ:=d) n;simp only[gu,nT] at o p;show e.length=c.size+d.size;omega
 |.nil,_,_,_,a=>by rw[a.2];rfl
 |.eI,_,_,_,a=>by rw[show _=[] from a];rfl
 |.mp f,_,b,_,a=>by
  cases b with
  |none=>rw[a.2];rfl
  |some q=>obtain⟨d,k,h,a,_⟩:=a;rw[a];rfl
 |.fj u f,_,b,_,a=>by
  cases b with
  |none=>rw[a.2];rfl
  |some q=>obtain⟨d,k,h,a,_⟩:=a;rw[a];rfl
 |.fn _ _,_,_,_,a=>by obtain⟨_,w,a,_⟩:=a;rw[a];rfl
theorem aW.one {j:eH->X->Prop} {r:bC}:∀{τ:ah} {cs:ez} {d:τ.den} {l:ak9},aW j r τ cs d l->∀g∈cs,g.oneCell'=bp
 |.int _,_,_,_,a=>by rw[a.2];simp[alx]
 |.bool,_,_,_,a=>by rw[a.2];simp[alx]
 |.str,_,_,_,a=>by rw[a.2];simp[alx]
 |.a8 _ _,_,_,_,a=>by obtain⟨_,e,h,a,_⟩:=a;grind [alx]
 |.ptr _ _,_,d,_,a=>by obtain⟨_,a⟩:=a;grind [alx]
 |.osl _,_,_,_,a=>by obtain⟨e,h,a,_⟩:=a;grind [alx]
 |.optr _,_,_,_,a=>by obtain⟨e,h,f,s,a,_⟩:=a;grind [alx]
 |.st t,_,_,_,a=>aW.one (τ:=t) a
 |.pr e b,cs,_,_,a=>by
  obtain⟨u,f2,_,m,n⟩:=a;have o:=aW.one (τ:=e) m;have p:=aW.one (τ:=b) n;intro g c;rw[<-j5 e.size cs] at c;rcases g0.1 c with c|c
  ·exact o g c
  exact p g c
 |.nil,_,_,_,a=>by rw[a.2];simp
 |.eI,_,_,_,a=>by rw[show _=[] from a];simp
 |.mp t,_,d,_,a=>by
  cases d with
  |none=>rw[a.2];simp[alx]
  |some q=>obtain⟨b,k,i,a,_⟩:=a;grind [alx]
 |.fj v t,_,d,_,a=>by
  cases d with
  |none=>rw[a.2];simp[alx]
  |some q=>obtain⟨b,k,i,a,_⟩:=a;grind [alx]
 |.fn _ _,_,_,_,a=>by obtain⟨_,w,a,_⟩:=a;grind [alx]
theorem aW.mono {L M:eH->X->Prop} {B C:bC} (d:∀j b,L j b->M j b/\dd B C b):∀{τ:ah} {F:ez} {g:τ.den} {r:ak9},aW L B τ F g r->(∀b∈r,dd B C b)->aW M C τ F g r
 |.int _,_,_,_,a,_=>a
 |.bool,_,_,_,a,_=>a
 |.str,_,_,_,a,_=>a
 |.a8 j m,_,U,_,a,_=>by obtain⟨y,x,E,e,c,k,l⟩:=a;refine⟨y,x,E,e,c,k,l.imp id ?_⟩;rintro⟨b,w,J,i,K⟩;refine⟨b,w,J,(d j b i).1,λv g u=>?_⟩;obtain⟨h,o,p,q⟩:=K v g u;exact⟨h,o,p.sm (d j b i).2,aW.mono d q ac⟩
 |.ptr j m,_,g,_,a,_=>by
  obtain⟨y,a⟩:=a;refine⟨y,?_⟩;cases g with
  |none=>exact a
  |some ad=>
   obtain⟨b,w,h,e,c,k,l,s⟩:=a;exact⟨b,w,h,e,(d j b c).1,k,l.sm (d j b c).2,aW.mono d s ac⟩
 |.osl m,_,U,r,a,f=>by obtain⟨x,E,e,c⟩:=a;refine⟨x,E,e,c.imp id ?_⟩;rintro⟨b,w,O,J,z,S,t,R,K⟩;have i:dd B C b:=f b (by grind);refine⟨b,w,O,J,z,S,t,R.sm i,λv g H u Q=>?_⟩;obtain⟨h,o,p,q⟩:=K v g H u Q;refine⟨h,o,p.sm i,aW.mono d q (λn t=>f n ?_)⟩;grind [amI,amJ,anl]
 |.optr m,_,_,_,a,f=>by obtain⟨b,w,H,h,e,c,k,l,s,P⟩:=a;have i:dd B C b:=f b (by grind);exact⟨b,w,H,h,e,c,k,l.sm i,s.sm i,aW.mono d P (λn t=>f n (by grind))⟩
 |.st m,_,_,_,a,f=>aW.mono (τ:=m) d a f
 |.pr x b,F,_,_,a,f=>by obtain⟨N,f2,z,e,c⟩:=a;exact⟨N,f2,z,aW.mono (τ:=x) d e (λn t=>f n (by rw[z];exact lT _ t)),aW.mono (τ:=b) d c (λn t=>f n (by rw[z];exact ln _ t))⟩
 |.nil,_,_,_,a,_=>a
 |.eI,_,_,_,a,_=>a
 |.mp m,_,g,r,a,f=>by
  cases g with
  |none=>exact a
  |some A=>
   obtain⟨b,G,D,e,c,I,k,l,s⟩:=a;refine⟨b,G,D,e,c,I,(f b (by rw[c];simp)).2.trans k,l,λv A u=>?_⟩;obtain⟨h,o,p,q⟩:=s v A u;exact⟨h,o,p,aW.mono d q ac⟩
 |.fj j m,_,g,r,a,f=>by
  cases g with
  |none=>exact a
  |some A=>
   obtain⟨b,G,D,e,c,I,i,k,l,s⟩:=a;refine⟨b,G,D,e,c,I,(d j b i).1,(d j b i).2.2.trans k,l,λv A u=>?_⟩;obtain⟨h,o,p,q⟩:=s v A u;exact⟨h,o,p,aW.mono d q ac⟩
 |.fn V m,_,g,r,a,_=>by obtain⟨y,T,e,c⟩:=a;exact⟨y,T,e,aW.mono d c ac⟩
def ah.k5:ah->bz
 |.eI=>bq
 |.a8 _ a|.ptr _ a|.osl a|.optr a|.st a|.mp a|.fj _ a|.fn _ a=>a.k5
 |.pr b c=>b.k5&&c.k5
 |_=>bp
theorem aW.uniq {r:eH->X->Prop} {x:bC}:∀{τ:ah} {p:ez} {e k:τ.den} {h u:ak9},τ.k5=bp->aW r x τ p e h->aW r x τ p k u->h=u
 |.int _,_,_,_,_,_,_,a,b=>a.1.trans b.1.symm
 |.bool,_,_,_,_,_,_,a,b=>a.1.trans b.1.symm
 |.str,_,_,_,_,_,_,a,b=>a.1.trans b.1.symm
 |.a8 _ _,_,_,_,_,_,_,a,b=>a.1.trans b.1.symm
 |.ptr _ _,_,_,_,_,_,_,a,b=>a.1.trans b.1.symm
 |.nil,_,_,_,_,_,_,a,b=>a.1.trans b.1.symm
 |.fn _ _,_,_,_,_,_,_,a,b=>a.1.trans b.1.symm
 |.eI,_,_,_,_,_,d,_,_=>by cases d
 |.fj F g,p,e,k,h,u,_,a,b=>by
  have a0:∀{e:(ah.fj F g).den} {h:ak9},aW r x (.fj F g) p e h->h=[]:=λ{e h} a=>by
   cases e with
   |none=>exact a.1
   |some Q=>obtain⟨l,C,y,_,m,_⟩:=a;exact m
  grind
 |.mp g,_,e,k,_,_,_,a,b=>by
  cases e with
  |none=>
   cases k with
   |none=>exact a.1.trans b.1.symm
   |some R=>
    obtain⟨l,C,y,f,_⟩:=b;have:=a.2.symm.trans f;grind
  |some Q=>
   obtain⟨l,C,y,f,m,_⟩:=a;cases k with
   |none=>
    have:=f.symm.trans b.2;grind
   |some R=>
    obtain⟨A,a3,V,i,D,_⟩:=b;grind
 |.st g,_,_,_,_,_,d,a,b=>aW.uniq (τ:=g) d a b
 |.pr z l,_,_,_,_,_,d,a,b=>by simp only[ah.k5,cF] at d;obtain⟨bl,f2,rfl,f,m⟩:=a;obtain⟨bs,bx,rfl,E,v⟩:=b;rw[aW.uniq (τ:=z) d.1 f E,aW.uniq (τ:=l) d.2 m v]
 |.optr g,_,_,_,_,_,d,a,b=>by
  obtain⟨l,O,h,j,f,rfl,E,v,_,L⟩:=a;obtain⟨A,P,a4,n,i,rfl,ce,K,_,M⟩:=b;rw[f] at i;simp only[ia,aml,eZ,aly,cc] at i;obtain⟨rfl,rfl⟩:=i;obtain rfl:j=n:=by
   apply ie;intro c;rcases cU c j.length with w|w
   ·have ax:=v c j[c] (by grind);have S:=K c (n[c]'(by omega)) ac
    grind
   grind
  rw[aW.uniq (τ:=g) d L M]
 |.osl g,_,e,k,_,_,d,a,b=>by
  obtain⟨z,am,f,m⟩:=a;obtain⟨ad,an,i,D⟩:=b;rw[f] at i;simp only[ia,alf,cc] at i;obtain⟨rfl,ci,rfl⟩:=i;rcases m with⟨rfl,rfl,rfl,rfl⟩|⟨l,O,s,rfl,rfl,ax,S,cv,T⟩
  ·grind
  rcases D with⟨q,_⟩|⟨A,P,t,q,rfl,co,cs,c1,U⟩
  ·cases q
  simp only[eZ,aly,cc] at q;obtain⟨rfl,rfl⟩:=q;have:s=t:=by
   apply ie;intro c;rcases cU c e.length with w|w
   ·have al:s[c]?=Y (s[c]'(by omega)):=cE aa
    have B:t[c]?=Y (t[c]'(by omega)):=cE aa
    obtain⟨j,ap,G,I⟩:=T c e[c] _ (by grind) al;obtain⟨n,av,H,J⟩:=U c (k[c]'(by omega)) _ ac B
    obtain rfl:j=n:=by
     apply ie;intro o;rcases cU o j.length with N|N
     ·have c2:=G o j[o] (by grind);have dg:=H o (n[o]'(by omega)) ac
      grind
     grind
    rw[al,B,aW.uniq (τ:=g) d I J]
   grind
  grind
inductive a6 where
 |idx (i:X)
 |deref
 |unst
 |fst
 |snd
 deriving aoM
variable{n:bm a6}
def eU:(τ:ah)->τ.den->bm a6->(a:ah)->a.den->Prop
 |τ,d,[],a,b=>∃i:τ=a,i▸d=b
 |.osl e,k,.idx j::c,a,b=>∃f,k[j]?=Y f/\eU e f c a b
 |.optr e,d,.deref::c,a,b=>eU e d c a b
 |.st e,d,.unst::c,a,b=>eU e d c a b
 |.pr g _,d,.fst::c,a,b=>eU g d.1 c a b
 |.pr _ h,d,.snd::c,a,b=>eU h d.2 c a b
 |_,_,_,_,_=>b4
def fk:(τ:ah)->τ.den->bm a6->(a:ah)->a.den->τ.den->Prop
 |τ,_,[],a,b,e=>∃m:τ=a,m▸e=b
 |.osl g,j,.idx i::c,a,b,n=>∃h f,j[i]?=Y h/\fk g h c a b f/\n=j.set i f
 |.optr g,d,.deref::c,a,b,e=>fk g d c a b e
 |.st g,d,.unst::c,a,b,e=>fk g d c a b e
 |.pr k _,d,.fst::c,a,b,e=>∃f,fk k d.1 c a b f/\e=(f,d.2)
 |.pr _ l,d,.snd::c,a,b,e=>∃f,fk l d.2 c a b f/\e=(d.1,f)
 |_,_,_,_,_,_=>b4
theorem eU.gE {a:d.den} {b:q.den}:eU d a [] q b↔∃c:d=q,c▸a=b:=by cases d<;>exact anm
theorem fk.gE {e a:d.den} {b:q.den}:fk d e [] q b a↔∃c:d=q,c▸a=b:=by cases d<;>exact anm
abbrev Loc:=bu ej
variable{w:Loc}
def aZ (k:bC):(τ:ah)->Loc->ez->bm a6->(a:ah)->Loc->ez->Prop
 |τ,i,b,[],a,d,c=>τ=a/\i=d/\b=c
 |.osl g,_,b,.idx m::f,a,d,c=>∃e j n p h,b=[.slice (Y ⟨e,j,bo⟩) n p]/\m<n/\h.length=g.size/\fE k e (j+m*g.size) h/\aZ k g (Y (e,j+m*g.size)) h f a d c
 |.optr g,_,b,.deref::f,a,d,c=>∃e j h,b=[.pointer (Y ⟨e,j,bo⟩)]/\h.length=g.size/\fE k e j h/\aZ k g (Y (e,j)) h f a d c
 |.st g,i,b,.unst::f,a,d,c=>aZ k g i b f a d c
 |.pr l _,i,b,.fst::f,a,d,c=>aZ k l i (b.take l.size) f a d c
 |.pr l e,i,b,.snd::f,a,d,c=>aZ k e (i.map λo=>(o.1,o.2+l.size)) (b.drop l.size) f a d c
 |_,_,_,_,_,_,_=>b4
theorem fE.eq (c:fE f b i h) (d:fE f b i N) (k:h.length=N.length):h=N:=by
 apply ie;intro a;rcases cU a h.length with e|e
 ·have g:=c a h[a] (by grind);have j:=d a (N[a]'(by omega)) ac
  grind
 grind
theorem aZ.kF {w:bC}:∀{p:bm a6} {e:ah} {j:Loc} {f:ez} {u v:ah} {g h:Loc} {q r:ez},aZ w e j f p u g q->aZ w e j f p v h r->u=v/\g=h/\q=r
 |[],e,j,f,_,_,_,_,_,_,c,d=>by grind [aZ]
 |s::p,e,j,f,_,_,_,_,_,_,c,d=>by
  cases e<;>cases s<;>simp only[aZ] at c d
  case osl.idx t i=>
   obtain⟨m,A,E,C,y,al,_,g,k,n⟩:=c;obtain⟨x,B,F,D,z,b,_,h,l,o⟩:=d;rw[al] at b;simp only[ia,alf,eZ,aly,cc] at b;obtain⟨⟨rfl,rfl⟩,rfl,rfl⟩:=b;obtain rfl:=k.eq l aa;exact aZ.kF n o
  case optr.deref t=>
   obtain⟨m,A,y,al,g,k,n⟩:=c;obtain⟨x,B,z,b,h,l,o⟩:=d;rw[al] at b;simp only[ia,aml,eZ,aly,cc] at b;obtain⟨rfl,rfl⟩:=b;obtain rfl:=k.eq l aa;exact aZ.kF n o
  case st.unst t=>exact aZ.kF c d
  case pr.fst a m=>exact aZ.kF c d
  case pr.snd a m=>exact aZ.kF c d
def sO (c d:bC) (f:Loc) (g:X) (b:X):Prop:=
 (∀a,(∀e,f=Y (b,e)->a<e\/e+g<=a)->d.cell? ⟨b,a,bo⟩=c.cell? ⟨b,a,bo⟩)/\
 (∀a,d.frozen? ⟨b,a,bo⟩=c.frozen? ⟨b,a,bo⟩)/\(∀a,(d.cell? ⟨b,a,bo⟩).isSome=(c.cell? ⟨b,a,bo⟩).isSome)/\jw d b=jw c b
def sO.sm (a:sO f m w i b) (e:∀c,w≠Y (b,c)):dd f m b:=
 ⟨λd=>⟨a.1 d (λc g=>absurd g (e c)),a.2.1 d⟩,a.2.2.2⟩
def sO.Fj {j c:X} (a:sO f m w j b) (g:ja f b c i):ja m b c i:=
 λh d e=>by rw[a.2.1,a.2.2.1];exact g h d e
def qv (c:bC) (e:Loc) (d:ez) (f:X):Prop:=∀b a,e=Y (b,a)->fE c b a d/\ja c b a (a+f)
theorem fE.take {e:bC} {b d h:X} {c:ez} (f:fE e b d c):fE e b d (c.take h):=λg i a=>by
 rw[an0] at a;split at a
 ·exact f g i a
 grind
theorem fE.drop {f:bC} {b e a:X} {c:ez} (g:fE f b e c):fE f b (e+a) (c.drop a):=λh i d=>by rw[pt] at d;have:=g (a+h) i d;grind
theorem fE.append (d:fE f b i h) (e:fE f b (i+h.length) N):fE f b i (h++N):=λg c a=>by
 rw[List.getElem?_append] at a;split at a
 ·exact d g c a
 have:=e _ c a;grind
theorem agt {a:bm y} {d:y} (e:a[b]?=Y d):∃c f,a=c++d::f/\c.length=b:=by obtain⟨g,rfl⟩:=h0.1 e;exact⟨a.take b,a.drop (b+1),by rw[List.getElem_cons_drop,j5],by grind⟩
theorem aZ.sm {D:eH->X->Prop} {y C:bC}:∀{x:bm a6} {τ:ah} {u:Loc} {h:ez} {z:τ.den} {p:ak9} {A:ah} {v:Loc} {n:ez},aW D y τ h z p->(∀a∈p,dd y C a)->aZ y τ u h x A v n->aZ C τ u h x A v n
 |[],τ,_,_,_,_,_,_,_,_,_,b=>by cases τ<;>exact b
 |s::x,τ,u,h,z,p,A,v,n,g,d,b=>by
  cases τ<;>cases s<;>simp only[aZ] at b
  case osl.idx t i=>
   obtain⟨a,w,U,F,o,rfl,N,q,f,r⟩:=b;obtain⟨m,Q,e,k⟩:=g;simp only[ia,alf,cc] at e;obtain⟨rfl,rfl,rfl⟩:=e;rcases k with⟨j,_⟩|⟨E,O,K,j,rfl,ax,V,ad,P⟩
   ·cases j
   simp only[eZ,aly,cc] at j;obtain⟨rfl,rfl⟩:=j;obtain⟨I,R,G,H⟩:=P i z[i] (K[i]'(by omega)) (by grind) ac
   obtain rfl:=f.eq G aa;exact⟨a,w,_,F,o,bn,N,q,f.sm (d a ac),aZ.sm H (λc l=>d c (gx _ (mj.2 ⟨_,cL aa,l⟩))) r⟩
  case optr.deref t=>
   obtain⟨a,w,o,rfl,q,f,r⟩:=b;obtain⟨E,O,S,I,B,rfl,T,L,_,M⟩:=g;simp only[ia,aml,eZ,aly,cc] at B;obtain⟨rfl,rfl⟩:=B;obtain rfl:=f.eq L aa;exact⟨a,w,o,bn,q,f.sm (d a ac),aZ.sm M (λc l=>d c (by grind)) r⟩
  case st.unst t=>exact aZ.sm (τ:=t) g d b
  case pr.fst m a=>
   obtain⟨J,f2,rfl,e,k⟩:=g;exact aZ.sm (τ:=m) e (λc l=>d c (by grind)) b
  case pr.snd m a=>
   obtain⟨J,f2,rfl,e,k⟩:=g;exact aZ.sm (τ:=a) k (λc l=>d c (by grind)) b
def od:bm a6->bz
 |[]=>bq
 |.idx _::_=>bp
 |.deref::_=>bp
 |_::a=>od a
def hq:bm a6->bm a6->bz
 |p,[]=>od p
 |.idx _::p,.idx _::a=>hq p a
 |.deref::p,.deref::a=>hq p a
 |.unst::p,.unst::a=>hq p a
 |.fst::p,.fst::a=>hq p a
 |.snd::p,.snd::a=>hq p a
 |.fst::_,.snd::_=>bp
 |.snd::_,.fst::_=>bp
 |_,_=>bq
theorem aZ.ot {a:Loc}:aZ f d w h [] q a N↔d=q/\w=a/\h=N:=by cases d<;>exact anm
def lu:bm a6->bm a6->bz
 |.deref::a,.deref::b=>lu a b
 |.unst::a,.unst::b=>lu a b
 |.fst::a,.fst::b=>lu a b
 |.snd::a,.snd::b=>lu a b
 |.fst::_,.snd::_=>bp
 |.snd::_,.fst::_=>bp
 |_,_=>bq
theorem vH (a:bm a6):lu [] a=bq:=by cases a<;>rfl
theorem IY:∀{p q:bm a6},lu p q=bp->hq p q=bp
 |[],q,a=>by grind [vH]
 |s::p,[],a=>by cases s<;>cases a
 |s::p,b::q,a=>by cases s<;>cases b<;>first|(cases a;done)|exact IY (p:=p) (q:=q) a|rfl
theorem vI:∀{p q:bm a6} {τ:ah} {h j:τ.den} {k f:ah} {l:k.den} {i:f.den},lu p q=bp->fk τ h p k l j->eU τ h q f i->eU τ j q f i
 |[],q,_,_,_,_,_,_,_,d,_,_=>by grind [vH]
 |s::p,[],_,_,_,_,_,_,_,d,_,_=>by cases s<;>cases d
 |s::p,m::q,τ,h,j,k,f,l,i,d,c,e=>by
  cases τ<;>cases s<;>simp only[fk] at c<;>cases m<;>first|(cases d;done)|(simp only[eU] at e;done)|skip
  case optr.deref.deref t=>exact vI (p:=p) (q:=q) (τ:=t) d c e
  case st.unst.unst t=>exact vI (p:=p) (q:=q) (τ:=t) d c e
  case pr.fst.fst a b=>
   obtain⟨g,c,rfl⟩:=c;exact vI (p:=p) (q:=q) (τ:=a) d c e
  case pr.snd.snd a b=>
   obtain⟨g,c,rfl⟩:=c;exact vI (p:=p) (q:=q) (τ:=b) d c e
  case pr.fst.snd a b=>
   obtain⟨g,c,rfl⟩:=c;exact e
  case pr.snd.fst a b=>
   obtain⟨g,c,rfl⟩:=c;exact e
theorem aW.sub {B:eH->X->Prop} {A:bC}:∀{p:bm a6} {τ:ah} {z:Loc} {o:ez} {m:τ.den} {q:ak9} {l:ah} {r:l.den} {y:Loc} {n:ez},aW B A τ o m q->eU τ m p l r->aZ A τ z o p l y n->∃d,aW B A l n r d/\∀b∈d,b∈q
 |[],τ,z,o,m,q,l,r,y,n,f,c,a=>by grind [aZ.ot,eU.gE]
 |s::p,τ,z,o,m,q,l,r,y,n,f,c,a=>by
  cases τ<;>cases s<;>simp only[eU] at c<;>simp only[aZ] at a
  case osl.idx t i=>
   obtain⟨J,D,c⟩:=c;obtain⟨G,Q,ap,V,I,e,u,L,v,a⟩:=a;obtain⟨T,U,rfl,f⟩:=f;rcases f with⟨_,rfl,_⟩|⟨F,P,C,rfl,rfl,an,ad,N,O⟩
   ·grind
   have am:i<m.length:=(h0.1 D).1;obtain⟨d,E⟩:∃d,C[i]?=some d:=⟨C[i],cE aa⟩;obtain⟨H,M,w,x⟩:=O i J d D E;simp only[ia,alf,eZ,aly,cc] at e;obtain⟨⟨rfl,rfl⟩,rfl,rfl⟩:=e;obtain rfl:=v.eq w aa;obtain⟨g,j,k⟩:=aW.sub (p:=p) x c a;exact⟨g,j,λb h=>gx _ (mj.2 ⟨d,qu E,k b h⟩)⟩
  case optr.deref t=>
   obtain⟨G,Q,I,e,L,v,a⟩:=a;obtain⟨F,P,d,H,rfl,rfl,M,w,N,x⟩:=f;simp only[ia,aml,eZ,aly,cc] at e;obtain⟨rfl,rfl⟩:=e;obtain rfl:=v.eq w aa;obtain⟨g,j,k⟩:=aW.sub (p:=p) x c a;exact⟨g,j,λb h=>gx _ (k b h)⟩
  case st.unst t=>exact aW.sub (p:=p) (τ:=t) f c a
  case pr.fst R S=>
   obtain⟨K,f2,rfl,e,u⟩:=f;obtain⟨g,j,k⟩:=aW.sub (p:=p) e c a;exact⟨g,j,λb h=>lT _ (k b h)⟩
  case pr.snd R S=>
   obtain⟨K,f2,rfl,e,u⟩:=f;obtain⟨g,j,k⟩:=aW.sub (p:=p) u c a;exact⟨g,j,λb h=>ln _ (k b h)⟩
theorem Bc:∀(am:bm a6) {τ:ah} {loc:Loc} {u:ez} {a0:τ.den} {en:ak9} {F:ah} {is:F.den},aW e f τ u a0 en->qv f loc u τ.size->en.Nodup->(∀g d,loc=Y (g,d)->g∉en/\∀q,¬e q g)->(∀g∈en,∀q,¬e q g)->eU τ a0 am F is->∃y S bl U,aZ f τ loc u am F y S/\aW e f F S is bl/\qv f y S F.size/\en.Perm (bl++U)/\(∀m h,y=Y (m,h)->(∃d,loc=Y (m,d)/\d<=h/\h+F.size<=d+τ.size)\/m∈U)/\(∀(
   s:bC) (K:eH->X->Prop) (D:ez) (z:F.den) (V:ak9) (d0:τ.den),
   (∀q g,e q g->K q g)->(∀g,(∃q,e q g)\/g∈U\/(∃d,loc=Y (g,d))->sO f s y F.size g)->
   aW K s F D z V->(y=bo->am≠[]->D=S)->(∀g d,y=Y (g,d)->fE s g d D)->fk τ a0 am F z d0->
   ∃n N,aW K s τ n d0 N/\(am=[]->n=D)/\(loc=bo->(y≠bo\/D=S)->n=u)/\(∀g d,loc=Y (g,d)->fE s g d n)/\N.Perm (V++U)/\aZ s τ loc n am F y D/\∀(c:bm a6) (Q:ah) (P:Loc) (M:ez),hq am c=bp->aZ f τ loc u c Q P M->aZ s τ loc n c Q P M)/\
  (∀(c:bm a6) (a3:ah) (z:a3.den) (ap:Loc) (dg:ez) (f2:ak9),lu am c=bp->a3.k5=bp->eU τ a0 c a3 z->aZ f τ loc u c a3 ap dg->aW e f a3 dg z f2->∀b∈f2,b∈U/\∀m h,y=Y (m,h)->b≠m):=by
 intro am
 induction am with
 |nil=>
  intro τ loc u a0 en F is ek cv d8 ad c1 H;obtain⟨rfl,rfl⟩:=eU.gE.1 H;refine⟨loc,u,en,[],(by cases τ<;>exact⟨bn,bn,bn⟩),ek,cv,ac,λm h a=>.inl ⟨h,a,aa,aa⟩,?_,λc _ _ _ _ _ a=>by grind [vH]⟩;intro s K D z V d0 _ _ A _ O B;obtain⟨_,rfl⟩:=fk.gE.1 B;exact⟨D,V,A,λ_=>rfl,λcs a=>a.resolve_left (λc=>c cs),O,ac,(by cases τ<;>exact⟨bn,bn,bn⟩),λc _ _ _ o=>by grind [hq,od]⟩
 |cons or am go=>
  intro τ loc u a0 en F is ek cv d8 ad c1 H;cases τ<;>cases or<;>simp only[eU] at H
  case osl.idx t i=>
   obtain⟨a4,fn,H⟩:=H;obtain⟨os,em,rfl,ek⟩:=ek;rcases ek with⟨_,rfl,_⟩|⟨g,d,f4,rfl,rfl,l2,of,ib,kg⟩
   ·simp at fn
   have i8:i<a0.length:=(h0.1 fn).1;obtain⟨f9,ll⟩:∃f9,f4[i]?=some f9:=⟨f4[i],cE aa⟩;obtain⟨f6,i1,f1,i2⟩:=kg i a4 f9 fn ll;obtain⟨ds,io,fp,op⟩:=agt ll;have rb:∀w,w<a0.length->d+w*t.size+t.size<=d+em*t.size:=λw o=>(by have:(w+1)*t.size<=em*t.size:=gj _ aa;grind);have f3:qv f (Y (g,d+i*t.size)) f6 t.size:=(by rintro R r a;simp only[eZ,iK] at a;obtain⟨rfl,rfl⟩:=a;exact⟨f1,λx l O=>ib x aa (by grind)⟩);have kd:=d8;rw[fp] at kd;simp only[zB,mi,j4,iI,g0,not_or] at kd;obtain⟨⟨nx,fT,n7⟩,jp,⟨fs,f5,ok⟩,ol⟩:=kd;obtain⟨y,S,bl,U,d2,d3,d4,G,T,d5,ex⟩:=go (loc:=Y (g,d+i*t.size)) i2 f3 fs (by rintro R r a;simp only[eZ,iK] at a;obtain⟨rfl,rfl⟩:=a;exact⟨fT,c1 g ac⟩) (λb k=>c1 b (by rw[fp];simp[k])) H;refine⟨y,S,bl,g::(ds.flatten++(U++io.flatten)),⟨g,d,_,em,f6,bn,i8,i1,f1,d2⟩,d3,d4,?_,?_,?_,λc _ _ _ _ _ a=>by cases c with|nil=>cases a|cons I c=>cases I<;>cases a⟩
   ·rw[fp];simp only[zB,mi];rw[uU] at G|-;intro b;have:=G b;simp only[uR,an1] at this|-;omega
   ·intro m h a;right;rcases T m h a with⟨r,l,_⟩|l
    ·simp only[eZ,iK] at l;rw[l.1];simp
    simp[l]
   intro s K D z V d0 bx v A d9 d6 B;simp only[fk] at B;obtain⟨ne,f7,lk,B,rfl⟩:=B;obtain rfl:ne=a4:=(by rw[fn] at lk;exact(gC lk).symm);obtain⟨n,N,C,_,_,L,an,el,co⟩:=d5 s K D z V f7 bx (by
     rintro b (a|a|⟨r,a⟩)
     ·exact v b (.inl a)
     ·exact v b (.inr (.inl (by simp[a])))
     simp only[eZ,iK] at a;exact v b (.inr (.inl (by rw[<-a.1];simp)))) A
    (by
     intro cs rl;exact d9 cs ac) d6 B
   have ce:∀m h,y=Y (m,h)->(m=g/\d+i*t.size<=h/\h+F.size<=d+i*t.size+t.size)\/m∈f9:=by
    intro m h a;rcases T m h a with⟨r,l,O,hv⟩|l
    ·simp only[eZ,iK] at l;omega
    exact .inr (G.mem_iff.2 (by simp[l]))
   have fl:=v g (.inr (.inl ac));have ge:∀q b,e q b->K q b/\dd f s b:=λq b k=>⟨bx q b k,(v b (.inl ⟨q,k⟩)).sm (λr a=>by
    rcases ce b r a with⟨rfl,_⟩|l
    ·exact c1 b ac q k
    exact c1 b (by rw[fp];simp[l]) q k)⟩
   have mc:∀(w:X) (hs:t.den) (bs:ak9),w≠i->a0[w]?=Y hs->f4[w]?=Y bs->∀d1:ez,d1.length=t.size->fE f g (d+w*t.size) d1->fE s g (d+w*t.size) d1/\∀b∈bs,dd f s b:=by
    intro w hs bs gi o dl d1 ii gt;have rd:w<a0.length:=(h0.1 o).1;have i3:∀b∈bs,b∈ds.flatten\/b∈io.flatten:=by
     intro b k;rw[fp] at dl;rcases cU w ds.length with a|a
     ·rw[qp a] at dl;exact .inl (mj.2 ⟨bs,qu dl,k⟩)
     rw[rD a] at dl;obtain⟨c,E⟩:∃c,w-ds.length=c+1:=⟨w-ds.length-1,aa⟩;rw[E] at dl;simp only[w9] at dl;exact .inr (mj.2 ⟨bs,qu dl,k⟩)
    refine⟨?_,?_⟩
    ·intro x hr fr;have ic:x<d1.length:=(h0.1 fr).1;rw[fl.1]
     ·exact gt x hr fr
     intro h a;rcases ce g h a with⟨_,l,O⟩|l
     ·rcases Nat.lt_or_gt_of_ne gi with rg|ra
      ·left;have:(w+1)*t.size<=i*t.size:=gj _ aa;rw[jD,h3] at this;omega
      right;have:(i+1)*t.size<=w*t.size:=gj _ aa;rw[jD,h3] at this;omega
     exact absurd l fT
    intro b k;refine(v b (.inr (.inl ?_))).sm ?_
    ·rcases i3 b k with a|a<;>simp[a]
    intro h a;rcases ce b h a with⟨rfl,_⟩|l
    ·rcases i3 b k with a|a
     ·exact nx a
     exact n7 a
    rcases i3 b k with a|a
    ·exact ol b a b (.inl l) rfl
    exact ok b l b a bn
   refine⟨[.slice (Y ⟨g,d,bo⟩) a0.length em],g::(ds++N::io).flatten,⟨Y ⟨g,d,bo⟩,em,ac,.inr ⟨g,d,ds++N::io,bn,bn,?_,by simpa using of,fl.Fj ib,?_⟩⟩,ac,λ_ _=>rfl,?_,?_,⟨g,d,_,em,n,bn,i8,by rw[C.len],L g _ rfl,el⟩,?_⟩
   ·rw[fp] at l2;simpa using l2
   ·intro w hs bs o H;by_cases gi:w=i
    ·subst gi;rw[List.getElem?_set_self i8] at o;obtain rfl:=gC o;rw[rD aa,op,amm] at H;simp only[rE,eZ] at H;subst H;exact⟨n,by rw[C.len],L g _ rfl,C⟩
    rw[List.getElem?_set_ne (λa=>gi a.symm)] at o;have dl:f4[w]?=Y bs:=by
     rw[fp];rcases cU w ds.length with a|a
     ·rw[qp a] at H|-;exact H
     rw[rD a] at H|-;obtain⟨c,E⟩:∃c,w-ds.length=c+1:=⟨w-ds.length-1,aa⟩;rw[E] at H|-;simpa using H
    obtain⟨d1,ii,gt,lc⟩:=kg w hs bs o dl;obtain⟨le,lf⟩:=mc w hs bs gi o dl d1 ii gt;exact⟨d1,ii,le,lc.mono ge lf⟩
   ·intro R r a;have gf:=(ad R r a).1;refine((cv R r a).1).sm ((v R (.inr (.inr ⟨r,a⟩))).sm ?_);intro h fz;rcases ce R h fz with⟨rfl,_⟩|l
    ·exact gf ac
    exact gf (by rw[fp];simp[l])
   ·rw[uU] at an|-;intro b;have:=an b;simp only[zB,mi,uR,an1] at this|-;omega
   intro c Q P M o E;cases c with
   |nil=>exact E
   |cons I c=>
    cases I<;>simp only[hq] at o<;>first|(cases o;done)|skip
    rename_i x;obtain⟨R,r,rs,pl,ix,l,O,hv,gc,hw⟩:=E;simp only[ia,alf,eZ,aly,cc] at l;obtain⟨⟨rfl,rfl⟩,rfl,rfl⟩:=l;by_cases lt:x=i
    ·subst lt;obtain rfl:=gc.eq f1 aa;exact⟨g,d,_,em,n,bn,O,C.len,L g _ rfl,co c Q P M o hw⟩
    have mt:a0[x]?=Y a0[x]:=cE O;have lo:f4[x]?=Y (f4[x]'(by omega)):=cE _
    obtain⟨d1,ii,gt,lc⟩:=kg x _ _ mt lo;obtain rfl:=gc.eq gt aa;obtain⟨le,lf⟩:=mc x _ _ lt mt lo ix hv gc;exact⟨g,d,_,em,ix,bn,O,hv,le,aZ.sm lc lf hw⟩
  case optr.deref t=>
   obtain⟨g,d,f9,f6,rfl,rfl,i1,f1,ib,i2⟩:=ek;simp only[j4] at d8;obtain⟨pv,on⟩:=d8;have f3:qv f (Y (g,d)) f6 t.size:=(by rintro R r a;grind);obtain⟨y,S,bl,U,d2,d3,d4,G,T,d5,ex⟩:=go (loc:=Y (g,d)) i2 f3 on (by grind) (λb k=>c1 b (by grind)) H;refine⟨y,S,bl,g::U,⟨g,d,f6,bn,i1,f1,d2⟩,d3,d4,?_,?_,?_,?_⟩
   rotate_left 3
   ·intro c a3 z ap dg f2 a fs d7 ci A b k;cases c with
    |nil=>cases a
    |cons I c=>
     cases I<;>first|(cases a;done)|skip
     simp only[aZ] at ci;obtain⟨R,r,pm,al,ps,nn,ci⟩:=ci;simp only[ia,aml,eZ,aly,cc] at al;obtain⟨rfl,rfl⟩:=al;obtain rfl:=nn.eq f1 aa;obtain⟨ax,J⟩:=ex c a3 z ap dg f2 a fs d7 ci A b k;exact⟨by simp[ax],J⟩
   ·rw[uU] at G|-;intro b;have:=G b;simp only[uR,an1] at this|-;omega
   ·intro m h a;right;rcases T m h a with⟨r,l,_⟩|l
    ·simp only[eZ,iK] at l;rw[l.1];simp
    simp[l]
   intro s K D z V d0 bx v A d9 d6 B;simp only[fk] at B;obtain⟨n,N,C,_,_,L,an,el,co⟩:=d5 s K D z V d0 bx (by
     rintro b (a|a|⟨r,a⟩)
     ·exact v b (.inl a)
     ·exact v b (.inr (.inl (by simp[a])))
     simp only[eZ,iK] at a;exact v b (.inr (.inl (by rw[<-a.1];simp)))) A
    (λcs _=>d9 cs ac) d6 B
   have fl:=v g (.inr (.inl ac));refine⟨[.pointer (Y ⟨g,d,bo⟩)],g::N,⟨g,d,N,n,bn,bn,C.len,L g d bn,fl.Fj ib,C⟩,ac,λ_ _=>rfl,?_,?_,⟨g,d,n,bn,C.len,L g d bn,el⟩,?_⟩
   ·intro R r a;have gf:=(ad R r a).1;refine((cv R r a).1).sm ((v R (.inr (.inr ⟨r,a⟩))).sm ?_);intro h fz;rcases T R h fz with⟨nd,l,_⟩|l
    ·simp only[eZ,iK] at l;exact gf (by rw[l.1];simp)
    exact gf (gx _ (G.mem_iff.2 (by simp[l])))
   ·rw[uU] at an|-;intro b;have:=an b;simp only[uR,an1] at this|-;omega
   intro c Q P M o E;cases c with
   |nil=>exact E
   |cons I c=>
    cases I<;>simp only[hq] at o<;>first|(cases o;done)|skip
    obtain⟨R,r,ix,l,hv,gc,hw⟩:=E;simp only[ia,aml,eZ,aly,cc] at l;obtain⟨rfl,rfl⟩:=l;obtain rfl:=gc.eq f1 aa;exact⟨g,d,n,bn,C.len,L g d bn,co c Q P M o hw⟩
  case st.unst t=>
   obtain⟨y,S,bl,U,d2,d3,d4,G,T,d5,ex⟩:=go (loc:=loc) (τ:=t) ek cv d8 ad c1 H;refine⟨y,S,bl,U,d2,d3,d4,G,T,?_,?_⟩
   rotate_left 1
   ·intro c a3 z ap dg f2 a fs d7 ci A b k;cases c with
    |nil=>cases a
    |cons I c=>
     cases I<;>first|(cases a;done)|skip
     exact ex c a3 z ap dg f2 a fs d7 ci A b k
   intro s K D z V d0 bx v A d9 d6 B;obtain⟨n,N,C,ro,gs,L,an,el,co⟩:=d5 s K D z V d0 bx v A (λcs _=>d9 cs ac) d6 B;refine⟨n,N,C,ac,gs,L,an,el,?_⟩;intro c Q P M o E;cases c with
   |nil=>
    obtain⟨rfl,rfl,rfl⟩:=aZ.ot.1 E;obtain⟨_,_,a4⟩:=aZ.ot.1 (co [] t loc u (by simpa[hq,od] using o) (aZ.ot.2 ⟨bn,bn,bn⟩));exact aZ.ot.2 ⟨bn,bn,a4⟩
   |cons I c=>
    cases I<;>simp only[hq] at o<;>first|(cases o;done)|skip
    exact co c Q P M o E
  case pr.fst j c2=>
   obtain⟨ft,f2,rfl,l,O⟩:=ek;have lb:=l.len;have ap:=O.len;simp only[gu,nT] at lb ap;have f3:qv f loc (u.take j.size) j.size:=λg d a=>⟨(cv g d a).1.take,λx ax J=>(cv g d a).2 x ax (by show x<d+(j.size+c2.size);omega)⟩;simp only[iI] at d8;obtain⟨jp,fs,f5⟩:=d8;obtain⟨y,S,bl,U,d2,d3,d4,G,T,d5,ex⟩:=go (loc:=loc) l f3 jp (λg d a=>⟨λc=>(ad g d a).1 (by simp[c]),(ad g d a).2⟩) (λb k=>c1 b (by grind)) H;refine⟨y,S,bl,U++f2,d2,d3,d4,?_,?_,?_,?_⟩
   rotate_left 3
   ·intro c a3 z ap dg i0 a gl d7 ci A b k;cases c with
    |nil=>cases a
    |cons I c=>
     cases I<;>first|(cases a;done)|skip
     ·obtain⟨ax,J⟩:=ex c a3 z ap dg i0 a gl d7 ci A b k;exact⟨by simp[ax],J⟩
     obtain⟨bs,C,L⟩:=aW.sub (p:=c) O d7 ci;have f0:b∈f2:=L b (by rw[<-aW.uniq gl A C];exact k);refine⟨by simp[f0],λm h fn a4=>?_⟩;subst a4;rcases T b h fn with⟨r,al,_⟩|al
     ·exact(ad b r al).1 (by simp[f0])
     exact f5 b (G.mem_iff.2 (by simp[al])) b f0 bn
   ·rw[uU] at G|-;intro b;have:=G b;simp only[uR] at this|-;omega
   ·intro m h a;rcases T m h a with⟨r,ax,J,hc⟩|ax
    ·exact .inl ⟨r,ax,J,by show h+F.size<=r+(j.size+c2.size);omega⟩
    exact .inr (by simp[ax])
   intro s K D z V d0 bx v A d9 d6 B;simp only[fk] at B;obtain⟨f7,B,rfl⟩:=B;obtain⟨n,N,C,_,gs,L,an,el,co⟩:=d5 s K D z V f7 bx (by
     rintro b (a|a|a)
     ·exact v b (.inl a)
     ·exact v b (.inr (.inl (by simp[a])))
     exact v b (.inr (.inr a))) A (λcs _=>d9 cs ac) d6 B
   have ce:∀m h,y=Y (m,h)->(∃d,loc=Y (m,d)/\d<=h/\h+F.size<=d+j.size)\/m∈ft:=λm h a=>(T m h a).imp id (λc=>G.mem_iff.2 (by simp[c]));have ge:∀q b,e q b->K q b/\dd f s b:=λq b k=>⟨bx q b k,(v b (.inl ⟨q,k⟩)).sm (λr a=>by
    rcases ce b r a with⟨d,c,_⟩|c
    ·exact(ad b d c).2 q k
    exact c1 b (by simp[c]) q k)⟩
   have mp:∀b∈f2,dd f s b:=λb k=>(v b (.inr (.inl (by simp[k])))).sm (λh a=>by
    rcases ce b h a with⟨d,c,_⟩|c
    ·exact(ad b d c).1 (by simp[k])
    exact f5 b c b k bn)
   have mz:=C.len;refine⟨n++u.drop j.size,N++f2,⟨N,f2,bn,?_,?_⟩,ac,?_,?_,?_,(by
    show aZ s j loc ((n++u.drop j.size).take j.size) am F y D;rw[uW aa,fU aa];exact el),?_⟩
   ·rw[uW aa,fU aa];exact C
   ·rw[sU aa,rB aa,hx];exact O.mono ge mp
   ·intro ax J;rw[gs ax J,j5]
   ·intro g d a;refine(L g d a).append ?_;rw[mz];intro x hr fr;have fl:=v g (.inr (.inr ⟨d,a⟩));have ic:x<(u.drop j.size).length:=(h0.1 fr).1;simp only[nT] at ic;rw[fl.1]
    ·exact((cv g d a).1.drop) x hr fr
    intro h fz;rcases ce g h fz with⟨nd,ax,J,hc⟩|c
    ·rw[a] at ax;simp only[eZ,iK,amK] at ax;omega
    exact absurd (by simp[c]) (ad g d a).1
   ·rw[uU] at an|-;intro b;have:=an b;simp only[uR] at this|-;omega
   intro c Q P M o E;have al:(n++u.drop j.size).take j.size=n:=(by rw[uW aa,fU aa]);have f8:(n++u.drop j.size).drop j.size=u.drop j.size:=(by rw[sU aa,rB aa,hx]);cases c with
   |nil=>
    obtain⟨rfl,rfl,rfl⟩:=aZ.ot.1 E;obtain⟨_,_,a4⟩:=aZ.ot.1 (co [] j loc (u.take j.size) (by simpa[hq,od] using o) (aZ.ot.2 ⟨bn,bn,bn⟩));exact aZ.ot.2 ⟨bn,bn,by rw[a4,j5]⟩
   |cons I c=>
    cases I<;>simp only[hq] at o<;>first|(cases o;done)|skip
    ·show aZ s j loc ((n++u.drop j.size).take j.size) c Q P M;rw[al];exact co c Q P M o E
    show aZ s c2 (loc.map λc=>(c.1,c.2+j.size)) ((n++u.drop j.size).drop j.size) c Q P M;rw[f8];exact aZ.sm O mp E
  case pr.snd j c2=>
   obtain⟨ft,f2,rfl,l,O⟩:=ek;have lb:=l.len;have ap:=O.len;simp only[gu,nT] at lb ap;have f3:qv f (loc.map λc=>(c.1,c.2+j.size)) (u.drop j.size) c2.size:=by
    intro g d a;cases loc with
    |none=>grind
    |some c=>
     obtain⟨oN,av⟩:=c;simp only[jr,eZ,iK] at a;obtain⟨rfl,rfl⟩:=a;exact⟨(cv _ _ rfl).1.drop,λx ax J=>(cv _ _ rfl).2 x aa (by show x<av+(j.size+c2.size);omega)⟩
   simp only[iI] at d8;obtain⟨jp,fs,f5⟩:=d8;have fT:∀g d,(loc.map λc=>(c.1,c.2+j.size))=Y (g,d)->∃av,loc=Y (g,av)/\d=av+j.size:=by
    intro g d a;cases loc with
    |none=>grind
    |some c=>
     grind
   obtain⟨y,S,bl,U,d2,d3,d4,G,T,d5,ex⟩:=go (loc:=loc.map λc=>(c.1,c.2+j.size)) O f3 fs (λg d a=>by grind) (λb k=>c1 b (by grind)) H;refine⟨y,S,bl,U++ft,d2,d3,d4,?_,?_,?_,?_⟩
   rotate_left 3
   ·intro c a3 z ap dg i0 a gl d7 ci A b k;cases c with
    |nil=>cases a
    |cons I c=>
     cases I<;>first|(cases a;done)|skip
     ·obtain⟨bs,C,L⟩:=aW.sub (p:=c) l d7 ci;have f0:b∈ft:=L b (by rw[<-aW.uniq gl A C];exact k);refine⟨by simp[f0],λm h fn a4=>?_⟩;subst a4;rcases T b h fn with⟨r,al,_⟩|al
      ·obtain⟨av,f8,_⟩:=fT _ _ al;exact(ad b av f8).1 (by simp[f0])
      exact f5 b f0 b (G.mem_iff.2 (by simp[al])) rfl
     obtain⟨ax,J⟩:=ex c a3 z ap dg i0 a gl d7 ci A b k;exact⟨by simp[ax],J⟩
   ·rw[uU] at G|-;intro b;have:=G b;simp only[uR] at this|-;omega
   ·intro m h a;rcases T m h a with⟨r,ax,J,hc⟩|ax
    ·obtain⟨av,hi,rfl⟩:=fT _ _ ax;exact .inl ⟨av,hi,aa,by show h+F.size<=av+(j.size+c2.size);omega⟩
    exact .inr (by simp[ax])
   intro s K D z V d0 bx v A d9 d6 B;simp only[fk] at B;obtain⟨f7,B,rfl⟩:=B;obtain⟨n,N,C,_,gs,L,an,el,co⟩:=d5 s K D z V f7 bx (by
     rintro b (a|a|⟨d,a⟩)
     ·exact v b (.inl a)
     ·exact v b (.inr (.inl (by simp[a])))
     obtain⟨av,hi,rfl⟩:=fT _ _ a;exact v b (.inr (.inr ⟨av,hi⟩))) A (λcs _=>d9 cs ac) d6 B
   have ce:∀m h,y=Y (m,h)->(∃d,loc=Y (m,d)/\d+j.size<=h/\h+F.size<=d+j.size+c2.size)\/m∈f2:=λm h a=>by
    rcases T m h a with⟨r,ax,J,hc⟩|c
    ·obtain⟨av,hi,rfl⟩:=fT _ _ ax;exact .inl ⟨av,hi,J,hc⟩
    exact .inr (G.mem_iff.2 (by simp[c]))
   have ge:∀q b,e q b->K q b/\dd f s b:=λq b k=>⟨bx q b k,(v b (.inl ⟨q,k⟩)).sm (λr a=>by
    rcases ce b r a with⟨d,c,_⟩|c
    ·exact(ad b d c).2 q k
    exact c1 b (by simp[c]) q k)⟩
   have mo:∀b∈ft,dd f s b:=λb k=>(v b (.inr (.inl (by simp[k])))).sm (λh a=>by
    rcases ce b h a with⟨d,c,_⟩|c
    ·exact(ad b d c).1 (by simp[k])
    exact f5 b k b c bn)
   have mz:=C.len;refine⟨u.take j.size++n,ft++N,⟨ft,N,bn,?_,?_⟩,ac,?_,?_,?_,(by
    show aZ s c2 (loc.map λc=>(c.1,c.2+j.size)) ((u.take j.size++n).drop j.size) am F y D;rw[sU (by simp;omega),rB (by simp;omega),hx];exact el),?_⟩
   ·rw[uW (by simp;omega),apT,apU];exact l.mono ge mo
   ·rw[sU (by simp;omega),rB (by simp;omega),hx];exact C
   ·intro ax J;rw[gs (by rw[ax];rfl) J,j5]
   ·intro g d a;have fl:=v g (.inr (.inr ⟨d,a⟩));have no:fE s g d (u.take j.size):=by
     intro x hr fr;have ic:x<(u.take j.size).length:=(h0.1 fr).1;simp only[gu] at ic;rw[fl.1]
     ·exact((cv g d a).1.take) x hr fr
     intro h fz;rcases ce g h fz with⟨nd,ax,J,hc⟩|c
     ·rw[a] at ax;simp only[eZ,iK,amK] at ax;omega
     exact absurd (by simp[c]) (ad g d a).1
    refine no.append ?_;have:=L g (d+j.size) (by rw[a];rfl);rwa[gu,hR aa]
   ·rw[uU] at an|-;intro b;have:=an b;simp only[uR] at this|-;omega
   intro c Q P M o E;have al:(u.take j.size++n).take j.size=u.take j.size:=(by rw[uW (by simp;omega),apT,apU]);have f8:(u.take j.size++n).drop j.size=n:=(by rw[sU (by simp;omega),rB (by simp;omega),hx]);cases c with
   |nil=>
    obtain⟨rfl,rfl,rfl⟩:=aZ.ot.1 E;obtain⟨_,_,a4⟩:=aZ.ot.1 (co [] c2 (loc.map λc=>(c.1,c.2+j.size)) (u.drop j.size) (by simpa[hq,od] using o) (aZ.ot.2 ⟨bn,bn,bn⟩));exact aZ.ot.2 ⟨bn,bn,by rw[a4,j5]⟩
   |cons I c=>
    cases I<;>simp only[hq] at o<;>first|(cases o;done)|skip
    ·show aZ s j loc ((u.take j.size++n).take j.size) c Q P M;rw[al];exact aZ.sm l mo E
    show aZ s c2 (loc.map λc=>(c.1,c.2+j.size)) ((u.take j.size++n).drop j.size) c Q P M;rw[f8];exact co c Q P M o E
theorem Fi (i:bm a6) {loc:Loc} {u:d.den} {τ':ah} {y:τ'.den} (D:aW e f d h u k) (E:qv f loc h d.size) (F:k.Nodup) (G:∀a b,loc=Y (a,b)->a∉k/\∀g,¬e g a) (H:∀a∈k,∀g,¬e g a) (I:eU d u i τ' y):∃c l r o,aZ f d loc h i τ' c l/\aW e f τ' l y r/\qv f c l τ'.size/\k.Perm (r++o)/\(∀q s,c=Y (q,s)->(∃b,loc=Y (q,b)/\b<=s/\s+τ'.size<=b+d.size)\/q∈o)/\(∀(
   j:bC) (p:eH->X->Prop) (m:ez) (B:τ'.den) (w:ak9) (A:d.den),
   (∀g a,e g a->p g a)->(∀a,(∃g,e g a)\/a∈o\/(∃b,loc=Y (a,b))->sO f j c τ'.size a)->
   aW p j τ' m B w->(c=bo->i≠[]->m=l)->(∀a b,c=Y (a,b)->fE j a b m)->fk d u i τ' B A->
   ∃n x,aW p j d n A x/\(i=[]->n=m)/\(loc=bo->(c≠bo\/m=l)->n=h)/\(∀a b,loc=Y (a,b)->fE j a b n)/\x.Perm (w++o)/\aZ j d loc n i τ' c m/\∀(t:bm a6) (C:ah) (z:Loc) (v:ez),hq i t=bp->aZ f d loc h t C z v->aZ j d loc n t C z v):=by
 obtain⟨c,l,r,o,J,K,L,M,N,O,_⟩:=Bc i D E F G H I;grind
def bf (a c:X->Prop):eH->X->Prop
 |.bj=>a
 |.c9=>λb=>a b\/c b
theorem nH {a:X->Prop} {d:eH} (c:bf a j d b):a b\/j b:=by cases d;exact .inl c;exact c
inductive ak where
 |dead
 |val (τ:ah) (x:τ.den)
 |ref (id:X) (p:bm a6)
 |addr (id:X) (p:bm a6)
 |view (id:X) (p:bm a6) (lo hi:X)
 |app (id:X) (p:bm a6) (τ:ah) (ys:bm τ.den) (own:ak9)
 |eB (v:Value)
 |fu (l:bm ak)
 |agg (l:bm ak)
 |di (f:X) (l:bm ak)
 |ent (id:X) (p:bm a6) (k:Z)
 |hL (a:ak)
variable{V:ak}
abbrev aE:=(a:ah)×a.den
variable{u:bm (X×aE)}{P:aE}
structure aR where
 g:bm (X×ak)
 h:bm (X×aE)
variable{z:aR}
def aq {a:Type}:bm (X×a)->X->bu a
 |[],_=>bo
 |(k,v)::r,n=>bif bH k n then Y v else aq r n
theorem eC (b:X) (d:y) (c:bm (X×y)) (a:X):aq ((b,d)::c) a=if b=a then Y d else aq c a:=by
 show(bif bH b a then Y d else aq c a)=_;by_cases e:b=a
 ·simp_all
 rw[ar e];grind [alZ]
def gt (a:bm (X×ak)) (b:X):ak:=match aq a b with|some c=>c|none=>.dead
structure e7 where
 I0:X->Prop
 B:X->Prop
 F0:X->Prop
 w0:bC
 n:X
 pin:ak9
 vs:X->Value
variable{U:e7}
def e7.ok (a:e7) (d:X):Prop:=d<a.n/\d∉a.pin
inductive cT (M:eH->X->Prop) (w:bC) (h:bm (X×aE)) (rt:X->ez) (fp:X->ak9):ak->Value->Prop
 |dead (v:Value):cT M w h rt fp .dead v
 |eB (v:Value):cT M w h rt fp (.eB v) v
 |val {τ:ah} {x:τ.den} {cs:ez} (r:aW M w τ cs x []):cT M w h rt fp (.val τ x) (c3 τ cs)
 |ref {id:X} {p:bm a6} {t:aE} {τ':ah} {loc:Loc} {cs:ez} (pS:aq h id=Y t) (Fw:aZ w t.1 bo (rt id) p τ' loc cs):cT M w h rt fp (.ref id p) (c3 τ' cs)
 |addr {id:X} {p:bm a6} {t:aE} {τ':ah} {b o:X} {cs:ez} (pS:aq h id=Y t) (Fw:aZ w t.1 bo (rt id) p τ' (Y (b,o)) cs):cT M w h rt fp (.addr id p) (.pointer (Y ⟨b,o,bo⟩))
 |view {id:X} {p:bm a6} {lo hi:X} {t:aE} {τ':ah} {loc:Loc} {b o len cap:X} (pS:aq h id=Y t) (Fw:aZ w t.1 bo (rt id) p (.osl τ') loc [.slice (Y ⟨b,o,bo⟩) len cap]) (Bg:lo<=hi) (PC:hi<=len) (ahY:len<=cap):cT M w h rt fp (.view id p lo hi) (.slice (Y ⟨b,if cap=lo then o else o+lo*τ'.size,bo⟩) (hi-lo) (cap-lo))
 |mM (id:X) (p:bm a6):cT M w h rt fp (.view id p 0 0) (.slice bo 0 0)
 |app {id:X} {p:bm a6} {τ:ah} {ys:bm τ.den} {own:ak9} {t:aE} {loc:Loc} {vb:ez} {xs:bm τ.den} {f1 f2:ak9} {v:Value} (pS:aq h id=Y t) (ah2:τ.k5=bp) (Fw:aZ w t.1 bo (rt id) p (.osl τ) loc vb) (PF:eU t.1 t.2 p (.osl τ) xs) (Bg:aW M w (.osl τ) vb xs f1) (ah0:∀b∈f1,b∈fp id) (PC:aW M w (.osl τ) [v] (xs++ys) f2) (ah5:∀i∈own,i≠id/\∃u,aq h i=Y u) (ah8:∀b∈f2,b∈f1\/∃i∈own,b∈fp i) (ah3:f2.Nodup):cT M w h rt fp (.app id p τ ys own) v
 |fu {l:bm ak} {vs:ew} (Fv:l.length=vs.size) (Fu:∀(i:X) (a:ak) (v:Value),l[i]?=Y a->vs[i]?=Y v->cT M w h rt fp a v):cT M w h rt fp (.fu l) (.tuple vs)
 |agg {l:bm ak} {vs:ez} (Fv:l.length=vs.length) (Fu:∀(i:X) (a:ak) (v:Value),l[i]?=Y a->vs[i]?=Y v->cT M w h rt fp a v):cT M w h rt fp (.agg l) (.agg (vs.map λv=>v.cells.toList).flatten.toArray)
 |ent {id:X} {p:bm a6} {k:Z} {t:aE} {τ':ah} {loc:Loc} {b c i:X} {fa:bT cj} {e:cj} (pS:aq h id=Y t) (Fw:aZ w t.1 bo (rt id) p (.mp τ') loc [.map (Y b)]) (Ft:b∈fp id) (PG:jw w b=Y (fa,c)) (hi:fa[i]?=Y e) (ah1:e.key=.int .i64 k):cT M w h rt fp (.ent id p k) (.int .i64 (e.born:Z))
 |di {f:X} {l:bm ak} {vs:ew} (Fv:l.length=vs.size) (Fu:∀(i:X) (a:ak) (v:Value),l[i]?=Y a->vs[i]?=Y v->cT M w h rt fp a v):cT M w h rt fp (.di f l) (.func (.func f) #[] vs)
 |hL {a:ak} {v:Value} {b:X} (Ft:M .bj b) (hc:w.cell? ⟨b,0,bo⟩=Y v) (ah4:v.oneCell'=bp) (JB:cT M w h rt fp a v):cT M w h rt fp (.hL a) (.pointer (Y ⟨b,0,bo⟩))
structure cP (C:e7) (st:aR) (L4:ew) (w:bC) (I:X->Prop) (rt:X->ez) (fp:X->ak9):Prop where
 n:L4.size=C.n
 i0:∀b,C.I0 b->I b
 i1:∀b,I b->C.I0 b\/C.w0.heap.size<=b\/C.F0 b
 ib:∀b,I b\/C.B b->b<w.heap.size
 tree:∀id t,aq st.h id=Y t->aW (bf I C.B) w t.1 (rt id) t.2 (fp id)/\(fp id).Nodup/\∀b∈fp id,¬I b/\¬C.B b/\b<w.heap.size/\(C.w0.heap.size<=b\/C.F0 b)
 dis:∀i j t u,aq st.h i=Y t->aq st.h j=Y u->i≠j->∀b∈fp i,b∉fp j
 tmp:∀k,cT (bf I C.B) w st.h rt fp (gt st.g k) (L4.getD k bV)
 frame:∀b,b<C.w0.heap.size->¬C.F0 b->w.heap[b]?=C.w0.heap[b]?
 evo:∀b,b<C.w0.heap.size->li C.w0 w b
 size:C.w0.heap.size<=w.heap.size
 os:w.os=C.w0.os
 tape:w.tape=C.w0.tape
 output:w.output=C.w0.output
 pin:∀k∈C.pin,L4.getD k bV=C.vs k
def gR (a:e7) (e:aR) (f:ew) (g:bC):Prop:=∃b d c,cP a e f g b d c
structure hC (w w':bC):Prop where
 os:w'.os=w.os
 tape:w'.tape=w.tape
 output:w'.output=w.output
 size:w.heap.size<=w'.heap.size
 heap:∀b,b<w.heap.size->w'.heap[b]?=w.heap[b]?
def hC.refl (a:bC):hC a a:=⟨bn,bn,bn,bc _,λ_ _=>rfl⟩
theorem hC.trans {c d e:bC} (a:hC c d) (b:hC d e):hC c e:=
 ⟨b.os.trans a.os,b.tape.trans a.tape,b.output.trans a.output,cO a.size b.size,λg f=>(b.heap g (jE f a.size)).trans (a.heap g f)⟩
def hC.drew {b c:bC} (a:hC b c):hC b c.drew:=⟨a.os,a.tape,a.output,a.size,a.heap⟩
theorem hC.alloc (a:bC) (b:Obj):hC a (a.alloc b):=⟨bn,bn,bn,ac,λc d=>by
 show(a.heap.push b)[c]?=_;grind⟩
theorem cT.mono {u x:eH->X->Prop} {r t:bC} {v z:bm (X×aE)} {w D:X->ez} {s y:X->ak9} (n:∀B c,u B c->x B c/\dd r t c) (d:∀id m,aq v id=Y m->aW u r m.1 (w id) m.2 (s id)/\∀c∈s id,dd r t c) {j:ak} {b:Value} (F:cT u r v w s j b) (o:∀id m,aq v id=Y m->aq z id=Y m/\D id=w id/\y id=s id):cT x t z D y j b:=by
 induction F with
 |dead b=>exact .dead b
 |eB b=>exact .eB b
 |val S=>exact .val (S.mono n ac)
 |ref a g=>
  obtain⟨h,i,_⟩:=o _ _ a;exact .ref h (by rw[i];exact g.sm (d _ _ a).1 (d _ _ a).2)
 |addr a g=>
  obtain⟨h,i,_⟩:=o _ _ a;exact .addr h (by rw[i];exact g.sm (d _ _ a).1 (d _ _ a).2)
 |mM id C=>exact .mM id C
 |view a g e f E=>
  obtain⟨h,i,_⟩:=o _ _ a;exact .view h (by rw[i];exact g.sm (d _ _ a).1 (d _ _ a).2) e f E
 |@app id C τ av an m am T ap U f2 b a N g J e H f V ad O=>
  obtain⟨h,i,R⟩:=o _ _ a;obtain⟨Q,A⟩:=d _ _ a;have I:∀c∈f2,dd r t c:=λc k=>(by grind);refine .app h N (by rw[i];exact g.sm Q A) J (e.mono n (λc k=>A c (H c k))) (by grind) (f.mono n I) ?_ ?_ O
  ·grind
  grind
 |ent a g k M K L=>
  obtain⟨h,i,R⟩:=o _ _ a;exact .ent h (by rw[i];exact g.sm (d _ _ a).1 (d _ _ a).2) (by grind) (by rw[((d _ _ a).2 _ k).2];exact M) K L
 |fu p _ l=>exact .fu p (λq j b e f=>l q j b e f)
 |agg p _ l=>exact .agg p (λq j b e f=>l q j b e f)
 |di p _ l=>exact .di p (λq j b e f=>l q j b e f)
 |hL k G P _ l=>exact .hL (n _ _ k).1 (by rw[((n _ _ k).2.1 0).1];exact G) P l
def aX (c:bm (X×ak)):bL->ak
 |.tmp g=>gt c g
 |.const (.int d e)=>.val (.int d) e
 |.const (.bool a)=>.val .bool a
 |.const (.string f)=>.val .str f
 |.const h=>.eB h
 |.func b=>.di b []
 |.global _=>.dead
def cT.int {c:eH->X->Prop} {g:bC} {e:bm (X×aE)} {f:X->ez} {d:X->ak9} (a:cr) (b:Z):cT c g e f d (.val (.int a) b) (.int a b):=
 .val (τ:=.int a) (cs:=[.int a b]) ⟨bn,bn⟩
def cT.bool {b:eH->X->Prop} {f:bC} {d:bm (X×aE)} {e:X->ez} {c:X->ak9} (a:bz):cT b f d e c (.val .bool a) (.bool a):=
 .val (τ:=.bool) (cs:=[.bool a]) ⟨bn,bn⟩
def cT.str {b:eH->X->Prop} {f:bC} {d:bm (X×aE)} {e:X->ez} {c:X->ak9} (a:ByteArray):cT b f d e c (.val .str a) (.string a):=
 .val (τ:=.str) (cs:=[.string a]) ⟨bn,bn⟩
def cP.aX {e:e7} {c:aR} {a:Act} {l:bC} {f:X->Prop} {j:X->ez} {i:X->ak9} (m:cP e c a.tmps l f j i) (d:bL):cT (bf f e.B) l c.h j i (aX c.g d) (a.eval d):=by
 cases d with
 |tmp o=>exact m.tmp o
 |const p=>
  cases p<;>simp only[jN.aX,Act.eval]
  case int k n=>exact .int k n
  case bool b=>exact .bool b
  case string s=>exact .str s
  all_goals exact .eB _
 |func q=>exact .di (vs:=#[]) ac ac
 |global r=>exact .dead _
theorem k4 {d:Type}:∀(c b:bm (X×d)) (a:X),aq (c++b) a=(aq c a).or (aq b a)
 |[],b,a=>by simp[aq]
 |(k,v)::c,b,a=>by rw[kT,eC,eC,k4 c b a];grind
theorem ju (c:X) (b:ak) (d:bm (X×ak)) (a:X):gt ((c,b)::d) a=if c=a then b else gt d a:=by grind [eC,gt]
theorem cP.put (a:cP U z O f j r p) (e:U.ok b) {av:ak} {v:Value} (l:cT (bf j U.B) f z.h r p av v):cP U ⟨(b,av)::z.g,z.h⟩ (O.setIfInBounds b v) f j r p where
 n:=by simpa using a.n
 i0:=a.i0
 i1:=a.i1
 ib:=a.ib
 tree:=a.tree
 dis:=a.dis
 tmp:=λc=>by
  show cT _ _ _ _ _ (gt ((b,av)::z.g) c) _;unfold gt;rw[eC];have k:b<O.size:=(by rw[a.n];exact e.1);by_cases d:b=c
  ·simp_all
  rw[ar d];have:(O.setIfInBounds b v).getD c bV=O.getD c undef:=(by simp_all);rw[this];exact a.tmp c
 frame:=a.frame
 evo:=a.evo
 size:=a.size
 os:=a.os
 tape:=a.tape
 output:=a.output
 pin:=λc d=>by have:b≠c:=λi=>e.2 (i▸d);rw[<-a.pin c d];simp_all
structure xe (C:e7) (st:aR) (w w':bC) (I':X->Prop) (new:bm (X×aE)) (rtn:X->ez) (fpn:X->ak9):Prop where
 tree:∀id t,aq new id=Y t->aq st.h id=bo/\aW (bf I' C.B) w' t.1 (rtn id) t.2 (fpn id)/\(fpn id).Nodup/\∀b∈fpn id,w.heap.size<=b/\b<w'.heap.size/\¬I' b
 dis:∀i j t u,aq new i=Y t->aq new j=Y u->i≠j->∀b∈fpn i,b∉fpn j
def xe.nil:xe U z f m j [] r p:=
 ⟨(λ_ _ a=>by cases a),(λ_ _ _ _ a=>by cases a)⟩
theorem xe.one {C:e7} {st:aR} {e w':bC} {I':X->Prop} {id:X} {t:aE} {cs:ez} {f:ak9} (m:aq st.h id=bo) (n:aW (bf I' C.B) w' t.1 cs t.2 f) (k:f.Nodup) (j:∀b∈f,e.heap.size<=b/\b<w'.heap.size/\¬I' b):xe C st e w' I' [(id,t)] (λ_=>cs) (λ_=>f) where
 tree:=λg i a=>by
  rw[eC] at a;split at a
  ·grind
  cases a
 dis:=λg o p i c d l=>by
  rw[eC] at c d;split at c
  ·split at d
   ·omega
   cases d
  cases c
def fv (d:bm (X×aE)) {a:Type} (b c:X->a):X->a:=λid=>match aq d id with|some _=>b id|none=>c id
theorem cP.ext {I':X->Prop} {rtn:X->ez} {fpn:X->ak9} (d:cP U z O f j r p) (e:hC f m) (y:∀a,j a->I' a) (A:∀a,I' a->j a\/(f.heap.size<=a/\a<m.heap.size)) {new:bm (X×aE)} (s:xe U z f m I' new rtn fpn):cP U ⟨z.g,new++z.h⟩ O m I' (fv new rtn r) (fv new fpn p):=by
 have I:∀w a,bf j U.B w a->bf I' U.B w a/\dd f m a:=λw a b=>by
  refine⟨?_,.of_heap (e.heap a (d.ib a (nH b)))⟩;cases w
  ·exact y a b
  exact b.imp (y a) id
 have S:∀id c,aq z.h id=Y c->aq (new++z.h) id=Y c/\fv new rtn r id=r id/\fv new fpn p id=p id:=λid c k=>by
  have:aq new id=bo:=by
   cases P:aq new id with
   |none=>rfl
   |some l=>have:=(s.tree id l P).1;grind
  grind [k4,fv]
 have C:∀id c,aq (new++z.h) id=Y c->(aq new id=Y c/\fv new rtn r id=rtn id/\fv new fpn p id=fpn id)\/(aq z.h id=Y c/\fv new rtn r id=r id/\fv new fpn p id=p id):=λid c k=>(by grind [k4,aq,fv]);have J:∀id c,aq z.h id=Y c->∀a∈p id,dd f m a:=λid c k a b=>.of_heap (e.heap a ((d.tree id c k).2.2 a b).2.2.1);refine{n:=d.n,i0:=λa b=>y a (d.i0 a b),i1:=?_,ib:=?_,tree:=?_,dis:=?_,tmp:=?_,frame:=?_,evo:=λa b=>(d.evo a b).trans (.of_heap (e.heap a (jE b d.size))),size:=cO d.size e.size,os:=e.os.trans d.os,tape:=e.tape.trans d.tape,output:=e.output.trans d.output,pin:=d.pin}
 ·intro a b;rcases A a b with b|⟨b,_⟩
  ·exact d.i1 a b
  exact .inr (.inl (cO d.size b))
 ·intro a b;rcases b with b|b
  ·rcases A a b with b|⟨_,b⟩
   ·exact jE (d.ib a (.inl b)) e.size
   omega
  exact jE (d.ib a (.inr b)) e.size
 ·intro id c k;rcases C id c k with⟨i,x,o⟩|⟨i,x,o⟩
  ·obtain⟨_,ax,D,E⟩:=s.tree id c i;rw[x,o];refine⟨ax,D,λa b=>?_⟩;obtain⟨F,G,H⟩:=E a b;exact⟨H,λM=>by have:=d.ib a (.inr M);omega,G,.inl (cO d.size F)⟩
  obtain⟨ax,D,E⟩:=d.tree id c i;rw[x,o];refine⟨ax.mono I (J id c i),D,λa b=>?_⟩;obtain⟨F,G,H,aV⟩:=E a b;exact⟨λq=>(A a q).elim F (λV=>by omega),G,jE H e.size,aV⟩
 ·intro t u c l Q R K a b;rcases C t c Q with⟨i,_,o⟩|⟨i,_,o⟩<;>rcases C u l R with⟨v,_,L⟩|⟨v,_,L⟩<;>rw[o] at b<;>rw[L]
  ·exact s.dis t u c l i v K a b
  ·intro q;have:=((s.tree t c i).2.2.2 a b).1;have:=((d.tree u l v).2.2 a q).2.2.1;omega
  ·intro q;have:=((s.tree u l v).2.2.2 a q).1;have:=((d.tree t c i).2.2 a b).2.2.1;omega
  exact d.dis t u c l i v K a b
 ·intro T;exact(d.tmp T).mono I (λid c k=>⟨(d.tree id c k).1,J id c k⟩) S
 intro a b N;rw[e.heap a (jE b d.size)];exact d.frame a b N
def cP.YL (a:cP U z O f j r p) (b:hC f m):cP U z O m j r p:=by have:=a.ext (rtn:=r) (fpn:=p) b (λ_ a=>a) (λ_ a=>.inl a) (new:=[]) .nil;exact this
def pF:bm (X×ak)->aR->Prop
 |[],_=>True
 |(k,av)::r,st=>gt st.g k=av/\pF r st
def pG:bm (X×aE)->aR->Prop
 |[],_=>True
 |(k,t)::r,st=>aq st.h k=Y t/\pG r st
def pF.get {b:bm (X×ak)} (c:pF b z):∀a,gt b a=.dead\/gt b a=gt z.g a:=by
 induction b with
 |nil=>exactλa=>.inl bn
 |cons f b e=>
  obtain⟨i,h⟩:=f;intro a;rw[ju];split
  ·rename_i d;subst d;exact .inr c.1.symm
  exact e c.2 a
def pG.get (c:pG u z):∀a b,aq u a=Y b->aq z.h a=Y b:=by
 induction u with
 |nil=>intro a b c;cases c
 |cons g u f=>
  obtain⟨j,i⟩:=g;intro a b d;rw[eC] at d;split at d
  ·rename_i e;subst e;rw[<-d];exact c.1
  exact f c.2 a b d
mutual
def ak.ids:ak->ak9
 |.dead|.val _ _|.eB _=>[]
 |.ref id _|.addr id _|.view id _ _ _|.ent id _ _=>[id]
 |.app id _ _ _ c=>id::c
 |.fu a|.agg a|.di _ a=>ak.o6 a
 |.hL b=>b.ids
def ak.o6:bm ak->ak9
 |[]=>[]
 |a::b=>a.ids++ak.o6 b
end
theorem ak.BA {l:bm ak} {i:X} (a:l[i]?=Y V) {id:X} (b:id∈V.ids):id∈ak.o6 l:=by
 induction l generalizing i with
 |nil=>grind
 |cons e d c=>
  grind [ak.o6]
theorem cT.uf {x:eH->X->Prop} {z:bm (X×aE)} {D:X->ez} {y:X->ak9} (s:∀B b,e B b->x B b/\dd f m b) (F:cT e f u r p V R) (d:∀id∈V.ids,∀w,aq u id=Y w->aq z id=Y w/\D id=r id/\y id=p id/\aW e f w.1 (r id) w.2 (p id)/\∀b∈p id,dd f m b):cT x m z D y V R:=by
 induction F with
 |dead R=>exact .dead R
 |eB R=>exact .eB R
 |val T=>exact .val (T.mono s ac)
 |ref h g=>
  obtain⟨i,j,_,o,k⟩:=d _ (by simp[ak.ids]) _ h;exact .ref i (by rw[j];exact g.sm o k)
 |addr h g=>
  obtain⟨i,j,_,o,k⟩:=d _ (by simp[ak.ids]) _ h;exact .addr i (by rw[j];exact g.sm o k)
 |mM id C=>exact .mM id C
 |view h g a c E=>
  obtain⟨i,j,_,o,k⟩:=d _ (by simp[ak.ids]) _ h;exact .view i (by rw[j];exact g.sm o k) a c E
 |@app id C a4 a3 av w ap U a0 ad f2 R h N g J a H c am an O=>
  obtain⟨i,j,S,Q,A⟩:=d _ (by simp[ak.ids]) _ h;have I:∀b∈f2,dd f m b:=λb l=>(by grind [ak.ids]);refine .app i N (by rw[j];exact g.sm Q A) J (a.mono s (λb l=>A b (H b l))) (by grind) (c.mono s I) ?_ ?_ O
  ·grind [ak.ids]
  grind [ak.ids]
 |ent h g l M K L=>
  obtain⟨i,j,S,o,k⟩:=d _ (by simp[ak.ids]) _ h;exact .ent i (by rw[j];exact g.sm o k) (by grind) (by rw[(k _ l).2];exact M) K L
 |fu t _ n=>exact .fu t (λv V R a c=>n v V R a c (λid q=>d id (ak.BA a q)))
 |agg t _ n=>exact .agg t (λv V R a c=>n v V R a c (λid q=>d id (ak.BA a q)))
 |di t _ n=>exact .di t (λv V R a c=>n v V R a c (λid q=>d id (ak.BA a q)))
 |hL l G P _ n=>exact .hL (s _ _ l).1 (by rw[((s _ _ l).2.1 0).1];exact G) P (n λid q=>d id (by grind [ak.ids]))
def cP.Aa {o:aR} (a:cP U o O f j r p) (v:pF z.g o) (d:pG z.h o) (w:∀c,∀id∈(gt z.g c).ids,(aq z.h id).isSome=bp):cP U z O f j r p where
 n:=a.n
 i0:=a.i0
 i1:=a.i1
 ib:=a.ib
 tree:=λid b e=>a.tree id b (d.get id b e)
 dis:=λs t b i m x=>a.dis s t b i (d.get s b m) (d.get t i x)
 tmp:=λc=>by
  rcases v.get c with l|l
  ·rw[l];exact .dead _
  have:=w c;rw[l] at this|-;refine(a.tmp c).uf (λy k u=>⟨u,dd.refl f k⟩) (λid m b e=>?_);obtain⟨i,q⟩:=Hv.1 (this id m);have:=d.get id i q;rw[e] at this;obtain rfl:=gC this;exact⟨q,bn,bn,(a.tree id b e).1,λk _=>dd.refl f k⟩
 frame:=a.frame
 evo:=a.evo
 size:=a.size
 os:=a.os
 tape:=a.tape
 output:=a.output
 pin:=a.pin
def m5 (a:bm (X×ak)) (b:bm (X×aE)):bz:=a.all λc=>c.2.ids.all λid=>(aq b id).isSome
theorem m5.get {a:bm (X×ak)} (f:m5 a u=bp) (c:X):∀id∈(gt a c).ids,(aq u id).isSome=bp:=by
 intro id b;unfold gt at b;cases d:aq a c with
 |none=>grind [ak.ids]
 |some e=>
  rw[d] at b;have g:(c,e)∈a:=by
   clear f b
   induction a with
   |nil=>cases d
   |cons i j h=>
    grind [amI,alU,eC]
  grind [amn,m5]
section
mutual
def fx (P:bY):ah->bE->Prop
 |.int f,T=>∃a,P.info? T=Y a/\a.size=1/\a.bytes<=24/\a.zero=Y (.int f 0)/\P.underlying T=Y (.int f)
 |.bool,T=>∃a,P.info? T=Y a/\a.size=1/\a.bytes<=24/\a.zero=Y (.bool bq)/\P.underlying T=Y .bool
 |.str,T=>∃a,P.info? T=Y a/\a.size=1/\a.bytes<=24/\a.zero=Y (.string an2)/\P.underlying T=Y .string
 |.a8 _ b,T=>∃a E,P.info? T=Y a/\a.size=1/\a.bytes<=24/\a.zero=Y (.slice bo 0 0)/\P.underlying T=Y (.slice E)/\fx P b E
 |.osl b,T=>∃a E,P.info? T=Y a/\a.size=1/\a.bytes<=24/\a.zero=Y (.slice bo 0 0)/\P.underlying T=Y (.slice E)/\fx P b E
 |.ptr _ b,T=>∃a E,P.info? T=Y a/\a.size=1/\a.bytes<=24/\a.zero=Y (.pointer bo)/\P.underlying T=Y (.pointer E)/\fx P b E
 |.optr b,T=>∃a E,P.info? T=Y a/\a.size=1/\a.bytes<=24/\a.zero=Y (.pointer bo)/\P.underlying T=Y (.pointer E)/\fx P b E
 |.st b,T=>0<b.size/\∃a e d,P.info? T=Y a/\a.size=b.size/\a.bytes<=24*b.size/\a.zero=Y (.agg d)/\P.underlying T=Y (.struct e)/\i9 P b e.toList 0 d.toList/\d.size=b.size
 |.mp b,T=>∃a c E,P.info? T=Y a/\a.size=1/\a.bytes<=24/\a.zero=Y (.map bo)/\P.underlying T=Y (.map c E)/\P.underlying c=Y (.int .i64)/\fx P b E
 |.fj _ b,T=>∃a c E,P.info? T=Y a/\a.size=1/\a.bytes<=24/\a.zero=Y (.map bo)/\P.underlying T=Y (.map c E)/\P.underlying c=Y (.int .i64)/\fx P b E
 |.fn _ _,T=>∃a g h i,P.info? T=Y a/\a.size=1/\a.bytes<=24/\a.zero=Y .nilFunc/\P.underlying T=Y (.func g h i)
 |_,_=>b4
def i9 (P:bY):ah->bm alz->X->ez->Prop
 |.pr a g,c::h,e,b=>c.offset=e/\fx P a c.type/\0<a.size/\(∃d f,P.info? c.type=Y d/\d.zero=Y f/\b.take a.size=f.cells.toList)/\i9 P g h (e+a.size) (b.drop a.size)
 |.nil,[],_,b=>b=[]
 |_,_,_,_=>b4
end
def pT:ah->bz
 |.st _=>bp
 |_=>bq
structure Vk (P:bY) (τ:ah) (T:bE) (i:TypeInfo):Prop where
 info:P.info? T=Y i
 size:i.size=τ.size
 bytes:i.bytes<=24*τ.size
 pos:0<τ.size
def fx.info {P:bY}:∀{τ:ah} {T:bE},fx P τ T->∃a g,Vk P τ T a/\P.underlying T=Y g/\(match g with|.struct _|.array _ _=>bp|_=>bq)=pT τ
 |.int _,_,⟨a,b,c,d,_,e⟩=>⟨a,_,⟨b,c,d,by simp[ah.size]⟩,e,bn⟩
 |.bool,_,⟨a,b,c,d,_,e⟩=>⟨a,_,⟨b,c,d,by simp[ah.size]⟩,e,bn⟩
 |.str,_,⟨a,b,c,d,_,e⟩=>⟨a,_,⟨b,c,d,by simp[ah.size]⟩,e,bn⟩
 |.a8 _ _,_,⟨a,_,b,c,d,_,e,_⟩=>⟨a,_,⟨b,c,d,by simp[ah.size]⟩,e,bn⟩
 |.osl _,_,⟨a,_,b,c,d,_,e,_⟩=>⟨a,_,⟨b,c,d,by simp[ah.size]⟩,e,bn⟩
 |.ptr _ _,_,⟨a,_,b,c,d,_,e,_⟩=>⟨a,_,⟨b,c,d,by simp[ah.size]⟩,e,bn⟩
 |.optr _,_,⟨a,_,b,c,d,_,e,_⟩=>⟨a,_,⟨b,c,d,by simp[ah.size]⟩,e,bn⟩
 |.st i,_,⟨h,a,_,_,b,c,d,_,e,_⟩=>⟨a,_,⟨b,c,d,h⟩,e,bn⟩
 |.pr _ _,_,f=>f.elim
 |.nil,_,f=>f.elim
 |.eI,_,f=>f.elim
 |.mp _,_,⟨a,_,_,b,c,d,_,e,_⟩=>⟨a,_,⟨b,c,d,by simp[ah.size]⟩,e,bn⟩
 |.fj _ _,_,⟨a,_,_,b,c,d,_,e,_⟩=>⟨a,_,⟨b,c,d,by simp[ah.size]⟩,e,bn⟩
 |.fn _ _,_,⟨a,_,_,_,b,c,d,_,e⟩=>⟨a,_,⟨b,c,d,by simp[ah.size]⟩,e,bn⟩
theorem fx.JC {P:bY}:∀{τ:ah} {T:bE},fx P τ T->∃g,g.cells.size=τ.size/\∀d,P.info? T=Y d->d.zero=Y g
 |.int _,_,⟨d,a,_,_,b,_⟩|.bool,_,⟨d,a,_,_,b,_⟩|.str,_,⟨d,a,_,_,b,_⟩=>⟨_,bn,λf c=>by rw[a] at c;cases c;exact b⟩
 |.a8 _ _,_,⟨d,_,a,_,_,b,_⟩|.osl _,_,⟨d,_,a,_,_,b,_⟩|.ptr _ _,_,⟨d,_,a,_,_,b,_⟩|.optr _,_,⟨d,_,a,_,_,b,_⟩=>⟨_,bn,λf c=>by rw[a] at c;cases c;exact b⟩
 |.st n,_,⟨j,d,_,i,a,k,l,b,m,_,h⟩=>⟨.agg i,h,λf c=>by grind⟩
 |.pr _ _,_,e=>e.elim
 |.nil,_,e=>e.elim
 |.eI,_,e=>e.elim
 |.mp _,_,⟨d,_,_,a,_,_,b,_⟩=>⟨_,bn,λf c=>by rw[a] at c;cases c;exact b⟩
 |.fj _ _,_,⟨d,_,_,a,_,_,b,_⟩=>⟨_,bn,λf c=>by rw[a] at c;cases c;exact b⟩
 |.fn _ _,_,⟨d,_,_,_,a,_,_,b,_⟩=>⟨_,bn,λf c=>by rw[a] at c;cases c;exact b⟩
section
variable {P:bY} {τ:ah} {T:bE}
def fx.sizeOf (c:fx P τ T) (b:bC):(al0 T).run P b=.ok τ.size b:=by obtain⟨e,d,a,_⟩:=c.info;simp[al0,alI,a.info,a.size]
def fx.isAgg (c:fx P τ T) (a:bC):(Go.isAgg T).run P a=.ok (pT τ) a:=by obtain⟨g,b,f,e,d⟩:=c.info;simp only[Go.isAgg,bW,b7 e,b1];rw[<-d];cases b<;>rfl
def fx.pos (a:fx P τ T):0<τ.size:=by obtain⟨d,c,b,_⟩:=a.info;exact b.pos
def K4:∀{τ:ah} {T:bE},fx P τ T->pT τ=bq->τ.size=1
 |.int _,_,_,_|.bool,_,_,_|.str,_,_,_|.a8 _ _,_,_,_|.osl _,_,_,_|.ptr _ _,_,_,_|.optr _,_,_,_|.mp _,_,_,_|.fj _ _,_,_,_|.fn _ _,_,_,_=>rfl
 |.st _,_,_,a=>by cases a
 |.pr _ _,_,a,_=>a.elim
 |.nil,_,a,_=>a.elim
 |.eI,_,a,_=>a.elim
def Gu (a:pT τ=bq):c3 τ h=h.headD undef:=by cases τ<;>first|rfl|cases a
def Gv (a:pT τ=bp):c3 τ h=.agg h.toArray:=by cases τ<;>first|rfl|cases a
theorem pc (d:fx P τ T) (c:h.length=τ.size) (e:∀a∈h,a.oneCell'=bp):(c3 τ h).cells=h.toArray:=by
 cases b:pT τ with
 |true=>rw[Gv b];rfl
 |false=>
  rw[Gu b];rw[K4 d b] at c;obtain⟨a,rfl⟩:=qr.1 c;have:=e a ac;cases a<;>first|rfl|grind [alx]
theorem LC {w:bC} {b o:X} {cs:ez} (a:fx P τ T) (e:fE w b o cs) (c:cs.length=τ.size):(loadVar T ⟨b,o,bo⟩).run P w=.ok (c3 τ cs) w:=by
 simp only[loadVar,bW,a.isAgg,b1];cases g:pT τ with
 |true=>
  simp only[ck,bW,a.sizeOf,b1];rw[<-c,run_loadCells_list w ⟨b,o,bo⟩ cs (λh d f=>by rw[ame];exact e h d f)];simp_all [Gv]
 |false=>
  rw[K4 a g] at c;obtain⟨d,rfl⟩:=qr.1 c;have:=e 0 d bn;simp_all [Gu,ml]
end
def mN:(τ:ah)->bu τ.den
 |.int _=>Y (0:Z)
 |.bool=>Y bq
 |.str=>Y an2
 |.a8 _ _=>Y []
 |.osl _=>Y []
 |.ptr _ _=>Y bo
 |.optr _=>bo
 |.st c=>mN c
 |.pr a b=>match mN a,mN b with|some d,some e=>Y (d,e)|_,_=>bo
 |.nil=>Y ()
 |.eI=>bo
 |.mp _=>Y bo
 |.fj _ _=>Y bo
 |.fn _ _=>bo
mutual
theorem wW {P:bY}:∀{τ:ah} {T:bE} {g:τ.den},fx P τ T->mN τ=Y g->∃b l,P.info? T=Y b/\b.zero=Y l/\l=c3 τ l.cells.toList/\∀(e:eH->X->Prop) (f:bC),aW e f τ l.cells.toList g []
 |.int p,_,g,⟨b,c,h,i,d,j⟩,a=>⟨b,_,c,d,bn,λe f=>by cases a;exact⟨bn,bn⟩⟩
 |.bool,_,g,⟨b,c,h,i,d,j⟩,a=>⟨b,_,c,d,bn,λe f=>by cases a;exact⟨bn,bn⟩⟩
 |.str,_,g,⟨b,c,h,i,d,j⟩,a=>⟨b,_,c,d,bn,λe f=>by cases a;exact⟨bn,bn⟩⟩
 |.a8 _ _,_,g,⟨b,_,c,h,i,d,j,_⟩,a=>⟨b,_,c,d,bn,λe f=>by cases a;exact⟨bn,bo,0,bn,bc _,λ_=>rfl,.inl bn⟩⟩
 |.osl _,_,g,⟨b,_,c,h,i,d,j,_⟩,a=>⟨b,_,c,d,bn,λe f=>by cases a;exact⟨bo,0,bn,.inl ⟨bn,bn,bn,bn⟩⟩⟩
 |.ptr _ _,_,g,⟨b,_,c,h,i,d,j,_⟩,a=>⟨b,_,c,d,bn,λe f=>by cases a;exact⟨bn,bn⟩⟩
 |.optr _,_,_,_,a=>by cases a
 |.st n,_,g,⟨_,b,o,q,c,h,i,d,j,m,_⟩,a=>⟨b,_,c,d,bn,λe f=>UA (τ:=n) m a e f⟩
 |.pr _ _,_,_,k,_=>k.elim
 |.nil,_,_,k,_=>k.elim
 |.eI,_,_,k,_=>k.elim
 |.mp _,_,g,⟨b,_,_,c,h,i,d,j,_⟩,a=>⟨b,_,c,d,bn,λe f=>by cases a;exact⟨bn,bn⟩⟩
 |.fj _ _,_,g,⟨b,_,_,c,h,i,d,j,_⟩,a=>⟨b,_,c,d,bn,λe f=>by cases a;exact⟨bn,bn⟩⟩
 |.fn _ _,_,_,_,a=>by cases a
theorem UA {P:bY}:∀{τ:ah} {l:bm alz} {g:X} {f:ez} {e:τ.den},i9 P τ l g f->mN τ=Y e->∀(b:eH->X->Prop) (d:bC),aW b d τ f e []
 |.pr j k,r::x,g,f,e,a,c,b,d=>by
  obtain⟨s,m,t,⟨u,B,ax,q,w⟩,n⟩:=a;simp only[mN] at c;split at c
  ·rename_i z A o p;cases c;obtain⟨v,C,h,i,_,y⟩:=wW (τ:=j) m o;rw[ax] at h;obtain rfl:=gC h;rw[q] at i;obtain rfl:=gC i;exact⟨[],[],bn,by grind,UA (τ:=k) n p b d⟩
  grind
 |.nil,[],_,f,e,a,c,b,d=>⟨bn,a⟩
 |.pr _ _,[],_,_,_,a,_,_,_=>a.elim
 |.nil,_::_,_,_,_,a,_,_,_=>a.elim
 |.int _,_,_,_,_,a,_,_,_=>by cases a
 |.bool,_,_,_,_,a,_,_,_=>by cases a
 |.str,_,_,_,_,a,_,_,_=>by cases a
 |.a8 _ _,_,_,_,_,a,_,_,_=>by cases a
 |.osl _,_,_,_,_,a,_,_,_=>by cases a
 |.ptr _ _,_,_,_,_,a,_,_,_=>by cases a
 |.optr _,_,_,_,_,a,_,_,_=>by cases a
 |.st _,_,_,_,_,a,_,_,_=>by cases a
 |.eI,_,_,_,_,a,_,_,_=>by cases a
 |.mp _,_,_,_,_,a,_,_,_=>by cases a
 |.fj _ _,_,_,_,_,a,_,_,_=>by cases a
 |.fn _ _,_,_,_,_,a,_,_,_=>by cases a
end
def bd:ah->ah->bz
 |.int g,.int h=>if g=h then bp else bq
 |.bool,.bool|.str,.str|.nil,.nil=>bp
 |.a8 _ a,.a8 _ b|.a8 _ a,.osl b|.osl a,.a8 _ b|.osl a,.osl b=>bd a b
 |.ptr _ a,.ptr _ b|.ptr _ a,.optr b|.optr a,.ptr _ b|.optr a,.optr b=>bd a b
 |.st a,.st b=>bd a b
 |.mp a,.mp b|.mp a,.fj _ b|.fj _ a,.mp b|.fj _ a,.fj _ b=>bd a b
 |.fn _ _,.fn _ _=>bp
 |.pr c d,.pr e f=>bd c e&&bd d f
 |_,_=>bq
theorem bd.size:∀{τ b:ah},bd τ b=bp->τ.size=b.size:=by
 intro τ
 induction τ with
 |st h c=>intro b a;cases b<;>simp only[bd] at a<;>first|(simp only[ah.size];exact c a)|cases a
 |pr d e f g=>
  intro b a;cases b<;>simp only[bd] at a<;>try (cases a;done)
  simp only[cF] at a;grind [ah.size]
 |_=>intro b a;cases b<;>simp[bd] at a<;>simp[ah.size]
mutual
theorem fx.lay {P:bY}:∀{τ c:ah} {T:bE},bd τ c=bp->fx P τ T->fx P c T
 |.int q,c,_,a,b=>by cases c<;>simp[bd] at a;grind
 |.bool,c,_,a,b=>by grind [bd]
 |.str,c,_,a,b=>by grind [bd]
 |.a8 _ k,c,_,a,b=>by obtain⟨h,E,d,i,j,e,f,g⟩:=b;cases c<;>simp only[bd] at a<;>first|exact⟨h,E,d,i,j,e,f,fx.lay a g⟩|cases a
 |.osl k,c,_,a,b=>by obtain⟨h,E,d,i,j,e,f,g⟩:=b;cases c<;>simp only[bd] at a<;>first|exact⟨h,E,d,i,j,e,f,fx.lay a g⟩|cases a
 |.ptr _ k,c,_,a,b=>by obtain⟨h,E,d,i,j,e,f,g⟩:=b;cases c<;>simp only[bd] at a<;>first|exact⟨h,E,d,i,j,e,f,fx.lay a g⟩|cases a
 |.optr k,c,_,a,b=>by obtain⟨h,E,d,i,j,e,f,g⟩:=b;cases c<;>simp only[bd] at a<;>first|exact⟨h,E,d,i,j,e,f,fx.lay a g⟩|cases a
 |.st k,c,_,a,b=>by
  obtain⟨p,h,n,o,d,i,j,e,f,g,l⟩:=b;cases c<;>simp only[bd] at a<;>try (cases a;done)
  have:=bd.size a;exact⟨aa,h,n,o,d,aa,aa,e,f,i9.lay a g,aa⟩
 |.pr _ _,_,_,_,b=>b.elim
 |.nil,_,_,_,b=>b.elim
 |.eI,_,_,_,b=>b.elim
 |.mp k,c,_,a,b=>by obtain⟨h,m,E,d,i,j,e,f,g,l⟩:=b;cases c<;>simp only[bd] at a<;>first|exact⟨h,m,E,d,i,j,e,f,g,fx.lay a l⟩|cases a
 |.fj _ k,c,_,a,b=>by obtain⟨h,m,E,d,i,j,e,f,g,l⟩:=b;cases c<;>simp only[bd] at a<;>first|exact⟨h,m,E,d,i,j,e,f,g,fx.lay a l⟩|cases a
 |.fn _ _,c,_,a,b=>by cases c<;>simp only[bd] at a<;>first|exact b|cases a
theorem i9.lay {P:bY}:∀{τ c:ah} {f:bm alz} {d:X} {e:ez},bd τ c=bp->i9 P τ f d e->i9 P c f d e
 |.pr k l,c,m::o,d,e,b,a=>by
  obtain⟨g,h,n,i,j⟩:=a;cases c<;>simp only[bd] at b<;>try (cases b;done)
  simp only[cF] at b;have:=bd.size b.1;exact⟨g,fx.lay b.1 h,aa,by rw[<-this];exact i,by rw[<-this];exact i9.lay b.2 j⟩
 |.nil,c,[],_,_,b,a=>by grind [bd]
 |.pr _ _,_,[],_,_,_,a=>a.elim
 |.nil,_,_::_,_,_,_,a=>a.elim
 |.int _,_,_,_,_,_,a=>by cases a
 |.bool,_,_,_,_,_,a=>by cases a
 |.str,_,_,_,_,_,a=>by cases a
 |.a8 _ _,_,_,_,_,_,a=>by cases a
 |.osl _,_,_,_,_,_,a=>by cases a
 |.ptr _ _,_,_,_,_,_,a=>by cases a
 |.optr _,_,_,_,_,_,a=>by cases a
 |.st _,_,_,_,_,_,a=>by cases a
 |.eI,_,_,_,_,_,a=>by cases a
 |.mp _,_,_,_,_,_,a=>by cases a
end
structure u1 where
 b:X
 T:bE
 k:cr
 xs:ala
def MM (P:bY) (a:u1):Prop:=∃b,P.underlying a.T=Y (.array a.xs.length b)/\fx P (.int a.k) b
def Mu (P:bY) (T:bE):Prop:=P.stoodInHeld T=bq/\P.eqGuardType P.depth T=bq/\∃a,P.underlying T=Y (.struct a)/\(a.toList.all λb=>b.name !="_")=bp
structure fM where
 P:bY
 tt:bm (bE×ah)
 ok:∀T τ,aq tt T=Y τ->fx P τ T
 mix:P.follows .mixedOrders=bp
 glob:bm u1:=[]
 gok:∀g∈glob,MM P g:=by intro g h;cases h
 eqs:ey:=[]
 eqok:∀T∈eqs,Mu P T:=by intro T h;cases h
end
section
def hN:X:=4294967296
def aw {b:Type} (c:bm b) (a:Z):bu b:=if 0<=a then c[a.toNat]? else bo
theorem Ps {b:bm y} {a:Z} {c:y} (d:aw b a=Y c):a=(a.toNat:Z)/\a.toNat<b.length/\b[a.toNat]?=Y c:=by grind [al1,aw]
inductive iA where
 |e6 (av:ak) (new:bm (X×aE))
 |part (α:Type) (φ:α->Prop) (f:α->ak×bm (X×aE))
 |bad
def iA.K (e:iA) (Q:ak->bm (X×aE)->Prop):Prop:=
 match e with
 |.e6 c d=>Q c d
 |.part f g b=>∃a:f,g a/\Q (b a).1 (b a).2
 |.bad=>b4
def ah.pure:ah->bz
 |.osl _|.optr _|.eI|.mp _=>bq
 |.st c=>c.pure
 |.pr a b=>a.pure&&b.pure
 |_=>bp
def fC:ah->bm a6->bu ah
 |τ,[]=>Y τ
 |.osl c,.idx _::b=>fC c b
 |.optr c,.deref::b=>fC c b
 |.mp c,.deref::b=>fC c b
 |.st c,.unst::b=>fC c b
 |.pr a _,.fst::b=>fC a b
 |.pr _ d,.snd::b=>fC d b
 |_,_=>bo
def fR:ah->X->bu (bm a6×ah)
 |.pr a _,0=>Y ([.fst],a)
 |.pr _ c,d+1=>match fR c d with|some b=>Y (.snd::b.1,b.2)|none=>bo
 |_,_=>bo
def fK:ah->X->X
 |.pr _ _,0=>0
 |.pr a b,c+1=>a.size+fK b c
 |_,_=>0
def sb:(e:ah)->e.den->X->bu aE
 |.pr a _,b,0=>Y ⟨a,b.1⟩
 |.pr _ c,b,d+1=>sb c b.2 d
 |_,_,_=>bo
theorem Jl {h:bY}:∀{τ:ah} {j:bm alz} {f:X} {g:ez} {e:X} {s:bm a6} {τf:ah},i9 h τ j f g->fR τ e=Y (s,τf)->∃c,j[e]?=Y c/\c.offset=f+fK τ e/\fx h τf c.type
 |.pr a i,c::m,f,g,0,s,τf,d,b=>by simp only[fR,eZ,iK] at b;obtain⟨rfl,rfl⟩:=b;exact⟨c,bn,by rw[d.1];rfl,d.2.1⟩
 |.pr a i,c::m,f,g,e+1,s,τf,d,b=>by
  simp only[fR] at b;split at b
  ·rename_i k l;simp only[eZ,iK] at b;obtain⟨rfl,rfl⟩:=b;obtain⟨n,o,p,q⟩:=Jl (τ:=i) d.2.2.2.2 (s:=k.1) (τf:=k.2) l;grind [fK]
  grind
 |.pr _ _,[],_,_,_,_,_,d,_=>d.elim
 |.int _,_,_,_,_,_,_,_,b=>by cases b
 |.bool,_,_,_,_,_,_,_,b=>by cases b
 |.str,_,_,_,_,_,_,_,b=>by cases b
 |.a8 _ _,_,_,_,_,_,_,_,b=>by cases b
 |.osl _,_,_,_,_,_,_,_,b=>by cases b
 |.ptr _ _,_,_,_,_,_,_,_,b=>by cases b
 |.optr _,_,_,_,_,_,_,_,b=>by cases b
 |.st _,_,_,_,_,_,_,_,b=>by cases b
 |.nil,_,_,_,_,_,_,_,b=>by cases b
 |.eI,_,_,_,_,_,_,_,b=>by cases b
theorem Jo:∀{τ:ah} {e:τ.den} {d:X} {c:aE},sb τ e d=Y c->∃g,fR τ d=Y (g,c.1)
 |.pr a f,e,0,c,b=>by simp only[sb,eZ] at b;subst b;exact⟨_,bn⟩
 |.pr a f,e,d+1,c,b=>by obtain⟨g,h⟩:=Jo (τ:=f) b;grind [fR]
 |.int _,_,_,_,b=>by cases b
 |.bool,_,_,_,b=>by cases b
 |.str,_,_,_,b=>by cases b
 |.a8 _ _,_,_,_,b=>by cases b
 |.osl _,_,_,_,b=>by cases b
 |.ptr _ _,_,_,_,b=>by cases b
 |.optr _,_,_,_,b=>by cases b
 |.st _,_,_,_,b=>by cases b
 |.nil,_,_,_,b=>by cases b
 |.eI,_,_,_,b=>by cases b
theorem yj:∀{τ:ah} {c:X} {s:bm a6} {tf:ah},fR τ c=Y (s,tf)->fK τ c+tf.size<=τ.size
 |.pr a d,0,s,tf,b=>by simp only[fR,eZ,iK] at b;obtain⟨_,rfl⟩:=b;simp[fK,ah.size]
 |.pr a d,c+1,s,tf,b=>by
  simp only[fR] at b;split at b
  ·rename_i e f;simp only[eZ,iK] at b;obtain⟨_,rfl⟩:=b;have:=yj (τ:=d) (s:=e.1) (tf:=e.2) f;grind [fK,ah.size]
  grind
 |.int _,_,_,_,b=>by cases b
 |.bool,_,_,_,b=>by cases b
 |.str,_,_,_,b=>by cases b
 |.a8 _ _,_,_,_,b=>by cases b
 |.osl _,_,_,_,b=>by cases b
 |.ptr _ _,_,_,_,b=>by cases b
 |.optr _,_,_,_,b=>by cases b
 |.st _,_,_,_,b=>by cases b
 |.nil,_,_,_,b=>by cases b
 |.eI,_,_,_,b=>by cases b
theorem Jn {i:eH->X->Prop} {w:bC}:∀{τ:ah} {f:τ.den} {e:X} {c:aE} {d:ez},aW i w τ d f []->sb τ f e=Y c->aW i w c.1 ((d.drop (fK τ e)).take c.1.size) c.2 []/\fK τ e+c.1.size<=τ.size
 |.pr a j,f,0,c,d,h,b=>by simp only[sb,eZ] at b;subst b;obtain⟨g,f2,m,l,k⟩:=h;obtain⟨rfl,rfl⟩:g=[]/\f2=[]:=(by simp_all);grind [fK,ah.size]
 |.pr a j,f,e+1,c,d,h,b=>by obtain⟨g,f2,m,l,k⟩:=h;obtain⟨rfl,rfl⟩:g=[]/\f2=[]:=(by simp_all);obtain⟨n,o⟩:=Jn (τ:=j) k b;grind [ann,fK,ah.size]
 |.int _,_,_,_,_,_,b=>by cases b
 |.bool,_,_,_,_,_,b=>by cases b
 |.str,_,_,_,_,_,b=>by cases b
 |.a8 _ _,_,_,_,_,_,b=>by cases b
 |.osl _,_,_,_,_,_,b=>by cases b
 |.ptr _ _,_,_,_,_,_,b=>by cases b
 |.optr _,_,_,_,_,_,b=>by cases b
 |.st _,_,_,_,_,_,b=>by cases b
 |.nil,_,_,_,_,_,b=>by cases b
 |.eI,_,_,_,_,_,b=>by cases b
theorem aZ.gE {w:bC} {a b:Loc}:aZ w d a h [] q b N↔d=q/\a=b/\h=N:=by cases d<;>exact anm
theorem aZ.append {w:bC}:∀{p c:bm a6} {τ u v:ah} {n q r:Loc} {m k l:ez},aZ w τ n m p u q k->aZ w u q k c v r l->aZ w τ n m (p++c) v r l
 |[],c,τ,_,_,_,_,_,_,_,_,a,b=>by grind [aZ.gE]
 |s::p,c,τ,_,_,_,_,_,_,_,_,a,b=>by
  cases τ<;>cases s<;>simp only[aZ] at a
  case osl.idx t i=>
   obtain⟨d,o,z,x,e,f,g,h,j,y⟩:=a;exact⟨d,o,z,x,e,f,g,h,j,y.append b⟩
  case optr.deref t=>
   obtain⟨d,o,e,f,g,h,j⟩:=a;exact⟨d,o,e,f,g,h,j.append b⟩
  case st.unst t=>exact aZ.append (p:=p) (τ:=t) a b
  case pr.fst t1 t2=>exact aZ.append (p:=p) (τ:=t1) a b
  case pr.snd t1 t2=>exact aZ.append (p:=p) (τ:=t2) a b
theorem aZ.here {w:bC} {a:Loc}:aZ w d a h [] d a h:=by cases d<;>exact⟨bn,bn,bn⟩
def aZ.ty {w:bC}:∀{p:bm a6} {τ c:ah} {m n:Loc} {e f:ez},aZ w τ m e p c n f->fC τ p=Y c
 |[],τ,_,_,_,_,_,a=>by obtain⟨rfl,_⟩:=aZ.gE.1 a;cases τ<;>rfl
 |s::p,τ,_,_,_,_,_,a=>by
  cases τ<;>cases s<;>simp only[aZ] at a
  case osl.idx t i=>obtain⟨d,o,r,q,g,h,j,k,b,l⟩:=a;exact l.ty
  case optr.deref t=>obtain⟨d,o,g,h,j,k,b⟩:=a;exact b.ty
  case st.unst t=>exact aZ.ty (p:=p) (τ:=t) a
  case pr.fst t1 t2=>exact aZ.ty (p:=p) (τ:=t1) a
  case pr.snd t1 t2=>exact aZ.ty (p:=p) (τ:=t2) a
theorem aZ.at {w:bC}:∀{q:bm a6} {τ r:ah} {g p:Loc} {e h:ez},aZ w τ g e q r p h->e.length=τ.size->(∀b o,g=Y (b,o)->fE w b o e)->h.length=r.size/\∀b o,p=Y (b,o)->fE w b o h
 |[],τ,_,_,_,_,_,c,n,f=>by grind [aZ.gE]
 |s::q,τ,_,g,_,e,_,c,n,f=>by
  cases τ<;>cases s<;>simp only[aZ] at c
  case osl.idx t i=>
   obtain⟨b,o,A,z,u,v,k,l,m,x⟩:=c;exact x.at l (λj y d=>by grind)
  case optr.deref t=>
   obtain⟨b,o,u,v,k,l,m⟩:=c;exact m.at k (λj y d=>by grind)
  case st.unst t=>exact aZ.at (τ:=t) c n f
  case pr.fst a b=>
   exact aZ.at (τ:=a) c (by grind [ah.size]) (λb o d=>(f b o d).take)
  case pr.snd a b=>
   refine aZ.at (τ:=b) c (by grind [ah.size]) (λj o d=>?_);cases g with
   |none=>grind
   |some B=>
    simp only[jr,eZ,iK] at d;obtain⟨rfl,rfl⟩:=d;exact(f _ _ rfl).drop
theorem aZ.Fh {w:bC}:∀{τ:ah} {e:X} {s:bm a6} {τf:ah} {l:Loc} {cs:ez},fR τ e=Y (s,τf)->aZ w τ l cs s τf (l.map λc=>(c.1,c.2+fK τ e)) ((cs.drop (fK τ e)).take τf.size)
 |.pr a f,0,s,τf,l,cs,d=>by simp only[fR,eZ,iK] at d;obtain⟨rfl,rfl⟩:=d;simp_all [np,aZ,fK]
 |.pr a f,e+1,s,τf,l,cs,d=>by
  simp only[fR] at d;split at d
  ·rename_i c g;simp only[eZ,iK] at d;obtain⟨rfl,rfl⟩:=d;have:=aZ.Fh (w:=w) (τ:=f) (s:=c.1) (τf:=c.2) (l:=l.map λc=>(c.1,c.2+a.size)) (cs:=cs.drop a.size) g;simp only[aZ,fK];rw[rA] at this;cases l with
   |none=>grind
   |some h=>grind
  grind
 |.int _,_,_,_,_,_,b=>by cases b
 |.bool,_,_,_,_,_,b=>by cases b
 |.str,_,_,_,_,_,b=>by cases b
 |.a8 _ _,_,_,_,_,_,b=>by cases b
 |.osl _,_,_,_,_,_,b=>by cases b
 |.ptr _ _,_,_,_,_,_,b=>by cases b
 |.optr _,_,_,_,_,_,b=>by cases b
 |.st _,_,_,_,_,_,b=>by cases b
 |.nil,_,_,_,_,_,b=>by cases b
 |.eI,_,_,_,_,_,b=>by cases b
theorem eU.uniq:∀{p:bm a6} {τ:ah} {e:τ.den} {c:ah} {f g:c.den},eU τ e p c f->eU τ e p c g->f=g
 |[],τ,_,_,_,_,a,b=>by grind [eU.gE]
 |s::p,τ,_,_,_,_,a,b=>by
  cases τ<;>cases s<;>simp only[eU] at a b
  case osl.idx=>
   obtain⟨i,h,a⟩:=a;obtain⟨j,d,b⟩:=b;rw[h] at d;obtain rfl:=gC d;exact a.uniq b
  case optr.deref=>exact eU.uniq (p:=p) a b
  case st.unst=>exact eU.uniq (p:=p) a b
  case pr.fst=>exact eU.uniq (p:=p) a b
  case pr.snd=>exact eU.uniq (p:=p) a b
def Yields (E:fM) (C:e7) (st:aR) (a:Act) (w:bC) (I:X->Prop) (rt:X->ez) (fp:X->ak9) (o:bQ) (Q:ak->bm (X×aE)->Prop):Prop:=
 ∃j d e i g f c,(bM a.eval o).run E.P w=.ok (.value j) d/\hC w d/\(∀b,I b->e b)/\(∀b,e b->I b\/(w.heap.size<=b/\b<d.heap.size))/\xe C st w d e c i g/\cT (bf e C.B) d (c++st.h) (fv c i rt) (fv c g fp) f j/\Q f c
section
variable {E:fM} {C:e7} {st:aR} {a:Act} {w:bC} {I:X->Prop} {rt:X->ez} {fp:X->ak9} {o:bQ} {Q:ak->bm (X×aE)->Prop}
def Yields.pure {v:Value} (d:(bM a.eval o).run E.P w=.ok (.value v) w) (e:cT (bf I C.B) w st.h rt fp V v) (c:Q V []):Yields E C st a w I rt fp o Q:=
 ⟨v,w,I,rt,fp,V,[],d,.refl w,λ_ b=>b,λ_ b=>.inl b,.nil,e,c⟩
def Yields.wp (t:cP C st a.tmps w I rt fp) (k:Yields E C st a w I rt fp o Q) {next:Act->bC->Prop} {j:b5->Act->bC->Prop} {f:X} (u:o.dst=Y f) (v:C.ok f) (x:∀b c e d,Q b c->e.defers=a.defers->gR C ⟨(f,b)::st.g,c++st.h⟩ e.tmps d->next e d):o.wp E.P a w next j:=by
 obtain⟨y,d,i,A,z,b,c,l,m,n,p,q,r,s⟩:=k;unfold alk;rw[l];show next (a.put o.dst y) d
 rw[u];exact x b c _ _ s bn ⟨i,_,_,(t.ext m n p q).put v r⟩
def mv (h:BinOp) (a:cr) (d:Z) (g:cr) (b:Z):iA:=
 let c (i:Prop) (f:Z):iA:=if a=g then .part Z (λc=>i/\f=c) (λc=>(.val (.int a) c,[])) else .bad
 let e (f:bz):iA:=if a=g then .e6 (.val .bool f) [] else .bad
 match h with
 |.add=>c True (a.wrap (d+b))
 |.sub=>c True (a.wrap (d-b))
 |.mul=>c True (a.wrap (d*b))
 |.quo=>c (b≠0) (a.wrap (d.tdiv b))
 |.rem=>c (b≠0) (d.tmod b)
 |.and=>c True (a.wrap (cg a.bits d&&&cg a.bits b).toNat)
 |.or=>c True (a.wrap (cg a.bits d|||cg a.bits b).toNat)
 |.xor=>c True (a.wrap (cg a.bits d^^^cg a.bits b).toNat)
 |.andNot=>c True (a.wrap (cg a.bits d&&&~~~cg a.bits b).toNat)
 |.shl=>.part Z (λc=>0<=b/\a.wrap (d*2^min b.toNat a.bits)=c) (λc=>(.val (.int a) c,[]))
 |.shr=>.part Z (λc=>0<=b/\d.fdiv (2^min b.toNat a.bits)=c) (λc=>(.val (.int a) c,[]))
 |.eql=>e (d==b)
 |.neq=>e (d !=b)
 |.lss=>e (br (d<b))
 |.leq=>e (br (d<=b))
 |.gtr=>e (br (d>b))
 |.geq=>e (br (d>=b))
def H4 (c:BinOp) (a b:ak):iA:=
 match a,b with
 |.val (.int d) a,.val (.int e) b=>mv c d a e b
 |.val .bool a,.val .bool b=>match c with
  |.eql=>.e6 (.val .bool (a==b)) []
  |.neq=>.e6 (.val .bool (!(a==b))) []
  |_=>.bad
 |_,_=>.bad
theorem V9 {e:BinOp} {d h:cr} {n f:Z} (k:o.op=.binOp e x c g T) (l:a.eval c=.int d n) (m:a.eval g=.int h f) (b:(mv e d n h f).K Q):Yields E C st a w I rt fp o Q:=by
 have j:∀w,(amf e x c g (.int d n) (.int h f)).run E.P w=.ok () w:=λw=>(by simp_all [amf]);have r:e=.shl->Yields E C st a w I rt fp o Q:=(by rintro rfl;simp only[mv] at b;obtain⟨i,⟨p,rfl⟩,b⟩:=b;exact .pure (v:=.int d _) (by simp[bM,k,l,m,j,alm,Op.shift,(aa:¬f<0)]) (.int d _) b);have s:e=.shr->Yields E C st a w I rt fp o Q:=(by rintro rfl;simp only[mv] at b;obtain⟨i,⟨p,rfl⟩,b⟩:=b;exact .pure (v:=.int d _) (by simp[bM,k,l,m,j,alm,Op.shift,(aa:¬f<0)]) (.int d _) b);by_cases q:d=h
 case neg=>
  cases e<;>simp only[mv,q,alV] at b
  case shl=>grind
  case shr=>grind
  all_goals exact b.elim
 subst q;cases e<;>simp only[mv,ck] at b
 case shl=>grind
 case shr=>grind
 case quo|rem=>
  obtain⟨i,⟨p,rfl⟩,b⟩:=b;exact .pure (v:=.int d _) (by simp_all [bM,alm,Op.intDiv]) (.int d _) b
 case add|sub|mul=>
  obtain⟨i,⟨_,rfl⟩,b⟩:=b;exact .pure (v:=.int d _) (by simp_all [bM,alm,Op.intArith]) (.int d _) b
 case and|or|xor|andNot=>
  obtain⟨i,⟨_,rfl⟩,b⟩:=b;exact .pure (v:=.int d _) (by simp_all [bW,bM,alm,Op.intBits]) (.int d _) b
 all_goals exact .pure (v:=.bool _) (by simp[bM,k,l,m,j,alm,Op.intCmp]) (.bool _) b
def run_equalIn_bool {a:bY} (w:bC) (d:X) (b c:bz) (e:a.underlying x=Y .bool):(amo (d+1) x (.bool b) (.bool c)).run a w=.ok (b==c) w:=by simp[amo,b7 e]
theorem run_eql_bool {a:bY} (w:bC) (b c:bz) (d:a.underlying x=Y .bool):(alm .eql x (.bool b) (.bool c)).run a w=.ok (.bool (b==c)) w:=by simp_all [run_equalIn_bool,ano,anp,alm]
theorem run_neq_bool {a:bY} (w:bC) (b c:bz) (d:a.underlying x=Y .bool):(alm .neq x (.bool b) (.bool c)).run a w=.ok (.bool (!(b==c))) w:=by simp_all [run_equalIn_bool,ano,anp,alm]
theorem Nv (s:cP C st a.tmps w I rt fp) {m:BinOp} {d:bL} (z:o.op=.binOp m x c d T) (y:∀i j:bz,(m=.eql\/m=.neq)->(aX st.g c=.val .bool i/\aX st.g d=.val .bool j)->E.P.underlying x=Y .bool) (e:(H4 m (aX st.g c) (aX st.g d)).K Q):Yields E C st a w I rt fp o Q:=by
 have f:=s.aX c;have h:=s.aX d;unfold H4 at e;split at e
 ·rename_i G J H L n p;rw[n] at f;rw[p] at h;obtain⟨b,l⟩:∃b,b=a.eval c:=⟨_,bn⟩;obtain⟨A,k⟩:∃b,b=a.eval d:=⟨_,bn⟩;rw[<-l] at f;rw[<-k] at h;cases f with|val q=>cases h with|val r=>
  obtain⟨_,rfl⟩:=q;obtain⟨_,rfl⟩:=r;exact V9 z l.symm k.symm e
 ·rename_i i j n p;have k:=y i j;have u:aX st.g c=.val .bool i/\aX st.g d=.val .bool j:=⟨n,p⟩;rw[n] at f;rw[p] at h;obtain⟨b,l⟩:∃b,b=a.eval c:=⟨_,bn⟩;obtain⟨A,t⟩:∃b,b=a.eval d:=⟨_,bn⟩;rw[<-l] at f;rw[<-t] at h;cases f with|val q=>cases h with|val r=>
  obtain⟨_,rfl⟩:=q;obtain⟨_,rfl⟩:=r;have F:a.eval c=.bool i:=l.symm;have D:a.eval d=.bool j:=t.symm;have B:∀w,(amf m x c d (.bool i) (.bool j)).run E.P w=.ok () w:=λw=>(by simp_all [amf]);split at e
  ·have:=k (.inl bn) u;exact .pure (v:=.bool _) (by simp_all [bW,b1,run_eql_bool,bM]) (.bool _) e
  ·have:=k (.inr bn) u;exact .pure (v:=.bool _) (by simp_all [bW,b1,run_neq_bool,bM]) (.bool _) e
  exact e.elim
 exact e.elim
end
end
section
section
variable {E:fM} {C:e7} {st:aR} {a:Act} {w:bC} {I:X->Prop} {rt:X->ez} {fp:X->ak9} {o:bQ} {Q:ak->bm (X×aE)->Prop}
theorem cP.notM (c:cP C st O w I rt fp) {id:X} (e:aq st.h id=Y P):∀a∈fp id,∀b,¬bf I C.B b a:=λa d b f=>by have:=(c.tree id P e).2.2 a d;grind [nH]
theorem cP.lz (e:cP C st O w I rt fp) {id:X} (f:aq st.h id=Y P) {p:bm a6} {τ:ah} {g:τ.den} (k:eU P.1 P.2 p τ g) {c:Loc} (l:aZ w P.1 bo (rt id) p d c N):∃_e:d=τ,∃a,aW (bf I C.B) w τ N g a/\qv w c N τ.size/\∀i∈a,i∈fp id:=by obtain⟨n,m,_⟩:=e.tree id P f;obtain⟨t,o,a,u,j,q,r,s,_⟩:=Fi p (loc:=bo) n (λ_ _ b=>by cases b) m (λ_ _ b=>by cases b) (e.notM f) k;obtain⟨rfl,rfl,rfl⟩:=l.kF j;grind
def cP.S0 (e:cP C st O w I rt fp) {id:X} (g:aq st.h id=Y P) {b:Loc} (f:aZ w P.1 bo (rt id) n d b N):N.length=d.size/\∀a o,b=Y (a,o)->fE w a o N:=f.at (e.tree id P g).1.len (λ_ _ c=>by cases c)
theorem pX {u:eH->X->Prop}:∀{p:bm a6} {τ:ah} {E:Loc} {j:ez} {m:τ.den} {g:ak9} {c:ah} {F:Loc} {n:ez},aW u w τ j m g->aZ w τ E j p (.optr c) F n->∃d o e,n=[.pointer (Y ⟨d,o,bo⟩)]/\e.length=c.size/\fE w d o e
 |[],τ,_,_,_,_,_,_,_,a,b=>by obtain⟨rfl,rfl,rfl⟩:=aZ.gE.1 b;obtain⟨d,o,g,e,q,_,t,h,_⟩:=a;grind
 |s::p,τ,_,j,m,g,_,_,_,a,b=>by
  cases τ<;>cases s<;>simp only[aZ] at b
  case osl.idx c i=>
   obtain⟨d,o,N,J,e,rfl,r,t,h,l⟩:=b;obtain⟨I,K,f,a⟩:=a;simp only[ia,alf,cc] at f;obtain⟨rfl,rfl,rfl⟩:=f;rcases a with⟨k,_⟩|⟨v,G,B,k,_,ax,O,P,H⟩
   ·cases k
   cases k;obtain⟨z,L,x,y⟩:=H i m[i] (B[i]'(by omega)) ac ac
   obtain rfl:=h.eq x aa;exact pX (p:=p) y l
  case optr.deref c=>
   obtain⟨d,o,e,rfl,t,h,l⟩:=b;obtain⟨v,G,g,z,f,_,M,C,_,D⟩:=a;simp only[ia,aml,eZ,aly,cc] at f;obtain⟨rfl,rfl⟩:=f;obtain rfl:=h.eq C aa;exact pX (p:=p) D l
  case st.unst c=>exact pX (p:=p) (τ:=c) a b
  case pr.fst t1 t2=>obtain⟨A,f2,_,q,_⟩:=a;exact pX (p:=p) (τ:=t1) q b
  case pr.snd t1 t2=>obtain⟨A,f2,_,_,r⟩:=a;exact pX (p:=p) (τ:=t2) r b
def g4 (tt:bm (bE×ah)) (a:bE):bu ah:=match aq tt a with|some (.a8 _ b)=>Y b|_=>bo
def l1 (tt:bm (bE×ah)) (a:bE):bu ah:=match aq tt a with|some (.st b)=>Y b|_=>bo
theorem g4.ok {a:bE} {e:ah} (c:g4 E.tt a=Y e):∃d b,E.P.info? a=Y d/\E.P.underlying a=Y (.slice b)/\fx E.P e b:=by
 unfold g4 at c;split at c
 ·rename_i j k f;cases c;obtain⟨d,b,g,_,_,_,h,i⟩:=E.ok a _ f;grind
 grind
theorem l1.ok {a:bE} {d:ah} (c:l1 E.tt a=Y d):∃b e,E.P.underlying a=Y (.struct b)/\i9 E.P d b.toList 0 e:=by
 unfold l1 at c;split at c
 ·rename_i k f;cases c;obtain⟨_,j,b,e,g,_,_,_,h,i,_⟩:=E.ok a _ f;grind
 grind
def v2 (tt:bm (bE×ah)) (e:bm (X×aE)) (g:bE) (b:ak):iA:=
 match g4 tt g with
 |none=>.bad
 |some _=>match b with
  |.val (.a8 _ _) a=>.e6 (.val (.int .i64) (a.length:Z)) []
  |.eB (.slice bo 0 0)=>.e6 (.val (.int .i64) (0:Z)) []
  |.ref id d=>match aq e id with
   |some ⟨c,b⟩=>match fC c d with
    |some (.osl f)=>.part (bm f.den) (λa=>eU c b d (.osl f) a) (λa=>(.val (.int .i64) (a.length:Z),[]))
    |_=>.bad
   |none=>.bad
  |.view _ _ i h=>.e6 (.val (.int .i64) ((h-i:X):Z)) []
  |.app id d c j _=>match aq e id with
   |some ⟨k,b⟩=>.part (bm c.den) (λa=>eU k b d (.osl c) a) (λa=>(.val (.int .i64) ((a.length+j.length:X):Z),[]))
   |none=>.bad
  |_=>.bad
def yv (f:g4 E.tt x=Y d) (g:o.op=.call {callee:=.builtin .len,args:=#[c],argTypes:=#[x]}) (h:a.eval c=.slice s b i):(bM a.eval o).run E.P w=.ok (.value (.int .i64 b)) w:=by obtain⟨k,j,_,e,_⟩:=g4.ok f;simp[bM,g,alW,invoke,amg,h,aoN,b7 e,goInt]
theorem ZR (s:cP C st a.tmps w I rt fp) (j:o.op=.call {callee:=.builtin .len,args:=#[c],argTypes:=#[x]}) (b:(v2 E.tt st.h x (aX st.g c)).K Q):Yields E C st a w I rt fp o Q:=by
 have d:=s.aX c;unfold v2 at b;split at b
 ·exact b.elim
 rename_i T i;generalize f:a.eval c=U at d;split at b
 ·rename_i R D u e;rw[e] at d;cases d with|val B=>
  obtain⟨_,p,q,rfl,_⟩:=B;exact .pure (yv i j f) (.int _ _) b
 ·rename_i e;rw[e] at d;cases d;exact .pure (yv i j f) (.int _ _) b
 ·rename_i id t e;rw[e] at d;split at b
  ·rename_i G F l;split at b
   ·rename_i D O;obtain⟨u,m,b⟩:=b;cases d with|ref k n=>
    rw[l] at k;cases k;obtain⟨rfl,H,A,_⟩:=s.lz l m n;obtain⟨p,q,rfl,_⟩:=A;exact .pure (yv i j f) (.int _ _) b
   exact b.elim
  exact b.elim
 ·rename_i id t P M e;rw[e] at d;cases d with
  |mM=>exact .pure (yv i j f) (.int _ _) b
  |view k n=>exact .pure (yv i j f) (.int _ _) b
 ·rename_i id t G V S e;rw[e] at d;split at b
  ·rename_i ad F l;obtain⟨u,m,b⟩:=b;cases d with|app k N n y J L v=>
   rw[l] at k;cases k;obtain⟨p,q,r,_⟩:=v;simp only[ia,cc] at r;have z:=eU.uniq m y;subst z;rw[r] at f;have:=yv (w:=w) i j f;rw[hI] at this;exact .pure this (.int _ _) b
  exact b.elim
 exact b.elim
def aZ.PM {j:Loc} {o a c:X} (e:i<a) (f:h.length=d.size) (g:fE w b (o+i*d.size) h):aZ w (.osl d) j [.slice (Y ⟨b,o,bo⟩) a c] [.idx i] d (Y (b,o+i*d.size)) h:=⟨b,o,a,c,h,bn,e,f,g,aZ.here⟩
def aZ.IW {e:Loc} {o:X} (a:h.length=d.size) (c:fE w b o h):aZ w (.optr d) e [.pointer (Y ⟨b,o,bo⟩)] [.deref] d (Y (b,o)) h:=⟨b,o,h,bn,a,c,aZ.here⟩
def vV (
 tt:bm (bE×ah)) (i:bm (X×aE)) (k:bE) (e d:ak):iA:=
 match g4 tt k with
 |none=>.bad
 |some g=>match d with
  |.val (.int _) d=>match e with
   |.val (.a8 m b) n=>bif bd g b then .part b.den (λh=>aw n d=Y h) (λh=>(.val (.ptr m b) (Y h),[])) else .bad
   |.ref id c=>match aq i id with
    |some ⟨f,e⟩=>match fC f c with
     |some (.osl b)=>bif bd g b then .part (bm b.den×X) (λa=>eU f e c (.osl b) a.1/\d=(a.2:Z)/\a.2<a.1.length) (λa=>(.addr id (c++[.idx a.2]),[])) else .bad
     |_=>.bad
    |none=>.bad
   |.view id c j l=>match aq i id with
    |some ⟨f,e⟩=>match fC f c with
     |some (.osl b)=>bif bd g b then .part (bm b.den×X) (λa=>eU f e c (.osl b) a.1/\d=(a.2:Z)/\a.2<l-j) (λa=>(.addr id (c++[.idx (j+a.2)]),[])) else .bad
     |_=>.bad
    |none=>.bad
   |_=>.bad
  |_=>.bad
def JF (l:g4 E.tt x=Y q) (n:bd q d=bp) (p:o.op=.indexAddr x g c) {e f h:X} (s:a.eval g=.slice (Y ⟨e,f,bo⟩) i h) (m:a.eval c=.int v b) (u:b<i):(bM a.eval o).run E.P w=.ok (.value (.pointer (Y ⟨e,f+b*d.size,bo⟩))) w:=by obtain⟨y,t,_,j,k⟩:=g4.ok l;have r:=(k.lay n).sizeOf w;have:(0:Z)<=(b:Z)/\(b:Z)<(i:Z):=⟨aa,aa⟩;simp[bM,p,s,m,Instr.indexAt,amp,b7 j,this,r,ame];omega
theorem Y3 (B:cP C st a.tmps w I rt fp) {z:bL} (M:o.op=.indexAddr T z c) (b:(vV E.tt st.h T (aX st.g z) (aX st.g c)).K Q):Yields E C st a w I rt fp o Q:=by
 have k:=B.aX z;have L:=B.aX c;unfold vV at b;split at b
 ·exact b.elim
 rename_i U J;generalize N:a.eval z=d6 at k;generalize O:a.eval c=d7 at L;split at b
 case h_2=>exact b.elim
 rename_i ap P bs;rw[bs] at L;cases L with|val S=>
 obtain⟨_,rfl⟩:=S;split at b
 ·rename_i c2 f y q;cases d:bd U f with
  |false=>rw[d] at b;exact b.elim
  |true=>
   rw[d] at b;obtain⟨V,c1,b⟩:=b;rw[q] at k;cases k with|val S=>
   obtain⟨_,ad,am,rfl,ax,av,R⟩:=S;obtain⟨al,a4,bl⟩:=Ps c1;rcases R with rfl|⟨A,u,rfl,ce,v⟩
   ·grind
   obtain⟨F,n,p,D⟩:=v _ _ bl;have cv:a.eval c=.int ap (P.toNat:X):=(by rw[O];show aln ap P=_;grind);exact .pure (JF J d M N cv a4) (.val (τ:=.ptr c2 f) (x:=Y V) (cs:=[.pointer (Y ⟨A,u+P.toNat*f.size,bo⟩)]) ⟨bn,A,_,F,bn,ce,n,p,D⟩) b
 ·rename_i id dg q;split at b
  case h_2=>exact b.elim
  rename_i a0 V j;split at b
  case h_2=>exact b.elim
  rename_i f co;cases d:bd U f with
  |false=>rw[d] at b;exact b.elim
  |true=>
   rw[d] at b;obtain⟨⟨y,e⟩,⟨r,rfl,l⟩,b⟩:=b;simp only at r l b;rw[q] at k;cases k with|ref t s=>
   rw[j] at t;cases t;obtain⟨rfl,bx,i,_⟩:=B.lz j r s;obtain⟨ad,am,rfl,i⟩:=i;rcases i with⟨_,rfl,_⟩|⟨A,u,G,rfl,_,ax,av,R,v⟩
   ·grind
   obtain⟨F,n,p,D⟩:=v e y[e] (G[e]'(by omega)) ac ac
   exact .pure (JF J d M N O l) (.addr j (s.append (aZ.PM l n p))) b
 ·rename_i id dg m d0 q;split at b
  case h_2=>exact b.elim
  rename_i a0 V j;split at b
  case h_2=>exact b.elim
  rename_i f co;cases d:bd U f with
  |false=>rw[d] at b;exact b.elim
  |true=>
   rw[d] at b;obtain⟨⟨y,e⟩,⟨r,rfl,l⟩,b⟩:=b;simp only at r l b;rw[q] at k;cases k with|mM=>omega|view t s d1 d2 d3=>
   rename_i A u d4 am;rw[j] at t;cases t;obtain⟨a3,bx,i,_⟩:=B.lz j r s;cases a3;obtain⟨ad,ds,an,i⟩:=i;simp only[ia,alf,cc] at an;obtain⟨rfl,rfl,rfl⟩:=an;rcases i with⟨H,_⟩|⟨dl,d5,G,H,_,ax,av,R,v⟩
   ·cases H
   cases H;have ci:m+e<y.length:=aa;obtain⟨F,n,p,D⟩:=v (m+e) y[m+e] (G[m+e]'(by omega)) ac ac
   have:=JF (w:=w) J d M N O l;rw[ar aa,show u+m*f.size+e*f.size=u+(m+e)*f.size by grind] at this;exact .pure this (.addr j (s.append (aZ.PM ci n p))) b
 exact b.elim
def aW.pure {h:eH->X->Prop} {w:bC}:∀{τ:ah} {i:ez} {e:τ.den} {g:ak9},τ.pure=bp->aW h w τ i e g->g=[]
 |.int _,_,_,_,_,b=>b.1
 |.bool,_,_,_,_,b=>b.1
 |.str,_,_,_,_,b=>b.1
 |.a8 _ _,_,_,_,_,b=>b.1
 |.ptr _ _,_,_,_,_,b=>b.1
 |.nil,_,_,_,_,b=>b.1
 |.st k,_,_,_,c,b=>aW.pure (τ:=k) c b
 |.pr a f,_,_,_,c,b=>by simp only[ah.pure,cF] at c;obtain⟨n,f2,rfl,j,d⟩:=b;rw[aW.pure (τ:=a) c.1 j,aW.pure (τ:=f) c.2 d];rfl
 |.osl _,_,_,_,c,_=>by cases c
 |.optr _,_,_,_,c,_=>by cases c
 |.fj _ _,_,e,_,_,b=>by
  cases e with
  |none=>exact b.1
  |some o=>obtain⟨f,m,l,_,d,_⟩:=b;exact d
 |.fn _ _,_,_,_,_,b=>b.1
 |.eI,_,_,_,c,_=>by cases c
def wC (d:ah) (e:d.den) (id:X) (c:bm a6) (a:ah):iA:=
 bif a.pure then .part a.den (λb=>eU d e c a b) (λb=>(.val a b,[])) else .e6 (.ref id c) []
def pk:ah->bz
 |.st _|.pr _ _|.nil|.eI=>bq
 |_=>bp
def pP:ah->bz
 |.nil=>bp
 |.pr a b=>pk a&&pP b
 |_=>bq
def Bb:(d:ah)->d.den->bm ak
 |.pr a c,b=>.val a b.1::Bb c b.2
 |_,_=>[]
def pP.one {τ:ah} (a:pk τ=bp):τ.size=1/\∀cs,c3 τ cs=cs.headD undef:=by cases τ<;>first|(cases a;done)|exact⟨bn,λ_=>rfl⟩
def Pj {g:eH->X->Prop} {w:bC} {h:bm (X×aE)} {rt:X->ez} {fp:X->ak9}:∀{t:ah} {c:ez} {e:t.den},pP t=bp->aW g w t c e []->(Bb t e).length=c.length/\∀(b:X) (a:ak) (f:Value),(Bb t e)[b]?=Y a->c[b]?=Y f->cT g w h rt fp a f
 |.nil,c,e,_,j=>by obtain rfl:=j.2;exact⟨bn,λb a f d _=>by cases d⟩
 |.pr a o,c,e,i,j=>by
  simp only[pP,cF] at i;obtain⟨v,f2,r,d,k⟩:=j;obtain⟨rfl,rfl⟩:=aoO.1 r.symm;obtain⟨al,q⟩:=pP.one i.1;have m:=d.len;rw[al] at d k m;cases c with
  |nil=>cases m
  |cons f c=>
   obtain⟨ax,s⟩:=Pj (t:=o) i.2 k;refine⟨b3 (· +1) ax,λb p u l n=>?_⟩;cases b with
   |zero=>
    cases l;cases n;have:=cT.val (M:=g) (w:=w) (h:=h) (rt:=rt) (fp:=fp) d;rw[q] at this;exact this
   |succ b=>exact s b p u l n
def wv:(t:ah)->t.den->ak
 |.fn b t,a=>bif pP t then .di b (Bb t a) else .val (.fn b t) a
 |t,a=>.val t a
def adY {w:bC} {rt:X->ez} {fp:X->ak9} {b:d.den} (i:aW e w d N b []):cT e w u rt fp (wv d b) (c3 d N):=by
 cases d<;>first|exact .val i|skip
 rename_i c d;cases g:pP d with
 |false=>
  have:wv (.fn c d) b=.val (.fn c d) b:=(by simp only[wv,g,bP]);rw[this];exact .val i
 |true=>
  have:wv (.fn c d) b=.di c (Bb d b):=(by simp only[wv,g,bF]);rw[this];obtain⟨_,n,rfl,f⟩:=i;obtain⟨ax,l⟩:=Pj (h:=u) (rt:=rt) (fp:=fp) g f;exact .di (by simpa using ax) (λk a m j f=>l k a m j (by simpa using f))
def v7 (tt:bm (bE×ah)) (f:bm (X×aE)) (g:bE) (c:ak):iA:=
 match aq tt g with
 |none=>.bad
 |some e=>match c with
  |.val (.ptr _ a) (Y i)=>bif bd e a then .e6 (wv a i) [] else .bad
  |.hL h=>bif pk e then .e6 h [] else .bad
  |.addr id b=>match aq f id with
   |some ⟨d,c⟩=>match fC d b with
    |some a=>bif bd e a then wC d c id b a else .bad
    |none=>.bad
   |none=>.bad
  |.ref id b=>match aq f id with
   |some ⟨d,c⟩=>match fC d b with
    |some (.optr a)=>bif bd e a then wC d c id (b++[.deref]) a else .bad
    |_=>.bad
   |none=>.bad
  |_=>.bad
theorem Ka (e:aq E.tt x=Y q) (j:bd q d=bp) (k:o.op=.load x c) (l:a.eval c=.pointer (Y ⟨b,i,bo⟩)) (f:fE w b i h) (g:h.length=d.size):(bM a.eval o).run E.P w=.ok (.value (c3 d h)) w:=by have:=LC ((E.ok x q e).lay j) f g;simp_all [bM,apV,amL]
theorem Lr (k:cP C st a.tmps w I rt fp) {id:X} {j:q.den} (i:aq st.h id=Y ⟨q,j⟩) {m:Loc} (e:aZ w q bo (rt id) n d m N) (f:(bM a.eval o).run E.P w=.ok (.value (c3 d N)) w) (b:(wC q j id n d).K Q):Yields E C st a w I rt fp o Q:=by
 unfold wC at b;cases c:d.pure with
 |true=>
  rw[c] at b;obtain⟨r,l,b⟩:=b;obtain⟨_,p,g,_⟩:=k.lz i l e;have:=g.pure c;subst this;exact .pure f (.val g) b
 |false=>
  rw[c] at b;exact .pure f (.ref i e) b
theorem ZZ (p:cP C st a.tmps w I rt fp) (z:o.op=.load x c) (d:(v7 E.tt st.h x (aX st.g c)).K Q):Yields E C st a w I rt fp o Q:=by
 have f:=p.aX c;unfold v7 at d;split at d
 ·exact d.elim
 rename_i n r;generalize A:a.eval c=u at f;split at d
 ·rename_i a0 m G i;cases e:bd n m with
  |false=>rw[e] at d;exact d.elim
  |true=>
   rw[e] at d;rw[i] at f;cases f with|val U=>
   obtain⟨_,q,O,H,rfl,ax,F,S,T⟩:=U;exact .pure (Ka r e z A S F) (adY T) d
 ·rename_i am i;cases s:pk n with
  |false=>rw[s] at d;exact d.elim
  |true=>
   rw[s] at d;rw[i] at f;cases f with|hL ap L an M=>
   obtain⟨al,J⟩:=pP.one s;rename_i u q;have:=LC (E.ok x n r) (cs:=[u]) (w:=w) (b:=q) (o:=0) (λD a3 B=>by
    cases D with
    |zero=>cases B;exact L
    |succ D=>cases B) (by rw[al];rfl)
   have N:(bM a.eval o).run E.P w=.ok (.value u) w:=(by rw[J] at this;simp_all [bM,apV,amL]);exact .pure N M d
 ·rename_i id R i;split at d
  case h_2=>exact d.elim
  rename_i V G k;split at d
  case h_2=>exact d.elim
  rename_i m t;cases e:bd n m with
  |false=>rw[e] at d;exact d.elim
  |true=>
   rw[e] at d;rw[i] at f;cases f with|addr l j=>
   rw[k] at l;cases l;have:=j.ty;rw[t] at this;cases this;obtain⟨ax,F⟩:=p.S0 k j;grind [Lr,Ka]
 ·rename_i id R i;split at d
  case h_2=>exact d.elim
  rename_i V G k;split at d
  case h_2=>exact d.elim
  rename_i m t;cases e:bd n m with
  |false=>rw[e] at d;exact d.elim
  |true=>
   rw[e] at d;rw[i] at f;cases f with|ref l j=>
   rename_i a4 av ad;rw[k] at l;cases l;have:=j.ty;rw[t] at this;cases this;obtain⟨q,O,H,rfl,v,y⟩:=pX (p.tree id _ k).1 j;exact Lr p k (j.append (aZ.IW v y)) (Ka r e z A y v) d
 exact d.elim
def vP (tt:bm (bE×ah)) (g:bm (X×aE)) (h:bE) (k:ak) (c:X):iA:=
 match l1 tt h with
 |none=>.bad
 |some e=>match k with
  |.val (.ptr i (.st a)) (Y l)=>bif bd e a then match sb a l c with
   |some ⟨j,m⟩=>.e6 (.val (.ptr i j) (Y m)) []
   |none=>.bad
   else .bad
  |.ref id b=>match aq g id with
   |some ⟨f,_⟩=>match fC f b with
    |some (.optr (.st a))=>bif bd e a then match fR a c with
     |some (d,_)=>.e6 (.addr id (b++(.deref::.unst::d))) []
     |none=>.bad
     else .bad
    |_=>.bad
   |none=>.bad
  |.addr id b=>match aq g id with
   |some ⟨f,_⟩=>match fC f b with
    |some (.st a)=>bif bd e a then match fR a c with
     |some (d,_)=>.e6 (.addr id (b++(.unst::d))) []
     |none=>.bad
     else .bad
    |_=>.bad
   |none=>.bad
  |_=>.bad
theorem Jk {g:ah} (m:l1 E.tt x=Y g) (r:bd g d=bp) (u:fR d b=Y (n,q)) (s:o.op=.fieldAddr x c b) {f:X} (v:a.eval c=.pointer (Y ⟨i,f,bo⟩)):(bM a.eval o).run E.P w=.ok (.value (.pointer (Y ⟨i,f+fK d b,bo⟩))) w:=by obtain⟨j,A,k,l⟩:=l1.ok m;obtain⟨h,z,t,e⟩:=Jl (i9.lay r l) u;have y:q.size≠0:=(by have:=e.pos;omega);have p:j[b]?=Y h:=(by grind);simp[bM,s,v,Instr.fieldAt,b7 k,p,amL,fieldPlace,e.sizeOf,y,ame,t]
theorem Yg (G:cP C st a.tmps w I rt fp) (y:o.op=.fieldAddr T c b) (d:(vP E.tt st.h T (aX st.g c) b).K Q):Yields E C st a w I rt fp o Q:=by
 have m:=G.aX c;unfold vP at d;split at d
 ·exact d.elim
 rename_i D v;generalize A:a.eval c=a0 at m;split at d
 ·rename_i U e M r;cases i:bd D e with
  |false=>rw[i] at d;exact d.elim
  |true=>
   rw[i] at d;simp only[bF] at d;split at d
   case h_2=>exact d.elim
   rename_i n ap H;rw[r] at m;cases m with|val am=>
   obtain⟨_,f,j,u,rfl,ax,av,ad,J⟩:=am;obtain⟨t,k⟩:=Jo H;obtain⟨L,an⟩:=Jn (τ:=e) J H;have R:=J.len;simp only[ah.size] at R L an;exact .pure (Jk v i k y A) (.val (τ:=.ptr U n) (x:=Y ap) (cs:=[.pointer (Y ⟨f,j+fK e b,bo⟩)]) ⟨bn,f,_,_,bn,ax,by grind,ad.drop.take,L⟩) d
 ·rename_i id V r;split at d
  case h_2=>exact d.elim
  rename_i N M q;split at d
  case h_2=>exact d.elim
  rename_i e z;cases i:bd D e with
  |false=>rw[i] at d;exact d.elim
  |true=>
   rw[i] at d;simp only[bF] at d;split at d
   case h_2=>exact d.elim
   rename_i t n k;rw[r] at m;cases m with|ref s p=>
   rw[q] at s;cases s;have:=p.ty;rw[z] at this;cases this;obtain⟨f,j,u,rfl,O,P⟩:=pX (G.tree id _ q).1 p;rename_i S;have B:aZ w (.optr (.st e)) S [.pointer (Y ⟨f,j,bo⟩)] (.deref::.unst::t) n (Y (f,j+fK e b)) ((u.drop (fK e b)).take n.size):=⟨f,j,u,bn,O,P,aZ.Fh (l:=Y (f,j)) k⟩;exact .pure (Jk v i k y A) (.addr q (p.append B)) d
 ·rename_i id V r;split at d
  case h_2=>exact d.elim
  rename_i N M q;split at d
  case h_2=>exact d.elim
  rename_i e z;cases i:bd D e with
  |false=>rw[i] at d;exact d.elim
  |true=>
   rw[i] at d;simp only[bF] at d;split at d
   case h_2=>exact d.elim
   rename_i t n k;rw[r] at m;cases m with|addr s p=>
   rw[q] at s;cases s;have:=p.ty;rw[z] at this;cases this;rename_i f j F;have B:aZ w (.st e) (Y (f,j)) F (.unst::t) n (Y (f,j+fK e b)) ((F.drop (fK e b)).take n.size):=aZ.Fh (l:=Y (f,j)) k;exact .pure (Jk v i k y A) (.addr q (p.append B)) d
 exact d.elim
def yi (
 tt:bm (bE×ah)) (i:bm (X×aE)) (h:bE) (c:ak) (d:X):iA:=
 match l1 tt h with
 |none=>.bad
 |some f=>match c with
  |.val (.st a) k=>bif bd f a then match sb a k d with
   |some ⟨b,l⟩=>.e6 (.val b l) []
   |none=>.bad
   else .bad
  |.ref id e=>match aq i id with
   |some ⟨g,c⟩=>match fC g e with
    |some (.st a)=>bif bd f a then match fR a d with
     |some (j,b)=>wC g c id (e++(.unst::j)) b
     |none=>.bad
     else .bad
    |_=>.bad
   |none=>.bad
  |_=>.bad
theorem Ph {j:ah} (r:l1 E.tt x=Y j) (t:bd j d=bp) (v:fR d b=Y (n,q)) (u:o.op=.field x c b) (y:a.eval c=c3 (.st d) h) (B:fK d b+q.size<=h.length):(bM a.eval o).run E.P w=.ok (.value (c3 q ((h.drop (fK d b)).take q.size))) w:=by
 obtain⟨k,G,m,p⟩:=l1.ok r;obtain⟨f,C,i,e⟩:=Jl (i9.lay t p) v;have F:=e.pos;have s:k[b]?=Y f:=(by grind);simp only[mm] at i;have z:a.eval c=.agg h.toArray:=y;have A:(part f.type h.toArray f.offset).run E.P w=.ok (c3 q ((h.drop (fK d b)).take q.size)) w:=by
  simp only[part,bW,e.isAgg,b1,i];cases g:pT q with
  |true=>
   rw[Gv g];simp only[ck,bW,e.sizeOf,b1,ct];grind
  |false=>
   have l:=K4 e g;rw[Gu g,l];have D:fK d b<h.length:=aa;have:(h.drop (fK d b)).take 1=[h[fK d b]]:=(by grind [List.drop_eq_getElem_cons]);simp_all
 simp[bM,u,z,Instr.field,b7 m,s,asAgg,A]
theorem Yi (m:cP C st a.tmps w I rt fp) (u:o.op=.field x c b) (d:(yi E.tt st.h x (aX st.g c) b).K Q):Yields E C st a w I rt fp o Q:=by
 have j:=m.aX c;unfold yi at d;split at d
 ·exact d.elim
 rename_i D s;generalize y:a.eval c=P at j;split at d
 ·rename_i f J l;cases e:bd D f with
  |false=>rw[e] at d;exact d.elim
  |true=>
   rw[e] at d;simp only[bF] at d;split at d
   case h_2=>exact d.elim
   rename_i q R t;rw[l] at j;cases j with|val A=>
   obtain⟨B,i⟩:=Jo t;obtain⟨H,O⟩:=Jn (τ:=f) A t;have G:=A.len;simp only[ah.size] at G;exact .pure (Ph s e i u y aa) (.val H) d
 ·rename_i id M l;split at d
  case h_2=>exact d.elim
  rename_i L J p;split at d
  case h_2=>exact d.elim
  rename_i f F;cases e:bd D f with
  |false=>rw[e] at d;exact d.elim
  |true=>
   rw[e] at d;simp only[bF] at d;split at d
   case h_2=>exact d.elim
   rename_i B q i;rw[l] at j;cases j with|ref v n=>
   rename_i S z r;rw[p] at v;cases v;have:=n.ty;rw[F] at this;cases this;obtain⟨ax,N⟩:=m.S0 p n;have k:aZ w (.st f) z r (.unst::B) q (z.map λk=>(k.1,k.2+fK f b)) ((r.drop (fK f b)).take q.size):=aZ.Fh i;exact Lr m p (n.append k) (Ph s e i u y (by rw[ax];exact yj i)) d
 exact d.elim
def wj (f:bm (X×aE)) (b:ak):iA:=
 match b with
 |.val (.ptr h d) b=>.part d.den (λc=>b=Y c) (λc=>(.val (.ptr h d) (Y c),[]))
 |.ref id a=>match aq f id with
  |some ⟨i,_⟩=>match fC i a with
   |some (.optr _)=>.e6 (.ref id a) []
   |_=>.bad
  |none=>.bad
 |.addr id a=>.e6 (.addr id a) []
 |.di e g=>.e6 (.di e g) []
 |_=>.bad
theorem aaJ (p:cP C st a.tmps w I rt fp) (M:o.op=.nilCheck c) (b:(wj st.h (aX st.g c)).K Q):Yields E C st a w I rt fp o Q:=by
 have d:=p.aX c;unfold wj at b;generalize N:a.eval c=F at d;split at b
 ·rename_i u l m e;obtain⟨m,rfl,b⟩:=b;rw[e] at d;cases d with|val D=>
  obtain⟨_,f,k,n,rfl,ax,z,A,B⟩:=D;exact .pure (v:=.pointer (Y ⟨f,k,bo⟩)) (by simp_all [bM,c3]) (.val (τ:=.ptr u l) (x:=Y m) (cs:=[.pointer (Y ⟨f,k,bo⟩)]) ⟨bn,f,k,n,bn,ax,z,A,B⟩) b
 ·rename_i id y e;split at b
  case h_2=>exact b.elim
  rename_i G m j;split at b
  case h_2=>exact b.elim
  rename_i l t;rw[e] at d;cases d with|ref q i=>
  rw[j] at q;cases q;have:=i.ty;rw[t] at this;cases this;obtain⟨f,k,n,rfl,H,J⟩:=pX (p.tree id _ j).1 i;exact .pure (v:=.pointer (Y ⟨f,k,bo⟩)) (by simp_all [bM,c3]) (.ref (τ':=.optr l) j i) b
 ·rename_i id y e;rw[e] at d;cases d with|addr j i=>
  exact .pure (by simp_all [bM]) (.addr j i) b
 ·rename_i L O e;rw[e] at d;cases d with|di s r=>
  exact .pure (by simp_all [bM]) (.di s r) b
 exact b.elim
def tj (d:bu ak) (b a:X):Prop:=
 match d with
 |none=>a=b
 |some (.val (.int _) c)=>c=(a:Z)
 |some _=>b4
def wL (tt:bm (bE×ah)) (k:bm (X×aE)) (j:bE) (d:ak) (g f:bu ak):iA:=
 match g4 tt j with
 |none=>.bad
 |some h=>match d with
  |.val (.a8 l b) e=>bif bd h b then
   .part ej (λa=>tj g 0 a.1/\tj f e.length a.2/\a.1<=a.2/\a.2<=e.length) (λa=>(.val (.a8 l b) ((e.take a.2).drop a.1),[])) else .bad
  |.ref id c=>match aq k id with
   |some ⟨i,d⟩=>match fC i c with
    |some (.osl b)=>bif bd h b then
     .part (bm b.den×X×X) (λa=>eU i d c (.osl b) a.1/\tj g 0 a.2.1/\tj f a.1.length a.2.2/\a.2.1<=a.2.2/\a.2.2<=a.1.length) (λa=>(.view id c a.2.1 a.2.2,[])) else .bad
    |_=>.bad
   |none=>.bad
  |_=>.bad
def H9 (a:Act) (e:ev) (c b:X):Prop:=
 match e with
 |none=>b=c
 |some f=>∃d,a.eval f=.int d b
theorem LJ (p:g4 E.tt x=Y q) (t:bd q d=bp) {j f:ev} (u:o.op=.slice x c j f bo) {g e:X} (y:a.eval c=.slice s g e) (k:H9 a j 0 i) (h:H9 a f g b) (D:i<=b) (F:b<=e):(bM a.eval o).run E.P w=.ok (.value (.slice (if e=i then s else s.map (·.add (i*d.size))) (b-i) (e-i))) w:=by
 obtain⟨H,B,_,m,n⟩:=g4.ok p;have v:=(n.lay t).sizeOf w;have al:(0:Z)<=(b:Z)/\(b:Z)<=(e:Z):=⟨aa,aa⟩;have C:(0:Z)<=(i:Z)/\(i:Z)<=(b:Z):=⟨aa,aa⟩;have l:(anq bp g e (j.map a.eval) (f.map a.eval) bo).run E.P w=.ok (i,b,e) w:=by
  cases j with
  |none=>
   obtain rfl:i=0:=k;cases f with
   |none=>obtain rfl:b=g:=h;simp[anq]
   |some A=>obtain⟨z,r⟩:=h;simp_all [anq,aoP,amp]
  |some J=>
   obtain⟨I,G⟩:=k;cases f with
   |none=>obtain rfl:b=g:=h;simp_all [anq,aoP,amp]
   |some A=>
    obtain⟨z,r⟩:=h;simp_all [anq,aoP,amp]
 simp[bM,u,y,Instr.sliceAt,Instr.slice,b7 m,l,v]
theorem xC (h:cP C st a.tmps w I rt fp) {d:ev} (c:tj (d.map (aX st.g)) b i):H9 a d b i:=by
 cases d with
 |none=>exact c
 |some f=>
  have:=h.aX f;simp only[jr,tj] at c;split at c
  ·grind
  ·rename_i k m e;simp only[eZ] at e;rw[e] at this;subst c;generalize j:a.eval f=n at this;cases this with|val l=>obtain⟨_,rfl⟩:=l;exact⟨k,j⟩
  grind
theorem agh (e:cP C st a.tmps w I rt fp) {L y:ev} (z:o.op=.slice T c L y bo) (b:(wL E.tt st.h T (aX st.g c) (L.map (aX st.g)) (y.map (aX st.g))).K Q):Yields E C st a w I rt fp o Q:=by
 have r:=e.aX c;unfold wL at b;split at b
 ·exact b.elim
 rename_i O v;generalize D:a.eval c=co at r;split at b
 ·rename_i ad i F u;cases f:bd O i with
  |false=>rw[f] at b;exact b.elim
  |true=>
   rw[f] at b;obtain⟨⟨d,m⟩,⟨j,k,l,s⟩,b⟩:=b;simp only at j k l s b;rw[u] at r;cases r with|val ap=>
   obtain⟨_,P,q,rfl,ax,M,N⟩:=ap;have t:=LJ (w:=w) v f z D (xC e j) (xC e k) l aa;have V:((F.take m).drop d).length=m-d:=(by grind);refine .pure t (.val (τ:=.a8 ad i) (x:=(F.take m).drop d) (cs:=[_]) ⟨bn,_,q-d,by rw[V],aa,?_,?_⟩) b
   ·intro bl;by_cases bs:q=d
    ·omega
    simp_all
   by_cases bx:m=d
   ·grind
   right;rcases N with rfl|⟨p,n,rfl,R,an⟩
   ·grind
   refine⟨p,n+d*i.size,by rw[ar aa];simp[ame],R,λci av y=>?_⟩;grind
 ·rename_i id am u;split at b
  case h_2=>exact b.elim
  rename_i a0 av B;split at b
  case h_2=>exact b.elim
  rename_i i ce;cases f:bd O i with
  |false=>rw[f] at b;exact b.elim
  |true=>
   rw[f] at b;obtain⟨⟨F,d,m⟩,⟨G,j,k,l,s⟩,b⟩:=b;simp only at G j k l s b;rw[u] at r;cases r with|ref J H=>
   rw[B] at J;cases J;obtain⟨rfl,a3,A,_⟩:=e.lz B G H;obtain⟨P,q,rfl,A⟩:=A;rcases A with⟨rfl,rfl,rfl,_⟩|⟨p,n,a4,rfl,_,ax,M,N,an⟩
   ·have S:m=0:=(by grind);subst S;have U:d=0:=aa;subst U;exact .pure (LJ (w:=w) v f z D (xC e j) (xC e k) (bc _) (bc _)) (.mM id am) b
   have t:=LJ (w:=w) v f z D (xC e j) (xC e k) l aa;have:(if q=d then Y (⟨p,n,bo⟩:Addr) else(Y (⟨p,n,bo⟩:Addr)).map (·.add (d*i.size)))=Y ⟨p,if q=d then n else n+d*i.size,bo⟩:=(by grind [ame]);rw[this] at t;exact .pure t (.view B H l s M) b
 exact b.elim
end
end
section
def ji:(i:ah)->ez->bu i.den
 |.int d,b=>match b with
  |[.int e n]=>if d=e then Y n else bo
  |_=>bo
 |.bool,b=>match b with
  |[.bool c]=>Y c
  |_=>bo
 |.str,b=>match b with
  |[.string s]=>Y s
  |_=>bo
 |.a8 _ _,b=>match b with
  |[.slice bo 0 0]=>Y []
  |_=>bo
 |.osl _,b=>match b with
  |[.slice bo 0 0]=>Y []
  |_=>bo
 |.ptr _ _,b=>match b with
  |[.pointer bo]=>Y bo
  |_=>bo
 |.st f,b=>ji f b
 |.pr a c,b=>match ji a (b.take a.size),ji c (b.drop a.size) with
  |some g,Y h=>Y (g,h)
  |_,_=>bo
 |.nil,b=>match b with
  |[]=>Y ()
  |_=>bo
 |.optr _,_=>bo
 |.eI,_=>bo
 |.mp _,_=>bo
 |.fj _ _,_=>bo
 |.fn _ _,_=>bo
theorem qJ {M:eH->X->Prop} {w:bC}:∀{τ:ah} {d:ez} {c:τ.den},ji τ d=Y c->aW M w τ d c []
 |.int j,d,c,b=>by
  simp only[ji] at b;split at b
  ·split at b
   ·rename_i f;cases b;subst f;exact⟨bn,bn⟩
   grind
  grind
 |.bool,d,c,b=>by simp only[ji] at b;split at b<;>cases b;exact⟨bn,bn⟩
 |.str,d,c,b=>by simp only[ji] at b;split at b<;>cases b;exact⟨bn,bn⟩
 |.a8 _ _,d,c,b=>by simp only[ji] at b;split at b<;>cases b;exact⟨bn,bo,0,bn,bc _,λ_=>rfl,.inl bn⟩
 |.osl _,d,c,b=>by simp only[ji] at b;split at b<;>cases b;exact⟨bo,0,bn,.inl ⟨bn,bn,bn,bn⟩⟩
 |.ptr _ _,d,c,b=>by simp only[ji] at b;split at b<;>cases b;exact⟨bn,bn⟩
 |.st i,d,c,b=>qJ (τ:=i) (by grind [ji])
 |.pr a e,d,c,b=>by
  simp only[ji] at b;split at b
  ·rename_i c k g h;cases b;exact⟨[],[],bn,qJ (τ:=a) g,qJ (τ:=e) h⟩
  grind
 |.nil,d,c,b=>by simp only[ji] at b;split at b<;>cases b;exact⟨bn,bn⟩
 |.optr _,d,c,b=>by grind [ji]
 |.eI,d,c,b=>by grind [ji]
 |.mp _,d,c,b=>by grind [ji]
 |.fj _ _,d,c,b=>by grind [ji]
 |.fn _ _,d,c,b=>by grind [ji]
theorem Pk (d:X):∀(e:ez) (b:X) (a:ew),let f:=(e.zipIdx b).foldl (λa (h:Value×X)=>a.setIfInBounds (d+h.2) h.1) a
 f.size=a.size/\(∀c,c<d+b\/d+b+e.length<=c->f[c]?=a[c]?)/\(d+b+e.length<=a.size->∀c g,e[c]?=Y g->f[d+b+c]?=Y g)
 |[],b,a=>⟨bn,λ_ _=>rfl,λ_ c g i=>by grind⟩
 |x::e,b,a=>by obtain⟨j,k,l⟩:=Pk d e (b+1) (a.setIfInBounds (d+b) x);grind [List.zipIdx_cons]
theorem A8 (k:X->bu ej):∀(j:bm (X×Value)) (c:ew),(∀a∈j,∃f b,k a.1=Y (f,b)/\a.2.cells.size=b/\f+b<=c.size)->(j.Pairwise λa g=>∀o b m q,k a.1=Y (o,b)->k g.1=Y (m,q)->o+b<=m\/m+q<=o)->∃g,apW k c j=Y g/\g.size=c.size/\(∀d,(∀a∈j,∀o b,k a.1=Y (o,b)->d<o\/o+b<=d)->g[d]?=c[d]?)/\(∀a∈j,∀o b,k a.1=Y (o,b)->∀d e,a.2.cells[d]?=Y e->g[o+d]?=Y e)
 |[],c,_,_=>⟨c,bn,bn,λ_ _=>rfl,λa h=>by cases h⟩
 |(i,e)::j,c,v,r=>by
  obtain⟨f,b,t,x,D⟩:=v (i,e) ac;simp only at t x;rw[nq] at r;have w:e.cells.zipIdx.foldl (λl (a:Value×X)=>l.setIfInBounds (f+a.2) a.1) c=(e.cells.toList.zipIdx 0).foldl (λl (a:Value×X)=>l.setIfInBounds (f+a.2) a.1) c:=(by rw[<-Array.foldl_toList,Array.toList_zipIdx]);obtain⟨n,f2,p⟩:=Pk f e.cells.toList 0 c;rw[<-w] at n f2 p;simp only[Array.length_toList] at f2 p;generalize A:e.cells.zipIdx.foldl (λl (a:Value×X)=>l.setIfInBounds (f+a.2) a.1) c=u at n f2 p;obtain⟨g,E,y,z,aV⟩:=A8 k j u (λa h=>by
   grind) r.2
  refine⟨g,?_,by rw[y,n],λd s=>?_,λa h m q B d F C=>?_⟩
  ·grind [apW,decide]
  ·rw[z d (λa h=>s a (gx _ h)),f2 d (by have:=s (i,e) ac f b t;omega)]
  rcases fF.1 h with rfl|h
  ·grind
  grind
section
variable {E:fM} {C:e7} {st:aR} {a:Act} {w:bC} {I:X->Prop} {rt:X->ez} {fp:X->ak9} {o:bQ} {Q:ak->bm (X×aE)->Prop}
theorem fE.alloc {w:bC} {c:ew} {e:bE} {o:X} {d:ez} (f:∀a b,d[a]?=Y b->c[o+a]?=Y b):fE (w.alloc (.cells c e)) w.heap.size o d:=λa b g=>by simp_all
theorem ja.alloc {w:bC} {a:ew} {c:bE} {d b:X} (e:b<=a.size):ja (w.alloc (.cells a c)) w.heap.size d b:=λg _ f=>by grind [World.cell?_alloc_new,World.frozen?_alloc_new]
theorem Yields.new {d:X} {t:aE} {cs:ez} {f:ak9} {cells:ew} {T:bE} (k:aq st.h d=bo) (e:cP C st a.tmps w I rt fp) (n:(bM a.eval o).run E.P w=.ok (.value R) (w.alloc (.cells cells T))) (q:R=c3 t.1 cs) (p:aW (bf I C.B) (w.alloc (.cells cells T)) t.1 cs t.2 f) (i:∀c∈f,c=w.heap.size) (l:f.Nodup) (m:Q (.ref d []) [(d,t)]):Yields E C st a w I rt fp o Q:=by
 refine⟨R,_,I,λ_=>cs,λ_=>f,.ref d [],[(d,t)],n,.alloc w _,λ_ b=>b,λ_ b=>.inl b,.one k p l (λc g=>?_),?_,m⟩
 ·rw[i c g];exact⟨bc _,ac,λb=>by have:=e.ib _ (.inl b);omega⟩
 rw[q];have j:aq ([(d,t)]++st.h) d=Y t:=(by rw[zG,eC,au bn]);refine .ref (t:=t) (τ':=t.1) (loc:=bo) j ?_;grind [aZ.here,eC,fv]
def wa (tt:bm (bE×ah)) (g:bm (X×ah)) (h:bm (X×aE)) (b:X) (f:bE) (e d:ak):iA:=
 match g4 tt f,aq g b,aq h b with
 |some i,Y (.osl c),bo=>match mN c,e,d with
  |some j,.val (.int _) e,.val (.int _) d=>bif bd i c&&b2 c.size 2000 then
   .part ej (λa=>e=(a.1:Z)/\d=(a.2:Z)/\a.1<=a.2/\a.2<=hN) (λa=>(.ref b [],[(b,⟨.osl c,bJ a.1 j⟩)])) else .bad
  |_,_,_=>.bad
 |_,_,_=>.bad
theorem aac (a:ew) (d b c:X) (e:Value) (_hz:0<a.size) (h:a[c]?=Y e) (g:b<d):(aoQ a (d*a.size))[b*a.size+c]?=Y e:=by have i:c<a.size:=(sL.1 h).1;have f:(b+1)*a.size<=d*a.size:=gj _ g;rw[jD,h3] at f;grind [anr,Nat.add_mul_mod_self_right,Nat.mod_eq_of_lt,aoQ]
theorem aae (p:cP C st a.tmps w I rt fp) {m:bL} (V:o.op=.makeSlice x m c) (e:(wa E.tt l st.h b x (aX st.g m) (aX st.g c)).K Q):Yields E C st a w I rt fp o Q:=by
 have r:=p.aX m;have q:=p.aX c;unfold wa at e;split at e
 case h_2=>exact e.elim
 rename_i bx v R co U;split at e
 case h_2=>exact e.elim
 rename_i ci a3 d1 a0 d0 an J H;cases j:(bd bx v&&b2 v.size 2000) with
 |false=>rw[j] at e;exact e.elim
 |true=>
  rw[j] at e;simp only[cF] at j;obtain⟨⟨n,i⟩,⟨rfl,rfl,M,A⟩,e⟩:=e;simp only at M A e;have dg:=g1 j.2;rw[J] at r;rw[H] at q;generalize am:a.eval m=d5 at r;generalize ad:a.eval c=d4 at q;cases r with|val bl=>cases q with|val bs=>
  obtain⟨_,rfl⟩:=bl;obtain⟨_,rfl⟩:=bs;obtain⟨ap,y,_,N,O⟩:=g4.ok R;have D:=O.lay j.1;obtain⟨t,k,ax,a4,d2,G⟩:=wW D an;obtain⟨ds,_,u,_⟩:=D.info;have z:=u.info;rw[ax] at z;cases z;have F:k.cells.size=v.size:=(by have:=(G (bf I C.B) w).len;omega);have S:(t.bytes:Z)*(i:Z)<=281474976710656:=(by have:t.bytes*i<=48000*hN:=nr (by have:=u.bytes;omega) A;grind [amM,hN]);have s:=run_make (P:=E.P) w x y t k N ax a4 a3 a0 (n:Z) (i:Z) aa aa S (by grind [hN]);simp only[fP,u.size] at s;rw[<-F] at s;refine .new (d:=b) (cells:=aoQ k.cells (i*k.cells.size)) (T:=y) (cs:=[.slice (Y ⟨w.heap.size,0,bo⟩) n i]) (f:=[w.heap.size]) U p ?_ bn ?_ ac ac e
  ·simp[bM,V,am,ad,c3,s]
  refine⟨Y ⟨w.heap.size,0,bo⟩,i,ac,.inr ⟨w.heap.size,0,bJ n [],bn,ac,ac,by grind,ja.alloc (by grind [size_madeCells]),λav ce L dl cv=>?_⟩⟩;have c2:av<n:=(by grind);obtain rfl:ci=ce:=(by grind);obtain rfl:[]=L:=(by grind);refine⟨k.cells.toList,aa,fE.alloc (λap d3 c1=>?_),G _ _⟩;rw[mm,<-F];grind [aac]
def xo (tt:bm (bE×ah)) (d:bm (X×ah)) (e:bm (X×aE)) (a:X) (c:bE):iA:=
 match aq tt c,aq d a,aq e a with
 |some f,Y b,bo=>match mN b with
  |some g=>bif bd f b then .e6 (.ref a []) [(a,⟨.optr b,g⟩)] else .bad
  |none=>.bad
 |_,_,_=>.bad
theorem Yields.box {g:q.den} {cs:ez} (p:aq st.h b=bo) (i:cP C st a.tmps w I rt fp) (_hT:fx E.P q x) (s:(bM a.eval o).run E.P w=.ok (.value (.pointer (Y ⟨w.heap.size,0,bo⟩))) (w.alloc (.cells cs.toArray x))) (u:∀k,(∀e c,bf I C.B e c->dd w k c)->aW (bf I C.B) k q cs g []) (r:Q (.ref b []) [(b,⟨.optr q,g⟩)]):Yields E C st a w I rt fp o Q:=by have l:∀e c,bf I C.B e c->dd w (w.alloc (.cells cs.toArray x)) c:=λe c m=>.of_heap ((hC.alloc w _).heap c (i.ib c (nH m)));have j:=u _ l;have n:=j.len;refine .new (d:=b) (t:=⟨.optr q,g⟩) (cs:=[.pointer (Y ⟨w.heap.size,0,bo⟩)]) (f:=[w.heap.size]) p i s bn ⟨w.heap.size,0,[],cs,bn,bn,n,fE.alloc (λy z v=>by grind),ja.alloc (by grind),j⟩ ac ac r
theorem VM (g:cP C st a.tmps w I rt fp) (k:o.op=.alloc x) (c:(xo E.tt l st.h b x).K Q):Yields E C st a w I rt fp o Q:=by
 unfold xo at c;split at c
 case h_2=>exact c.elim
 rename_i f q i s j;split at c
 case h_2=>exact c.elim
 rename_i y m;cases d:bd f q with
 |false=>rw[d] at c;exact c.elim
 |true=>
  rw[d] at c;have e:=(E.ok x f i).lay d;obtain⟨t,r,ax,n,u,p⟩:=wW e m;refine .box (cs:=r.cells.toList) j g e ?_ (λv _=>p _ _) c;simp[bM,k,Instr.alloc,als,alI,ax,n,newVar,alX]
def z5 (tt:bm (bE×ah)) (e:bm (X×aE)) (a:X) (d:bE) (b:ak):iA:=
 match aq tt d,aq e a with
 |some f,bo=>match b with
  |.val c b=>bif bd f c then .e6 (.ref a []) [(a,⟨.optr c,b⟩)] else .bad
  |_=>.bad
 |_,_=>.bad
theorem Wj (j:cP C st a.tmps w I rt fp) (t:o.op=.box x c) (d:(z5 E.tt st.h b x (aX st.g c)).K Q):Yields E C st a w I rt fp o Q:=by
 have f:=j.aX c;unfold z5 at d;split at d
 case h_2=>exact d.elim
 rename_i l r s;split at d
 case h_2=>exact d.elim
 rename_i y B p;cases e:bd l y with
 |false=>rw[e] at d;exact d.elim
 |true=>
  rw[e] at d;rw[p] at f;generalize u:a.eval c=z at f;cases f with|val i=>
  rename_i m;have k:=(E.ok x l r).lay e;refine .box (cs:=m) s j k ?_ (λA q=>i.mono (λv n e=>⟨e,q v n e⟩) ac) d;simp[bM,t,u,an3,newVar,alX,pc k i.len i.one]
def coe (a:ah) (b:ak):bu a.den:=
 match b with
 |.val d b=>if h:d=a then Y (h▸b) else bo
 |.eB c=>ji a c.cells.toList
 |_=>bo
def z9 (a:ah):bm ak->bu (bm a.den)
 |[]=>Y []
 |x::c=>match coe a x,z9 a c with
  |some d,Y b=>Y (d::b)
  |_,_=>bo
theorem Il (h:fx E.P d x) (c:cT e w u rt fp V R) {f:d.den} (a:coe d V=Y f):aW e w d R.cells.toList f []:=by
 unfold coe at a;split at a
 ·rename_i j i;split at a
  ·rename_i g;subst g;cases a;cases c with|val b=>
   rw[pc h b.len b.one];exact b
  grind
 ·cases c;exact qJ a
 grind
def wI:bm (X×bL)->X->bz
 |[],_=>bp
 |q::b,a=>bH q.1 a&&wI b (a+1)
def xD (tt:bm (bE×ah)) (g:bm (X×ah)) (i:bm (X×aE)) (h:bL->ak) (b:X) (f:bE) (d:X) (c:bm (X×bL)):iA:=
 match g4 tt f,aq i b with
 |some e,bo=>
  let a:=match aq g b with|some (.osl a)=>a|_=>e
  bif bd e a&&b2 a.size 2000&&b2 d 1000&&wI c 0&&bH c.length d then
   match z9 a (c.map λj=>h j.2) with
   |some k=>.e6 (.ref b []) [(b,⟨.osl a,k⟩)]
   |none=>.bad
  else .bad
 |_,_=>.bad
theorem N5 {d:ah}:∀{c:bm ak} {b:bm d.den},z9 d c=Y b->b.length=c.length/\∀(e:X) (f:d.den),b[e]?=Y f->∃y:ak,c[e]?=Y y/\coe d y=Y f
 |[],b,a=>by cases a;grind
 |y::c,b,a=>by
  simp only[z9] at a;split at a
  ·rename_i l k j g;cases a;obtain⟨h,i⟩:=N5 g;grind
  grind
theorem sA:∀{e:bm (X×bL)} {d:X},wI e d=bp->∀(a:X) (b:X×bL),e[a]?=Y b->b.1=d+a
 |[],_,_,a,b,c=>by grind
 |x::e,d,c,a,b,f=>by
  simp only[wI,cF] at c;cases a with
  |zero=>simp_all
  |succ a=>have:=sA c.2 a b (by grind);omega
theorem Wn (G:cP C st a.tmps w I rt fp) {j:bT (X×bL)} (d0:o.op=.buildSlice x b j) (k:(xD E.tt l st.h (aX st.g) i x b j.toList).K Q):Yields E C st a w I rt fp o Q:=by
 unfold xD at k;split at k
 case h_2=>exact k.elim
 rename_i a0 cv c1;generalize fn:(match aq l i with|some (.osl e)=>e|_=>a0)=e at k;simp only at k;cases n:(bd a0 e&&b2 e.size 2000&&b2 b 1000&&wI j.toList 0&&bH j.toList.length b) with
 |false=>rw[n] at k;exact k.elim
 |true=>
  rw[n] at k;simp only[cF] at n;obtain⟨⟨⟨⟨a4,A⟩,D⟩,F⟩,O⟩:=n;have A:=g1 A;have D:=g1 D;have O:j.toList.length=b:=fH O;simp only[bF] at k;split at k
  case h_2=>exact k.elim
  rename_i r d5;obtain⟨am,M,_,ci,co⟩:=g4.ok cv;have u:=co.lay a4;obtain⟨J,d9,an,_⟩:=u.info;have ex:=u.pos;obtain⟨bl,bs⟩:=N5 d5;simp only[dh] at bl;have d4:r.length=b:=aa;have en:b*e.size<=16777216:=(by have:b*e.size<=1000*2000:=nr D A;omega);have R:∀(c:X) (m:X×bL),j.toList[c]?=Y m->∃p:e.den,r[c]?=Y p/\aW (bf I C.B) w e (a.eval m.2).cells.toList p []:=(by intro c m v;have dl:c<r.length:=(by grind);obtain⟨f5,al,y⟩:=bs c r[c] ac;rw[j3,v] at al;simp only[jr,eZ] at al;subst al;exact⟨r[c],ac,Il u (G.aX m.2) y⟩);obtain⟨ad,c2,dg⟩:∃a3:ew,(b*e.size=0->a3=#[])/\(b*e.size≠0->∃s,(als M).run E.P w=.ok s w/\a3=s.cells):=by
   by_cases q:b*e.size=0
   ·simp_all
   obtain⟨s,_,d7⟩:=fx.JC u;exact⟨s.cells,λk=>absurd k q,λ_=>⟨s,by simp[als,alI,an.info,d7 J an.info],bn⟩⟩
  obtain⟨ap,av,fT,f0,aV⟩:=A8 (λJ=>Y (J*e.size,e.size)) (j.toList.map λm=>(m.1,a.eval m.2)) ((Array.range (b*e.size)).map (ad[· %ad.size]!)) (by
   intro m d2;obtain⟨fz,d1,rfl⟩:=eS.1 d2;obtain⟨c,v,rfl⟩:=g8.1 d1;have z:j.toList[c]?=Y j.toList[c]:=ac;obtain⟨p,_,H⟩:=R c _ z;have ek:=sA F c _ z;have:(c+1)*e.size<=b*e.size:=gj _ aa;rw[jD,h3] at this;refine⟨_,_,bn,by have:=H.len;omega,?_⟩;grind) (by
   rw[iz];intro c L v ds dl fs f1 ft f3 al y;simp only[lR,eZ,iK] at al y;simp only[dh] at v ds;have bx:=sA F c j.toList[c] ac;have f2:=sA F L j.toList[L] ac;obtain⟨rfl,rfl⟩:=al;obtain⟨rfl,rfl⟩:=y;left;rw[bx,f2];have:(0+c+1)*e.size<=(0+L)*e.size:=gj _ aa;grind)
  have fl:ap.size=b*e.size:=(by grind);refine .new (d:=i) (t:=⟨.osl e,r⟩) (cells:=ap) (T:=M) (cs:=[.slice (Y ⟨w.heap.size,0,bo⟩) b b]) (f:=[w.heap.size]) c1 G ?_ bn ?_ ac ac k
  ·have d3:=u.sizeOf w;have eq:¬(16777216<b*e.size):=aa;have S:(an4 (λp=>(p.fst,a.eval p.snd)) j).toList=j.toList.map λm=>(m.1,a.eval m.2):=ac;simp only[bM,d0,Instr.buildSlice,bW,b7 ci,b1,d3];rw[ar aa];by_cases q:b*e.size=0
   ·rw[au q];obtain rfl:=c2 q;rw[S];simp only[bW,ct,b1,av,alX,newObj];rfl
   rw[ar q];obtain⟨s,d6,rfl⟩:=dg q;rw[S];simp only[bW,ct,b1,d6,av,alX,newObj];rfl
  refine⟨Y ⟨w.heap.size,0,bo⟩,b,by rw[d4],.inr ⟨w.heap.size,0,bJ b [],bn,ac,by grind,(by grind),ja.alloc aa,λc p ce H el=>?_⟩⟩;have v:c<b:=(by grind);obtain rfl:[]=ce:=(by grind);have z:j.toList[c]?=Y (j.toList[c]'(by omega)):=by simp
  obtain⟨f4,V,U⟩:=R c _ z;rw[H] at V;obtain rfl:=gC V;refine⟨_,U.len,fE.alloc (λam d8 em=>?_),U.mono (λfr N n=>⟨n,.of_heap ((hC.alloc w _).heap N (G.ib N (nH n)))⟩) ac⟩;have:=aV (j.toList[c].1,a.eval j.toList[c].2) (eS.2 ⟨j.toList[c],cL _,bn⟩) _ _ rfl am d8 (by grind);grind [sA]
end
end
section
def mF (a:bm (X×bL)) (b:X):ev:=aq a b
def qY (
 g:bL->ak) (e:bm (X×bL)):ah->X->bu aE
 |.pr a h,d=>
  match(match mF e d with
   |none=>match mN a with
    |some j=>Y (⟨a,j⟩:aE)
    |none=>bo
   |some c=>match g c with
    |.val f b=>bif bd a f then Y ⟨f,b⟩ else bo
    |.eB i=>match ji a i.cells.toList with
     |some b=>Y ⟨a,b⟩
     |none=>bo
    |_=>bo),qY g e h (d+1) with
  |some c,Y b=>Y ⟨.pr c.1 b.1,(c.2,b.2)⟩
  |_,_=>bo
 |.nil,_=>Y ⟨.nil,()⟩
 |_,_=>bo
def m6:bm (X×bL)->X->bz
 |[],_=>bp
 |q::b,a=>b2 a q.1&&m6 b (q.1+1)
def gQ:ah->X
 |.pr _ a=>gQ a+1
 |_=>0
theorem JG:∀{e:bm (X×bL)} {d:X},m6 e d=bp->∀b∈e,d<=b.1
 |[],_,_,b,a=>by cases a
 |x::e,d,a,b,c=>by
  simp only[m6,cF] at a;rcases fF.1 c with rfl|c
  ·simp_all
  have:=JG a.2 b c;have:=g1 a.1;omega
def JI:∀{b:bm (X×bL)} {d:X},m6 b d=bp->b.Pairwise λc f=>c.1<f.1
 |[],_,_=>ans
 |x::b,d,a=>by simp only[m6,cF] at a;exact arf (λc e=>by have:=JG a.2 c e;omega) (JI a.2)
theorem Bp {e:Type}:∀{d:bm (X×e)} {b:X} {c:e},aq d b=Y c->(b,c)∈d
 |[],_,_,a=>by cases a
 |(f,v0)::r,b,c,a=>by
  rw[eC] at a;split at a
  ·grind
  exact gx _ (Bp a)
def J9 {g:Type}:∀{e:bm (X×g)} {d:X},aq e d=bo->∀c∈e,c.1≠d
 |[],_,_,c,a=>by cases a
 |(h,v0)::r,d,b,c,a=>by
  rw[eC] at b;split at b
  ·cases b
  rename_i f;rcases fF.1 a with rfl|a
  ·exact f
  exact J9 b c a
theorem sr {j:bY}:∀{u:ah} {l:bm alz} {e:X} {f:ez},i9 j u l e f->∀d,d<gQ u->∃h i,fR u d=Y (h,i)
 |.pr a g,k::m,e,f,c,0,_=>⟨_,_,bn⟩
 |.pr a g,k::m,e,f,c,d+1,b=>by obtain⟨h,i,n⟩:=sr (u:=g) c.2.2.2.2 d (by grind [gQ]);grind [fR]
 |.pr _ _,[],_,_,c,_,_=>c.elim
 |.int _,_,_,_,_,_,b=>by grind [gQ]
 |.bool,_,_,_,_,_,b=>by grind [gQ]
 |.str,_,_,_,_,_,b=>by grind [gQ]
 |.a8 _ _,_,_,_,_,_,b=>by grind [gQ]
 |.osl _,_,_,_,_,_,b=>by grind [gQ]
 |.ptr _ _,_,_,_,_,_,b=>by grind [gQ]
 |.optr _,_,_,_,_,_,b=>by grind [gQ]
 |.st _,_,_,_,_,_,b=>by grind [gQ]
 |.nil,_,_,_,_,_,b=>by grind [gQ]
 |.eI,_,_,_,_,_,b=>by grind [gQ]
theorem vQ:∀{u:ah} {e c:X} {s s':bm a6} {t t':ah},fR u e=Y (s,t)->fR u c=Y (s',t')->e<c->fK u e+t.size<=fK u c
 |.pr a f,0,c+1,s,s',t,t',b,d,_=>by simp only[fR,eZ,iK] at b;obtain⟨_,rfl⟩:=b;simp[fK]
 |.pr a f,e+1,c+1,s,s',t,t',b,d,k=>by
  simp only[fR] at b d;cases g:fR f e with
  |none=>grind
  |some i=>
   cases h:fR f c with
   |none=>grind
   |some j=>
    rw[g] at b;rw[h] at d;simp only[eZ,iK] at b d;obtain⟨_,rfl⟩:=b;obtain⟨_,rfl⟩:=d;have:=vQ (u:=f) (s:=i.1) (t:=i.2) (s':=j.1) (t':=j.2) g h aa;grind [fK]
 |.int _,_,_,_,_,_,_,b,_,_=>by cases b
 |.bool,_,_,_,_,_,_,b,_,_=>by cases b
 |.str,_,_,_,_,_,_,b,_,_=>by cases b
 |.a8 _ _,_,_,_,_,_,_,b,_,_=>by cases b
 |.osl _,_,_,_,_,_,_,b,_,_=>by cases b
 |.ptr _ _,_,_,_,_,_,_,b,_,_=>by cases b
 |.optr _,_,_,_,_,_,_,b,_,_=>by cases b
 |.st _,_,_,_,_,_,_,b,_,_=>by cases b
 |.nil,_,_,_,_,_,_,b,_,_=>by cases b
 |.eI,_,_,_,_,_,_,b,_,_=>by cases b
theorem Jm:∀{u:ah} {c:X} {s:bm a6} {t:ah},fR u c=Y (s,t)->c<gQ u
 |.pr a d,0,_,_,_=>by simp[gQ]
 |.pr a d,c+1,s,t,b=>by
  simp only[fR] at b;split at b
  ·rename_i e f;have:=Jm (u:=d) (s:=e.1) (t:=e.2) f;grind [gQ]
  grind
 |.int _,_,_,_,b=>by cases b
 |.bool,_,_,_,b=>by cases b
 |.str,_,_,_,b=>by cases b
 |.a8 _ _,_,_,_,b=>by cases b
 |.osl _,_,_,_,b=>by cases b
 |.ptr _ _,_,_,_,b=>by cases b
 |.optr _,_,_,_,b=>by cases b
 |.st _,_,_,_,b=>by cases b
 |.nil,_,_,_,b=>by cases b
 |.eI,_,_,_,b=>by cases b
theorem JH:∀{d:bm (X×bL)} {e:X} {b:X×bL},m6 d e=bp->b∈d->mF d b.1=Y b.2
 |[],_,_,_,a=>by cases a
 |x::d,e,b,a,c=>by
  simp only[m6,cF] at a;obtain⟨f,g⟩:=x;unfold mF;rw[eC];rcases fF.1 c with rfl|c
  ·rw[au bn]
  have:=JG a.2 b c;simp only at this;rw[ar aa];exact JH a.2 c
section
variable {E:fM} {C:e7} {st:aR} {a:Act} {w:bC} {I:X->Prop} {rt:X->ez} {fp:X->ak9} {o:bQ} {Q:ak->bm (X×aE)->Prop}
def z2 (tt:bm (bE×ah)) (e:bL->ak) (d:bE) (a:bm (X×bL)):iA:=
 match l1 tt d with
 |none=>.bad
 |some c=>bif m6 a 0&&a.all (λf=>cb f.1 (gQ c)) then match qY e a c 0 with
  |some b=>.e6 (.val (.st b.1) b.2) []
  |none=>.bad
  else .bad
theorem QM {z:bY} {l:eH->X->Prop} {b:bm (X×aE)} {q:bL->ak} {j:bL->Value} (v:∀c,cT l w b rt fp (q c) (j c)) {parts:bm (X×bL)} {cells:ez}:∀{u:ah} {n:X} {B:bm alz} {off:X} {zs:ez} {i:aE},i9 z u B off zs->qY q parts u n=Y i->cells.length=off+u.size->(∀e p d,fR u e=Y (p,d)->(∀c,mF parts (n+e)=Y c->(j c).cells.size=d.size/\(cells.drop (off+fK u e)).take d.size=(j c).cells.toList)/\(mF parts (n+e)=bo->(cells.drop (off+fK u e)).take d.size=(zs.drop (fK u e)).take d.size))->aW l w i.1 (cells.drop off) i.2 []/\i.1.size=u.size
 |.pr a A,n,L::V,off,zs,i,r,g,E,o=>by
  simp only[qY] at g;split at g
  case h_2=>cases g
  rename_i c am h I;cases g;obtain⟨M,C,N,⟨R,an,ax,T,U⟩,D⟩:=r;have t:=o 0 _ a bn;simp only[ml,fK,np] at t;have O:aW l w c.1 ((cells.drop off).take a.size) c.2 []/\c.1.size=a.size:=by
   split at h
   ·grind [wW]
   rename_i k F;have f:=v k;obtain⟨S,x⟩:=t.1 k F;split at h
   ·rename_i d K m;cases s:bd a d with
    |false=>grind
    |true=>
     rw[s] at h;cases h;rw[m] at f;rw[x];generalize H:j k=J at f;cases f with|val y=>
     rw[pc (C.lay s) y.len y.one];grind [bd.size]
   ·rename_i J m;split at h
    ·rename_i K Q;cases h;rw[m] at f;rw[x];generalize H:j k=ad at f;cases f;grind [qJ]
    grind
   grind
  have P:=QM v (parts:=parts) (cells:=cells) (u:=A) (n:=n+1) (off:=off+a.size) (zs:=zs.drop a.size) D I (by grind [ah.size]) (by
   intro e p d G;have:=o (e+1) (.snd::p) d (by simp[fR,G]);grind [ann,fK])
  refine⟨⟨[],[],bn,?_,?_⟩,by grind [ah.size]⟩
  ·grind
  simp_all
 |.nil,n,[],off,zs,i,r,g,E,o=>by cases g;exact⟨⟨bn,by grind [List.drop_eq_nil_iff,ah.size]⟩,bn⟩
 |.pr _ _,_,[],_,_,_,b,_,_,_=>b.elim
 |.nil,_,_::_,_,_,_,b,_,_,_=>b.elim
 |.int _,_,_,_,_,_,b,_,_,_=>by cases b
 |.bool,_,_,_,_,_,b,_,_,_=>by cases b
 |.str,_,_,_,_,_,b,_,_,_=>by cases b
 |.a8 _ _,_,_,_,_,_,b,_,_,_=>by cases b
 |.osl _,_,_,_,_,_,b,_,_,_=>by cases b
 |.ptr _ _,_,_,_,_,_,b,_,_,_=>by cases b
 |.optr _,_,_,_,_,_,b,_,_,_=>by cases b
 |.st _,_,_,_,_,_,b,_,_,_=>by cases b
 |.eI,_,_,_,_,_,b,_,_,_=>by cases b
theorem QN {z:bY} {m:eH->X->Prop} {b:bm (X×aE)} {o:bL->ak} {h:bL->Value} (p:∀c,cT m w b rt fp (o c) (h c)) {s:bm (X×bL)}:∀{u:ah} {n:X} {B:bm alz} {r:X} {y:ez} {x:aE},i9 z u B r y->qY o s u n=Y x->∀e v g,fR u e=Y (v,g)->∀c,mF s (n+e)=Y c->(h c).cells.size=g.size
 |.pr a A,n,N::T,r,y,x,E,k,e,v,g,d,c,q=>by
  simp only[qY] at k;split at k
  case h_2=>cases k
  rename_i V ad i I;obtain⟨O,C,P,⟨Q,am,ax,R,S⟩,D⟩:=E;cases e with
  |zero=>
   simp only[fR,eZ,iK] at d;obtain⟨_,rfl⟩:=d;rw[ml] at q;rw[q] at i;have f:=p c;simp only at i;split at i
   ·rename_i g L j;cases F:bd a g with
    |false=>grind
    |true=>
     rw[j] at f;generalize H:h c=K at f;cases f with|val l=>
     rw[pc (C.lay F) l.len l.one];have:=l.len;grind [bd.size]
   ·rename_i K j;split at i
    ·rename_i L J;rw[j] at f;generalize H:h c=U at f;cases f;have:=(qJ (M:=m) (w:=w) J).len;omega
    grind
   grind
  |succ e=>
   simp only[fR] at d;split at d
   ·rename_i t G;simp only[eZ,iK] at d;obtain⟨_,rfl⟩:=d;exact QN p (u:=A) (n:=n+1) D I e t.1 t.2 G c (by rwa[(aa:n+1+e=n+(e+1))])
   grind
 |.pr _ _,_,[],_,_,_,b,_,_,_,_,_,_,_=>b.elim
 |.nil,_,_,_,_,_,_,_,_,_,_,d,_,_=>by cases d
 |.int _,_,_,_,_,_,b,_,_,_,_,_,_,_=>by cases b
 |.bool,_,_,_,_,_,b,_,_,_,_,_,_,_=>by cases b
 |.str,_,_,_,_,_,b,_,_,_,_,_,_,_=>by cases b
 |.a8 _ _,_,_,_,_,_,b,_,_,_,_,_,_,_=>by cases b
 |.osl _,_,_,_,_,_,b,_,_,_,_,_,_,_=>by cases b
 |.ptr _ _,_,_,_,_,_,b,_,_,_,_,_,_,_=>by cases b
 |.optr _,_,_,_,_,_,b,_,_,_,_,_,_,_=>by cases b
 |.st _,_,_,_,_,_,b,_,_,_,_,_,_,_=>by cases b
 |.eI,_,_,_,_,_,b,_,_,_,_,_,_,_=>by cases b
theorem run_places {P:bY} (w:bC):∀(d:ah) (h:bm alz) (c:X) (g:ez),i9 P d h c g->(h.mapM λe=>do amq (e.offset,<-al0 e.type):Sem alb).run P w=.ok ((bI (gQ d)).map λf=>(c+fK d f,match fR d f with|some k=>k.2.size|none=>0)) w
 |.pr a i,e::l,c,g,b=>by have j:=run_places w i l (c+a.size) (g.drop a.size) b.2.2.2.2;simp only[List.mapM_cons,bW,b.2.1.sizeOf,b1,ct,j];simp only[gQ,List.range_succ_eq_map,gL,qt,b.1,fK,ml,fR];congr 2;apply iU;intro f _;simp only[Function.comp,fK,fR];grind
 |.nil,[],_,_,_=>rfl
 |.pr _ _,[],_,_,b=>b.elim
 |.nil,_::_,_,_,b=>b.elim
 |.int _,_,_,_,b=>by cases b
 |.bool,_,_,_,b=>by cases b
 |.str,_,_,_,b=>by cases b
 |.a8 _ _,_,_,_,b=>by cases b
 |.osl _,_,_,_,b=>by cases b
 |.ptr _ _,_,_,_,b=>by cases b
 |.optr _,_,_,_,b=>by cases b
 |.st _,_,_,_,b=>by cases b
 |.eI,_,_,_,b=>by cases b
theorem Wg (ap:cP C st a.tmps w I rt fp) {i:bT (X×bL)} (c1:o.op=.build x i) (e:(z2 E.tt (aX st.g) x i.toList).K Q):Yields E C st a w I rt fp o Q:=by
 unfold z2 at e;split at e
 ·exact e.elim
 rename_i b O;cases p:(m6 i.toList 0&&i.toList.all (λc=>cb c.1 (gQ b))) with
 |false=>rw[p] at e;exact e.elim
 |true=>
  rw[p] at e;simp only[cF,g7] at p;obtain⟨a3,F⟩:=p;simp only[bF] at e;split at e
  case h_2=>exact e.elim
  rename_i d5 av;obtain⟨q,r,j,a4,d8,bl,bs,m,d9⟩:∃q r j,E.P.info? x=some q/\q.size=b.size/\q.zero=some (.agg j)/\E.P.underlying x=some (.struct r)/\i9 E.P b r.toList 0 j.toList/\j.size=b.size:=by
   unfold l1 at O;split at O
   ·rename_i f0 ce;cases O;obtain⟨_,q,r,j,ax,eq,_,ex,fl,fn,fr⟩:=E.ok x _ ce;grind
   grind
  have S:=QN (λd=>ap.aX d) m av;have R:=run_places (P:=E.P) w b r.toList 0 j.toList m;simp only[mm] at R S;generalize el:((bI (gQ b)).map λk=>(fK b k,match fR b k with|some c=>c.2.size|none=>0))=U at R;have z:∀k M l,fR b k=Y (M,l)->k<gQ b->U.toArray[k]?=Y (fK b k,l.size):=(by grind);obtain⟨L,d1,fs,d2,aV⟩:=A8 (λq=>U.toArray[q]?) (i.toList.map λc=>(c.1,a.eval c.2)) j (by
   intro c A;obtain⟨h,G,rfl⟩:=eS.1 A;have t:h.1<gQ b:=g1 (F h G);obtain⟨M,l,f⟩:=sr m h.1 t;refine⟨_,_,z _ _ _ f t,S _ _ _ f h.2 ?_,by simp_all [yj]⟩;grind [JH]) (by
   rw[nW];refine(JI a3).imp_of_mem ?_;intro c V A dl t d0 d3 en ft al ad;have D:c.1<gQ b:=g1 (F c A);have a0:V.1<gQ b:=g1 (F V dl);obtain⟨d4,d6,s⟩:=sr m c.1 D;obtain⟨fz,fT,p⟩:=sr m V.1 a0;rw[z _ _ _ s D] at al;rw[z _ _ _ p a0] at ad;cases al;cases ad;exact .inl (vQ s p t))
  have em:L.toList.length=b.size:=(by grind);obtain⟨an,d7⟩:=QM (w:=w) (λd=>ap.aX d) (parts:=i.toList) (cells:=L.toList) (u:=b) (n:=0) (off:=0) m av aa (by
   intro J M l f;have ci:J<gQ b:=Jm f;simp only[mm];have ek:=yj f;refine⟨λd H=>?_,λH=>?_⟩
   ·have co:=Bp H;have T:=S J M l f d H;refine⟨T,?_⟩;apply ie;intro B;rcases cU B l.size with y|y
    ·obtain⟨N,ds⟩:∃N,(a.eval d).cells[B]?=some N:=⟨_,Cq aa⟩;have:=aV (J,a.eval d) (eS.2 ⟨(J,d),co,bn⟩) _ _ (z _ _ _ f ci) B N ds;grind
    grind
   apply ie;intro B;rcases cU B l.size with y|y
   ·rw[rF y,rF y,pt,pt];simp only[Cr];refine d2 _ ?_;intro c A d0 d3 al;obtain⟨h,G,rfl⟩:=eS.1 A;have cv:=J9 H h G;have D:h.1<gQ b:=g1 (F h G);obtain⟨d4,d6,s⟩:=sr m h.1 D;rw[z _ _ _ s D] at al;cases al;rcases Nat.lt_or_gt_of_ne cv with t|bx
    ·have:=vQ s f t;omega
    have:=vQ f s bx;omega
   grind)
  rw[np] at an;refine .pure (v:=.agg L) ?_ (.val (τ:=.st d5.1) (cs:=L.toList) an) e;have dg:(an4 (λd=>(d.fst,a.eval d.snd)) i).toList=i.toList.map λc=>(c.1,a.eval c.2):=ac;have c2:(r.mapM λam=>do amq (am.offset,<-al0 am.type):Sem (bT ej)).run E.P w=.ok U.toArray w:=(by rw[aoR,Sem.run_map,R];rfl);have T:(als x).run E.P w=.ok (.agg j) w:=(by simp[als,alI,a4,bl]);simp only[bM,c1,Instr.build,bW,T,b7 bs,b1,c2,dg,Value.cells,d1];rfl
end
end
section
def gd {α:Type}:bm (Z×α)->Z->bu α
 |[],_=>bo
 |(a,v)::r,k=>if a=k then Y v else gd r k
def ku {α:Type}:bm (Z×α)->Z->α->bm (Z×α)
 |[],k,v=>[(k,v)]
 |(a,u)::r,k,v=>if k<a then(k,v)::(a,u)::r else if k=a then(k,v)::r else(a,u)::ku r k v
def jF {α:Type} (l:bm (Z×α)) (a:Z):bm (Z×α):=l.filter λb=>br (b.1≠a)
def gO {α:Type} (b:bu (bm (Z×α)×X)) (a:Z):bu α:=b.bind λc=>gd c.1 a
def yB {α:Type} (a:bu (bm (Z×α)×X)):Z:=match a with|some b=>(b.1.length:Z)|none=>0
section
variable {α:Type}
theorem FP:∀{l:bm (Z×α)} {c:Z} {d:α},gd l c=Y d->(c,d)∈l
 |[],_,_,b=>by cases b
 |(a,u)::r,c,d,b=>by
  simp only[gd] at b;split at b
  ·grind
  exact gx _ (FP b)
theorem Qv:∀{l:bm (Z×α)} {c:Z},gd l c=bo->∀d,(c,d)∉l
 |[],_,_,_=>by simp
 |(a,u)::r,c,b,d=>by
  simp only[gd] at b;split at b
  ·cases b
  rename_i g;intro f;rcases fF.1 f with e|e
  ·grind
  exact Qv b d e
theorem TE {l:bm (Z×α)} (c:l.Pairwise (λa b=>a.1<b.1)):(l.map (·.1)).Nodup:=by grind
theorem aaa {l:bm (Z×α)} (c:(l.map (·.1)).Nodup) {a:Z} {b:α}:gd l a=Y b↔(a,b)∈l:=by
 constructor
 ·exact FP
 intro d
 induction l with
 |nil=>cases d
 |cons e h g=>
  obtain⟨f,i⟩:=e;simp only[gL,j4] at c;simp only[gd];grind
theorem Qw:∀{l:bm (Z×α)} {d:Z} {e:α} {c:Z×α},c∈ku l d e->c=(d,e)\/c∈l
 |[],d,e,c,b=>by grind [ku]
 |(a,u)::r,d,e,c,b=>by
  simp only[ku] at b;split at b
  ·grind
  split at b
  ·grind
  rcases fF.1 b with b|b
  ·grind
  exact(Qw b).imp id (gx _)
theorem Kf:∀{l:bm (Z×α)} {c:Z} {d:α},l.Pairwise (λa b=>a.1<b.1)->(ku l c d).Pairwise (λa b=>a.1<b.1)
 |[],c,d,_=>by simp[ku]
 |(a,u)::r,c,d,h=>by
  rw[nq] at h;simp only[ku];split
  ·grind [ant]
  rename_i g;split
  ·grind [ant]
  rename_i f;rw[nq];refine⟨λi e=>?_,Kf h.2⟩;rcases Qw e with rfl|e
  ·omega
  grind
def Z8 {l:bm (Z×α)} {d:Z} (c:l.Pairwise (λa b=>a.1<b.1)):(jF l d).Pairwise (λa b=>a.1<b.1):=c.filter _
theorem Ke:∀{l:bm (Z×α)} {k:Z} {v:α},l.Pairwise (λa b=>a.1<b.1)->(ku l k v).Perm ((k,v)::jF l k)
 |[],k,v,_=>by simp[ku,jF]
 |(a,u)::r,k,v,h=>by
  rw[nq] at h;simp only[ku];split
  ·rename_i d;have:jF ((a,u)::r) k=(a,u)::r:=by
    unfold jF;grind [amN]
   rw[this]
  rename_i d;split
  ·rename_i c;subst c;have:jF ((k,u)::r) k=r:=by
    unfold jF;rw[mh,ar ac,mU];grind
   rw[this]
  rename_i c;have:jF ((a,u)::r) k=(a,u)::jF r k:=(by unfold jF;grind);rw[this];exact((Ke h.2).cons _).trans (.swap _ _ _)
end
section
variable {P:bY} {w:bC} {b:X} {fa:bT cj} {c:X}
theorem oh:jw w b=Y (fa,c)↔w.heap[b]?=Y (.map fa c):=by grind [jw]
def rf (a:w.heap[b]?=Y (.map fa c)):(setObj b (.map o i)).run P w=.ok () {w with heap:=w.heap.setIfInBounds b (.map o i)}:=by simp[setObj,Sem.run,a]
def run_getObj_map (a:w.heap[b]?=Y (.map fa c)):(getObj b).run P w=.ok (.map fa c) w:=by simp[getObj,Sem.run,a]
theorem Pd {j:cr} (b:Z):∀(fa:bm cj) (c:ala) (d:X),fa.map (·.key)=c.map (aln .i64)->b∉c->amO (.int j) (.int .i64 b) fa d=Y bo
 |[],_,_,_,_=>rfl
 |e::fa,[],_,a,_=>by cases a
 |e::fa,f::c,d,a,h=>by simp only[gL,ia] at a;have i:(b==f)=bq:=(by grind);simp only[amO,a.1,aoS,ck,i];exact Pd b fa c (d+1) a.2 (λg=>h (gx _ g))
theorem Pe {kd:cr} (b:Z):∀(fa:bm cj) (d:ala) (f:X),fa.map (·.key)=d.map (aln .i64)->b∈d->∃c e,d[c]?=Y b/\fa[c]?=Y e/\amO (.int kd) (.int .i64 b) fa f=Y (Y (f+c,e.val))
 |[],[],_,_,a=>by cases a
 |[],_::_,_,a,_=>by cases a
 |e::fa,[],_,a,_=>by cases a
 |e::fa,g::d,f,a,m=>by
  simp only[gL,ia] at a;by_cases h:b=g
  ·subst h;refine⟨0,e,bn,bn,?_⟩;simp_all [ck,alJ,amO,aoS]
  have n:(b==g)=bq:=(by grind);obtain⟨c,i,j,k,l⟩:=Pe b fa d (f+1) a.2 ((fF.1 m).resolve_left h);refine⟨c+1,i,by simpa using j,by simpa using k,?_⟩;simp only[amO,a.1,aoS,ck,n];rw[l];grind
structure hD (M:eH->X->Prop) (w:bC) (t:ah) (b:X) (l:bm (Z×t.den)) (c:X) (fa:bT cj) (L:bm (Z×X×t.den)):Prop where
 pU:kU L l c
 h:w.heap[b]?=Y (.map fa c)
 n:fa.size=L.length
 e:∀(i:X) (q:Z×X×t.den),L[i]?=Y q->∃ds:ez,ds.length=t.size/\fa[i]?=Y (anZ (.int .i64 q.1) (c3 t ds) q.2.1)/\aW M w t ds q.2.2 []
variable {M:eH->X->Prop} {t:ah} {l:bm (Z×t.den)} {L:bm (Z×X×t.den)}
theorem hD.keys (f:hD M w t b l c fa L):fa.toList.map (·.key)=(L.map (·.1)).map (aln .i64):=by
 apply ie;intro d;simp only[j3,Cr];rcases cU d L.length with a|a
 ·obtain⟨g,_,h,_⟩:=f.e d L[d] (cE a);grind
 rw[oH a,Array.getElem?_eq_none (by rw[f.n];exact a)];rfl
def kU.keys {α:Type} {L:bm (Z×X×α)} {l:bm (Z×α)} {c:X} (a:kU L l c):(L.map (·.1)).Perm (l.map (·.1)):=by have:=a.2.1.map (·.1);rwa[qt] at this
def kU.nd {α:Type} {L:bm (Z×X×α)} {l:bm (Z×α)} {c:X} (a:kU L l c):(L.map (·.1)).Nodup:=a.keys.nodup_iff.2 (TE a.1)
def kU.mem {α:Type} {L:bm (Z×X×α)} {l:bm (Z×α)} {c:X} (b:kU L l c) {a:Z×X×α} (d:a∈L):gd l a.1=Y a.2.2:=
 (aaa (TE b.1)).2 (b.2.1.mem_iff.1 (eS.2 ⟨a,d,bn⟩))
theorem kU.len {α:Type} {L:bm (Z×X×α)} {l:bm (Z×α)} {c:X} (a:kU L l c):L.length=l.length:=by have:=a.2.1.length_eq;grind
theorem LB {P:bY} {w:bC} (e:P.underlying a=Y (.int v)) {b:Z} {fa:bm cj} {c:bu (X×Value)} (d:amO (.int v) (.int .i64 b) fa 0=Y c):(anu a (.int .i64 b) fa).run P w=.ok c w:=by simp_all [bW,b7,b1,anu]
def pe {P:bY} {w:bC} (c:P.underlying a=Y (.int v)) (b:bz) (e:X) (d:Z):(apX b (e+1) a (.int .i64 d)).run P w=.ok () w:=by simp[apX,bW,b7 c]
theorem hD.find (j:hD M w t b l c fa L) (u:P.underlying a=Y (.int v)) (d:Z):(gd l d=bo/\(∀o∈L,o.1≠d)/\∀f,(anu a (.int .i64 d) fa.toList).run P f=.ok bo f)\/∃h m i g,gd l d=Y i/\L[h]?=Y (d,m,i)/\g.length=t.size/\fa[h]?=Y ⟨.int .i64 d,c3 t g,m⟩/\aW M w t g i []/\∀f,(anu a (.int .i64 d) fa.toList).run P f=.ok (Y (h,c3 t g)) f:=by
 by_cases k:d∈L.map (·.1)
 ·obtain⟨h,q,r,s,B⟩:=Pe (kd:=v) d fa.toList _ 0 j.keys k;rw[j3] at r;obtain⟨⟨C,m,i⟩,n,rfl⟩:=fO.1 r;obtain⟨g,x,p,y⟩:=j.e h _ n;rw[Cr,p] at s;cases s;refine .inr ⟨h,m,i,g,j.pU.mem (qu n),n,x,p,y,λf=>LB u ?_⟩;grind
 refine .inl ⟨?_,λo A q=>k (eS.2 ⟨o,A,q⟩),λf=>LB u (Pd d _ _ 0 j.keys k)⟩;cases z:gd l d with
 |none=>rfl
 |some i=>exact absurd (j.pU.keys.mem_iff.2 (eS.2 ⟨_,FP z,bn⟩)) k
def hD.empty (M:eH->X->Prop) (t:ah) (a:w.heap[b]?=Y (.map #[] 0)):hD M w t b [] 0 #[] []:=
 ⟨⟨.nil,.refl _,.nil,ac⟩,a,bn,ac⟩
def wi {α:Type} (L:bm (Z×X×α)) (a:Z) (d:α) (c:X):bm (Z×X×α)×X:=
 if a∈L.map (·.1) then(L.map λb=>if b.1=a then(a,b.2.1,d) else b,c) else(L++[(a,c,d)],c+1)
theorem R9 {α:Type} {c:Z} {g:α}:∀{b:bm (Z×α)},(b.map (·.1)).Nodup->c∈b.map (·.1)->(b.map λd=>if d.1=c then(c,g) else d).Perm ((c,g)::jF b c)
 |[],_,e=>by cases e
 |(a,u)::b,e,j=>by
  simp only[gL,j4] at e;simp only[gL];by_cases h:a=c
  ·subst h;rw[au bn];have i:(b.map λd=>if d.1=a then(a,g) else d)=b:=by
    conv=>rhs;rw[<-List.map_id b]
    refine iU λd k=>?_;grind
   have f:jF ((a,u)::b) a=b:=(by unfold jF;rw[mh,ar ac,mU];grind);rw[i,f]
  rw[ar h];have f:jF ((a,u)::b) c=(a,u)::jF b c:=(by simp_all [mh,au,jF]);rw[f];refine((R9 e.2 ?_).cons _).trans (.swap _ _ _);grind
theorem kU.put {α:Type} {L:bm (Z×X×α)} {l:bm (Z×α)} {c:X} (e:kU L l c) (d:Z) (g:α):kU (wi L d g c).1 (ku l d g) (bif (gd l d).isSome then c else c+1)/\(wi L d g c).2=(bif (gd l d).isSome then c else c+1):=by
 have i:(gd l d).isSome=br (d∈L.map (·.1)):=by
  by_cases h:d∈L.map (·.1)
  ·obtain⟨a,f,rfl⟩:=eS.1 h;rw[e.mem f,alg h];rfl
  rw[alK h];cases i:gd l d with
  |none=>rfl
  |some v=>exact absurd (e.keys.mem_iff.2 (eS.2 ⟨_,FP i,bn⟩)) h
 rw[i];unfold wi;have n:((L.map λa=>(a.1,a.2.2)).filter λa=>br (a.1≠d)).Perm (jF l d):=e.2.1.filter _;by_cases h:d∈L.map (·.1)
 ·rw[au h,alg h];refine⟨⟨Kf e.1,?_,?_,?_⟩,bn⟩
  ·have al:((L.map λa=>if a.1=d then(d,a.2.1,g) else a).map λa=>(a.1,a.2.2))=(L.map λa=>(a.1,a.2.2)).map λa=>if a.1=d then(d,g) else a:=by
    simp only[qt];refine iU λa _=>?_;grind
   show((L.map λa=>if a.1=d then(d,a.2.1,g) else a).map λa=>(a.1,a.2.2)).Perm _;rw[al];refine(R9 ?_ ?_).trans ((n.cons _).trans (Ke e.1).symm)
   ·rw[qt];exact e.nd
   grind
  ·have al:((L.map λa=>if a.1=d then(d,a.2.1,g) else a).map λa=>a.2.1)=L.map λa=>a.2.1:=by
    grind [alA,List.map_map]
   show((L.map λa=>if a.1=d then(d,a.2.1,g) else a).map λa=>a.2.1).Nodup;rw[al];exact e.2.2.1
  intro a f;obtain⟨p,o,rfl⟩:=eS.1 f;have:=e.2.2.2 p o;grind
 rw[ar h,alK h];refine⟨⟨Kf e.1,?_,?_,?_⟩,bn⟩
 ·have j:jF l d=l:=by
   unfold jF;rw[mU];intro a f;simp only[alB];rintro rfl;exact h (e.keys.mem_iff.2 (eS.2 ⟨a,f,bn⟩))
  have:=Ke (k:=d) (v:=g) e.1;rw[j] at this;refine List.Perm.trans ?_ this.symm;show((L++[(d,c,g)]).map λa=>(a.1,a.2.2)).Perm _;rw[jC];exact List.perm_append_comm.trans ((e.2.1).cons _)
 ·show((L++[(d,c,g)]).map λa=>a.2.1).Nodup;rw[jC,iI];refine⟨e.2.2.1,ac,λq m b s r=>?_⟩;obtain⟨a,f,rfl⟩:=eS.1 m;have:=e.2.2.2 a f;grind
 intro a f;rcases g0.1 f with f|f
 ·have:=e.2.2.2 a f;grind
 grind
theorem Pa {α:Type} {h:Z}:∀{b:bm α} (a:α->Z) {f:X} {d:α},(b.map a).Nodup->b[f]?=Y d->a d=h->b.eraseIdx f=b.filter λi=>br (a i≠h)
 |[],a,f,d,_,c,_=>by grind
 |x::b,a,0,d,e,c,g=>by simp only[rE,eZ] at c;subst c;simp only[gL,j4] at e;rw[List.eraseIdx_cons_zero,mh,ar (by grind),mU.2];grind
 |x::b,a,f+1,d,e,c,g=>by simp only[w9] at c;simp only[gL,j4] at e;rw[List.eraseIdx_cons_succ,mh,au,Pa a e.2 c g];grind
def kU.del {α:Type} {L:bm (Z×X×α)} {l:bm (Z×α)} {c:X} (b:kU L l c) (d:Z):kU (L.filter λa=>br (a.1≠d)) (jF l d) c:=by
 refine⟨Z8 b.1,?_,?_,λa e=>b.2.2.2 a (h1.1 e).1⟩
 ·have:=b.2.1.filter (λa=>br (a.1≠d));rw[aoT] at this;exact this
 exact b.2.2.1.sublist (uS.map _)
def aW.QR (a:hD M w t b l c fa L):aW M w (.mp t) [.map (Y b)] (Y (l,c)) [b]:=⟨b,fa,L,bn,bn,a.pU,oh.2 a.h,a.n,a.e⟩
def aW.QQ (a:aW M w (.mp t) h (Y (l,c)) k):∃b fa L,h=[.map (Y b)]/\k=[b]/\hD M w t b l c fa L:=by obtain⟨b,fa,L,d,e,f,g,i,j⟩:=a;exact⟨b,fa,L,d,e,f,oh.1 g,i,j⟩
def aW.ahz {a:eH} (d:aW M w (.fj a t) h (Y (l,c)) k):∃b fa L,h=[.map (Y b)]/\k=[]/\M a b/\hD M w t b l c fa L:=by obtain⟨b,fa,L,e,f,g,n,i,j,m⟩:=d;exact⟨b,fa,L,e,f,n,g,oh.1 i,j,m⟩
def gX (w:bC) (b:X) (fa:bT cj) (c:X):World:={w with heap:=w.heap.setIfInBounds b (.map fa c)}
theorem pf (a:w.heap[b]?=Y (.map fa c)):(gX w b o i).heap[b]?=Y (.map o i):=by grind [Array.getElem?_eq_some_iff,gX]
theorem B8 {a:X} (c:i≠b):(gX w b o a).heap[i]?=w.heap[i]?:=by grind [Array.getElem?_setIfInBounds_ne,gX]
theorem Tr:(gX w b o i).heap.size=w.heap.size:=by simp[gX]
theorem af3 {es':bT cj} {c':X} (d:w.heap[b]?=Y (.map fa c)) (a:Addr):(gX w b es' c').cell? a=w.cell? a:=by grind [apR,B8,pf,amr]
theorem af4 {es':bT cj} {c':X} (d:w.heap[b]?=Y (.map fa c)) (a:Addr):(gX w b es' c').frozen? a=w.frozen? a:=by grind [apS,B8,pf,an5]
def GM {a:X} (c:i≠b):dd w (gX w b o a) i:=.of_heap (B8 c)
theorem hD.update (f:hD M w t b l c fa L) (H:P.underlying x=Y (.map a T)) (D:P.underlying a=Y (.int v)) (d:Z) {m:t.den} (ap:N.length=t.size) (ci:aW M w t N m []):∃s J,(al2 x (.map (Y b)) (.int .i64 d) (c3 t N)).run P w=.ok () (gX w b s (bif (gd l d).isSome then c else c+1))/\(∀{u:eH->X->Prop},(∀q d,M q d->u q d/\d≠b)->hD u (gX w b s (bif (gd l d).isSome then c else c+1)) t b (ku l d m) (bif (gd l d).isSome then c else c+1) s J)/\li w (gX w b s (bif (gd l d).isSome then c else c+1)) b:=by
 have bl:∀{u:eH->X->Prop} {s:bT cj} {K:X},(∀q d,M q d->u q d/\d≠b)->∀{N:ez} {m:t.den},aW M w t N m []->aW u (gX w b s K) t N m []:=
  λy _ _ ce=>ce.mono (λq d B=>⟨(y q d B).1,GM (y q d B).2⟩) ac
 obtain⟨p,cv⟩:=f.pU.put d m;rcases f.find (P:=P) D d with⟨C,F,G⟩|⟨A,dg,dl,co,C,F,G,ad,cs,am⟩
 ·rw[C] at p|-;have B:d∉L.map (·.1):=λc1=>(by grind);simp only[aoU,bP] at p|-;have al:(wi L d m c).1=L++[(d,c,m)]:=(by simp_all [ar,wi]);rw[al] at p;refine⟨fa.push ⟨.int .i64 d,c3 t N,c⟩,L++[(d,c,m)],?_,λy=>⟨p,pf f.h,by simp[f.n],λk g o=>?_⟩,?_⟩
  ·simp only[al2,bW,b7 H,b1,run_getObj_map f.h,pe D,G];exact rf f.h
  ·rcases cU k L.length with E|E
   ·rw[qp E] at o;obtain⟨U,Q,R,S⟩:=f.e k g o;grind
   rw[rD E] at o;have a0:k-L.length=0:=(by grind);rw[a0] at o;simp only[rE,eZ] at o;subst o;exact⟨N,ap,by rw[Array.getElem?_push,au (by rw[f.n];omega)],bl y ci⟩
  intro V O z;rw[oh.2 f.h] at z;cases z;refine⟨_,_,oh.2 (pf f.h),Nat.le_succ _,λk r av an=>?_⟩;grind
 rw[C] at p|-;have B:d∈L.map (·.1):=eS.2 ⟨_,qu F,bn⟩;simp only[an6,bF] at p|-;have al:(wi L d m c).1=L.map λg=>if g.1=d then(d,g.2.1,m) else g:=by simp_all [au,wi]
 rw[al] at p;have c2:∀(k:X) (g:Z×X×t.den),L[k]?=Y g->g.1=d->k=A:=λk g o r=>(by have bs:=f.pU.nd;have a3:k<(L.map (·.1)).length:=(by grind);have:=an7 a3 bs (i:=k) (j:=A);grind);refine⟨fa.modify A λr=>{r with key:=.int .i64 d,val:=c3 t N},L.map λg=>if g.1=d then(d,g.2.1,m) else g,?_,λy=>⟨p,pf f.h,by simp[f.n],λk g o=>?_⟩,?_⟩
 ·have a4:(amP (((fa[A]?).map (·.key)).getD (.int .i64 d)) (.int .i64 d)).run P w=.ok (.int .i64 d) w:=by
   rw[ad];simp[amP,aoV]
  simp only[al2,bW,b7 H,b1,run_getObj_map f.h,pe D,am,a4];exact rf f.h
 ·rw[j3] at o;obtain⟨I,bx,rfl⟩:=fO.1 o;by_cases r:I.1=d
  ·grind
  rw[ar r];obtain⟨U,Q,R,S⟩:=f.e k I bx;grind
 intro V O z;rw[oh.2 f.h] at z;cases z;refine⟨_,_,oh.2 (pf f.h),bc _,λk r av an=>?_⟩;grind
theorem hD.delete (d:hD M w t b l c fa L) (H:P.underlying x=Y (.map a T)) (u:P.underlying a=Y (.int v)) (f:Z) (av:bE) (O:bE):∃k N,(aoW #[x,O] av #[.map (Y b),.int .i64 f]).run P w=.ok (.tuple #[]) (gX w b k c)/\(∀{p:eH->X->Prop},(∀g f,M g f->p g f/\f≠b)->hD p (gX w b k c) t b (jF l f) c k N)/\li w (gX w b k c) b:=by
 have a4:∀{p:eH->X->Prop} {k:bT cj} {Q:X},(∀g f,M g f->p g f/\f≠b)->∀{C:ez} {K:t.den},aW M w t C K []->aW p (gX w b k Q) t C K []:=
  λr _ _ ap=>ap.mono (λg f J=>⟨(r g f J).1,GM (r g f J).2⟩) ac
 rcases d.find (P:=P) u f with⟨V,s,F⟩|⟨o,bs,bx,a0,V,s,F,G,a3,ad⟩
 ·have al:jF l f=l:=by
   unfold jF;rw[mU];intro j bl;simp only[alB];grind [Qv]
  refine⟨fa,L,?_,λr=>⟨by rw[al];exact d.pU,pf d.h,d.n,λi j m=>?_⟩,?_⟩
  ·simp only[aoW,bW,b7 H,b1,run_getObj_map d.h,pe u,F,aoX,rE,w9];rw[rf d.h];rfl
  ·obtain⟨D,z,A,B⟩:=d.e i j m;grind
  intro U R q;rw[oh.2 d.h] at q;cases q;exact⟨_,_,oh.2 (pf d.h),bc _,λi E I _=>⟨i,E,I,bn,bn⟩⟩
 have S:L.eraseIdx o=L.filter λj=>br (j.1≠f):=Pa (·.1) d.pU.nd s bn;refine⟨fa.eraseIdxIfInBounds o,L.eraseIdx o,?_,λr=>⟨by rw[S];exact d.pU.del f,pf d.h,?_,λi j m=>?_⟩,?_⟩
 ·simp only[aoW,bW,b7 H,b1,run_getObj_map d.h,pe u,ad,aoX,rE,w9];rw[rf d.h];rfl
 ·have y:o<fa.size:=(sL.1 G).1;have am:o<L.length:=(h0.1 s).1;rw[apY,ams y,Array.size_eraseIdx,List.length_eraseIdx,au am,d.n]
 ·have y:o<fa.size:=(sL.1 G).1;rw[List.getElem?_eraseIdx] at m;rw[apY,ams y];split at m
  ·rename_i an;obtain⟨D,z,A,B⟩:=d.e i j m;grind
  rename_i an;obtain⟨D,z,A,B⟩:=d.e (i+1) j m;grind
 intro U R q;rw[oh.2 d.h] at q;cases q;refine⟨_,_,oh.2 (pf d.h),bc _,λi E I _=>?_⟩;grind
end
end
section
section
variable {E:fM} {C:e7} {st:aR} {a:Act} {w:bC} {I:X->Prop} {rt:X->ez} {fp:X->ak9} {o:bQ} {Q:ak->bm (X×aE)->Prop}
def lC (tt:bm (bE×ah)) (b:bE):bu ah:=match aq tt b with|some (.mp a)=>Y a|some (.fj _ a)=>Y a|_=>bo
theorem lC.ok {c:bE} {f:ah} (d:lC E.tt c=Y f):∃a b,E.P.underlying c=Y (.map a b)/\E.P.underlying a=Y (.int .i64)/\fx E.P f b:=by
 unfold lC at d;split at d
 ·rename_i k e;cases d;obtain⟨j,a,b,_,_,_,_,g,h,i⟩:=E.ok c _ e;grind
 ·rename_i l k e;cases d;obtain⟨j,a,b,_,_,_,_,g,h,i⟩:=E.ok c _ e;grind
 grind
def yD (tt:bm (bE×ah)) (d:bm (X×ah)) (e:bm (X×aE)) (a:X) (c:bE):iA:=
 match lC tt c,aq d a,aq e a with
 |some f,Y (.mp b),bo=>bif bd f b then .e6 (.ref a []) [(a,⟨.mp b,Y ([],0)⟩)] else .bad
 |_,_,_=>.bad
theorem aat (f:cP C st a.tmps w I rt fp) (k:o.op=.makeMap x bo) (c:(yD E.tt l st.h b x).K Q):Yields E C st a w I rt fp o Q:=by
 unfold yD at c;split at c
 case h_2=>exact c.elim
 rename_i m d p q g;cases e:bd m d with
 |false=>rw[e] at c;exact c.elim
 |true=>
 rw[e] at c;have i:(w.alloc (.map #[] 0)).heap[w.heap.size]?=Y (.map #[] 0):=(by show(w.heap.push _)[w.heap.size]?=_;grind);refine⟨.map (Y w.heap.size),w.alloc (.map #[] 0),I,λ_=>[.map (Y w.heap.size)],λ_=>[w.heap.size],.ref b [],[(b,⟨.mp d,Y ([],0)⟩)],?_,.alloc w _,λ_ c=>c,λ_ c=>.inl c,.one g (aW.QR (hD.empty _ _ i)) ac (λn e=>?_),?_,c⟩
 ·simp[bM,k,Instr.makeMap,newObj,Sem.run]
 ·simp only[gq] at e;subst e;exact⟨bc _,ac,λc=>by have:=f.ib _ (.inl c);omega⟩
 have j:aq ([(b,(⟨.mp d,Y ([],0)⟩:aE))]++st.h) b=Y ⟨.mp d,Y ([],0)⟩:=(by rw[zG,eC,au bn]);refine .ref (t:=⟨.mp d,Y ([],0)⟩) (τ':=.mp d) (loc:=bo) (cs:=[.map (Y w.heap.size)]) j ?_;have:fv [(b,(⟨.mp d,Y ([],0)⟩:aE))] (λ_=>[amQ (Y w.heap.size)]) rt b=[.map (Y w.heap.size)]:=(by simp[fv,eC]);grind [aZ.here]
def FM (a:ah) (c:bu (bm (Z×a.den)×X)) (d:a.den) (b:Z):bz->ak
 |true=>.fu [.val a ((gO c b).getD d),.val .bool (gO c b).isSome]
 |false=>.val a ((gO c b).getD d)
def v8 (tt:bm (bE×ah)) (j:bm (X×aE)) (i:bE) (k c:ak) (f:bz):iA:=
 match lC tt i,c with
 |some h,.val (.int .i64) c=>match k with
  |.val (.fj l a) b=>match mN a with
   |some d=>bif bd h a then .e6 (FM a b d c f) [] else .bad
   |none=>.bad
  |.ref id g=>match aq j id with
   |some e=>match fC e.1 g with
    |some (.mp a)=>match mN a with
     |some d=>bif bd h a then .part (bu (bm (Z×a.den)×X)) (λb=>eU e.1 e.2 g (.mp a) b) (λb=>(FM a b d c f,[])) else .bad
     |none=>.bad
    |_=>.bad
   |none=>.bad
  |_=>.bad
 |_,_=>.bad
theorem Qo {l:bE} (s:E.P.underlying l=Y (.map x T)) (f:E.P.underlying x=Y (.int .i64)) (M:fx E.P d T) {e:bz} (Q:o.op=.lookup l c g e) {n:Z} (O:a.eval g=.int .i64 n) {v:d.den} (S:mN d=Y v) {m:bu (bm (Z×d.den)×X)} (i:(m=bo/\a.eval c=.map bo)\/∃p t q A z,m=Y (t,q)/\a.eval c=.map (Y p)/\hD (bf I C.B) w d p t q A z):∃u,(bM a.eval o).run E.P w=.ok (.value u) w/\∀D:bm (X×aE),cT (bf I C.B) w D rt fp (FM d m v n e) u:=by
 obtain⟨H,y,ax,V,ad,a3⟩:=wW M S;have G:(als T).run E.P w=.ok y w:=(by simp[als,alI,ax,V]);have U:∃j,aW (bf I C.B) w d j ((gO m n).getD v) []/\(an8 l (a.eval c) (.int .i64 n) e).run E.P w=.ok (if e then .tuple #[c3 d j,.bool (gO m n).isSome] else c3 d j) w:=by
  rcases i with⟨rfl,i⟩|⟨p,t,q,A,z,rfl,i,r⟩
  ·refine⟨y.cells.toList,by grind [gO],?_⟩;rw[i];have N:(anu x (.int .i64 n) []).run E.P w=.ok bo w:=LB f bn;simp only[an8,bW,b7 s,b1,ct,pe f,N,G];rw[<-ad];cases e<;>rfl
  rw[i];rcases r.find (P:=E.P) f n with⟨b,_,K⟩|⟨a0,a4,bl,J,b,_,an,ap,av,L⟩
  ·refine⟨y.cells.toList,by grind [gO],?_⟩;simp only[an8,bW,b7 s,b1,ct,run_getObj_map r.h,pe f,K,G];grind [aoU,gO]
  refine⟨J,by grind [gO],?_⟩;simp only[an8,bW,b7 s,b1,ct,run_getObj_map r.h,pe f,L];grind [an6,gO]
 obtain⟨j,F,R⟩:=U;refine⟨_,by simp only[bM,Q,O,bW,R];rfl,λD=>?_⟩;cases e with
 |false=>exact .val F
 |true=>
  refine .fu ac (λH am u b k=>?_)
  match H with
  |0=>simp at b k;subst b;subst k;exact .val F
  |1=>simp at b k;subst b;subst k;exact .bool _
  |n+2=>grind
theorem aW.Kq {b:bu (bm (Z×d.den)×X)} (f:aW e w (.mp d) h b k):(b=bo/\h=[.map bo]/\k=[])\/∃a g c j i,b=Y (g,c)/\h=[.map (Y a)]/\k=[a]/\hD e w d a g c j i:=by
 cases b with
 |none=>exact .inl ⟨bn,f.2,f.1⟩
 |some l=>
  obtain⟨g,c⟩:=l;obtain⟨a,j,i,m,n,o⟩:=f.QQ;grind
theorem aW.Up {l:eH} {a:bu (bm (Z×d.den)×X)} (j:aW e w (.fj l d) h a k):(a=bo/\h=[.map bo])\/∃b f c i g,a=Y (f,c)/\h=[.map (Y b)]/\hD e w d b f c i g:=by
 cases a with
 |none=>exact .inl ⟨bn,j.2⟩
 |some m=>
  obtain⟨f,c⟩:=m;obtain⟨b,i,g,n,_,_,o⟩:=j.ahz;grind
theorem Z2 (s:cP C st a.tmps w I rt fp) {j:bL} {J:bz} (F:o.op=.lookup x c j J) (b:(v8 E.tt st.h x (aX st.g c) (aX st.g j) J).K Q):Yields E C st a w I rt fp o Q:=by
 have f:=s.aX c;have t:=s.aX j;unfold v8 at b;split at b
 case h_2=>exact b.elim
 rename_i O bx R P;obtain⟨a0,a3,L,M,N⟩:=lC.ok R;rw[P] at t;generalize D:a.eval j=bs at t;cases t with|val ad=>
 obtain⟨_,rfl⟩:=ad;split at b
 ·rename_i av B y r;split at b
  case h_2=>exact b.elim
  rename_i ap u;cases e:bd O B with
  |false=>rw[e] at b;exact b.elim
  |true=>
  rw[e] at b;rw[r] at f;generalize i:a.eval c=an at f;cases f with|val V=>
  obtain⟨am,z,A⟩:=Qo (rt:=rt) (fp:=fp) (I:=I) (C:=C) (E:=E) (w:=w) (a:=a) (m:=y) L M (N.lay e) F D u (by
   rcases V.Up with⟨al,d⟩|⟨l,v,n,q,k,al,d,p⟩
   ·exact .inl ⟨al,by rw[i,d];rfl⟩
   exact .inr ⟨l,v,n,q,k,al,by rw[i,d];rfl,p⟩)
  exact .pure z (A _) b
 ·rename_i id ce r;split at b
  case h_2=>exact b.elim
  rename_i ci G;split at b
  case h_2=>exact b.elim
  rename_i B bl;split at b
  case h_2=>exact b.elim
  rename_i ap u;cases e:bd O B with
  |false=>rw[e] at b;exact b.elim
  |true=>
  rw[e] at b;obtain⟨y,S,b⟩:=b;rw[r] at f;generalize i:a.eval c=an at f;cases f with|ref H T=>
  rw[G] at H;cases H;obtain⟨rfl,a4,U,_⟩:=s.lz G S T;obtain⟨am,z,A⟩:=Qo (rt:=rt) (fp:=fp) (I:=I) (C:=C) (E:=E) (w:=w) (a:=a) (m:=y) L M (N.lay e) F D u (by
   rcases U.Kq with⟨al,d,_⟩|⟨l,v,n,q,k,al,d,_,p⟩
   ·exact .inl ⟨al,by rw[i,d];rfl⟩
   exact .inr ⟨l,v,n,q,k,al,by rw[i,d];rfl,p⟩)
  exact .pure z (A _) b
 exact b.elim
def we (tt:bm (bE×ah)) (f:bm (X×aE)) (e:bE) (g:ak):iA:=
 match lC tt e with
 |none=>.bad
 |some _=>match g with
  |.val (.fj _ b) a=>.e6 (.val (.int .i64) (yB (α:=b.den) a)) []
  |.ref id d=>match aq f id with
   |some c=>match fC c.1 d with
    |some (.mp b)=>.part (bu (bm (Z×b.den)×X)) (λa=>eU c.1 c.2 d (.mp b) a) (λa=>(.val (.int .i64) (yB a),[]))
    |_=>.bad
   |none=>.bad
  |_=>.bad
def QO {q:bE} (l:E.P.underlying x=Y (.map T q)) (p:o.op=.call {callee:=.builtin .len,args:=#[c],argTypes:=#[x]}) {m:bu (bm (Z×d.den)×X)} (b:(m=bo/\a.eval c=.map bo)\/∃f e g i k,m=Y (e,g)/\a.eval c=.map (Y f)/\hD (bf I C.B) w d f e g i k):(bM a.eval o).run E.P w=.ok (.value (.int .i64 (yB m))) w:=by
 rcases b with⟨rfl,b⟩|⟨f,e,g,i,k,rfl,b,j⟩
 ·simp[bM,p,alW,invoke,amg,b,aoN,b7 l,goInt,yB]
 have r:i.size=e.length:=(by rw[j.n,j.pU.len]);simp only[bM,p,alW,invoke,amg,bW,ct,b1,an9,gL,uT,b,aoN,aoX,rE,b7 l,run_getObj_map j.h,goInt,yB,r]
theorem aav (s:cP C st a.tmps w I rt fp) (t:o.op=.call {callee:=.builtin .len,args:=#[c],argTypes:=#[x]}) (b:(we E.tt st.h x (aX st.g c)).K Q):Yields E C st a w I rt fp o Q:=by
 have e:=s.aX c;unfold we at b;split at b
 ·exact b.elim
 rename_i S z;obtain⟨J,L,y,P,R⟩:=lC.ok z;generalize f:a.eval c=T at e;split at b
 ·rename_i H G r p;rw[p] at e;cases e with|val F=>
  refine .pure (QO (I:=I) (C:=C) (m:=r) y t ?_) (.int _ _) b;rcases F.Up with⟨al,d⟩|⟨j,q,k,n,i,al,d,l⟩
  ·exact .inl ⟨al,by rw[f,d];rfl⟩
  exact .inr ⟨j,q,k,n,i,al,by rw[f,d];rfl,l⟩
 ·rename_i id O p;split at b
  case h_2=>exact b.elim
  rename_i U u;split at b
  case h_2=>exact b.elim
  rename_i G N;obtain⟨r,A,b⟩:=b;rw[p] at e;cases e with|ref v B=>
  rw[u] at v;cases v;obtain⟨rfl,M,D,_⟩:=s.lz u A B;refine .pure (QO (I:=I) (C:=C) (m:=r) y t ?_) (.int _ _) b;rcases D.Kq with⟨al,d,_⟩|⟨j,q,k,n,i,al,d,_,l⟩
  ·exact .inl ⟨al,by rw[f,d];rfl⟩
  exact .inr ⟨j,q,k,n,i,al,by rw[f,d];rfl,l⟩
 exact b.elim
end
end
section
section
variable {E:fM} {C:e7} {st:aR} {a:Act} {w:bC} {I:X->Prop} {rt:X->ez} {fp:X->ak9} {o:bQ} {Q:ak->bm (X×aE)->Prop}
def Gj (b c d:ak):iA:=
 match b with
 |.val .bool b=>.part bz (λa=>b=a) (λa=>(match a with|true=>c|false=>d,[]))
 |_=>.bad
theorem aej (f:cP C st a.tmps w I rt fp) {d e:bL} (m:o.op=.pick c d e) (b:(Gj (aX st.g c) (aX st.g d) (aX st.g e)).K Q):Yields E C st a w I rt fp o Q:=by
 have h:=f.aX c;unfold Gj at b;split at b
 case h_2=>exact b.elim
 rename_i i j;obtain⟨i,rfl,b⟩:=b;rw[j] at h;generalize n:a.eval c=l at h;cases h with|val k=>
 obtain⟨_,rfl⟩:=k;cases i
 ·exact .pure (v:=a.eval e) (by simp_all [bM,c3,asBool]) (f.aX e) b
 exact .pure (v:=a.eval d) (by simp_all [bM,c3,asBool]) (f.aX d) b
def L9 (e:UnOp) (c:ak):iA:=
 match e,c with
 |.neg,.val (.int a) c=>.part Z (λb=>a.wrap (0-c)=b) (λb=>(.val (.int a) b,[]))
 |.xor,.val (.int a) c=>.part Z (λb=>a.wrap (cg a.bits (if a.signed then-1 else a.max)^^^cg a.bits c).toNat=b) (λb=>(.val (.int a) b,[]))
 |.not,.val .bool d=>.e6 (.val .bool (!d)) []
 |_,_=>.bad
theorem ag7 (j:cP C st a.tmps w I rt fp) {i:UnOp} (p:o.op=.unOp i x c) (b:(L9 i (aX st.g c)).K Q):Yields E C st a w I rt fp o Q:=by
 have d:=j.aX c;unfold L9 at b;generalize q:a.eval c=m at d;split at b
 ·rename_i f k e;obtain⟨l,rfl,b⟩:=b;rw[e] at d;cases d with|val h=>
  obtain⟨_,rfl⟩:=h;exact .pure (v:=.int f _) (by simp_all [bM,c3,aoY,Op.intArith]) (.int f _) b
 ·rename_i f k e;obtain⟨l,rfl,b⟩:=b;rw[e] at d;cases d with|val h=>
  obtain⟨_,rfl⟩:=h;exact .pure (v:=.int f _) (by simp_all [bM,c3,aoY,Op.intBits]) (.int f _) b
 ·rename_i n e;rw[e] at d;cases d with|val h=>
  obtain⟨_,rfl⟩:=h;exact .pure (v:=.bool _) (by simp_all [bM,c3,aoY]) (.bool _) b
 exact b.elim
def Db (tt:bm (bE×ah)) (e d:bE) (a:ak):iA:=
 match aq tt e,aq tt d,a with
 |some (.int _),Y (.int c),.val (.int _) a=>.part Z (λb=>c.wrap a=b) (λb=>(.val (.int c) b,[]))
 |_,_,_=>.bad
theorem W1 (j:cP C st a.tmps w I rt fp) (m:o.op=.convert T x c) (b:(Db E.tt T x (aX st.g c)).K Q):Yields E C st a w I rt fp o Q:=by
 have d:=j.aX c;unfold Db at b;split at b
 case h_2=>exact b.elim
 rename_i p e q r h i f;obtain⟨u,rfl,b⟩:=b;generalize n:a.eval c=l at d;rw[f] at d;cases d with|val k=>
 obtain⟨_,rfl⟩:=k;obtain⟨_,_,_,_,_,s⟩:=E.ok T _ h;obtain⟨_,_,_,_,_,t⟩:=E.ok x _ i;exact .pure (v:=.int e _) (by simp_all [b7,bM,c3,convert,Conv.intToInt]) (.int e _) b
def rp (c:ByteArray) (a:Z):eA:=if 0<=a then(c[a.toNat]?).map λb=>(b.toNat:Z) else bo
def FI:ByteArray:=⟨#[0,1,2,2,3,3,3,3,4,4,4,4,4,4,4,4,5,5,5,5,5,5,5,5,5,5,5,5,5,5,5,5,6,6,6,6,6,6,6,6,6,6,6,6,6,6,6,6,6,6,6,6,6,6,6,6,6,6,6,6,6,6,6,6,7,7,7,7,7,7,7,7,7,7,7,7,7,7,7,7,7,7,7,7,7,7,7,7,7,7,7,7,7,7,7,7,7,7,7,7,7,7,7,7,7,7,7,7,7,7,7,7,7,7,7,7,7,7,7,7,7,7,7,7,7,7,7,7,8,8,8,8,8,8,8,8,8,8,8,8,8,8,8,8,8,8,8,8,8,8,8,8,8,8,8,8,8,8,8,8,8,8,8,8,8,8,8,8,8,8,8,8,8,8,8,8,8,8,8,8,8,8,8,8,8,8,8,8,8,8,8,8,8,8,8,8,8,8,8,8,8,8,8,8,8,8,8,8,8,8,8,8,8,8,8,8,8,8,8,8,8,8,8,8,8,8,8,8,8,8,8,8,8,8,8,8,8,8,8,8,8,8,8,8,8,8,8,8,8,8,8,8,8,8,8,8]⟩
def GR (tt:bm (bE×ah)) (d:bE) (f e:ak):iA:=
 match aq tt d,f,e with
 |some .str,.eB (.string c),.val (.int _) b=>.part Z (λa=>rp c b=Y a) (λa=>(.val (.int .u8) a,[]))
 |some .str,.val .str c,.val (.int _) b=>.part Z (λa=>rp c b=Y a) (λa=>(.val (.int .u8) a,[]))
 |_,_,_=>.bad
theorem agB (y:cP C st a.tmps w I rt fp) {k:bL} (H:o.op=.index x k c) (l:(GR E.tt x (aX st.g k) (aX st.g c)).K Q):Yields E C st a w I rt fp o Q:=by
 have i:=y.aX k;have h:=y.aX c;have u:∀(f:ByteArray) (j:cr) (e b:Z),aq E.tt x=Y .str->a.eval k=.string f->a.eval c=.int j e->rp f e=Y b->Q (.val (.int .u8) b) []->Yields E C st a w I rt fp o Q:=by
  intro f j e b m q p d n;obtain⟨_,_,_,_,_,z⟩:=E.ok x _ m;refine .pure (v:=.int .u8 b) ?_ (.int .u8 b) n;unfold rp at d;split at d
  case isFalse=>cases d
  rename_i F;obtain⟨D,G,rfl⟩:=fO.1 d;simp_all [b7,bM,Instr.index,amp]
 unfold GR at l;split at l
 ·rename_i f j e m q p;obtain⟨b,d,n⟩:=l;rw[q] at i;rw[p] at h;generalize s:a.eval k=A at i;generalize r:a.eval c=z at h;cases i;cases h with|val t=>
  obtain⟨_,rfl⟩:=t;exact u f j e b m s r d n
 ·rename_i f j e m q p;obtain⟨b,d,n⟩:=l;rw[q] at i;rw[p] at h;generalize s:a.eval k=A at i;generalize r:a.eval c=z at h;cases i with|val B=>
  obtain⟨_,rfl⟩:=B;cases h with|val t=>
  obtain⟨_,rfl⟩:=t;exact u f j e b m s r d n
 exact l.elim
def E8 (d:ak) (c:X):iA:=
 match d with
 |.fu b=>match b[c]? with
  |some a=>.e6 a []
  |none=>.bad
 |_=>.bad
theorem X1 (j:cP C st a.tmps w I rt fp) (q:o.op=.extract c b) (d:(E8 (aX st.g c) b).K Q):Yields E C st a w I rt fp o Q:=by
 have f:=j.aX c;unfold E8 at d;generalize r:a.eval c=n at f;split at d
 case h_2=>exact d.elim
 rename_i s i;split at d
 case h_2=>exact d.elim
 rename_i h l;rw[i] at f;cases f with|fu p k=>
 rename_i e;have m:b<e.size:=(by grind);have:e[b]?=Y e[b]:=Cq m;exact .pure (v:=e[b]) (by simp_all [bM,Instr.extract]) (k b h _ l this) d
def yE (c:bz) (a:ak):bm ak->iA
 |[]=>.e6 a []
 |y::d=>match a,y with
  |.val (.int b) a,.val (.int e) y=>if b=e then(match c with|true=>yE c (.val (.int b) (if y>a then y else a)) d|false=>yE c (.val (.int b) (if y<a then y else a)) d) else .bad
  |_,_=>.bad
def FSq (j:cP C st a.tmps w I rt fp) (m:bz):∀(e:bm bL) (i:ak) (f:Value),cT (bf I C.B) w st.h rt fp i f->(yE m i (e.map (aX st.g))).K Q->∃d c,((e.map a.eval).foldlM (match m with|true=>Builtin.max2|false=>Builtin.min2) f).run E.P w=.ok d w/\cT (bf I C.B) w st.h rt fp c d/\Q c []
 |[],i,f,k,b=>⟨f,i,bn,k,b⟩
 |y::e,i,f,k,b=>by
  have l:=j.aX y;simp only[gL,yE] at b;generalize p:a.eval y=A at l;split at b
  case h_2=>exact b.elim
  rename_i q x v z r;split at b
  case isFalse=>exact b.elim
  rename_i s;subst s;rw[r] at l;cases k with|val t=>cases l with|val u=>
  obtain⟨_,rfl⟩:=t;obtain⟨_,rfl⟩:=u;cases m
  ·obtain⟨d,c,ax,n,o⟩:=FSq j bq e _ _ (.int q _) b;refine⟨d,c,?_,n,o⟩;simp only[gL,apZ,p,bW];exact ax
  obtain⟨d,c,ax,n,o⟩:=FSq j bp e _ _ (.int q _) b;refine⟨d,c,?_,n,o⟩;simp only[gL,apZ,p,bW];exact ax
def JK:ak->bz
 |.val _ _|.eB _|.di _ _=>bp
 |_=>bq
def hg (tt:bm (bE×ah)) (i:bm (X×ah)) (d:bm (X×aE)) (b:bL->ak) (g:X) (h:Op):iA:=
 match h with
 |.move a=>.e6 (b a) []
 |.assign a=>bif JK (b a) then .e6 (b a) [] else .bad
 |.pick f a n=>Gj (b f) (b a) (b n)
 |.alloc c=>xo tt i d g c
 |.box c a=>z5 tt d g c (b a)
 |.build c l=>z2 tt b c l.toList
 |.buildSlice c e l=>xD tt i d b g c e l.toList
 |.load c a=>v7 tt d c (b a)
 |.nilCheck a=>wj d (b a)
 |.binOp h c a n _=>match b a,b n with
  |.val .bool x,.val .bool y=>match aq tt c with
   |some .bool=>H4 h (.val .bool x) (.val .bool y)
   |_=>.bad
  |.val (.int k) v,.val (.int s) e=>mv h k v s e
  |_,_=>.bad
 |.unOp h _ a=>L9 h (b a)
 |.convert z g a=>Db tt z g (b a)
 |.makeSlice c t f=>wa tt i d g c (b t) (b f)
 |.slice c a u r bo=>wL tt d c (b a) (u.map b) (r.map b)
 |.fieldAddr c a e=>vP tt d c (b a) e
 |.field c a e=>yi tt d c (b a) e
 |.indexAddr c a j=>vV tt d c (b a) (b j)
 |.index c a j=>GR tt c (b a) (b j)
 |.extract a e=>E8 (b a) e
 |.call f=>match f.callee,f.args.toList,f.argTypes.toList with
  |.builtin .len,[a],[c]=>match g4 tt c with
   |some _=>v2 tt d c (b a)
   |none=>we tt d c (b a)
  |.builtin .max,a::m,_=>yE bp (b a) (m.map b)
  |.builtin .min,a::m,_=>yE bq (b a) (m.map b)
  |_,_,_=>.bad
 |.makeMap c bo=>yD tt i d g c
 |.lookup c a k w=>v8 tt d c (b a) (b k) w
 |.makeFunc (.func p) q o=>bif q.isEmpty then .e6 (.di p (o.toList.map b)) [] else .bad
 |_=>.bad
theorem XT (f:cP C st a.tmps w I rt fp) (c:(hg E.tt l st.h (aX st.g) b o.op).K Q):Yields E C st a w I rt fp o Q:=by
 unfold hg at c;split at c
 ·rename_i d e;exact .pure (v:=a.eval d) (by simp[bM,e]) (f.aX d) c
 ·rename_i d e;cases z:JK (aX st.g d) with
  |false=>rw[z] at c;exact c.elim
  |true=>rw[z] at c;exact .pure (v:=a.eval d) (by simp[bM,e]) (f.aX d) c
 ·grind [aej]
 ·grind [VM]
 ·grind [Wj]
 ·grind [Wg]
 ·grind [Wn]
 ·grind [ZZ]
 ·grind [aaJ]
 ·rename_i am k d r an e;split at c
  ·rename_i L M s t;split at c
   ·rename_i J;refine Nv f e (λ_ _ _ _=>?_) (by grind);exact(E.ok k _ J).choose_spec.2.2.2.2
   exact c.elim
  ·rename_i s t;refine Nv f e (λL M _ T=>?_) (by rw[s,t];exact c);grind
  exact c.elim
 ·grind [ag7]
 ·grind [W1]
 ·grind [aae]
 ·grind [agh]
 ·grind [Yg]
 ·grind [Yi]
 ·grind [Y3]
 ·grind [agB]
 ·grind [X1]
 ·rename_i F e;obtain⟨P,m,B⟩:=F;simp only at c;split at c
  ·rename_i d k al R;have j:m=#[d]:=(by grind);have S:B=#[k]:=(by grind);grind [aav,ZR]
  ·rename_i d i al;have j:m=(d::i).toArray:=(by grind);obtain⟨q,D,ax,n,p⟩:=FSq (E:=E) f bp i _ _ (f.aX d) c;refine .pure (v:=q) ?_ n p;simp only[bM,e,alW,invoke,amg,bW,ct,b1,j,Builtin.max_];simp_all
  ·rename_i d i al;have j:m=(d::i).toArray:=(by grind);obtain⟨q,D,ax,n,p⟩:=FSq (E:=E) f bq i _ _ (f.aX d) c;refine .pure (v:=q) ?_ n p;simp only[bM,e,alW,invoke,amg,bW,ct,b1,j,Builtin.min_];simp_all
  exact c.elim
 ·grind [aat]
 ·grind [Z2]
 ·rename_i H u G e;cases A:u.isEmpty with
  |false=>rw[A] at c;exact c.elim
  |true=>
   rw[A] at c;obtain rfl:u=#[]:=(by grind);refine .pure (v:=.func (.func H) #[] (G.map a.eval)) (by simp[bM,e,Instr.makeFunc]) (.di ac (λad d O x y=>?_)) c;rw[j3] at x;rw[Array.getElem?_map] at y;obtain⟨r,U,rfl⟩:=fO.1 x;obtain⟨N,V,rfl⟩:=fO.1 y;obtain rfl:r=N:=(by grind);exact f.aX r
 exact c.elim
end
end
def eY (b:X) (a:ak9):bz:=a.any λc=>bH c b
theorem ht:eY b k=bp↔b∈k:=by grind [anv,alZ,ap0,eY]
def ak.fD (a:ak9) (b:ak):bz:=b.ids.any λc=>eY c a
def wK:bm a6->bu (bm a6)
 |.unst::a=>(wK a).map λb=>.unst::b
 |.fst::_=>Y [.snd]
 |.snd::_=>Y [.fst]
 |_=>bo
def sC:bm a6->bm a6->bu (bm a6)
 |p,[]=>wK p
 |.idx _::p,.idx _::a=>sC p a
 |.deref::p,.deref::a=>sC p a
 |.unst::p,.unst::a=>sC p a
 |.fst::p,.fst::a=>sC p a
 |.snd::p,.snd::a=>sC p a
 |_,_=>bo
def JO (a b:bm a6):bz:=hq a b||(sC a b).isSome
def TB:∀{p b:bm a6},wK p=Y b->hq p b=bp
 |.unst::p,b,a=>by obtain⟨d,c,rfl⟩:=fO.1 a;exact TB (p:=p) c
 |.fst::_,_,a=>by cases a;rfl
 |.snd::_,_,a=>by cases a;rfl
 |[],_,a=>by cases a
 |.idx _::_,_,a=>by cases a
 |.deref::_,_,a=>by cases a
def TA:∀{q p b:bm a6},sC p q=Y b->hq p (q++b)=bp
 |[],p,b,a=>by have c:wK p=Y b:=(by cases p<;>exact a);exact TB c
 |s::q,p,b,a=>by
  cases p with
  |nil=>cases s<;>cases a
  |cons d p=>cases s<;>cases d<;>first|(cases a;done)|exact TA (q:=q) (p:=p) a
theorem TC:∀{p e:bm a6} {τ h:ah},fC τ p=Y h->wK p=Y e->∃(o:ah) (m:X),∀(i:bC) (c:Loc) (g:ez),∃k,aZ i τ c g e o (c.map λd=>(d.1,d.2+m)) k
 |.unst::p,e,τ,h,b,a=>by
  obtain⟨q,l,rfl⟩:=fO.1 a;cases τ with
  |st n=>exact TC (p:=p) (τ:=n) b l
  |_=>cases b
 |.fst::p,e,τ,h,b,a=>by
  cases a;cases τ with
  |pr f j=>exact⟨j,f.size,λi c g=>⟨_,aZ.here⟩⟩
  |_=>cases b
 |.snd::p,e,τ,h,b,a=>by
  cases a;cases τ with
  |pr f j=>
   refine⟨f,0,λi c g=>⟨g.take f.size,?_⟩⟩;have:(c.map λd=>(d.1,d.2+0))=c:=(by simp_all);rw[this];exact aZ.here
  |_=>cases b
 |[],_,_,_,_,a=>by cases a
 |.idx _::_,_,_,_,_,a=>by cases a
 |.deref::_,_,_,_,_,a=>by cases a
theorem zc {n:bC}:∀{q p d:bm a6} {e f:ah} {j:Loc} {i:ez} {g:ah} {k:Loc} {h:ez},fC e p=Y f->sC p q=Y d->aZ n e j i q g k h->∃l,fC g l=Y f/\wK l=Y d
 |[],p,d,e,f,j,i,g,k,h,c,b,a=>by obtain⟨rfl,_,_⟩:=aZ.gE.1 a;have o:wK p=Y d:=(by cases p<;>exact b);grind
 |s::q,p,d,e,f,j,i,g,k,h,c,b,a=>by
  cases p with
  |nil=>cases s<;>cases b
  |cons m p=>
   cases e<;>cases s<;>simp only[aZ] at a<;>cases m<;>first|(cases b;done)|skip
   case osl.idx.idx=>obtain⟨_,_,_,_,_,_,_,_,_,a⟩:=a;exact zc (q:=q) (p:=p) c b a
   case optr.deref.deref=>obtain⟨_,_,_,_,_,_,a⟩:=a;exact zc (q:=q) (p:=p) c b a
   case st.unst.unst=>exact zc (q:=q) (p:=p) c b a
   case pr.fst.fst=>exact zc (q:=q) (p:=p) c b a
   case pr.snd.snd=>exact zc (q:=q) (p:=p) c b a
def aZ.split {u:bC}:∀{q j:bm a6} {d k:ah} {g i:Loc} {f h:ez},aZ u d g f (q++j) k i h->∃e c b,aZ u d g f q e c b/\aZ u e c b j k i h
 |[],j,d,k,g,i,f,h,a=>⟨d,g,f,aZ.here,a⟩
 |s::q,j,d,k,g,i,f,h,a=>by
  rw[kT] at a;cases d<;>cases s<;>simp only[aZ] at a
  case osl.idx=>
   obtain⟨l,t,x,v,m,al,n,o,w,a⟩:=a;obtain⟨e,c,b,p,r⟩:=aZ.split (q:=q) a;exact⟨e,c,b,⟨l,t,x,v,m,al,n,o,w,p⟩,r⟩
  case optr.deref=>
   obtain⟨l,t,m,al,n,o,a⟩:=a;obtain⟨e,c,b,p,r⟩:=aZ.split (q:=q) a;exact⟨e,c,b,⟨l,t,m,al,n,o,p⟩,r⟩
  case st.unst=>exact aZ.split (q:=q) a
  case pr.fst=>exact aZ.split (q:=q) a
  case pr.snd=>exact aZ.split (q:=q) a
theorem aZ.upper {A:ah} {c z:bm a6} (y:fC d c=Y A) (g:sC c n=Y z) (a:aZ f d bo N n q (Y (b,i)) h) (x:∀(n:bm a6) (q:ah) (k:Loc) (h:ez),hq c n=bp->aZ f d bo N n q k h->aZ m d bo N n q k h):∃o,aZ m d bo N n q (Y (b,i)) o:=by
 obtain⟨E,r,s⟩:=zc y g a;obtain⟨H,D,e⟩:=TC r s;obtain⟨B,t⟩:=e f (Y (b,i)) h;obtain⟨G,j,l,u,v⟩:=aZ.split (x _ _ _ _ (TA g) (a.append t));have al:=u.ty;rw[a.ty] at al;obtain rfl:=gC al;obtain⟨C,w⟩:=e m j l;obtain⟨_,p,_⟩:=v.kF w;cases j with
 |none=>cases p
 |some F=>
  grind
def lD (c:bm (X×bm a6)):ak->bz
 |.ref id []=>c.any λa=>bH a.1 id
 |.ref id b=>c.any λa=>bH a.1 id&&hq a.2 b
 |.addr id b=>c.any λa=>bH a.1 id&&JO a.2 b
 |.view id b _ _=>c.any λa=>bH a.1 id&&hq a.2 b
 |_=>bq
def kI (c:ak9) (b:bm (X×bm a6)):ak->bz
 |.di _ f=>f.all λa=>!(a.fD c)||lD b a
 |.hL a=>lD b a
 |.app id h _ _ g=>(g.all λe=>!(eY e c))&&b.any λd=>bH d.1 id&&lu d.2 h
 |a=>lD b a
def fo (b:ak9) (c:bm (X×bm a6)) (a:ak):ak:=bif a.fD b&&!(kI b c a) then .dead else a
def fS (b:ak9) (c:bm (X×bm a6)):ak->ak
 |.fu d=>.fu (d.map (fo b c))
 |a=>fo b c a
def kill (b:ak9) (d:bm (X×bm a6)) (c:bm (X×ak)):bm (X×ak):=c.map λa=>(a.1,fS b d a.2)
def del (a:ak9) (b:bm (X×aE)):bm (X×aE):=b.filter λc=>!(eY c.1 a)
theorem FE (a:bm a6):hq [] a=bq:=by grind [hq,od]
def yt (b:ak9):bm (X×bm a6):=b.map λa=>(a,[])
theorem qU (c:ak9) (e:bm (X×bm a6)):∀(d:bm (X×ak)) (b:X),gt (kill c e d) b=fS c e (gt d b)
 |[],b=>by simp[kill,gt,aq,fS,fo,ak.fD,ak.ids]
 |(f,a)::d,b=>by
  show gt ((f,fS c e a)::kill c e d) b=_;rw[ju,ju];split
  ·rfl
  exact qU c e d b
theorem nG (a:ak9):∀(c:bm (X×aE)) (b:X),aq (del a c) b=if b∈a then bo else aq c b
 |[],b=>by simp[del,aq]
 |(d,t)::c,b=>by
  have f:=nG a c b;simp only[del] at f|-;rw[mh];cases e:eY d a with
  |true=>
   have:d∈a:=ht.1 e;simp only[iG,Bool.false_eq_true,alV];grind [eC]
  |false=>
   have:d∉a:=λc=>(by grind [ht]);simp only[oA,ck];grind [eC]
theorem Mb (a:V.fD k=bq):∀id∈V.ids,id∉k:=λid c b=>by grind [ap0,ht,ak.fD]
structure n0 (C:e7) (st:aR) (w w':bC) (I I':X->Prop) (rt:X->ez) (fp:X->ak9) (S:ak9) (P4:bm (X×bm a6)) (new:bm (X×aE)) (rtn:X->ez) (fpn:X->ak9):Prop where
 size:w.heap.size<=w'.heap.size
 os:w'.os=w.os
 tape:w'.tape=w.tape
 output:w'.output=w.output
 heap:∀b,b<w.heap.size->(∀id∈S,∀t,aq st.h id=Y t->b∉fp id)->w'.heap[b]?=w.heap[b]?
 evo:∀b,b<w.heap.size->li w w' b
 i:∀b,I b->I' b
 i2:∀b,I' b->I b\/(b<w'.heap.size/\(w.heap.size<=b\/∃id∈S,∃t,aq st.h id=Y t/\b∈fp id))
 tree:∀id t,aq new id=Y t->(id∈S\/aq st.h id=bo)/\aW (bf I' C.B) w' t.1 (rtn id) t.2 (fpn id)/\(fpn id).Nodup/\∀b∈fpn id,¬I' b/\b<w'.heap.size/\(w.heap.size<=b\/∃PJ∈S,∃t',aq st.h PJ=Y t'/\b∈fp PJ)
 dis:∀i j t u,aq new i=Y t->aq new j=Y u->i≠j->∀b∈fpn i,b∉fpn j
 keep:∀e∈P4,∀t,aq st.h e.1=Y t->∃t',aq new e.1=Y t'/\t'.1=t.1/\rtn e.1=rt e.1/\(∃ahU,fC t.1 e.2=Y ahU)/\∀(q:bm a6) (UC:ah) (Qu:Loc) (Oa:ez),hq e.2 q=bp->aZ w t.1 bo (rt e.1) q UC Qu Oa->aZ w' t.1 bo (rt e.1) q UC Qu Oa
 app:∀e∈P4,∀t,aq st.h e.1=Y t->∀(q:bm a6) (τ:ah) (xs:bm τ.den) (loc:Loc) (vb:ez) (f1:ak9),lu e.2 q=bp->τ.k5=bp->aZ w t.1 bo (rt e.1) q (.osl τ) loc vb->eU t.1 t.2 q (.osl τ) xs->aW (bf I C.B) w (.osl τ) vb xs f1->∃t',aq new e.1=Y t'/\eU t'.1 t'.2 q (.osl τ) xs/\∀b∈f1,b∈fpn e.1/\dd w w' b
theorem cP.eG {w':bC} {I':X->Prop} {rtn:X->ez} {fpn:X->ak9} {S:ak9} {keep:bm (X×bm a6)} {new:bm (X×aE)} (e:cP U z O f j r p) (l:n0 U z f w' j I' r p S keep new rtn fpn):cP U ⟨kill S keep z.g,new++del S z.h⟩ O w' I' (fv new rtn r) (fv new fpn p):=by
 have V:∀a0 a,bf j U.B a0 a->bf I' U.B a0 a/\dd f w' a:=λa0 a b=>by
  refine⟨?_,.of_heap (l.heap a (e.ib a (nH b)) (λid _ c k fn=>e.notM k a fn a0 b))⟩;cases a0
  ·exact l.i a b
  exact b.imp (l.i a) id
 have co:∀id c,aq (new++del S z.h) id=Y c->(aq new id=Y c/\fv new rtn r id=rtn id/\fv new fpn p id=fpn id)\/(aq new id=bo/\id∉S/\aq z.h id=Y c/\fv new rtn r id=r id/\fv new fpn p id=p id):=λid c k=>by
  rw[k4,nG] at k;cases J:aq new id with
  |none=>
   rw[J] at k;simp only[Option.none_or] at k;split at k
   ·cases k
   rename_i D;exact .inr ⟨bn,D,k,by simp[fv,J],by simp[fv,J]⟩
  |some l=>grind [fv]
 have dl:∀id c,aq z.h id=Y c->id∉S->∀a∈p id,dd f w' a:=λid c k D a b=>.of_heap (l.heap a ((e.tree id c k).2.2 a b).2.2.1 (λI av q H A=>
  e.dis id I c q k H (λd=>D (by grind)) a b A))
 have en:∀id c,aq z.h id=Y c->id∉S->∀a∈p id,¬I' a:=λid c k D a b K=>by
  have u:=(e.tree id c k).2.2 a b;rcases l.i2 a K with K|⟨_,K|⟨I,av,q,H,A⟩⟩
  ·grind
  ·omega
  exact e.dis id I c q k H (λd=>D (by grind)) a b A
 refine{n:=e.n,i0:=λa b=>l.i a (e.i0 a b),i1:=?_,ib:=?_,tree:=?_,dis:=?_,tmp:=?_,frame:=?_,evo:=λa b=>(e.evo a b).trans (l.evo a (jE b e.size)),size:=cO e.size l.size,os:=l.os.trans e.os,tape:=l.tape.trans e.tape,output:=l.output.trans e.output,pin:=e.pin}
 ·intro a b;rcases l.i2 a b with b|⟨_,b|⟨I,av,q,H,A⟩⟩
  ·exact e.i1 a b
  ·exact .inr (.inl (cO e.size b))
  exact .inr ((e.tree I q H).2.2 a A).2.2.2
 ·intro a b;rcases b with b|b
  ·rcases l.i2 a b with b|⟨b,_⟩
   ·exact jE (e.ib a (.inl b)) l.size
   omega
  exact jE (e.ib a (.inr b)) l.size
 ·intro id c k;rcases co id c k with⟨s,m,w⟩|⟨ek,D,s,m,w⟩
  ·obtain⟨_,ax,y,C⟩:=l.tree id c s;rw[m,w];refine⟨ax,y,λa b=>?_⟩;obtain⟨a3,a4,ap⟩:=C a b;rcases ap with ap|⟨I,av,q,H,A⟩
   ·exact⟨a3,λel=>by have:=e.ib a (.inr el);omega,a4,.inl (cO e.size ap)⟩
   have u:=(e.tree I q H).2.2 a A;grind
  obtain⟨ax,y,C⟩:=e.tree id c s;rw[m,w];refine⟨ax.mono V (dl id c s D),y,λa b=>?_⟩;obtain⟨a3,a4,ap,aV⟩:=C a b;exact⟨en id c s D a b,a4,jE ap l.size,aV⟩
 ·intro o ad c M K fr d0 a b;rcases co o c K with⟨s,_,w⟩|⟨ek,D,s,_,w⟩<;>rcases co ad M fr with⟨am,_,d6⟩|⟨gf,FD,am,_,d6⟩<;>rw[w] at b<;>rw[d6]
  ·exact l.dis o ad c M s am d0 a b
  ·intro A;rcases((l.tree o c s).2.2.2 a b).2.2 with u|⟨I,av,q,H,ci⟩
   ·have:=((e.tree ad M am).2.2 a A).2.2.1;omega
   exact e.dis ad I M q am H (λd=>FD (by grind)) a A ci
  ·intro A;rcases((l.tree ad M am).2.2.2 a A).2.2 with u|⟨I,av,q,H,ci⟩
   ·have:=((e.tree o c s).2.2 a b).2.2.1;omega
   exact e.dis o I c q s H (λd=>D (by grind)) a b ci
  exact e.dis o ad c M s am d0 a b
 ·intro bl;show cT _ _ _ _ _ (gt (kill S keep z.g) bl) _;rw[qU];have x:=e.tmp bl;generalize gt z.g bl=v at x;generalize O.getD bl bV=P at x;suffices d9:∀(v:ak) (P:Value),cT (bf j U.B) f z.h r p v P->cT (bf I' U.B) w' (new++del S z.h) (fv new rtn r) (fv new fpn p) (fo S keep v) P by
   cases v with
   |fu f0=>
    cases x with|fu d1 J=>
    refine .fu (by grind) (λo T M s m=>?_);grind
   |_=>exact d9 _ _ x
  clear x;have bx:∀(v:ak) (P:Value),cT (bf j U.B) f z.h r p v P->v.fD S=bq\/lD keep v=bp->cT (bf I' U.B) w' (new++del S z.h) (fv new rtn r) (fv new fpn p) v P:=by
   intro v P x fz;cases d5:v.fD S with
   |false=>
    refine x.uf V (λid cs c k=>?_);have D:=Mb d5 id cs;have ft:aq new id=bo:=by
     cases J:aq new id with
     |none=>rfl
     |some c2=>
      rcases(l.tree id c2 J).1 with u|u
      ·grind
      grind
    refine⟨by simp_all [k4,nG,ar],by grind [fv],by grind [fv],(e.tree id c k).1,dl id c k D⟩
   |true=>
    have L:lD keep v=bp:=fz.resolve_left (by grind);have bs:∀(id:X) (c:aE),aq z.h id=Y c->∀d∈keep,d.1=id->∃q,aq (new++del S z.h) id=Y q/\q.1=c.1/\fv new rtn r id=r id/\(∃f7,fC c.1 d.2=Y f7)/\
     ∀(u:bm a6) (d8:ah) (d7:Loc) (ce:ez),hq d.2 u=bp->aZ f c.1 bo (r id) u d8 d7 ce->aZ w' c.1 bo (r id) u d8 d7 ce:=by
     intro id c k d E cs;subst cs;obtain⟨q,ax,y,C,an,R⟩:=l.keep d E _ k;grind [k4]
    have dg:∀(id:X) (u:bm a6),(keep.any λd=>bH d.1 id&&hq d.2 u)=bp->∃d∈keep,d.1=id/\hq d.2 u=bp:=(by simp_all);cases v with
    |ref id Q=>
     cases Q with
     |nil=>
      obtain⟨d,E,m⟩:=qm.1 (show(keep.any λd=>bH d.1 id)=bp from L);have m:=fH m;cases x with|ref k F=>
      obtain⟨rfl,rfl,rfl⟩:=aZ.gE.1 F;obtain⟨q,ax,y,C,_⟩:=bs id _ k d E m;rw[<-y];refine .ref (loc:=bo) ax ?_;grind [aZ.here]
     |cons f5 Q=>
      obtain⟨d,E,m,w⟩:=dg id (f5::Q) L;cases x with|ref k F=>
      obtain⟨q,ax,y,C,an,R⟩:=bs id _ k d E m;have G:=R _ _ _ _ w F;rw[<-C,<-y] at G;exact .ref ax G
    |addr id Q=>
     obtain⟨d,E,m⟩:=qm.1 (show(keep.any λd=>bH d.1 id&&JO d.2 Q)=bp from L);simp only[cF] at m;obtain⟨m,w⟩:=m;have m:=fH m;cases x with|addr k F=>
     obtain⟨q,ax,y,C,an,R⟩:=bs id _ k d E m;rcases Cs.1 w with w|w
     ·have G:=R _ _ _ _ w F;rw[<-C,<-y] at G;exact .addr ax G
     obtain⟨gl,N⟩:=Hv.1 w;obtain⟨_,an⟩:=an;obtain⟨ce,G⟩:=aZ.upper an N F R;rw[<-C,<-y] at G;exact .addr ax G
    |view id Q gi K=>
     obtain⟨d,E,m,w⟩:=dg id Q L;cases x with|mM=>(exact .mM _ _)|view k F f1 f2 f3=>
     obtain⟨q,ax,y,C,an,R⟩:=bs id _ k d E m;have G:=R _ _ _ _ w F;rw[<-C,<-y] at G;exact .view ax G f1 f2 f3
    |_=>cases L
  intro v P x;unfold fo;cases d5:v.fD S with
  |false=>grind
  |true=>
   cases L:kI S keep v with
   |false=>simp only[oA,Bool.and_self,bF];exact .dead _
   |true=>
    simp only[iG,Bool.and_false,bP];cases v with
    |di f8 f0=>
     cases x with|di d1 J=>
     refine .di d1 (λo T M s m=>bx T M (J o T M s m) ?_);have:=g7.1 L T (qu s);grind
    |hL T=>
     cases x with|hL b ex cv eq=>
     exact .hL (V _ _ b).1 (by rw[((V _ _ b).2.1 0).1];exact ex) cv (bx T _ eq (.inr L))
    |app id u f6 hc c1=>
     cases x with|app k d4 F fp s f9 m fT gc fs=>
     have N:((c1.all λo=>!(eY o S))&&keep.any λd=>bH d.1 id&&lu d.2 u)=bp:=L;rw[cF] at N;obtain⟨cv,N⟩:=N;have cv:∀o∈c1,o∉S:=λo K d2=>(by grind [ht,amn]);obtain⟨d,E,N⟩:=qm.1 N;simp only[cF] at N;obtain⟨fl,ds⟩:=N;obtain rfl:=fH fl;obtain⟨q,ax,y,C⟩:=l.app d E _ k u f6 _ _ _ _ ds d4 F fp s;obtain⟨go,a3,a4,ap,_,f4⟩:=l.keep d E _ k;rw[ax] at a3;obtain rfl:=gC a3;have ft:∀o∈c1,aq new o=bo:=λo K=>by
      cases J:aq new o with
      |none=>rfl
      |some c2=>
       obtain⟨_,gs,ge⟩:=fT o K;rcases(l.tree o c2 J).1 with u|u
       ·grind
       grind
     have d2:fv new rtn r d.1=r d.1:=(by grind [fv]);have d3:=f4 u _ _ _ (IY ds) F;rw[<-a4,<-d2] at d3;refine .app (t:=q) (by grind [k4]) d4 d3 y (s.mono V (λa b=>(C a b).2)) (λa b=>by grind [fv]) (m.mono V (λa b=>?_)) (λo K=>?_) (λa b=>?_) fs
     ·grind
     ·simp_all [k4,nG,ar]
     grind [fv]
    |_=>exact bx _ P x (.inr L)
 intro a b em;rw[l.heap a (jE b e.size)]
 ·exact e.frame a b em
 intro id _ c k A;have:=((e.tree id c k).2.2 a A).2.2.2;grind
section
def kS (k:eH->X->Prop) (i:bC) (a:ah) (l:bu Addr) (d:bm a.den) (g:et):Prop:=
 g.length=d.length/\(d=[]\/∃e h,l=Y ⟨e,h,bo⟩/\∀(c:X) (j:a.den) (f:ak9),d[c]?=Y j->g[c]?=Y f->∃b,b.length=a.size/\fE i e (h+c*a.size) b/\aW k i a b j f)
theorem kS.a8 {h:eH} {a:bm d.den} (c:aW e f (.a8 h d) [.slice s b i] a []):b=a.length/\kS e f d s a (bJ a.length []):=by obtain⟨_,j,k,g,_,_,c⟩:=c;simp only[ia,alf,cc] at g;obtain⟨rfl,rfl,rfl⟩:=g;refine⟨bn,ac,c.imp id ?_⟩;grind
theorem kS.osl {l:bm d.den} (g:aW e f (.osl d) [.slice s i b] l k):i=l.length/\i<=b/\∃h,kS e f d s l h/\(∀j∈h.flatten,j∈k)/\(k.Nodup->h.flatten.Nodup)/\((s=bo/\b=0/\k=[])\/∃a c,s=Y ⟨a,c,bo⟩/\k=a::h.flatten/\ja f a c (c+b*d.size)):=by
 obtain⟨t,j,m,g⟩:=g;simp only[ia,alf,cc] at m;obtain⟨rfl,rfl,rfl⟩:=m;rcases g with⟨rfl,rfl,rfl,rfl⟩|⟨a,c,n,rfl,rfl,ax,p,q,r⟩
 ·exact⟨bn,bc _,[],⟨bn,.inl bn⟩,ac,ac,.inl ⟨bn,bn,bn⟩⟩
 refine⟨bn,p,n,⟨ax,.inr ⟨a,c,bn,r⟩⟩,λj o=>gx _ o,λg=>(j4.1 g).2,.inr ⟨a,c,bn,bn,q⟩⟩
theorem kS.cells {b:bm d.den} {q:et} (j:kS e f d s b q) (v:0<d.size):∃n:ez,n.length=b.length*d.size/\(∀i∈n,i.oneCell'=bp)/\(∀c,s=Y c->b≠[]->∀(k:X) i,n[k]?=Y i->f.cell? (c.add k)=Y i)/\∀(g:X) (o:d.den) (m:ak9),b[g]?=Y o->q[g]?=Y m->aW e f d ((n.drop (g*d.size)).take d.size) o m:=by
 obtain⟨D,j⟩:=j;rcases j with rfl|⟨c,l,rfl,j⟩
 ·simp_all
 have C:∀a,a<b.length*d.size->∃i,f.cell? ⟨c,l+a,bo⟩=Y i/\i.oneCell'=bp:=by
  intro a B;have t:a/d.size<b.length:=(aoa v).2 B;obtain⟨h,x,p,r⟩:=j (a/d.size) b[a/d.size] (q[a/d.size]'(by omega)) ac ac
  have E:=rI a v;have:h[a %d.size]?=Y (h[a %d.size]'(by omega)):=cE _
  refine⟨_,?_,r.one _ (cL (by omega:a %d.size<h.length))⟩;have:=p _ _ this;grind [aob,Nat.mul_comm]
 have A:∀a,((bI (b.length*d.size)).map λa=>(f.cell? ⟨c,l+a,bo⟩).getD bV)[a]?=if a<b.length*d.size then f.cell? ⟨c,l+a,bo⟩ else bo:=by grind
 refine⟨(bI (b.length*d.size)).map λa=>(f.cell? ⟨c,l+a,bo⟩).getD bV,ac,?_,?_,?_⟩
 ·grind
 ·grind [ame]
 intro g o m w z;obtain⟨h,x,p,r⟩:=j g o m w z;have t:g<b.length:=(h0.1 w).1;have:(((bI (b.length*d.size)).map λa=>(f.cell? ⟨c,l+a,bo⟩).getD bV).drop (g*d.size)).take d.size=h:=by
  apply ie;intro k;rcases cU k d.size with u|u
  ·rw[rF u,pt,A];have y:(g+1)*d.size<=b.length*d.size:=gj _ t;rw[jD,h3] at y;rw[au aa];have:h[k]?=Y (h[k]'(by omega)):=cE _
   rw[this,<-qx];exact p _ _ this
  grind
 grind
section
variable {P:bY}
theorem VX {w:bC} {ty:bE} {j:TypeInfo} (p:P.underlying x=Y (.slice a)) (A:fx P d a) (i:P.info? a=Y j) (a4:d.size<=1300) {ad yd:bu Addr} {n cap m c:X} {olds news:ez} (M:olds.length=n*d.size) (ap:∀b,ad=Y b->∀(f:X) (g:Value),olds[f]?=Y g->w.cell? (b.add f)=Y g) (av:∀b,ad=Y b->b.spot=bo) (J:n<=cap) (an:ad=bo->cap=0) (t:news.length=m*d.size) (H:∀g∈news,g.oneCell'=bp) (C:∀b,yd=Y b->0<m->∀(f:X) (g:Value),news[f]?=Y g->w.cell? (b.add f)=Y g) (bl:yd=bo->m=0) (L:∀b,ad=Y b->ja w b.block b.off (b.off+cap*d.size)) (U:n+m<=hN):∃F o,(anw #[x,x] ty #[.slice ad n cap,.slice yd m c]).run P w=.ok F o/\((
   n+m<=cap/\F=.slice ad (n+m) cap/\((ad=bo/\o=w)\/∃b,ad=Y b/\o=w.setCells b.block (b.off+n*d.size) news))\/
   ∃(e:X) (v:ew),cap<n+m/\n+m<=e/\F=.slice (Y ⟨w.heap.size,0,bo⟩) (n+m) e/\hC w o/\o.heap[w.heap.size]?=Y (.cells v a (0,0))/\o.heap.size=w.heap.size+1/\e*d.size<=v.size/\∀(f:X) (g:Value),(olds++news)[f]?=Y g->v[f]?=Y g):=by
 obtain⟨bs,_,h,_⟩:=A.info;have G:=h.info;rw[i] at G;cases G;have a3:=A.pos;by_cases D:n+m<=cap
 ·by_cases q:m=0
  ·subst q;obtain rfl:news=[]:=rC aa;have K:(ap1 d.size 0 (.slice yd 0 c)).run P w=.ok #[] w:=by
    cases yd with
    |none=>rfl
    |some b=>simp[ap1,loadCells,loadCellsFrom]
   refine⟨.slice ad n cap,w,?_,.inl ⟨D,bn,?_⟩⟩
   ·cases ad with
    |none=>simp[anw,b7 p,al0,alI,i,ap2,h.size,J,K]
    |some b=>simp[anw,b7 p,al0,alI,i,ap2,h.size,J,K,storeCells]
   cases ad with
   |none=>grind
   |some b=>exact .inr ⟨b,bn,bn⟩
  cases ad with
  |none=>grind
  |some b=>
   cases yd with
   |none=>grind
   |some k=>
    obtain⟨N,O,Q⟩:=b;obtain rfl:Q=none:=av _ rfl;have V:(n+m)*d.size<=cap*d.size:=gj _ D;rw[jD] at V;have r:=run_append_room_cells (P:=P) w x ty a j p i N O n cap k m c news (by rw[h.size];exact t) (C k bn aa) H D (λf T=>(L _ rfl _ (by grind) (by rw[h.size];grind)).1) (λf T=>(L _ rfl _ (by grind) (by rw[h.size];grind)).2);rw[h.size] at r;grind
 obtain⟨l,a0,u⟩:=A.JC;have u:=u j i;have q:0<m:=aa;cases yd with
 |none=>grind
 |some k=>
  have I:(n+m)*j.bytes<=140737488355328:=(by have H:(n+m)*j.bytes<=hN*31200:=nr U (by have:=h.bytes;omega);grind [hN]);have B:((n+m:X):Z)<=9223372036854775807:=(by grind [hN]);have z:∀(E:X),let e:=grownCap w (n+m) E a
   n+m<=e/\hC w (w.drew.alloc (.cells (olds.toArray++news.toArray++anx l.cells (e-(n+m))) a))/\
   (w.drew.alloc (.cells (olds.toArray++news.toArray++anx l.cells (e-(n+m))) a)).heap[w.heap.size]?=Y (.cells (olds.toArray++news.toArray++anx l.cells (e-(n+m))) a (0,0))/\
   e*d.size<=(olds.toArray++news.toArray++anx l.cells (e-(n+m))).size/\
   ∀(f:X) (g:Value),(olds++news)[f]?=Y g->(olds.toArray++news.toArray++anx l.cells (e-(n+m)))[f]?=Y g:=by
   intro E e;have S:n+m<=e:=grownCap_ge w (n+m) E a;refine⟨S,(hC.refl w).drew.trans (hC.alloc _ _),heap_alloc_new w.drew _,?_,?_⟩
   ·simp only[Array.size_append,uV,size_zeroCells,a0,M,t,<-jD];grind
   grind
  cases ad with
  |some b=>
   have r:=run_append_grow (P:=P) w x ty a j l p i u b n cap olds (by rw[h.size];exact M) (ap b bn) k m c news (by rw[h.size];exact t) (C k bn q) aa B (growslice_fits aa I);obtain⟨y,f2,s,f4,f5⟩:=z cap;exact⟨_,_,r,.inr ⟨_,_,aa,y,bn,f2,s,ac,f4,f5⟩⟩
  |none=>
   have R:=an bn;have am:n=0:=aa;subst R;subst am;obtain rfl:olds=[]:=rC aa;simp only[mm] at B I z;have r:=run_append_nil (P:=P) w x ty a j l p i u k m c news (by rw[h.size];exact t) (C k bn q) q B aa;obtain⟨y,f2,s,f4,f5⟩:=z 0;simp only[hx,Array.empty_append] at y f2 s f4 f5;refine⟨_,_,r,.inr ⟨_,_,aa,aa,by rw[mm],f2,s,ac,f4,f5⟩⟩
end
end
theorem y7 (b:X):∀(g:ez) (d:X) (c:bC) (a:X),a≠b->(c.setCells b d g).heap[a]?=c.heap[a]?
 |[],_,_,_,_=>rfl
 |v::f,d,c,a,e=>by rw[aoc,y7 b f _ _ a e];simp only[ap3,Array.getElem?_modify];grind
theorem uA (b:X):∀(e:ez) (c:X) (a:bC),(a.setCells b c e).heap.size=a.heap.size
 |[],_,_=>rfl
 |v::d,c,a=>by rw[aoc,uA b d];simp
def p7 (b:X):∀(d:ez) (c:X) (a:bC),(a.setCells b c d).os=a.os/\(a.setCells b c d).tape=a.tape/\(a.setCells b c d).output=a.output
 |[],_,_=>⟨bn,bn,bn⟩
 |v::e,c,a=>by rw[aoc];exact p7 b e _ _
theorem LF (d:X) (e:ez) (b:X) (f:bC) (g:∀c,c<e.length->(f.cell? ⟨d,b+c,bo⟩).isSome=bp) (a:X):((f.setCells d b e).cell? ⟨d,a,bo⟩).isSome=(f.cell? ⟨d,a,bo⟩).isSome:=by
 by_cases h:b<=a/\a<b+e.length
 ·obtain⟨c,rfl⟩:∃c,a=b+c:=⟨a-b,aa⟩;grind [anz]
 grind [aod]
theorem aaf (b:bC) (c:Addr) (d:Value) (a:X):jw (b.setCell c d) a=jw b a:=by unfold jw ap3;grind
def Bx (d:X):∀(f:ez) (b:X) (c:bC) (a:X),jw (c.setCells d b f) a=jw c a
 |[],_,_,_=>rfl
 |v::e,b,c,a=>by rw[aoc,Bx d e (b+1),aaf]
theorem sB {vs:ez} {o:X} {w:bC} (a:i≠b):dd w (w.setCells b o vs) i:=.of_heap (y7 b vs o w i a)
theorem Nb {P:bY} {ty:bE} {ek:TypeInfo} (c1:P.underlying x=Y (.slice a)) (ap:fx P d a) (d1:P.info? a=Y ek) (d6:d.size<=1300) {R:bu Addr} {c:X} {q I:bm d.den} {t:et} (U:aW e f (.osl d) [.slice s i b] q k) (V:kS e f d R I t) (bl:k.Nodup) (cs:∀h∈k,∀o,¬e o h) (f7:t.flatten.Nodup) (dl:∀h∈k,h∉t.flatten) (cv:∀o h,e o h->h<f.heap.size) (ds:∀h∈k,h<f.heap.size) (d9:∀h∈t.flatten,h<f.heap.size) (d3:q.length+I.length<=hN):∃an p f2,(anw #[x,x] ty #[.slice s i b,.slice R I.length c]).run P f=.ok an p/\aW e p (.osl d) [an] (q++I) f2/\aW e p (.osl d) [.slice s i b] q k/\f2.Nodup/\(∀h∈f2,h∈k\/h∈t.flatten\/(f.heap.size<=h/\h<p.heap.size))/\f.heap.size<=p.heap.size/\p.os=f.os/\p.tape=f.tape/\p.output=f.output/\(∀h,h<f.heap.size->h∉k->p.heap[h]?=f.heap[h]?)/\(∀o h,e o h->dd f p h)/\(∀h∈t.flatten,dd f p h)/\(∀h,h<f.heap.size->jw p h=jw f h):=by
 obtain⟨rfl,av,z,ce,ft,fz,d8⟩:=kS.osl U;have bs:=ap.pos;obtain⟨G,am,ge,eq,gf⟩:=ce.cells bs;obtain⟨v,el,em,en,f9⟩:=V.cells bs;have a4:=ce.1;have f4:=V.1;obtain⟨an,p,T,dg⟩:=VX (P:=P) (w:=f) (ty:=ty) c1 ap d1 d6 (ad:=s) (yd:=R) (n:=q.length) (cap:=b) (m:=I.length) (c:=c) (olds:=G) (news:=v) am (λh K l y A=>eq h K (by grind) l y A) (λh K=>by grind) av (λM=>by grind) el em (λh K f5 l y A=>en h K (by grind) l y A) (λM=>by rcases V.2 with rfl|⟨h,gc,E,_⟩;rfl;grind) (λh K=>by
   grind) d3
 have fs:(z++t).flatten=z.flatten++t.flatten:=ac;have f6:(z++t).flatten.Nodup:=(by grind);have S:∀(g:X) (F:d.den) (C:ak9),(q++I)[g]?=Y F->(z++t)[g]?=Y C->aW e f d (((G++v).drop (g*d.size)).take d.size) F C/\∀h∈C,h∈z.flatten\/h∈t.flatten:=by
  intro g F C j L;rcases cU g q.length with E|E
  ·rw[qp E] at j;rw[qp aa] at L;have u:(g+1)*d.size<=q.length*d.size:=gj _ E;rw[jD,h3] at u;rw[sU aa,uW (by grind)];grind [amJ,anl]
  rw[rD E] at j;rw[rD aa,a4] at L;have u:q.length*d.size<=g*d.size:=gj _ E;rw[List.drop_append,rB aa,hx,am,show g*d.size-q.length*d.size=(g-q.length)*d.size by rw[Nat.sub_mul]];grind [amJ,anl]
 rcases dg with⟨d5,rfl,d7⟩|⟨ci,co,f0,fT,rfl,D,d0,f1,fr,fp⟩
 ·rcases d7 with⟨rfl,rfl⟩|⟨h,rfl,rfl⟩
  ·have fn:b=0:=(by grind);obtain rfl:q=[]:=rC aa;obtain rfl:I=[]:=rC aa;exact⟨_,p,k,T,by grind,U,bl,λh K=>.inl K,bc _,bn,bn,bn,λ_ _ _=>rfl,λ_ _ _=>dd.refl _ _,λ_ _=>dd.refl _ _,λ_ _=>rfl⟩
  rcases d8 with⟨M,_⟩|⟨r,B,M,rfl,a0⟩
  ·cases M
  cases M;have fl:r∉z.flatten:=(j4.1 bl).1;have c2:r∉t.flatten:=dl r ac;have d4:(q.length+I.length)*d.size<=b*d.size:=gj _ d5;rw[jD] at d4;have bx:∀l,l<v.length->(f.cell? ⟨r,B+q.length*d.size+l,bo⟩).isSome=bp:=λl A=>(a0 _ aa aa).1;have J:∀o g,e o g->e o g/\dd f (f.setCells r (B+q.length*d.size) v) g:=λo g j=>⟨j,sB (λO=>cs r ac o (O▸j))⟩;have a3:ja (f.setCells r (B+q.length*d.size) v) r B (B+b*d.size):=λl u N=>(by rw[LF r v _ f bx,aoZ];exact a0 l u N);have ex:∀l y,(G++v)[l]?=Y y->(f.setCells r (B+q.length*d.size) v).cell? ⟨r,B+l,bo⟩=Y y:=by
   intro l y A;rcases cU l G.length with E|E
   ·grind [ame,aod,List.getElem?_append_left]
   rw[rD E] at A;obtain⟨H,rfl⟩:∃H,l=G.length+H:=⟨l-G.length,aa⟩;rw[sX] at A;have Q:H<v.length:=(h0.1 A).1;rw[am,<-qx,anz r v _ f bx H Q];grind
  refine⟨_,_,r::(z++t).flatten,T,?_,?_,?_,?_,by rw[uA];omega,(p7 _ _ _ _).1,(p7 _ _ _ _).2.1,(p7 _ _ _ _).2.2,?_,λo g j=>(J o g j).2,λg j=>sB (λO=>c2 (by grind)),λg _=>Bx _ _ _ _ _⟩
  ·refine⟨Y ⟨r,B,bo⟩,b,ac,.inr ⟨r,B,z++t,bn,bn,by grind,by grind,a3,λg F C j L=>?_⟩⟩;obtain⟨u,N⟩:=S g F C j L;refine⟨_,u.len,λl y A=>?_,u.mono J (λH Q=>sB (λO=>?_))⟩
   ·have d2:(G++v)[g*d.size+l]?=Y y:=by
     grind
    grind
   grind
  ·refine⟨Y ⟨r,B,bo⟩,b,bn,.inr ⟨r,B,z,bn,bn,a4,av,a3,λg F C j L=>?_⟩⟩;have f3:g<q.length:=(h0.1 j).1;obtain⟨u,N⟩:=S g F C (by grind) (by grind);refine⟨_,u.len,λl y A=>?_,u.mono J (λH Q=>sB (λO=>?_))⟩
   ·have d2:(G++v)[g*d.size+l]?=Y y:=by
     grind
    grind
   grind
  ·grind
  ·grind
  grind [y7]
 have J:∀o g,e o g->e o g/\dd f p g:=λo g j=>⟨j,.of_heap (D.heap g (cv o g j))⟩;have f8:∀l,p.cell? ⟨f.heap.size,l,bo⟩=co[l]?/\p.frozen? ⟨f.heap.size,l,bo⟩=bq:=λl=>(by simp[amr,an5,d0]);refine⟨_,p,f.heap.size::(z++t).flatten,T,?_,U.mono J (λg j=>.of_heap (D.heap g (ds g j))),?_,?_,D.size,D.os,D.tape,D.output,λg j _=>D.heap g j,λo g j=>(J o g j).2,λg j=>.of_heap (D.heap g (d9 g j)),λg j=>(dd.of_heap (D.heap g j)).2⟩
 ·refine⟨Y ⟨f.heap.size,0,bo⟩,ci,ac,.inr ⟨f.heap.size,0,z++t,bn,bn,by grind,by grind,λl _ N=>?_,λg F C j L=>?_⟩⟩
  ·grind
  obtain⟨u,N⟩:=S g F C j L;refine⟨_,u.len,λl y A=>?_,u.mono J (λH Q=>.of_heap (D.heap H ?_))⟩
  ·grind
  grind
 ·grind
 grind
section
def fk.get:∀{p:bm a6} {b:ah} {c j:b.den} {e:ah} {k:e.den},fk b c p e k j->∃d,eU b c p e d
 |[],b,c,_,_,_,a=>by obtain⟨rfl,_⟩:=fk.gE.1 a;exact⟨c,eU.gE.2 ⟨bn,bn⟩⟩
 |s::p,b,_,_,_,_,a=>by
  cases b<;>cases s<;>simp only[fk] at a
  case osl.idx=>obtain⟨g,f,i,a,_⟩:=a;obtain⟨d,h⟩:=fk.get (p:=p) a;exact⟨d,g,i,h⟩
  case optr.deref=>exact fk.get (p:=p) a
  case st.unst=>exact fk.get (p:=p) a
  case pr.fst=>obtain⟨f,a,_⟩:=a;exact fk.get (p:=p) a
  case pr.snd=>obtain⟨f,a,_⟩:=a;exact fk.get (p:=p) a
theorem fk.same:∀{p:bm a6} {c:ah} {b:c.den} {d:ah} {f:d.den},eU c b p d f->fk c b p d f b
 |[],c,b,_,_,a=>by grind [fk.gE,eU.gE]
 |s::p,c,b,_,_,a=>by
  cases c<;>cases s<;>simp only[eU] at a
  case osl.idx i=>
   obtain⟨e,g,a⟩:=a;refine⟨e,e,g,fk.same (p:=p) a,?_⟩;grind [List.set_getElem_self,al1]
  case optr.deref=>exact fk.same (p:=p) a
  case st.unst=>exact fk.same (p:=p) a
  case pr.fst=>exact⟨b.1,fk.same (p:=p) a,bn⟩
  case pr.snd=>exact⟨b.2,fk.same (p:=p) a,bn⟩
def FR {a:y} {c:X->y}:fv [(b,P)] (λ_=>a) c b=a:=by simp[fv,eC]
section
variable {E:fM} {C:e7} {st:aR} {a:Act} {A:ew} {w:bC} {I:X->Prop} {rt:X->ez} {fp:X->ak9} {o:bQ}
theorem af1 {c:X} (j:h.length=c) (f:ja w i b (b+c)) (d:X):sO w (w.setCells i b h) (Y (i,b)) c d:=by
 have k:∀a,a<h.length->(w.cell? ⟨i,b+a,bo⟩).isSome=bp:=λa g=>(f _ aa aa).1;refine⟨λa g=>aod i h b w _ (λe _=>?_),λa=>aoZ _ _ _ _ _,λa=>?_,Bx _ _ _ _ _⟩
 ·grind
 by_cases e:d=i
 ·grind [LF]
 rw[((sB (w:=w) (o:=b) (vs:=h) e).1 a).1]
theorem cP.agA (q:cP C st A w I rt fp) {id:X} (r:aq st.h id=Y P) {E:ez} (M:aZ w P.1 bo (rt id) n d (Y (b,i)) E) {x:d.den} {s:P.1.den} (z:fk P.1 P.2 n d x s) {p:ak9} (D:aW (bf I C.B) w d N x p) (fn:p.Nodup) (a3:id∉k) (en:∀a∈p,(∃F,∃U:d.den,d.k5=bp/\aW (bf I C.B) w d E U F/\a∈F)\/∃c∈k,∃f,aq st.h c=Y f/\a∈fp c):ja w b i (i+d.size)/\∃rtn fpn,cP C ⟨kill (id::k) [(id,n)] st.g,(id,⟨P.1,s⟩)::del (id::k) st.h⟩ A (w.setCells b i N) I rtn fpn/\rtn id=rt id/\aZ (w.setCells b i N) P.1 bo (rt id) n d (Y (b,i)) N:=by
 obtain⟨cs,R,ek⟩:=q.tree id P r;obtain⟨U,ci⟩:=z.get;obtain⟨fT,d5,ad,T,am,d7,an,H,d8,ap,av⟩:=Bc n (loc:=bo) cs (λ_ _ j=>by cases j) R (λ_ _ j=>by cases j) (q.notM r) ci;obtain⟨_,al,V⟩:=M.kF am;subst al;subst V;obtain⟨_,y⟩:=an b i bn;have el:b∈T:=(by grind);have bl:b∈fp id:=H.mem_iff.2 (by grind);have Q:=H.nodup_iff.1 R;rw[iI] at Q;obtain⟨ex,O,fl⟩:=Q;have em:∀a∈p,a∈ad\/∃c∈k,∃f,aq st.h c=Y f/\a∈fp c:=λa e=>(by grind [aW.uniq]);have fr:∀c∈k,∀f,aq st.h c=Y f->∀a∈fp c,a∉fp id:=λc m f l a e J=>q.dis c id f P l r (λo=>a3 (o▸m)) a e J;have ce:∀a∈p,a∉T:=λa e J=>(by grind);have a0:∀v a,bf I C.B v a->a≠b:=λv a e o=>q.notM r b bl v (o▸e);have bs:=af1 (w:=w) D.len y;have c1:aW (bf I C.B) (w.setCells b i N) d N x p:=D.mono (λv a e=>⟨e,sB (a0 v a e)⟩) (λa e=>sB (λo=>ce a e (by grind)));have fs:∀u,u<N.length->(w.cell? ⟨b,i+u,bo⟩).isSome=bp:=λu t=>(y _ aa (by have:=D.len;omega)).1;have d9:fE (w.setCells b i N) b i N:=λu d2 t=>(by grind [bX,anz,al1]);obtain⟨d6,G,c2,_,dl,_,ft,ds,dg⟩:=ap (w.setCells b i N) (bf I C.B) N x p s (λ_ _ j=>j) (λa _=>bs a) c1 (λj=>by cases j) (λd3 f0 o=>by grind) z;obtain rfl:=dl bn (.inl ac);have bx:∀a∈G,a∈fp id\/∃c∈k,∃f,aq st.h c=Y f/\a∈fp c:=λa e=>(by grind);have a4:=q.eG (S:=id::k) (keep:=[(id,n)]) (new:=[(id,⟨P.1,s⟩)]) (rtn:=λ_=>rt id) (fpn:=λ_=>G) (w':=w.setCells b i N) (I':=I) ⟨?_,(p7 _ _ _ _).1,(p7 _ _ _ _).2.1,(p7 _ _ _ _).2.2,?_,λa _=>.of_eq (Bx _ _ _ _ _),λ_ j=>j,λ_ j=>.inl j,?_,?_,?_,?_⟩
 ·exact⟨y,_,_,a4,by rw[FR],ds⟩
 ·grind [uA]
 ·grind [y7]
 ·intro c f l;rw[eC] at l;split at l
  ·rename_i o;subst o;cases l;refine⟨.inl ac,c2,?_,λa e=>?_⟩
   ·grind
   rcases bx a e with j|⟨c,m,f,l,j⟩
   ·grind [uA]
   obtain⟨ax,d1,f1,f3⟩:=(q.tree c f l).2.2 a j;grind [uA]
  cases l
 ·intro c u f d2 m t eq;rw[eC] at m t;split at m
  ·split at t
   ·omega
   cases t
  cases m
 ·intro c m f l;simp only[gq] at m;subst m;rw[r] at l;obtain rfl:=gC l;refine⟨⟨P.1,s⟩,?_,bn,bn,⟨_,M.ty⟩,dg⟩;rw[eC,au bn]
 intro c m f l d0 f5 f4 fz d4 f2 K co O L cv;simp only[gq] at m;subst m;rw[r] at l;obtain rfl:=gC l;refine⟨⟨P.1,s⟩,by rw[eC,au bn],vI K z L,λa e=>?_⟩;obtain⟨ax,d1⟩:=av d0 _ _ _ _ _ K (by exact co) L O cv a e;grind [aoe,sB]
theorem cP.store (p:cP C st A w I rt fp) {id:X} (v:aq st.h id=Y P) {b:X} {c:ez} (s:aZ w P.1 bo (rt id) n d (Y (b,i)) c) {o:d.den} {m:P.1.den} (u:fk P.1 P.2 n d o m) {S2:ak9} (x:aW (bf I C.B) w d N o k) (t:k.Nodup) (q:id∉S2) (r:∀a∈k,(∃e,∃z:d.den,d.k5=bp/\aW (bf I C.B) w d c z e/\a∈e)\/∃j∈S2,∃y,aq st.h j=Y y/\a∈fp j):ja w b i (i+d.size)/\∃l f,cP C ⟨kill (id::S2) [(id,n)] st.g,(id,⟨P.1,m⟩)::del (id::S2) st.h⟩ A (w.setCells b i N) I l f:=by obtain⟨D,l,f,E,_⟩:=p.agA v s u x t q r;grind
inductive xg where
 |e6 (s:aR)
 |part (α:Type) (φ:α->Prop) (f:α->aR)
 |bad
def xg.K (c:xg) (Q:aR->Prop):Prop:=
 match c with
 |.e6 d=>Q d
 |.part e f b=>∃a:e,f a/\Q (b a)
 |.bad=>b4
def e8 (E:fM) (C:e7) (o:bQ) (st:aR) (Q:aR->Prop):Prop:=
 ∀(a:Act) (w:bC),gR C st a.tmps w->∀(next:Act->bC->Prop) (e:b5->Act->bC->Prop),(∀c b d,Q c->b.defers=a.defers->gR C c b.tmps d->next b d)->o.wp E.P a w next e
variable {Q:aR->Prop}
def e8.eval {an:bm (X×ah)} (j:o.dst=Y b) (l:C.ok b) (i:(hg E.tt an st.h (aX st.g) b o.op).K (λc e=>Q ⟨(b,c)::st.g,e++st.h⟩)):e8 E C o st Q:=by
 rintro a w ⟨I,rt,fp,d⟩ next r m
 exact(XT d i).wp d j l (λc e f q n k p=>m _ f q n k p)
def su (b:bm (X×aE)) (c:ak):bu (X×bm a6):=
 match c with
 |.addr id a=>Y (id,a)
 |.ref id a=>match aq b id with
  |some ⟨d,_⟩=>match fC d a with
   |some (.optr _)=>Y (id,a++[.deref])
   |_=>bo
  |none=>bo
 |_=>bo
def GQ (
 tt:bm (bE×ah)) (st:aR) (m:bE) (o v:ak):xg:=
 match su st.h o with
 |none=>.bad
 |some (
  id,p)=>match aq st.h id,aq tt m with
  |some ⟨b,e⟩,Y n=>match fC b p with
   |none=>.bad
   |some c=>bif bd n c then match v with
    |.ref d i=>match aq st.h d with
     |some ⟨r,j⟩=>bif bH id d then .bad else
      .part (c.den×b.den) (λa=>eU r j i c a.1/\fk b e p c a.1 a.2) (λa=>⟨kill [id,d] [(id,p)] st.g,(id,⟨b,a.2⟩)::del [id,d] st.h⟩)
     |none=>.bad
    |.app d i f q l=>if _e:c=.osl f then
     .part (bm f.den×b.den) (λa=>d=id/\i=p/\eU b e p (.osl f) a.1/\fk b e p (.osl f) (a.1++q) a.2) (λa=>⟨kill (id::l) [(id,p)] st.g,(id,⟨b,a.2⟩)::del (id::l) st.h⟩) else .bad
    |v=>match coe c v with
     |some j=>.part b.den (λk=>fk b e p c j k) (λk=>⟨kill [id] [(id,p)] st.g,(id,⟨b,k⟩)::del [id] st.h⟩)
     |none=>.bad
   else .bad
  |_,_=>.bad
theorem aen (m:cP C st a.tmps w I rt fp) {id:X} (b:su st.h (aX st.g c)=Y (id,n)) (k:aq st.h id=Y P) (v:fC P.1 n=Y d):∃j q r,a.eval c=.pointer (Y ⟨j,q,bo⟩)/\aZ w P.1 bo (rt id) n d (Y (j,q)) r:=by
 have i:=m.aX c;unfold su at b;generalize B:a.eval c=E at i;split at b
 ·rename_i y A l;cases b;rw[l] at i;cases i with|addr f e=>
  rw[k] at f;cases f;have:=e.ty;grind
 ·rename_i y A l;split at b
  case h_2=>cases b
  rename_i G F p;split at b
  case h_2=>cases b
  rename_i D x;cases b;rw[k] at p;cases p;rw[l] at i;cases i with|ref f e=>
  rw[k] at f;cases f;have:=e.ty;rw[x] at this;cases this;obtain⟨j,z,u,rfl,s,t⟩:=pX (m.tree id _ k).1 e;have o:=e.append (aZ.IW s t);have:=o.ty;rw[v] at this;cases this;exact⟨j,z,u,bn,o⟩
 grind
theorem agz (k:aq E.tt x=Y d) (m:bd d q=bp) (t:o.op=.store x g c) (u:a.eval g=.pointer (Y ⟨i,b,bo⟩)) (r:(a.eval c).cells=h.toArray) (s:h.length=q.size) (j:∀c∈h,c.oneCell'=bp) (f:ja w i b (b+q.size)):(bM a.eval o).run E.P w=.ok .skip (w.setCells i b h):=by have p:=(E.ok x d k).lay m;have n:=run_storeCells_cells (P:=E.P) i b h 0 w (λe l=>by simpa using(f (b+e) aa aa).1) (λe l=>by simpa using(f (b+e) aa aa).2) j;simp only[ml] at n;have:(storeVar x ⟨i,b,bo⟩ (a.eval c)).run E.P w=.ok () (w.setCells i b h):=(by simp only[storeVar,r,bW,p.sizeOf,b1];grind);simp_all [bM,Instr.storeAt,amL]
theorem agy {am:bL} (c2:o.op=.store x am c) (bl:o.dst=bo) (b:(GQ E.tt st x (aX st.g am) (aX st.g c)).K Q):e8 E C o st Q:=by
 rintro a w ⟨I,rt,fp,f⟩ next ap c1
 have h:=f.aX c;unfold GQ at b;split at b
 ·exact b.elim
 rename_i id fl dl;split at b
 case h_2=>exact b.elim
 rename_i f0 fT ad p R;split at b
 ·exact b.elim
 rename_i t d1;cases u:bd ad t with
 |false=>rw[u] at b;exact b.elim
 |true=>
 rw[u] at b;simp only[bF] at b;obtain⟨N,J,d8,d2,v⟩:=aen f dl p d1;have F:=(E.ok x ad R).lay u;have D:∀(j:ez) (L:aR) (e:X->ez) (d:X->ak9),(a.eval c).cells=j.toArray->j.length=t.size->(∀c∈j,c.oneCell'=bp)->ja w N J (J+t.size)->cP C L a.tmps (w.setCells N J j) I e d->Q L->o.wp E.P a w next ap:=by
  intro j L e d al A a0 a3 d0 ds;unfold alk;rw[agz R u c2 d2 al A a0 a3];show next (a.put o.dst bV) _
  rw[bl];exact c1 _ _ _ ds bn ⟨I,e,d,d0⟩
 split at b
 ·rename_i i U B;split at b
  case h_2=>exact b.elim
  rename_i f1 ft z;cases S:bH id i with
  |true=>rw[S] at b;exact b.elim
  |false=>
   rw[S] at b;obtain⟨⟨M,an⟩,⟨ce,n⟩,b⟩:=b;have en:id≠i:=λO=>(by simp_all);rw[B] at h;generalize H:a.eval c=d6 at h;cases h with|ref q G=>
   rw[z] at q;cases q;obtain⟨s,V,fn⟩:=f.tree i _ z;obtain⟨ex,d9,f2,fr,d4,r,_,T,_⟩:=Fi U (τ':=t) (y:=M) s (loc:=bo) (λ_ _ b=>by cases b) V (λ_ _ b=>by cases b) (f.notM z) ce;obtain⟨rfl,rfl,rfl⟩:=G.kF d4;have cv:f2.Nodup:=(iI.1 (T.nodup_iff.1 V)).1;obtain⟨m,e,d,l⟩:=f.store p v n r cv (S2:=[i]) (by grind) (λav a4=>.inr ⟨i,ac,_,z,T.mem_iff.2 (by grind)⟩);exact D _ _ e d (by rw[H];exact pc F r.len r.one) r.len r.one m l b
 ·rename_i i U d7 fz d5 B;split at b
  case isFalse=>exact b.elim
  rename_i O;subst O;obtain⟨⟨fs,an⟩,⟨rfl,rfl,bs,n⟩,b⟩:=b;rw[B] at h;generalize H:a.eval c=d6 at h;cases h with|app q co G bx ek el k dg eq cs=>
  rw[p] at q;cases q;obtain rfl:=eU.uniq bs bx;obtain⟨_,al,A⟩:=v.kF G;subst al;subst A;have em:(ah.osl d7).k5=bp:=co;obtain⟨m,e,d,l⟩:=f.store p v n k cs (S2:=d5) (λci=>(dg _ ci).1 bn) (λav a4=>by
   grind)
  exact D _ _ e d (by rw[H];have:=pc F k.len k.one;exact this) k.len k.one m l b
 split at b
 case h_2=>exact b.elim
 rename_i M d3;obtain⟨an,n,b⟩:=b;have s:=Il F h d3;obtain⟨m,e,d,l⟩:=f.store p v n s ac (S2:=[]) ac ac;exact D _ _ e d ac s.len s.one m l b
end
end
section
theorem Fg (a:bm (bm y)) (c b:X):((a.take b).drop c).flatten.Sublist a.flatten:=by have d:a.flatten=((a.take b).take c).flatten++((a.take b).drop c).flatten++(a.drop b).flatten:=(by grind [List.flatten_append,anA]);grind
section
variable {E:fM} {C:e7} {st:aR} {a:Act} {A:ew} {w:bC} {I:X->Prop} {rt:X->ez} {fp:X->ak9} {o:bQ} {Q:aR->Prop}
def CW (c:bm (X×ah)) (st:aR) (a:X) (i:ak):xg:=
 match i with
 |.ref id []=>match aq st.h id with
  |some b=>.e6 ⟨(a,.ref a [])::kill [id,a] [] st.g,(a,b)::del [id,a] st.h⟩
  |none=>.bad
 |.ref id f=>bif bH id a then .bad else .e6 ⟨(a,.ref id f)::kill [a] [] st.g,del [a] st.h⟩
 |.view id [] e d=>match aq st.h id with
  |some ⟨.osl b,j⟩=>.e6 ⟨(a,.ref a [])::kill [id,a] [] st.g,(a,⟨.osl b,(j.take d).drop e⟩)::del [id,a] st.h⟩
  |_=>.bad
 |.eB (.slice bo 0 0)=>match aq c a with
  |some (.osl b)=>.e6 ⟨(a,.ref a [])::kill [a] [] st.g,(a,⟨.osl b,[]⟩)::del [a] st.h⟩
  |_=>.bad
 |_=>.bad
theorem n0.one {w':bC} {I':X->Prop} {S:ak9} {d:X} {t:aE} {cs:ez} {f:ak9} (x:d∈S\/aq st.h d=bo) (j:w.heap.size<=w'.heap.size) (k:w'.os=w.os) (l:w'.tape=w.tape) (m:w'.output=w.output) (n:∀b,b<w.heap.size->(∀id∈S,∀t,aq st.h id=Y t->b∉fp id)->w'.heap[b]?=w.heap[b]?) (q:∀b,b<w.heap.size->jw w' b=jw w b) (o:∀b,I b->I' b) (p:∀b,I' b->I b\/(b<w'.heap.size/\(w.heap.size<=b\/∃id∈S,∃t,aq st.h id=Y t/\b∈fp id))) (A:aW (bf I' C.B) w' t.1 cs t.2 f) (y:f.Nodup) (g:∀b∈f,¬I' b/\b<w'.heap.size/\(w.heap.size<=b\/∃i∈S,∃u,aq st.h i=Y u/\b∈fp i)):n0 C st w w' I I' rt fp S [] [(d,t)] (λ_=>cs) (λ_=>f):=by
 refine⟨j,k,l,m,n,λb g=>.of_eq (q b g),o,p,?_,?_,(λid r=>by grind),(λid r=>by grind)⟩
 ·intro s v e;rw[eC] at e;split at e
  ·grind
  cases e
 intro s D v E a c z;rw[eC] at a c;split at a
 ·split at c
  ·omega
  cases c
 cases a
theorem e8.V2 (d5:o.op=.assign c) (d1:o.dst=Y b) (ad:C.ok b) (e:(CW l st b (aX st.g c)).K Q):e8 E C o st Q:=by
 rintro a w ⟨I,rt,fp,s⟩ next U d4
 have n:=s.aX c;have an:(bM a.eval o).run E.P w=.ok (.value (a.eval c)) w:=(by simp[bM,d5]);have H:∀(T:aR) (rtn:X->ez) (fpn:X->ak9),cP C T (a.tmps.setIfInBounds b (a.eval c)) w I rtn fpn->Q T->o.wp E.P a w next U:=by
  intro T rtn fpn x M;unfold alk;rw[an];show next (a.put o.dst (a.eval c)) w
  rw[d1];exact d4 _ _ _ M bn ⟨I,rtn,fpn,x⟩
 have z:∀(S:ak9) (i:aE) (A:ez) (p:ak9),b∈S->aW (bf I C.B) w i.1 A i.2 p->p.Nodup->(∀k∈p,∃a3∈S,∃ek,aq st.h a3=Y ek/\k∈fp a3)->a.eval c=c3 i.1 A->Q ⟨(b,.ref b [])::kill S [] st.g,(b,i)::del S st.h⟩->o.wp E.P a w next U:=by
  intro S i A p d2 x D u d6 M;have v:=s.eG (n0.one (st:=st) (C:=C) (rt:=rt) (w':=w) (I':=I) (S:=S) (d:=b) (t:=i) (cs:=A) (f:=p) (.inl d2) (bc _) rfl rfl rfl (λ_ _ _=>rfl) (λ_ _=>rfl) (λ_ e=>e) (λ_ e=>.inl e) x D (λk dl=>by
   obtain⟨F,q,el,v,ds⟩:=u k dl;obtain⟨ax,d8,a4,bl⟩:=(s.tree F el v).2.2 k ds;grind))
  refine H _ _ _ (v.put ad (av:=.ref b []) ?_) M;rw[d6];refine .ref (t:=i) (loc:=bo) (by rw[k4,eC,au bn];rfl) ?_;rw[FR];exact aZ.here
 unfold CW at e;split at e
 ·rename_i id m;split at e
  case h_2=>exact e.elim
  rename_i i y;rw[m] at n;obtain⟨R,bs,d9⟩:=s.tree id i y;refine z [id,b] i (rt id) (fp id) ac R bs (λk u=>⟨id,ac,i,y,u⟩) ?_ e;generalize ap:a.eval c=bx at n;cases n with|ref N am=>
  grind [aZ.gE]
 ·rename_i id O _ m;cases u:bH id b with
  |true=>rw[u] at e;exact e.elim
  |false=>
   rw[u] at e;have f1:id≠b:=λfr=>(by simp_all);have v:=s.eG (S:=[b]) (keep:=[]) (new:=[]) (rtn:=rt) (fpn:=fp) (w':=w) (I':=I) ⟨bc _,bn,bn,bn,λ_ _ _=>rfl,λ_ _=>.refl _ _,λ_ e=>e,λ_ e=>.inl e,(λ_ _ e=>by cases e),(λ_ _ _ _ e=>by cases e),(λ_ e=>by cases e),(λ_ e=>by cases e)⟩;refine H _ _ _ (v.put ad (av:=.ref id O) ?_) e;have:=v.aX (a:=a) c;have fs:aX (kill [b] [] st.g) c=.ref id O:=by
    cases c with
    |tmp i=>
     show gt (kill [b] [] st.g) i=_;rw[qU,show gt st.g i=.ref id O from m];grind [ht,fS,fo,ak.fD,ak.ids,eY,absurd]
    |const em=>exact absurd m (by cases em<;>simp[aX])
    |global ft=>cases m
    |func p=>cases m
   grind
 ·rename_i id j q m;split at e
  case h_2=>exact e.elim
  rename_i i ce y;rw[m] at n;obtain⟨R,bs,d9⟩:=s.tree id _ y;generalize ap:a.eval c=bx at n z H an;cases n with|mM=>(exact z [id,b] ⟨.osl i,[]⟩ [.slice bo 0 0] [] ac ⟨bo,0,bn,.inl ⟨bn,bn,bn,bn⟩⟩ ac ac bn e)|view N am f2 f3 f4=>
  rename_i k G f5 r;rw[y] at N;cases N;obtain⟨al,_,c1⟩:=aZ.gE.1 am;cases al;obtain⟨eq,fl,L,x⟩:=R;rw[c1] at L;simp only[ia,alf,cc] at L;obtain⟨rfl,rfl,rfl⟩:=L;rcases x with⟨J,_⟩|⟨ex,f6,V,J,fT,ax,d8,a4,bl⟩
  ·cases J
  cases J;have d3:((ce.take q).drop j).length=q-j:=(by grind);refine z [id,b] ⟨.osl i,(ce.take q).drop j⟩ [.slice (Y ⟨k,if r=j then G else G+j*i.size,bo⟩) (q-j) (r-j)] (k::((V.take q).drop j).flatten) ac ?_ ?_ ?_ bn e
  ·refine⟨Y ⟨k,if r=j then G else G+j*i.size,bo⟩,r-j,by rw[d3],.inr ⟨k,_,(V.take q).drop j,bn,bn,by grind,by grind,?_,?_⟩⟩
   ·intro d7 c2 dg;by_cases d0:r=j
    ·grind
    rw[ar d0] at c2 dg;have:j*i.size+(r-j)*i.size=r*i.size:=(by rw[<-jD];grind);exact a4 d7 aa aa
   intro F en p a0 D;have f0:F<q-j:=(by grind);rw[pt,rF aa] at a0 D;obtain⟨cv,ci,fn,co⟩:=bl (j+F) en p a0 D;refine⟨cv,ci,?_,co⟩;grind
  ·grind [List.nodup_cons,Fg]
  grind [Fg,amI]
 ·rename_i m;split at e
  case h_2=>exact e.elim
  rename_i i fz;rw[m] at n;refine z [b] ⟨.osl i,[]⟩ [.slice bo 0 0] [] ac ⟨bo,0,bn,.inl ⟨bn,bn,bn,bn⟩⟩ ac ac ?_ e;generalize ap:a.eval c=bx at n;cases n;rfl
 exact e.elim
end
end
section
inductive ms (σ:ah) where
 |e6 (ys:bm σ.den)
 |part (α:Type) (φ:α->Prop) (f:α->bm σ.den)
 |bad
def sK (g:bm (X×aE)) (b:ah) (k:ak):ms b:=
 match k with
 |.val (.a8 _ j) a=>if e:j=b then .e6 (e▸a) else .bad
 |.eB (.slice bo 0 0)=>.e6 []
 |.ref id c=>match aq g id with
  |some ⟨f,d⟩=>bif b.pure then .part (bm b.den) (λa=>eU f d c (.osl b) a) (λa=>a) else .bad
  |none=>.bad
 |.view id c i h=>match aq g id with
  |some ⟨f,d⟩=>bif b.pure then .part (bm b.den) (λa=>eU f d c (.osl b) a) (λa=>(a.take h).drop i) else .bad
  |none=>.bad
 |_=>.bad
def ms.to {f:ah} (g:ms f) (c:X->Prop) (b:bm f.den->aR):xg:=
 match g with
 |.e6 e=>.part bt (λ_=>c e.length) (λ_=>b e)
 |.part h i d=>.part h (λa=>i a/\c (d a).length) (λa=>b (d a))
 |.bad=>.bad
def CU (
 tt:bm (bE×ah)) (t:bm (X×ah)) (st:aR) (a:X) (s:bE) (j k:ak):xg:=
 match g4 tt s with
 |none=>.bad
 |some o=>match j with
  |.ref id []=>match aq st.h id with
   |some ⟨.osl b,d⟩=>bif bd o b&&b2 b.size 1300 then
    match b.pure,k with
    |false,.ref n []=>match aq st.h n with
     |some ⟨.osl v,c⟩=>if e:v=b then bif bH id n then .bad else .part bt (λ_=>d.length+c.length<=hN) (λ_=>⟨(a,.ref a [])::kill [id,n,a] [] st.g,(a,⟨.osl b,d++(e▸c)⟩)::del [id,n,a] st.h⟩) else .bad
     |_=>.bad
    |_,k=>(sK st.h b k).to (λl=>d.length+l<=hN) (λc=>⟨(a,.ref a [])::kill [id,a] [] st.g,(a,⟨.osl b,d++c⟩)::del [id,a] st.h⟩)
    else .bad
   |_=>.bad
  |.ref id f=>match aq st.h id,aq st.h a with
   |some ⟨m,j⟩,bo=>match fC m f with
    |some (.osl b)=>bif bd o b&&b2 b.size 1300&&b.k5 then
     match sK st.h b k with
     |.e6 c=>.part (bm b.den) (λd=>eU m j f (.osl b) d/\d.length+c.length<=hN) (λ_=>⟨(a,.app id f b c [a])::kill [id] [(id,f),(id,[])] st.g,(a,⟨.eI,()⟩)::(id,⟨m,j⟩)::del [id] st.h⟩)
     |.part u w p=>.part (bm b.den×u) (λi=>eU m j f (.osl b) i.1/\w i.2/\i.1.length+(p i.2).length<=hN) (λi=>⟨(a,.app id f b (p i.2) [a])::kill [id] [(id,f),(id,[])] st.g,(a,⟨.eI,()⟩)::(id,⟨m,j⟩)::del [id] st.h⟩)
     |.bad=>.bad
     else .bad
    |_=>.bad
   |_,_=>.bad
  |.view id [] r q=>match aq st.h id with
   |some ⟨.osl b,d⟩=>bif bd o b&&b2 b.size 1300 then
    (sK st.h b k).to (λl=>((d.take q).drop r).length+l<=hN) (λc=>⟨(a,.ref a [])::kill [id,a] [] st.g,(a,⟨.osl b,(d.take q).drop r++c⟩)::del [id,a] st.h⟩)
    else .bad
   |_=>.bad
  |.eB (.slice bo 0 0)=>match aq t a with
   |some (.osl b)=>bif bd o b&&b2 b.size 1300 then
    (sK st.h b k).to (λl=>l<=hN) (λc=>⟨(a,.ref a [])::kill [a] [] st.g,(a,⟨.osl b,c⟩)::del [a] st.h⟩)
    else .bad
   |_=>.bad
  |_=>.bad
section
variable {E:fM} {C:e7} {st:aR} {a:Act} {A:ew} {w:bC} {I:X->Prop} {rt:X->ez} {fp:X->ak9} {o:bQ} {Q:aR->Prop}
def zP (I:X->Prop) (e:X->Prop) (w:bC) (d:ah) (g:Value) (c:bm d.den):Prop:=
 ∃b f a,g=.slice b c.length f/\kS (bf I e) w d b c a/\a.flatten=[]
def Jj {b:et} (c:∀a∈b,a=[]):b.flatten=[]:=by
 induction b with
 |nil=>rfl
 |cons f g e=>rw[mi,c f ac,e (λa d=>c a (gx _ d))];rfl
theorem kS.pure {f:eH->X->Prop} {e:ah} {g:bu Addr} {d:bm e.den} {c:et} (i:e.pure=bp) (a:kS f w e g d c):c.flatten=[]:=by
 refine Jj (λm h=>?_);obtain⟨q,a⟩:=a;obtain⟨b,n,rfl⟩:=g8.1 h;rcases a with rfl|⟨k,o,_,a⟩
 ·grind
 have p:b<d.length:=aa;obtain⟨l,_,_,j⟩:=a b d[b] c[b] ac ac;exact j.pure i
def ms.holds {c:ah} (e:ms c) (b:bm c.den):Prop:=
 match e with
 |.e6 f=>b=f
 |.part g h d=>∃a:g,h a/\b=d a
 |.bad=>b4
def ms.GZ {f:ms d} {g:bm d.den->aR} (b:(f.to j g).K Q):∃a,f.holds a/\j a.length/\Q (g a):=by
 unfold ms.to at b;cases f with
 |e6 a=>obtain⟨_,c,e⟩:=b;exact⟨a,bn,c,e⟩
 |part l m k=>obtain⟨h,⟨c,e⟩,i⟩:=b;exact⟨k h,⟨h,c,bn⟩,e,i⟩
 |bad=>exact b.elim
theorem wT (x:cP C st a.tmps w I rt fp) {s:bm d.den} (b:(sK st.h d (aX st.g c)).holds s):zP I C.B w d (a.eval c) s:=by
 have f:=x.aX c;unfold sK at b;generalize V:a.eval c=bl at f;split at b
 ·rename_i av a4 q j;split at b
  case isFalse=>exact b.elim
  rename_i n;subst n;obtain rfl:s=q:=b;rw[j] at f;cases f with|val E=>
  have N:=E;obtain⟨_,t,m,rfl,_⟩:=N;obtain⟨_,e⟩:=kS.a8 E;exact⟨t,m,_,bn,e,ac⟩
 ·rename_i j;obtain rfl:s=[]:=b;rw[j] at f;cases f;exact⟨bo,0,[],bn,⟨bn,.inl bn⟩,bn⟩
 ·rename_i id M j;split at b
  case h_2=>exact b.elim
  rename_i P O o;cases k:d.pure with
  |false=>rw[k] at b;exact b.elim
  |true=>
   rw[k] at b;obtain⟨q,y,rfl⟩:=b;rw[j] at f;cases f with|ref p z=>
   rw[o] at p;cases p;obtain⟨rfl,u,r,_⟩:=x.lz o y z;have L:=r;obtain⟨t,m,rfl,_⟩:=L;obtain⟨_,_,v,e,_⟩:=kS.osl r;exact⟨t,m,v,bn,e,e.pure k⟩
 ·rename_i id M i l j;split at b
  case h_2=>exact b.elim
  rename_i P O o;cases k:d.pure with
  |false=>rw[k] at b;exact b.elim
  |true=>
   rw[k] at b;obtain⟨q,y,rfl⟩:=b;rw[j] at f;cases f with|mM=>(exact⟨bo,0,[],bn,⟨bn,.inl bn⟩,bn⟩)|view p z ad am an=>
   rename_i F a3 ap m;rw[o] at p;cases p;obtain⟨n,u,r,_⟩:=x.lz o y z;cases n;obtain⟨al,_,v,e,_⟩:=kS.osl r;have K:((q.take l).drop i).length=l-i:=(by grind);show zP I C.B w d _ ((q.take l).drop i);refine⟨_,m-i,(v.take l).drop i,by rw[K],⟨by simp[e.1],?_⟩,?_⟩
   ·obtain⟨T,e⟩:=e;by_cases U:l=i
    ·grind
    right;rcases e with rfl|⟨Q,a0,n,e⟩
    ·grind
    cases n;refine⟨F,_,bn,λD c u f A=>?_⟩;have S:D<l-i:=(by grind);rw[pt,rF aa] at f A;obtain⟨J,G,R,H⟩:=e (i+D) c u f A;refine⟨J,G,?_,H⟩;grind
   have:=e.pure k;grind [Fg]
 exact b.elim
theorem ahy {c f l a:X} {m:bm d.den} (p:aW e w (.osl d) [.slice (Y ⟨c,f,bo⟩) l i] m k) (B:k.Nodup) (D:b<=a) (E:a<=l) (F:l<=i):∃h,aW e w (.osl d) [.slice (Y ⟨c,if i=b then f else f+b*d.size,bo⟩) (a-b) (i-b)] ((m.take a).drop b) h/\h.Nodup/\∀o∈h,o∈k:=by
 obtain⟨y,A,n,u⟩:=p;simp only[ia,alf,cc] at n;obtain⟨rfl,rfl,rfl⟩:=n;rcases u with⟨j,_⟩|⟨z,G,g,j,rfl,ax,H,x,I⟩
 ·cases j
 cases j;have t:((m.take a).drop b).length=a-b:=(by grind);have C:((g.take a).drop b).flatten.Sublist g.flatten:=Fg _ _ _;refine⟨c::((g.take a).drop b).flatten,⟨Y ⟨c,if i=b then f else f+b*d.size,bo⟩,i-b,by rw[t],.inr ⟨c,_,(g.take a).drop b,bn,bn,by grind,aa,?_,?_⟩⟩,?_,?_⟩
 ·intro v q r;by_cases s:i=b
  ·grind
  rw[ar s] at q r;have:b*d.size+(i-b)*d.size=i*d.size:=(by rw[<-jD];grind);exact x v aa aa
 ·grind
 ·grind
 grind
def Na (b:o.op=.call {callee:=.builtin .append,args:=#[c,g],argTypes:=#[x,x]}) (d:(anw #[x,x] o.type #[a.eval c,a.eval g]).run E.P w=.ok R f):(bM a.eval o).run E.P w=.ok (.value R) f:=by simp only[bM,b,alW,invoke,amg,bW,ct,b1,an9,gL,uT,d]
theorem e8.zV {K L:bL} (c1:o.op=.call {callee:=.builtin .append,args:=#[K,L],argTypes:=#[x,x]}) (ap:o.dst=Y b) (a4:C.ok b) (p:cP C st a.tmps w I rt fp) {next:Act->bC->Prop} {N:b5->Act->bC->Prop} (cv:∀H z m,Q H->z.defers=a.defers->gR C H z.tmps m->next z m) {J:ah} (ad:g4 E.tt x=Y J) (ce:bd J q=bp) (ds:q.size<=1300) {S:ak9} (a0:b∈S) {G A:X} {xs r:bm q.den} {f1:ak9} {v:et} {M:bu Addr} (fr:a.eval K=.slice s G A) (dl:aW (bf I C.B) w (.osl q) [.slice s G A] xs f1) (bs:f1.Nodup) (eq:∀e∈f1,∃j∈S,∃k,aq st.h j=Y k/\e∈fp j) (fs:a.eval L=.slice M r.length i) (bl:kS (bf I C.B) w q M r v) (bx:v.flatten.Nodup) (ex:∀e∈v.flatten,∃j∈S,∃k,aq st.h j=Y k/\e∈fp j) (a3:∀e∈f1,e∉v.flatten) (ci:xs.length+r.length<=hN) (c2:Q ⟨(b,.ref b [])::kill S [] st.g,(b,⟨.osl q,xs++r⟩)::del S st.h⟩):o.wp E.P a w next N:=by
 obtain⟨j,ek,el,T,U⟩:=g4.ok ad;have D:=U.lay ce;obtain⟨ft,_,d1,_⟩:=D.info;have fn:∀j k,aq st.h j=Y k->∀e∈fp j,e<w.heap.size/\∀F,¬bf I C.B F e:=λj k y e l=>⟨((p.tree j k y).2.2 e l).2.2.1,p.notM y e l⟩;obtain⟨u,m,f2,f3,d3,_,aV,d4,d5,d6,d7,d8,d2,f4,_,d9⟩:=Nb (P:=E.P) (ty:=o.type) T D d1.info ds dl (c:=i) bl bs (λe l=>by grind) bx a3 (λF e co=>p.ib e (nH co)) (λe l=>by grind) (λe l=>by grind) ci;have dg:(bM a.eval o).run E.P w=.ok (.value u) m:=Na (E:=E) c1 (by grind);have an:∀e∈f2,(∃j∈S,∃k,aq st.h j=Y k/\e∈fp j)\/(w.heap.size<=e/\e<m.heap.size):=λe l=>by
  rcases d4 e l with n|n|n
  ·grind
  ·grind
  omega
 have d0:=p.eG (n0.one (st:=st) (C:=C) (rt:=rt) (w':=m) (I':=I) (S:=S) (d:=b) (t:=⟨.osl q,xs++r⟩) (cs:=[u]) (f:=f2) (.inl a0) d5 d6 d7 d8 (λe l em=>d2 e l (λen=>by grind)) d9 (λ_ n=>n) (λ_ n=>.inl n) d3 aV (λe l=>by
   rcases an e l with⟨j,fl,k,y,am⟩|⟨O,R⟩
   ·obtain⟨ax,fz,fT,f0⟩:=(p.tree j k y).2.2 e am;grind
   exact⟨λV=>by have:=p.ib e (.inl V);omega,R,.inl O⟩))
 unfold alk;rw[dg];show next (a.put o.dst u) m
 rw[ap];refine cv _ _ _ c2 bn ⟨I,_,_,d0.put a4 (av:=.ref b []) ?_⟩;have:u=c3 (.osl q) [u]:=rfl;rw[this];refine .ref (t:=⟨.osl q,xs++r⟩) (loc:=bo) (by rw[k4,eC,au bn];rfl) ?_;rw[FR];exact aZ.here
end
end
section
section
variable {E:fM} {C:e7} {st:aR} {a:Act} {A:ew} {w:bC} {I:X->Prop} {rt:X->ez} {fp:X->ak9} {o:bQ} {Q:aR->Prop}
theorem Nd {a0 ft:bL} (i0:o.op=.call {callee:=.builtin .append,args:=#[a0,ft],argTypes:=#[x,x]}) (ce:o.dst=Y b) (gt:C.ok b) (p:cP C st a.tmps w I rt fp) {next:Act->bC->Prop} {fz:b5->Act->bC->Prop} (ix:∀fr a3 w',Q fr->a3.defers=a.defers->gR C fr a3.tmps w'->next a3 w') {ap:ah} (ge:g4 E.tt x=Y ap) (hw:bd ap q=bp) (i3:q.size<=1300) (dg:q.k5=bp) {id:X} (hc:aX st.g a0=.ref id n) {m:d.den} (u:aq st.h id=Y ⟨d,m⟩) (gs:aq st.h b=bo) {y O:bm q.den} (cs:eU d m n (.osl q) y) {S2:ak9} (kd:∃d0 G A,a.eval ft=.slice d0 O.length G/\kS (bf I C.B) w q d0 O A/\A.flatten.Nodup/\∀e∈A.flatten,∃f∈S2,∃z,aq st.h f=Y z/\e∈fp f) (bx:∀f∈S2,f≠id/\∃ap,aq st.h f=Y ap) (ic:y.length+O.length<=hN) (ek:Q ⟨(b,.app id n q O (b::S2))::kill [id] [(id,n),(id,[])] st.g,(b,⟨.eI,()⟩)::(id,⟨d,m⟩)::del [id] st.h⟩):o.wp E.P a w next fz:=by
 obtain⟨f,or,bs,f7,f8⟩:=g4.ok ge;have d3:=f8.lay hw;obtain⟨rd,_,lt,_⟩:=d3.info;have dl:=p.aX a0;rw[hc] at dl;generalize jp:a.eval a0=sl at dl;cases dl with|ref r c2=>
 rename_i sz d1 fT;rw[u] at r;cases r;simp only at c2;obtain⟨l2,ex,mc⟩:=p.tree id _ u;obtain⟨rl,oN,H,ds,f3,d2,f4,R,pv,f5,f6⟩:=Bc n (loc:=bo) l2 (λ_ _ j=>by cases j) ex (λ_ _ j=>by cases j) (p.notM u) cs;obtain⟨f0,al,f1⟩:=c2.kF f3;subst f0;subst al;subst f1;have d9:=R.nodup_iff.1 ex;rw[iI] at d9;obtain⟨ii,d8,io⟩:=d9;obtain⟨a4,bl,rfl,_⟩:=(show aW (bf I C.B) w (.osl q) fT y H from d2);obtain⟨d0,G,A,lb,hi,hs,co⟩:=kd;have V:∀e∈H,e∈fp id:=λe i=>R.mem_iff.2 (by grind);have c1:∀e∈fp id,e<w.heap.size/\∀M,¬bf I C.B M e:=λe i=>⟨(mc e i).2.2.1,p.notM u e i⟩;have kg:∀e∈A.flatten,e<w.heap.size:=λe i=>(by obtain⟨f,l,z,ad,T⟩:=co e i;exact((p.tree f z ad).2.2 e T).2.2.1);obtain⟨fs,w',f2,mp,mt,fn,mz,nd,ne,nn,no,nx,fl,rs,_,n7⟩:=Nb (P:=E.P) (ty:=o.type) f7 d3 lt.info i3 d2 (c:=G) hi ii (λe i=>(c1 e (V e i)).2) hs (λe i gl=>by
  obtain⟨f,l,z,ad,T⟩:=co e gl;exact p.dis id f _ z u ad (bx f l).1.symm e (V e i) T)
  (λM e d7=>p.ib e (nH d7)) (λe i=>(c1 e (V e i)).1) kg ic
 have i2:(bM a.eval o).run E.P w=.ok (.value fs) w':=Na (E:=E) i0 (by rw[jp,lb];exact mp);have el:∀e∈ds,e<w.heap.size/\e∉H:=λe i=>⟨(c1 e (R.mem_iff.2 (by grind))).1,λj=>io e j e i bn⟩;have em:∀e,(∃M,bf I C.B M e)\/e∈ds->dd w w' e:=λe i=>by
  rcases i with⟨M,d7⟩|i
  ·grind
  exact .of_heap (fl e (el e i).1 (el e i).2)
 have gf:∀e N,d1=Y (e,N)->fE w' e N [.slice a4 y.length bl]:=λe N k=>(by have i:e∈ds:=(by grind);exact(f4 e N k).1.sm (em e (.inr i)));obtain⟨pl,J,rg,_,lc,_,le,lf⟩:=f5 w' (bf I C.B) [.slice a4 y.length bl] y H m (λ_ _ j=>j) (λe i=>by
  have U:dd w w' e:=em e (by
   rcases i with j|j|⟨N,j⟩
   ·grind
   ·grind
   grind)
  exact⟨λv _=>(U.1 v).1,λv=>(U.1 v).2,λv=>by rw[(U.1 v).1],U.2⟩) fn (λ_ _=>rfl) gf (fk.same cs)
 obtain rfl:=lc bn (.inr bn);have ra:J.Perm (fp id):=le.trans R.symm;have s:b≠id:=λk=>(by grind);have d5:∀e∈f2,e∈H\/e∈A.flatten\/(w.heap.size<=e/\e<w'.heap.size):=λe i=>nd e i
 let K:=f2.filter λe=>br (w.heap.size<=e)
 have hr:∀e∈K,w.heap.size<=e/\e<w'.heap.size:=λe i=>by
  have gi:=h1.1 i;have bs:w.heap.size<=e:=(by grind);rcases d5 e gi.1 with j|j|j
  ·grind
  ·grind
  omega
 have i8:=p.eG (S:=[id]) (keep:=[(id,n),(id,[])]) (new:=[(b,⟨.eI,()⟩),(id,⟨d,m⟩)]) (rtn:=λf=>if f=b then[] else rt id) (fpn:=λf=>if f=b then K else J) (w':=w') (I':=I) ⟨ne,nn,no,nx,λe i gc=>fl e i (λj=>gc id ac _ u (V e j)),λe i=>.of_eq (n7 e i),λ_ j=>j,λ_ j=>.inl j,(by
   intro f F l;rw[eC] at l;split at l
   ·rename_i k;subst k;cases l;refine⟨.inr gs,(by simp only[ck];exact bn),(by grind),λe i=>?_⟩;simp only[ck] at i;obtain⟨ax,an⟩:=hr e i;exact⟨λf9=>by have:=p.ib e (.inl f9);omega,an,.inl ax⟩
   ·rw[eC] at l;split at l
    ·rename_i _ k;subst k;grind
    cases l),(by
   intro f v of ol l hv rb e i;have d4:∀am F,aq [(b,(⟨.eI,()⟩:aE)),(id,⟨d,m⟩)] am=Y F->am=b\/am=id:=λam F D=>by
    rw[eC] at D;split at D
    ·omega
    rw[eC] at D;split at D
    ·omega
    cases D
   have L:¬(id=b):=λk=>s k.symm;rcases d4 f of l with rfl|rfl<;>rcases d4 v ol hv with rfl|rfl
   ·omega
   ·grind
   ·grind
   omega),(by
   intro f l F r;have cv:f=(id,n)\/f=(id,[]):=(by grind);have bs:f.1=id:=(by grind);have r:aq st.h id=Y F:=(by grind);rw[u] at r;obtain rfl:=gC r;have L:¬(id=b):=λk=>s k.symm;refine⟨⟨d,m⟩,by rw[bs,eC,ar s,eC,au bn],bn,by grind,(by rcases cv with rfl|rfl;exact⟨_,c2.ty⟩;exact⟨d,by cases d<;>rfl⟩),λeq _ _ _ D ek=>?_⟩;grind [FE]),(by
   intro f l F r eq s0 sy ll os pm ce dg d8 d6 i1;have cv:f=(id,n)\/f=(id,[]):=(by grind);rcases cv with rfl|rfl
   ·rw[u] at r;obtain rfl:=gC r;have L:¬(id=b):=λk=>s k.symm;refine⟨⟨d,m⟩,by rw[eC,ar s,eC,au bn],d6,λG go=>?_⟩;obtain⟨ax,an⟩:=f6 eq _ _ _ _ _ ce (by exact dg) d6 d8 i1 G go;grind
   grind [vH])⟩
 unfold alk;rw[i2];show next (a.put o.dst fs) w'
 rw[ce];refine ix _ _ _ ek bn ⟨I,_,_,i8.put gt (av:=.app id n q O (b::S2)) ?_⟩;have L:¬(id=b):=λk=>s k.symm;have lk:aq ([(b,(⟨.eI,()⟩:aE)),(id,⟨d,m⟩)]++del [id] st.h) id=Y ⟨d,m⟩:=(by rw[k4,eC,ar s,eC,au bn];rfl);have ll:aq ([(b,(⟨.eI,()⟩:aE)),(id,⟨d,m⟩)]++del [id] st.h) b=Y ⟨.eI,()⟩:=(by rw[k4,eC,au bn];rfl);have en:aq [(b,(⟨.eI,()⟩:aE)),(id,⟨d,m⟩)] id=Y ⟨d,m⟩:=(by rw[eC,ar s,eC,au bn]);have lo:aq [(b,(⟨.eI,()⟩:aE)),(id,⟨d,m⟩)] b=Y ⟨.eI,()⟩:=(by rw[eC,au bn]);have ps:fv [(b,(⟨.eI,()⟩:aE)),(id,⟨d,m⟩)] (λf=>if f=b then K else J) fp id=J:=(by simp only[fv,en,ar L]);have pr:fv [(b,(⟨.eI,()⟩:aE)),(id,⟨d,m⟩)] (λf=>if f=b then K else J) fp b=K:=(by simp only[fv,lo,ck]);have mo:fv [(b,(⟨.eI,()⟩:aE)),(id,⟨d,m⟩)] (λf=>if f=b then[] else rt id) rt id=rt id:=(by simp only[fv,en,ar L]);have is:aZ w' d bo (rt id) n (.osl q) d1 [.slice a4 y.length bl]:=lf.1;refine .app (t:=⟨d,m⟩) lk dg (by rw[mo];exact is) cs fn (λe i=>by grind) mt ?_ ?_ mz
 ·intro f l;rcases fF.1 l with rfl|l
  ·grind
  obtain⟨ax,on,an⟩:=bx f l;have ci:¬(b=f):=λk=>(by grind);refine⟨ax,on,?_⟩;rw[k4,eC,ar ci,eC,ar (λk=>ax k.symm),nG,ar (by grind),an];rfl
 intro e i;rcases d5 e i with j|j|j
 ·grind
 ·obtain⟨f,l,z,ad,T⟩:=co e j;obtain⟨ax,_⟩:=bx f l;have ci:¬(b=f):=λk=>(by grind);have ro:aq [(b,(⟨.eI,()⟩:aE)),(id,⟨d,m⟩)] f=bo:=(by rw[eC,ar ci,eC,ar (λk=>ax k.symm)];rfl);exact .inr ⟨f,gx _ l,by grind [fv]⟩
 grind
theorem Nc {p:bL} (N:o.op=.call {callee:=.builtin .append,args:=#[c,p],argTypes:=#[x,x]}) (A:o.dst=Y b) (F:C.ok b) (y:cP C st a.tmps w I rt fp) {next:Act->bC->Prop} (M:∀j e l,Q j->e.defers=a.defers->gR C j e.tmps l->next e l) {k:ah} (z:g4 E.tt x=Y k) (J:bd k d=bp) (R:d.size<=1300) (L:d.k5=bp) {id:X} (G:aX st.g c=.ref id n) {i:q.den} (S:aq st.h id=Y ⟨q,i⟩) (D:aq st.h b=bo) {m f:bm d.den} (H:eU q i n (.osl d) m) (T:zP I C.B w d (a.eval p) f) (K:m.length+f.length<=hN) (O:Q ⟨(b,.app id n d f [b])::kill [id] [(id,n),(id,[])] st.g,(b,⟨.eI,()⟩)::(id,⟨q,i⟩)::del [id] st.h⟩):o.wp E.P a w next t:=by obtain⟨U,r,s,u,v,V⟩:=T;exact Nd (S2:=[]) N A F y M z J R L G S D H ⟨U,r,s,u,v,by grind,by grind⟩ ac K O
end
end
section
section
variable {E:fM} {C:e7} {st:aR} {o:bQ} {Q:aR->Prop}
theorem e8.app {d0:bm (X×ah)} {U:bE} {z L:bL} {s:X} (y:o.op=.call {callee:=.builtin .append,args:=#[z,L],argTypes:=#[U,U]}) (v:o.dst=Y s) (w:C.ok s) (a:(CU E.tt d0 st s U (aX st.g z) (aX st.g L)).K Q):e8 E C o st Q:=by
 rintro A J ⟨F,R,H,c⟩ next fr x
 have q:=c.aX z;unfold CU at a;split at a
 ·exact a.elim
 rename_i T u;split at a
 ·rename_i id t;split at a
  case h_2=>exact a.elim
  rename_i e l f;cases b:(bd T e&&b2 e.size 1300) with
  |false=>rw[b] at a;exact a.elim
  |true=>
  rw[b] at a;simp only[cF] at b;obtain⟨j,d⟩:=b;have d:=g1 d;simp only[bF] at a;rw[t] at q;generalize D:A.eval z=dl at q;cases q with|ref I ap=>
  rw[f] at I;cases I;obtain⟨al,_,G⟩:=aZ.gE.1 ap;subst al;subst G;obtain⟨O,P,eq⟩:=c.tree id _ f;obtain⟨a3,ad,fz,_⟩:=(show aW (bf F C.B) J (.osl e) (R id) l (H id) from O);have c1:A.eval z=.slice a3 l.length ad:=(by rw[D];show(R id).headD bV=_;grind);have dg:aW (bf F C.B) J (.osl e) [.slice a3 l.length ad] l (H id):=(by grind);split at a
  ·rename_i k f2 d1;split at a
   case h_2=>exact a.elim
   rename_i ds r N;split at a
   case isFalse=>exact a.elim
   rename_i bs;subst bs;cases bx:bH id k with
   |true=>rw[bx] at a;exact a.elim
   |false=>
   rw[bx] at a;have d5:id≠k:=λbs=>(by grind [anv]);obtain⟨_,h,a⟩:=a;have av:=c.aX L;rw[d1] at av;generalize p:A.eval L=f9 at av;cases av with|ref cv d4=>
   rw[N] at cv;cases cv;obtain⟨al,_,G⟩:=aZ.gE.1 d4;subst al;subst G;obtain⟨ex,fn,f8⟩:=c.tree k _ N;obtain⟨a4,bl,fT,_⟩:=(show aW (bf F C.B) J (.osl ds) (R k) r (H k) from ex);have d6:A.eval L=.slice a4 r.length bl:=(by rw[p];show(R k).headD bV=_;grind);have fl:aW (bf F C.B) J (.osl ds) [.slice a4 r.length bl] r (H k):=(by grind);obtain⟨_,_,M,n,ci,d3,_⟩:=kS.osl fl;exact e8.zV y v w c x u j d (S:=[id,k,s]) ac c1 dg P (λm b=>⟨id,ac,_,f,b⟩) d6 n (d3 fn) (λm b=>⟨k,ac,_,N,ci m b⟩) (λm b d2=>c.dis id k _ _ f N d5 m b (ci m d2)) h a
  obtain⟨r,i,h,a⟩:=ms.GZ a;obtain⟨a0,V,M,p,n,am⟩:=wT c i;exact e8.zV y v w c x u j d (S:=[id,s]) ac c1 dg P (λm b=>⟨id,ac,_,f,b⟩) p n (by grind) (by grind) (by grind) h a
 ·rename_i id f7 f3 t;split at a
  case h_2=>exact a.elim
  rename_i gf gc f ce;split at a
  case h_2=>exact a.elim
  rename_i e f4;cases b:(bd T e&&b2 e.size 1300&&e.k5) with
  |false=>rw[b] at a;exact a.elim
  |true=>
  rw[b] at a;simp only[cF] at b;obtain⟨⟨j,d⟩,cs⟩:=b;have d:=g1 d;simp only[bF] at a;split at a
  ·rename_i r i;obtain⟨l,⟨an,h⟩,a⟩:=a;exact Nc y v w c x u j d cs t f ce an (wT c (by rw[i];exact bn)) h a
  ·rename_i ge gi fs i;obtain⟨⟨l,el⟩,⟨an,d7,h⟩,a⟩:=a;exact Nc y v w c x u j d cs t f ce an (wT c (by rw[i];exact⟨el,d7,bn⟩)) h a
  exact a.elim
 ·rename_i id c2 co t;split at a
  case h_2=>exact a.elim
  rename_i e l f;cases b:(bd T e&&b2 e.size 1300) with
  |false=>rw[b] at a;exact a.elim
  |true=>
  rw[b] at a;simp only[cF] at b;obtain⟨j,d⟩:=b;have d:=g1 d;simp only[bF] at a;rw[t] at q;obtain⟨O,P,eq⟩:=c.tree id _ f;generalize D:A.eval z=dl at q;cases q with|mM=>(obtain⟨r,i,h,a⟩:=ms.GZ a;obtain⟨a0,V,M,p,n,am⟩:=wT c i;exact e8.zV y v w c x u j d (S:=[id,s]) ac (xs:=[]) (f1:=[]) D ⟨bo,0,bn,.inl ⟨bn,bn,bn,bn⟩⟩ ac ac p n (by grind) (by grind) ac (by grind) (by grind))|view I ap d8 d9 ek=>
  rename_i m f6 f5 ad;rw[f] at I;cases I;obtain⟨al,_,G⟩:=aZ.gE.1 ap;cases al;obtain⟨r,i,h,a⟩:=ms.GZ a;obtain⟨a0,V,M,p,n,am⟩:=wT c i;rw[G] at O;obtain⟨fp,ax,em,en⟩:=ahy (show aW (bf F C.B) J (.osl e) _ l (H id) from O) P d8 d9 ek;have f0:((l.take co).drop c2).length=co-c2:=(by grind [kS.osl]);exact e8.zV y v w c x u j d (S:=[id,s]) ac D ax em (λm b=>⟨id,ac,_,f,en m b⟩) p n (by grind) (by grind) (by grind) h a
 ·rename_i t;split at a
  case h_2=>exact a.elim
  rename_i e ft;cases b:(bd T e&&b2 e.size 1300) with
  |false=>rw[b] at a;exact a.elim
  |true=>
  rw[b] at a;simp only[cF] at b;obtain⟨j,d⟩:=b;have d:=g1 d;simp only[bF] at a;rw[t] at q;generalize D:A.eval z=dl at q;cases q;obtain⟨r,i,h,a⟩:=ms.GZ a;obtain⟨a0,V,M,p,n,am⟩:=wT c i;exact e8.zV y v w c x u j d (S:=[s]) ac (xs:=[]) (f1:=[]) D ⟨bo,0,bn,.inl ⟨bn,bn,bn,bn⟩⟩ ac ac p n (by grind) (by grind) ac (by grind) (by grind)
 exact a.elim
end
end
section
def iJ (E:fM) (C:e7) (A:bT bQ) (g:ak9) (st:aR) (Q:aR->Prop):Prop:=
 ∀(a:Act) (e:bC),gR C st a.tmps e->∀c:b5->Act->bC->Prop,(∀d b f,Q d->b.defers=a.defers->gR C d b.tmps f->c .normal b f)->wpOps E.P A c g a e
def lh (A:bT bQ) (st:aR) (d:bQ) (a:bz):Prop:=
 match d.guard with
 |none=>a=bp
 |some (c,e)=>match(A[c]?).bind (·.dst) with
  |some b=>match gt st.g b with
   |.val .bool f=>(f==e)=a
   |.eB (.tuple _)=>a=bq
   |_=>b4
  |none=>b4
section
variable {E:fM} {C:e7} {st:aR} {A:bT bQ} {Q:aR->Prop}
theorem lh.ok {b:Act} (h:cP C st b.tmps f j r p) {l:bQ} {g:bz} (d:lh A st l g):aof l (yielded A b.tmps)=g:=by
 unfold lh at d;unfold aof;split at d
 ·grind
 rename_i t w m;rw[m];split at d
 ·rename_i c i;split at d
  ·rename_i s e;have:=h.tmp c;rw[e] at this;generalize a:b.tmps.getD c bV=q at this;cases this with|val o=>
   obtain⟨_,rfl⟩:=o;have n:b.tmps[c]?=Y (.bool s):=by
    rw[ao0] at a;cases k:b.tmps[c]? with
    |none=>rw[k] at a;cases a
    |some v=>rw[k] at a;simp only[sZ] at a;rw[a];rfl
   simp only[yielded,i,aI,n];rw[<-d];grind
  ·rename_i u e;have:=h.tmp c;rw[e] at this;generalize a:b.tmps.getD c bV=q at this;cases this;subst d;simp only[yielded,i,aI];rw[ao0] at a;grind
  grind
 grind
def iJ.nil (b:Q st):iJ E C A [] st Q:=λa e c _ d=>d st a e b bn c
def iJ.op {a:bQ} (p:A[b]?=Y a) (t:lh A st a bp) (i:e8 E C a st (λd=>iJ E C A k d Q)):iJ E C A (b::k) st Q:=by intro f v c e q;obtain⟨y,B,z,l⟩:=id c;simp only[wpOps,p];rw[t.ok l,au bn];exact .inl (i f v c _ _ (λd g w o m r=>o g w r e (λu h x j n s=>q u h x j (n.trans m) s)))
theorem iJ.skip {a:bQ} (r:A[i]?=Y a) (o:a.dst=Y b) (q:C.ok b) (u:lh A st a bq) (l:iJ E C A k ⟨(b,.eB bV)::st.g,st.h⟩ Q):iJ E C A (i::k) st Q:=by intro z x n e s;obtain⟨d,v,j,c⟩:=id n;simp only[wpOps,r];rw[u.ok c,ar ac,o];exact l _ x ⟨d,v,j,c.put q (.eB bV)⟩ e (λw f y m p t=>s w f y m p t)
def gR.Aa {b:ew} {c:bC} {st a:aR} (f:gR C st b c) (j:pF a.g st) (k:pG a.h st) (l:m5 a.g a.h=bp):gR C a b c:=by obtain⟨d,m,e,i⟩:=f;exact⟨d,m,e,i.Aa j k (m5.get l)⟩
def J (E:fM) (C:e7) (e:cq) (st:aR) (Q:b5->aR->Prop):Prop:=
 ∀(a:Act) (d:bC),gR C st a.tmps d->a.defers=[]->e.wp E.P (λf b g=>∃c,Q f c/\gR C c b.tmps g/\b.defers=[]) a d
variable {R:b5->aR->Prop}
def J.ahA {a:cq} (f:pF z.g st) (i:pG z.h st) (j:m5 z.g z.h=bp) (c:J E C a z R):J E C a st R:=λb k d e=>c b k (d.Aa f i j) e
theorem J.region {id:X} (c:iJ E C A (bI A.size) st (λa=>R .normal a)):J E C (.region id A bq) st R:=
 λb i d e=>wp_region (c b i d _ (λa _a' _w' g f h=>⟨a,g,h,f.trans e⟩))
theorem J.skip (a:R .normal st):J E C .skip st R:=λ_ _ b c=>wp_skip ⟨st,a,b,c⟩
theorem J.exit {id:X} (a:R (.exit id) st):J E C (.exit id) st R:=λ_ _ b c=>wp_exit ⟨st,a,b,c⟩
theorem J.ret (a:R .ret st):J E C .ret st R:=λ_ _ b c=>wp_ret ⟨st,a,b,c⟩
def af0 (E:fM) (C:e7) (b:cq) (R:b5->aR->Prop):b5->aR->Prop
 |.normal,a=>J E C b a R
 |e,a=>R e a
def J.seq {d e:cq} (i:J E C d st (af0 E C e R)):J E C (.seq d e) st R:=λf m j k=>by
 refine wp_seq (wp_mono (i f m j k) ?_);rintro h g n ⟨l,a,b,c⟩;cases h with
 |normal=>exact a g n b c
 |_=>exact⟨l,a,b,c⟩
def J.cond {a:bL} {l m:cq} {c:bz} (n:aX st.g a=.val .bool c) (p:c=bp->J E C l st R) (o:c=bq->J E C m st R):J E C (.cond a l m) st R:=by
 rintro b k ⟨f,j,h,e⟩ i;have:=e.aX a;rw[n] at this;generalize q:b.eval a=s at this;cases this with|val r=>
 obtain⟨_,rfl⟩:=r;exact wp_cond_split q (λd=>p d b k ⟨f,j,h,e⟩ i) (λd=>o d b k ⟨f,j,h,e⟩ i)
def H8 (id:X) (R:b5->aR->Prop):b5->aR->Prop
 |.exit b,a=>match bH b id with
  |true=>R .normal a
  |false=>R (.exit b) a
 |e,a=>R e a
theorem J.block {id:X} {b:cq} (f:J E C b st (H8 id R)):J E C (.block id b) st R:=λd m i j=>by
 refine wp_block (wp_mono (f d m i j) ?_);rintro e n o ⟨l,a,g,h⟩;cases e with
 |exit c=>
  simp only[Exit.inBlock];simp only[H8] at a;by_cases k:c=id
  ·subst k;rw[anv] at a;grind
  have:bH c id=bq:=(by grind [alZ]);grind
 |_=>exact⟨l,a,g,h⟩
def kJ {a c:Type} (b:a->bu (a⊕c)):X->a->bu c
 |0,_=>bo
 |n+1,e=>match b e with
  |none=>bo
  |some (.inl f)=>kJ b n f
  |some (.inr d)=>Y d
open Classical in
def loop {σ ρ:Type} (a:σ->bu (σ⊕ρ)) (d:σ):bu ρ:=
 if h:∃c,∃b,kJ a b d=Y c then Y h.choose else bo
theorem Kb {e g:Type} {f:e->bu (e⊕g)}:∀{n b:X} {d:e} {c:g},n<=b->kJ f n d=Y c->kJ f b d=Y c
 |0,_,_,_,_,a=>by cases a
 |n+1,0,_,_,a,_=>by omega
 |n+1,b+1,d,c,h,a=>by
  simp only[kJ] at a|-;split at a
  ·cases a
  ·exact Kb aa a
  omega
theorem Bs {c:y->bu (y⊕S)} {d:y} {b:S}:loop c d=Y b↔∃a,kJ c a d=Y b:=by
 unfold loop;constructor
 ·intro g;split at g
  ·grind
  grind
 rintro⟨a,f⟩;have e:∃b,∃a,kJ c a d=Y b:=⟨b,a,f⟩;rw[ams e];obtain⟨h,j⟩:=e.choose_spec;have i:=Kb (Nat.le_max_left a h) f;grind [Kb,Nat.le_max_right]
theorem Qp (c:y->bu (y⊕S)) (d:y):loop c d=match c d with
 |none=>bo
 |some (.inl f)=>loop c f
 |some (.inr e)=>Y e:=by
 apply Option.ext;intro e;rw[Bs];cases i:c d with
 |none=>
  simp only[reduceCtorEq,iff_false];rintro⟨a,b⟩;cases a with
  |zero=>cases b
  |succ a=>grind [kJ]
 |some g=>
  cases g with
  |inl f=>
   simp only;rw[Bs];constructor
   ·rintro⟨a,b⟩;cases a with
    |zero=>cases b
    |succ a=>grind [kJ]
   rintro⟨a,b⟩;exact⟨a+1,by grind [kJ]⟩
  |inr j=>
   simp only;constructor
   ·rintro⟨a,b⟩;cases a with
    |zero=>cases b
    |succ a=>grind [kJ]
   intro h;exact⟨1,by grind [kJ]⟩
theorem J.loop {σ ρ K:Type} {b:cq} (lw:σ->aR) {z:σ->bu (σ⊕ρ)} {s:σ} {w:ρ->bu K} {I:K} (N:(loop z s).bind w=Y I) (T:pF (lw s).g st) (U:pG (lw s).h st) (V:m5 (lw s).g (lw s).h=bp) (S:∀d q,z d=Y q->(match q with|.inl _=>True|.inr G=>w G=Y I)->J E C b (lw d) (λc t=>match q with
  |.inl r=>c=.normal/\pF (lw r).g t/\pG (lw r).h t/\m5 (lw r).g (lw r).h=bp
  |.inr _=>(c=.normal->b4)/\R c t)):J E C (.loop b) st R:=by
 obtain⟨G,am,bl⟩:=eV.1 N;obtain⟨p,i⟩:=Bs.1 am;have ap:∀(p:X) (d:σ) (e:Act) (l:bC),kJ z p d=Y G->gR C (lw d) e.tmps l->e.defers=[]->∀(j:Frame) (w:bm Item) (k:bm Frame),
  ∃c v B,(∃t,R c t/\gR C t v.tmps B/\v.defers=[])/\Arrives E.P (lone (j.at e (.code b::.inLoop b::w)) k l) j w k c v B:=by
  intro p
  induction p with
  |zero=>intro d e l i;cases i
  |succ p an=>
   intro d e l i D F j A k;simp only[kJ] at i;cases H:z d with
   |none=>grind
   |some q=>
    rw[H] at i;have Q:=S d q H (by
     grind)
    obtain⟨c,m,u,⟨y,a,o,n⟩,f⟩:=Q e l D F j (.inLoop b::A) k;cases q with
    |inl r=>
     simp only at i a;obtain⟨rfl,ax,av,a0⟩:=a;obtain⟨M,L,a3,ad,O⟩:=an r m u i (o.Aa ax av a0) n j A k;exact⟨M,L,a3,ad,.of_steps (Steps.trans f (.one step_inLoop)) O⟩
    |inr ce=>
     obtain⟨bs,a⟩:=a;cases c with
     |normal=>grind
     |exit id=>exact⟨_,m,u,⟨y,a,o,n⟩,.pass (x:=.inLoop b) rfl (λ_ _=>.inl ac) f⟩
     |goto bx=>exact⟨_,m,u,⟨y,a,o,n⟩,.pass (x:=.inLoop b) rfl (λ_ _=>.inl ac) f⟩
     |ret=>exact⟨_,m,u,⟨y,a,o,n⟩,.pass (x:=.inLoop b) rfl (λ_ _=>.inl ac) f⟩
     |panic a4=>exact⟨_,m,u,⟨y,a,o,n⟩,.pass (x:=.inLoop b) rfl (λ_ _=>.inl ac) f⟩
     |outgrown=>exact⟨_,m,u,⟨y,a,o,n⟩,.pass (x:=.inLoop b) rfl (λ_ _=>.inl ac) f⟩
 refine J.ahA T U V (λe l D F j A k=>?_);obtain⟨c,v,B,a,f⟩:=ap p s e l i D F j A k;exact⟨c,v,B,a,.of_steps (.one step_loop) f⟩
end
end
def ud:eH->eH->bz
 |.bj,_=>bp
 |.c9,.c9=>bp
 |.c9,.bj=>bq
def yq:eH->bz
 |.c9=>bp
 |.bj=>bq
def eN:ah->ah->bz
 |.int i,.int j=>if i=j then bp else bq
 |.bool,.bool|.str,.str|.nil,.nil=>bp
 |.a8 c a,.a8 d b=>ud c d&&eN a b
 |.osl a,.a8 c b=>yq c&&eN a b
 |.ptr c a,.ptr d b=>ud c d&&eN a b
 |.st a,.st b=>eN a b
 |.pr e f,.pr g h=>eN e g&&eN f h
 |.mp a,.fj c b=>yq c&&eN a b
 |.fj c a,.fj d b=>ud c d&&eN a b
 |.fn k a,.fn c b=>bH k c&&eN a b
 |_,_=>bq
theorem ud.ok {f e:X->Prop} (h:∀b,j b->e b) {c d:eH} (g:ud c d=bp) (a:bf f j c b):bf f e d b:=by
 cases c<;>cases d
 ·exact a
 ·exact .inl a
 ·cases g
 exact a.imp id (h b)
theorem yq.ok {a:eH} (b:yq a=bp):a=.c9:=by cases a;cases b;rfl
theorem eN.den:∀{e b:ah},eN e b=bp->e.den=b.den:=by
 intro e
 induction e with
 |a8 f c d=>
  intro b a;cases b<;>simp only[eN] at a<;>try (cases a;done)
  grind
 |ptr f c d=>
  intro b a;cases b<;>simp only[eN] at a<;>try (cases a;done)
  grind
 |osl c d=>
  intro b a;cases b<;>simp only[eN] at a<;>try (cases a;done)
  grind
 |st c d=>
  intro b a;cases b with
  |st m=>grind [eN]
  |_=>simp only[eN] at a;cases a
 |pr g h i j=>
  intro b a;cases b<;>simp only[eN] at a<;>try (cases a;done)
  grind
 |int k=>intro b a;cases b<;>simp only[eN] at a<;>first|rfl|cases a
 |bool=>intro b a;cases b<;>simp only[eN] at a<;>first|rfl|cases a
 |str=>intro b a;cases b<;>simp only[eN] at a<;>first|rfl|cases a
 |nil=>intro b a;cases b<;>simp only[eN] at a<;>first|rfl|cases a
 |optr c _=>grind [eN]
 |eI=>grind [eN]
 |mp c d=>
  intro b a;cases b<;>simp only[eN] at a<;>try (cases a;done)
  grind
 |fj f c d=>
  intro b a;cases b<;>simp only[eN] at a<;>try (cases a;done)
  grind
 |fn l c d=>
  intro b a;cases b<;>simp only[eN] at a<;>try (cases a;done)
  grind
theorem eN.size:∀{c b:ah},eN c b=bp->c.size=b.size:=by
 intro c
 induction c with
 |st i d=>intro b a;cases b<;>simp only[eN] at a<;>first|(simp only[ah.size];exact d a)|cases a
 |pr e f g h=>
  intro b a;cases b<;>simp only[eN] at a<;>try (cases a;done)
  simp only[cF] at a;grind [ah.size]
 |_=>intro b a;cases b<;>simp only[eN] at a<;>first|rfl|cases a
theorem PE (k:y=S) {d:bu (bm (Z×y)×X)} {g:bu (bm (Z×S)×X)} (l:HEq d g):(d=bo/\g=bo)\/∃i a j,d=Y (i,a)/\g=Y (j,a)/\∀e:bm (Z×X×y),kU e i a->∃f:bm (Z×X×S),kU f j a/\f.length=e.length/\∀(h:X) (c:Z×X×S),f[h]?=Y c->∃b:Z×X×y,e[h]?=Y b/\b.1=c.1/\b.2.1=c.2.1/\HEq b.2.2 c.2.2:=by
 subst k;cases l;cases d with
 |none=>grind
 |some m=>grind
theorem eN.c3 {a b:ah} (d:eN a b=bp) (c:ez):c3 b c=jN.c3 a c:=by cases a<;>cases b<;>simp only[eN] at d<;>first|rfl|cases d
theorem PD (f:S=y) {a:bm S} {b:bm y} (g:HEq a b):b.length=a.length/\∀(e:X) (d:y),b[e]?=Y d->∃c,a[e]?=Y c/\HEq c d:=by subst f;grind
theorem YT (e:y=S) {a:bu y} {c:bu S} (f:HEq a c):(a=bo/\c=bo)\/∃b d,a=Y b/\c=Y d/\HEq b d:=by
 subst e;cases f;cases a with
 |none=>grind
 |some b=>grind
theorem YU {c d:Type} (e:y=c) (f:S=d) {a:y×S} {b:c×d} (g:HEq a b):HEq a.1 b.1/\HEq a.2 b.2:=by grind
theorem aW.c9 {E D:X->Prop} (N:∀d,D d->j d):∀{r υ:ah} {e:ez} {x:r.den} {y:υ.den} {g:ak9},eN r υ=bp->HEq x y->aW (bf E D) f r e x g->(∀d∈g,j d)->aW (bf E j) f υ e y []:=by
 intro r
 induction r with
 |int cs=>
  intro υ e x y g a c b _;cases υ<;>simp only[eN] at a<;>try (cases a;done)
  split at a
  ·rename_i K;subst K;cases c;exact⟨bn,b.2⟩
  grind
 |bool=>intro υ e x y g a c b _;cases υ<;>simp only[eN] at a<;>first|(cases a;done)|(cases c;exact⟨bn,b.2⟩)
 |str=>intro υ e x y g a c b _;cases υ<;>simp only[eN] at a<;>first|(cases a;done)|(cases c;exact⟨bn,b.2⟩)
 |nil=>intro υ e x y g a c b _;cases υ<;>simp only[eN] at a<;>first|(cases a;done)|(cases c;exact⟨bn,b.2⟩)
 |optr l _=>grind [eN]
 |eI=>grind [eN]
 |mp l k=>
  intro υ e x y g a c b h;cases υ<;>simp only[eN] at a<;>try (cases a;done)
  simp only[cF] at a;obtain rfl:=yq.ok a.1;rcases PE (eN.den a.2) c with⟨rfl,rfl⟩|⟨R,G,S,rfl,rfl,i⟩
  ·exact⟨bn,b.2⟩
  obtain⟨d,v,s,ax,n,z,q,C,U⟩:=b;obtain⟨t,A,p,i⟩:=i s z;refine⟨d,v,t,ax,bn,A,.inr (h d (by grind)),q,aa,λm T P=>?_⟩;grind [eN.size,eN.c3]
 |fj B l k=>
  intro υ e x y g a c b h;cases υ<;>simp only[eN] at a<;>try (cases a;done)
  simp only[cF] at a;rcases PE (eN.den a.2) c with⟨rfl,rfl⟩|⟨R,G,S,rfl,rfl,i⟩
  ·exact⟨bn,b.2⟩
  obtain⟨d,v,s,ax,n,z,O,q,C,U⟩:=b;obtain⟨t,A,p,i⟩:=i s z;refine⟨d,v,t,ax,bn,A,ud.ok N a.1 O,q,aa,λm T P=>?_⟩;grind [eN.size,eN.c3]
 |fn cv l k=>
  intro υ e x y g a c b h;cases υ<;>simp only[eN] at a<;>try (cases a;done)
  rename_i B o;simp only[cF] at a;obtain rfl:=fH a.1;obtain⟨_,V,ax,n⟩:=b;exact⟨bn,V,ax,k (υ:=o) (x:=x) (y:=y) a.2 c n ac⟩
 |st l k=>
  intro υ e x y g a c b h;cases υ with
  |st o=>exact k (υ:=o) (x:=x) (y:=y) (by grind [eN]) c b h
  |_=>simp only[eN] at a;cases a
 |pr J d ci co=>
  intro υ e x y g a c b h;cases υ<;>simp only[eN] at a<;>try (cases a;done)
  rename_i G an;simp only[cF] at a;obtain⟨bl,f2,rfl,w,M⟩:=b;obtain⟨al,a4⟩:=YU (eN.den a.1) (eN.den a.2) c;have ce:=eN.size a.1;exact⟨[],[],bn,by grind,by grind⟩
 |a8 B l k=>
  intro υ e x y g a c b h;obtain⟨rfl,F,u,rfl,ax,n,q⟩:=b;cases υ<;>simp only[eN] at a<;>try (cases a;done)
  rename_i H o;simp only[cF] at a;obtain⟨p,i⟩:=PD (eN.den a.2) c;refine⟨bn,F,u,by rw[p],aa,n,?_⟩;grind [ud.ok,eN.size,List.eq_nil_of_length_eq_zero]
 |osl l k=>
  intro υ e x y g a c b h;cases υ<;>simp only[eN] at a<;>try (cases a;done)
  rename_i H o;simp only[cF] at a;obtain rfl:=yq.ok a.1;obtain⟨F,u,rfl,b⟩:=b;obtain⟨p,i⟩:=PD (eN.den a.2) c;rcases b with⟨rfl,rfl,rfl,rfl⟩|⟨d,I,L,rfl,rfl,ax,n,q,C⟩
  ·obtain rfl:y=[]:=rC aa;exact⟨bn,bo,0,bn,bc _,λ_=>rfl,.inl bn⟩
  refine⟨bn,Y ⟨d,I,bo⟩,u,by rw[p],aa,(λa=>by cases a),.inr ⟨d,I,bn,.inr (h d ac),λm ad Q=>?_⟩⟩;obtain⟨am,w,M⟩:=i m ad Q;have bx:m<x.length:=(h0.1 w).1;obtain⟨a3,ap,av,a0⟩:=C m am (L[m]'(by omega)) w ac
  grind [amI,amJ,b6,eN.size]
 |ptr B l k=>
  intro υ e x y g a c b h;obtain⟨rfl,b⟩:=b;cases υ<;>simp only[eN] at a<;>try (cases a;done)
  rename_i H o;simp only[cF] at a;refine⟨bn,?_⟩;rcases YT (eN.den a.2) c with⟨rfl,rfl⟩|⟨J,d,rfl,rfl,bs⟩
  ·exact b
  grind [ud.ok,eN.size]
inductive oO:(τ:ah)->τ.den->(υ:ah)->υ.den->Prop
 |same {τ υ:ah} {x:τ.den} {y:υ.den} (h:eN τ υ=bp) (YS:HEq x y):oO τ x υ y
 |ptr {t u:ah} {x:t.den} {y:u.den} (h:eN t u=bp) (YS:HEq x y):oO (.optr t) x (.ptr .c9 u) (Y y)
theorem oO.rep {g B:X->Prop} (i:∀a,B a->j a) {m:d.den} {n:q.den} (b:oO d m q n) (l:aW (bf g B) f d h m k) (e:∀a∈k,j a):aW (bf g j) f q h n []:=by
 cases b with
 |same b c=>exact l.c9 i b c e
 |ptr b c=>
  obtain⟨a,r,u,p,rfl,rfl,ax,s,w,t⟩:=l;exact⟨bn,a,r,p,bn,.inr (e a ac),by grind [eN.size],s,t.c9 i b c (λo v=>e o (by grind))⟩
def oO.st {c:d.den} {e:q.den} (a:oO d c q e) (b:ez):c3 d b=c3 q b:=by
 cases a with
 |same a _=>cases d<;>cases q<;>first|rfl|(simp only[eN] at a;cases a;done)
 |ptr a _=>rfl
section
def mY {c d e:Type} (b:c->d->e->Prop):bm c->bm d->bm e->Prop
 |[],[],[]=>True
 |a::as,f::g,h::i=>b a f h/\mY b as g i
 |_,_,_=>b4
def iY {c d:Type} (b:c->d->Prop):bm c->bm d->Prop
 |[],[]=>True
 |a::as,e::f=>b a e/\iY b as f
 |_,_=>b4
theorem MZ {d e:Type} {f:d->e->Prop}:∀{as:bm d} {c:bm e},iY f as c->c.length=as.length
 |[],[],_=>rfl
 |[],_::_,b=>b.elim
 |_::_,[],b=>b.elim
 |a::as,g::c,b=>by have:=MZ b.2;grind
def HP {e f:Type} {c:e->f->Prop}:∀{as:bm e} {d:bm f} {g:bm e} {h:bm f},iY c as d->iY c g h->iY c (as++g) (d++h)
 |[],[],_,_,_,b=>b
 |[],_::_,_,_,b,_=>b.elim
 |_::_,[],_,_,b,_=>b.elim
 |a::as,j::d,_,_,b,i=>⟨b.1,HP b.2 i⟩
theorem zS {h i:Type} {f:h->i->Prop}:∀{as:bm h} {c:bm i},as.length=c.length->(∀(e:X) a b,as[e]?=Y a->c[e]?=Y b->f a b)->iY f as c
 |[],[],_,_=>trivial
 |[],_::_,d,_=>by cases d
 |_::_,[],d,_=>by cases d
 |a::as,b::c,d,g=>⟨g 0 a b bn rfl,zS (by grind) (λe j k l m=>g (e+1) j k (by grind) (by grind))⟩
def HQ {b g h:Type} {c:g->h->Prop} {d:b->g} {e:b->h} (f:∀x,c (d x) (e x)):∀a:bm b,iY c (a.map d) (a.map e)
 |[]=>trivial
 |x::a=>⟨f x,HQ f a⟩
inductive hP where
 |v (t:aE)
 |m (t:aE) (y:t.1.den)
 |o (t:aE)
 |c (f:X) (aib:bm aE)
 |n
 |s (f:X) (l:ak9)
 |w (σ:ah) (xs:bm σ.den) (lo hi:X) (ys:bm σ.den)
def zr (I c:X->Prop) (w:bC) (a:aE) (d:Value):Prop:=∃b,d=c3 a.1 b/\aW (bf I c) w a.1 b a.2 []
def zo (I f:X->Prop) (w:bC):hP->Value->ak9->Prop
 |.v b,d,a=>a=[]/\∃e,d=c3 b.1 e/\aW (bf I f) w b.1 e b.2 []
 |.m b _,d,a=>∃e,d=c3 b.1 e/\aW (bf I f) w b.1 e b.2 a
 |.o b,d,a=>∃e,d=c3 b.1 e/\aW (bf I f) w b.1 e b.2 a
 |.n,d,a=>a=[]/\d=.slice bo 0 0
 |.s _ _,_,a=>a=[]
 |.w q h g j _,d,a=>∃k l i,d=.slice (Y ⟨k,l+g*q.size,bo⟩) (j-g) (i-g)/\(g<j/\j<=h.length/\h.length<=i)/\aW (bf I f) w (.osl q) [.slice (Y ⟨k,l,bo⟩) h.length i] h a
 |.c r t,d,a=>a=[]/\∃p:ez,d=.func (.func r) #[] p.toArray/\iY (zr I f w) t p
def p6:X->bm hP->bu dY
 |_,[]=>bo
 |k,.s a b::_=>Y (k,a,b)
 |k,_::c=>p6 (k+1) c
def ML (w:bC) (b:ez) (i:et):bu dY->Prop
 |none=>True
 |some (d,h,e)=>d<b.length/\(∀c∈e,c<b.length)/\∃a f g,b.getD d bV=.pointer (Y ⟨a,f,bo⟩)/\a<w.heap.size/\a∉i.flatten/\w.cell? ⟨a,f,bo⟩=Y (.func (.func h) #[] g)/\g.toList=e.map λc=>b.getD c bV
def zp (I e:X->Prop) (w:bC):hP->Value->ak9->Prop
 |.m i n,d,a=>∃g,d=c3 i.1 g/\aW (bf I e) w i.1 g n a
 |.w j l b k o,d,a=>∃f h c,d=.slice (Y ⟨f,h+b*j.size,bo⟩) (k-b) (c-b)/\b<c/\aW (bf I e) w (.osl j) [.slice (Y ⟨f,h,bo⟩) l.length c] o a
 |_,_,a=>a=[]
def CH (I:X->Prop) (w:bC) (a:aE) (d:Value) (c:ak9):Prop:=∃b,d=c3 a.1 b/\aW (bf I (λ_=>b4)) w a.1 b a.2 c
def q9:ez->Value
 |[v]=>v
 |vs=>.tuple vs.toArray
structure MJ (I B:X->Prop) (w:bC) (fs:et) (args:bm hP) (vs:ez) (res:bm aE) (I':X->Prop) (gs hs:et) (cC:ez) (w':bC):Prop where
 args:mY (zp I' B w') args vs gs
 res:mY (CH I' w') res cC hs
 nd:(gs.flatten++hs.flatten).Nodup
 Nz:∀b∈gs.flatten++hs.flatten,¬I' b/\¬B b/\b<w'.heap.size/\(w.heap.size<=b\/b∈fs.flatten)
 i:∀b,I b->I' b
 i2:∀b,I' b->I b\/(b<w'.heap.size/\(w.heap.size<=b\/b∈fs.flatten))
 size:w.heap.size<=w'.heap.size
 os:w'.os=w.os
 tape:w'.tape=w.tape
 output:w'.output=w.output
 evo:∀b,b<w.heap.size->li w w' b
 heap:∀b,b<w.heap.size->b∉fs.flatten->w'.heap[b]?=w.heap[b]?
def lM (E:fM) (I:X->Prop) (w:bC):Prop:=∀a∈E.glob,aW (bf I λ_=>b4) w (.a8 .bj (.int a.k)) [.slice (Y ⟨a.b,0,bo⟩) a.xs.length a.xs.length] a.xs []
theorem lM.mono {E:fM} {I I':X->Prop} {w w':bC} (g:lM E I w) (c:∀a,I a->I' a) (i:∀a,I a->w'.heap[a]?=w.heap[a]?):lM E I' w':=λf h=>
 (g f h).mono (λe a d=>by
  have b:I a:=(by cases e;exact d;exact d.elim id False.elim);exact⟨by cases e;exact c a b;exact .inl (c a b),dd.of_heap (i a b)⟩) (λa b=>by cases b)
def sN (E:fM) (g:FuncId) (e:bm hP) (j:bm aE):Prop:=
 ∀(w:bC) (I c:X->Prop) (d:ez) (b:et),(∀a,I a\/c a->a<w.heap.size)->mY (zo I c w) e d b->b.flatten.Nodup->(∀a∈b.flatten,¬I a/\¬c a/\a<w.heap.size)->ML w d b (p6 0 e)->lM E I w->Calls E.P g d.toArray w (λf w'=>∃I' h i cC,f=.returned (q9 cC)/\MJ I c w b e d j I' h i cC w')
def ah.gp:ah->bz
 |.a8 .c9 _|.ptr .c9 _|.fj .c9 _=>bq
 |.a8 .bj a|.ptr .bj a|.osl a|.optr a|.st a|.mp a|.fj .bj a|.fn _ a=>a.gp
 |.pr b c=>b.gp&&c.gp
 |_=>bp
def sI:ah->bz
 |.pr _ _|.nil|.eI=>bq
 |_=>bp
def afp (b:sI d=bp) (c:h.length=d.size) (e:N.length=d.size) (a:c3 d h=c3 d N):h=N:=by
 have i:d.size=1->c3 d h=h.headD bV->c3 d N=N.headD bV->h=N:=(by intro g al f;rw[g] at c e;obtain⟨k,rfl⟩:=qr.1 c;obtain⟨l,rfl⟩:=qr.1 e;rw[al,f] at a;simpa using a);cases d with
 |st j=>have a:ap4 h.toArray=ap4 N.toArray:=a;simpa using a
 |pr=>cases b
 |nil=>cases b
 |eI=>cases b
 |_=>exact i bn rfl rfl
def zn (g:bm (X×aE)) (f:ak9):ak->aE->Prop
 |.val b i,a=>oO b i a.1 a.2
 |.eB d,a=>ji a.1 d.cells.toList=Y a.2/\c3 a.1 d.cells.toList=d
 |.ref id h,a=>eY id f=bq/\∃c b e,aq g id=Y c/\eU c.1 c.2 h b e/\oO b e a.1 a.2
 |_,_=>b4
mutual
inductive pp (h:bm (X×aE)) (S:ak9):ak->(τ:ah)->τ.den->Prop
 |base {a:ak} {τ:ah} {x:τ.den} (JB:zn h S a ⟨τ,x⟩):pp h S a τ x
 |hL {a:ak} {τ:ah} {x:τ.den} (hv:pk τ=bp) (JB:pp h S a τ x):pp h S (.hL a) (.ptr .bj τ) (Y x)
 |di {n:X} {l:bm ak} {τ:ah} {x:τ.den} (Fv:w1 h S l τ x):pp h S (.di n l) (.fn n τ) x
inductive w1 (h:bm (X×aE)) (S:ak9):bm ak->(τ:ah)->τ.den->Prop
 |nil:w1 h S [] .nil ()
 |cons {a:ak} {l:bm ak} {τ υ:ah} {x:τ.den} {y:υ.den} (hv:pk τ=bp) (JB:pp h S a τ x) (Fv:w1 h S l υ y):w1 h S (a::l) (.pr τ υ) (x,y)
end
def UE (b:bm (X×aE)) (f:ak9):ak->hP->Prop
 |av,.v a=>zn b f av a
 |.ref id [],.m a _=>aq b id=Y a/\a.1.gp=bp/\sI a.1=bp
 |.ref id [],.o a=>aq b id=Y a
 |.di p d,.c l q=>p=l/\iY (λj a=>pp b f j a.1 a.2) d q
 |.eB e,.o a=>e=.slice bo 0 0/\∃t,a=⟨.osl t,[]⟩
 |.eB e,.n=>e=.slice bo 0 0
 |.view id [] h g,.w i r d k _=>aq b id=Y ⟨.osl i,r⟩/\(d=h/\k=g)/\h<g/\i.gp=bp
 |_,.s _ _=>True
 |_,_=>b4
def po (c:bm (X×aE)) (b:ak9):bm ak->bm hP->Prop
 |[],[]=>True
 |a::as,d::e=>UE c b a d/\po c b as e
 |_,_=>b4
def gA:bm ak->bm hP->ak9
 |.ref id []::as,.m _ _::a=>id::gA as a
 |.ref id []::as,.o _::a=>id::gA as a
 |.view id [] _ _::as,.w _ _ _ _ _::a=>id::gA as a
 |_::as,_::a=>gA as a
 |_,_=>[]
def m7:bm ak->bm hP->ak9
 |.ref id []::as,.m _ _::a=>id::m7 as a
 |.view id [] _ _::as,.w _ _ _ _ _::a=>id::m7 as a
 |_::as,_::a=>m7 as a
 |_,_=>[]
def kw:bm ak->bm hP->bm (X×aE)
 |.ref id []::as,.m b c::a=>(id,⟨b.1,c⟩)::kw as a
 |.view id [] _ _::as,.w e _ _ _ d::a=>(id,⟨.osl e,d⟩)::kw as a
 |_::as,_::a=>kw as a
 |_,_=>[]
def sw (a:X) (c:bz) (b:X):X:=bif c then a else 1000*(a+1)+b
def wG (b:X) (c:bz):X->bm aE->bm ak
 |_,[]=>[]
 |j,a::d=>(bif a.1.pure then .val a.1 a.2 else .ref (sw b c j) [])::wG b c (j+1) d
def jz (a:X) (b:bz):X->bm aE->bm (X×aE)
 |_,[]=>[]
 |j,d::c=>bif d.1.pure then jz a b (j+1) c else(sw a b j,d)::jz a b (j+1) c
def wF (a:X):bm aE->ak
 |[t]=>bif t.1.pure then .val t.1 t.2 else .ref a []
 |l=>.fu (wG a bq 0 l)
def jv:bm aE->bz
 |[_]=>bp
 |_=>bq
def j0:ak9->bz
 |[]=>bp
 |a::b=>!(eY a b)&&j0 b
theorem j0.ok:∀{c:ak9},j0 c=bp->c.Nodup
 |[],_=>List.nodup_nil
 |a::e,b=>by simp only[j0,cF,uK] at b;exact j4.2 ⟨(λd=>by rw[ht.2 d] at b;cases b.1),j0.ok b.2⟩
def Ww (c:X) (st:aR) (b:bm ak) (a:bm hP) (d:bm aE):aR:=
 ⟨(c,wF c d)::kill (gA b a) (yt (m7 b a)) st.g,(kw b a++jz c (jv d) 0 d)++del (gA b a) st.h⟩
theorem aW.gp {I G B':X->Prop} {w:bC}:∀{τ:ah} {f:ez} {b:τ.den} {g:ak9},τ.gp=bp->aW (bf I G) w τ f b g->aW (bf I B') w τ f b g:=by
 intro τ
 induction τ with
 |a8 o m h=>
  intro f b g c a;cases o
  ·obtain⟨j,r,s,ax,d,k,l⟩:=a;refine⟨j,r,s,ax,d,k,l.imp id ?_⟩;rintro⟨e,i,N,v,P⟩;refine⟨e,i,N,v,λp D F=>?_⟩;obtain⟨n,H,J,K⟩:=P p D F;exact⟨n,H,J,h (by simpa only[ah.gp] using c) K⟩
  grind [ah.gp]
 |ptr o m h=>
  intro f b g c a;cases o
  ·obtain⟨j,ax⟩:=a;refine⟨j,?_⟩;cases b with
   |none=>exact ax
   |some D=>
    obtain⟨e,i,n,z,A,B,aV,C⟩:=ax;exact⟨e,i,n,z,A,B,aV,h (by grind [ah.gp]) C⟩
  grind [ah.gp]
 |osl m h=>
  intro f b g c a;obtain⟨r,s,ax,d⟩:=a;refine⟨r,s,ax,d.imp id ?_⟩;rintro⟨e,i,M,z,A,B,aV,C,am⟩;refine⟨e,i,M,z,A,B,aV,C,λp D E F V=>?_⟩;grind [ah.gp]
 |optr m h=>
  intro f b g c a;obtain⟨e,i,E,n,ax,d,k,l,y,S⟩:=a;exact⟨e,i,E,n,ax,d,k,l,y,h (by grind [ah.gp]) S⟩
 |st m h=>intro f b g c a;exact h (by grind [ah.gp]) a
 |mp m h=>
  intro f b g c a;cases b with
  |none=>exact a
  |some x=>
   obtain⟨e,t,q,ax,d,u,k,l,y⟩:=a;refine⟨e,t,q,ax,d,u,k,l,λp x O=>?_⟩;grind [ah.gp]
 |fj o m h=>
  intro f b g c a;cases o
  ·cases b with
   |none=>exact a
   |some x=>
    obtain⟨e,t,q,ax,d,u,v,k,l,y⟩:=a;refine⟨e,t,q,ax,d,u,v,k,l,λp x O=>?_⟩;grind [ah.gp]
  grind [ah.gp]
 |fn ad m h=>
  intro f b g c a;obtain⟨j,T,ax,d⟩:=a;exact⟨j,T,ax,h (by simpa only[ah.gp] using c) d⟩
 |pr U e Q R=>
  intro f b g c a;simp only[ah.gp,cF] at c;obtain⟨L,f2,j,ax,d⟩:=a;exact⟨L,f2,j,Q c.1 ax,R c.2 d⟩
 |_=>intro f b g c a;exact a
theorem Qn {e f:Type} (c:e->f):∀(b:bm (X×e)) (a:X),aq (b.map λd=>(d.1,c d.2)) a=(aq b a).map c
 |[],_=>rfl
 |(g,v)::b,a=>by rw[gL,eC,eC,Qn c b a];grind
abbrev CF:=aE×ez×ak9
def hk (rt:X->ez):bm ak->bm hP->et->bm (X×CF)
 |.ref id []::as,.m d e::a,c::b=>(id,(⟨d.1,e⟩,rt id,c))::hk rt as a b
 |.view id [] _ _::as,.w g _ _ _ f::a,c::b=>(id,(⟨.osl g,f⟩,rt id,c))::hk rt as a b
 |_::as,_::a,_::b=>hk rt as a b
 |_,_,_=>[]
def lF (a:X) (b:bz):X->bm aE->eo->et->bm (X×CF)
 |j,f::e,g::c,h::d=>bif f.1.pure then lF a b (j+1) e c d else(sw a b j,(f,g,h))::lF a b (j+1) e c d
 |_,_,_,_=>[]
theorem R1 {rt:X->ez}:∀{as:bm ak} {bs:bm hP} {gs:et},gs.length=bs.length->(hk rt as bs gs).map (λf=>(f.1,f.2.1))=kw as bs
 |[],bs,gs,_=>by cases bs<;>cases gs<;>rfl
 |a::as,[],gs,e=>by cases gs with
  |nil=>cases a<;>first|rfl|(rename_i id b;cases b<;>rfl)|(rename_i id b h g;cases b<;>rfl)
  |cons=>cases e
 |a::as,c::bs,[],e=>by cases e
 |a::as,c::bs,i::gs,e=>by
  have d:=R1 (rt:=rt) (as:=as) (bs:=bs) (gs:=gs) (by grind);cases a with
  |ref id b=>cases b with
   |nil=>cases c<;>simp only[hk,kw,gL,d]
   |cons=>cases c<;>simp only[hk,kw,d]
  |view id b h g=>cases b with
   |nil=>cases c<;>simp only[hk,kw,gL,d]
   |cons=>cases c<;>simp only[hk,kw,d]
  |_=>cases c<;>simp only[hk,kw,d]
theorem Gz {d:X} {s:bz}:∀{j:X} {res:bm aE} {cs:eo} {hs:et},cs.length=res.length->hs.length=res.length->(lF d s j res cs hs).map (λe=>(e.1,e.2.1))=jz d s j res
 |j,[],cs,hs,a,b=>by cases cs<;>cases hs<;>simp[lF,jz]
 |j,f::c,[],hs,a,b=>by cases a
 |j,f::c,g::cs,[],a,b=>by cases b
 |j,f::c,g::cs,h::hs,a,b=>by have i:=Gz (d:=d) (s:=s) (j:=j+1) (res:=c) (cs:=cs) (hs:=hs) (by grind) (by grind);simp only[lF,jz];grind
section
variable {C:e7} {st:aR} {A:ew} {w w':bC} {I I' B':X->Prop} {rt:X->ez} {fp:X->ak9}
theorem R2 (D:cP C st A w I rt fp) {S:ak9}:∀{avs:bm ak} {t:ez} {args:bm hP} {gs:et},iY (cT (bf I C.B) w st.h rt fp) avs t->po st.h S avs args->mY (zp I' B' w') args t gs->∀a∈hk rt avs args gs,aW (bf I' C.B) w' a.2.1.1 a.2.2.1 a.2.1.2 a.2.2.2/\a.2.2.1=rt a.1/\a.1∈gA avs args/\∃g,aq st.h a.1=Y g/\a.2.1.1=g.1
 |[],t,args,gs,l,p,q,a,b=>by cases args<;>cases gs<;>cases b
 |x::i,t,[],gs,l,p,q,a,b=>by cases x<;>exact p.elim
 |x::i,[],d::u,gs,l,p,q,a,b=>l.elim
 |x::i,v::t,d::u,[],l,p,q,a,b=>q.elim
 |av::i,v::t,d::u,ad::gs,l,p,q,a,b=>by
  obtain⟨M,am⟩:=l;obtain⟨J,an⟩:=p;obtain⟨K,ap⟩:=q;have a0:=R2 D (S:=S) (avs:=i) (args:=u) (gs:=gs) am an ap;have e:a∈hk rt i u gs->aW (bf I' C.B) w' a.2.1.1 a.2.2.1 a.2.1.2 a.2.2.2/\a.2.2.1=rt a.1/\a.1∈gA (av::i) (d::u)/\∃g,aq st.h a.1=Y g/\a.2.1.1=g.1:=by
   intro b;obtain⟨ax,P,r,G⟩:=a0 a b;refine⟨ax,P,?_,G⟩;cases av with
   |ref id f=>cases f<;>cases d<;>simp only[gA]<;>first|exact gx _ r|exact r
   |view id f O L=>cases f<;>cases d<;>simp only[gA]<;>first|exact gx _ r|exact r
   |_=>cases d<;>exact r
  cases av with
  |ref id f=>
   cases f with
   |cons s f=>exact e (by cases d<;>exact b)
   |nil=>
    cases d with
    |v g=>exact e b
    |o g=>exact e b
    |c n d0=>exact e b
    |n=>exact e b
    |s cs a3=>exact e b
    |w bs i O L Q=>exact e b
    |m g d1=>
     simp only[hk,fF] at b;rcases b with rfl|b
     ·obtain⟨j,N,F⟩:=J;obtain⟨ci,k,z⟩:=K;cases M with|ref y E=>
      rw[j] at y;cases y;obtain⟨rfl,rfl,rfl⟩:=aZ.gE.1 E;have:=afp F (D.tree id _ j).1.len z.len k;subst this;exact⟨z.gp N,bn,by simp[gA],g,j,bn⟩
     grind
  |view id f O L=>
   cases f with
   |cons s f=>exact e (by cases d<;>exact b)
   |nil=>
    cases d with
    |w bs i a3 k Q=>
     simp only[hk,fF] at b;rcases b with rfl|b
     ·obtain⟨j,⟨rfl,rfl⟩,N,F⟩:=J;obtain⟨d,o,T,k,cv,z⟩:=K;cases M with
      |mM=>omega
      |view y E ax P r=>
      rename_i ds d2 c1 R bl a4 U;rw[j] at y;cases y;obtain⟨al,co,V⟩:=aZ.gE.1 E;simp only[ah.osl.injEq] at al;subst al;obtain⟨bx,ce,G,_⟩:=(D.tree id _ j).1;have H:rt id=[.slice (Y ⟨R,bl,bo⟩) a4 U]:=V;rw[G] at H;simp only[ia,alf,cc] at H;rw[ar aa] at k;simp only[alf,eZ,aly,cc] at k;obtain⟨⟨c2,dg⟩,dl,aV⟩:=k;have:rt id=[.slice (Y ⟨d,o,bo⟩) i.length T]:=(by grind);refine⟨?_,bn,by simp[gA],_,j,bn⟩;show aW (bf I' C.B) w' (.osl _) (rt id) Q ad;rw[this];exact z.gp F
     grind
    |_=>exact e b
  |_=>exact e (by cases d<;>exact b)
theorem R0 {x:ak9}:∀{as:bm ak} {r:bm hP} {g:ez} {e:et},po st.h x as r->mY (zp I' B' w') r g e->((hk rt as r e).map (λz=>z.2.2.2)).flatten=e.flatten
 |[],[],g,e,f,d=>by cases g<;>cases e<;>first|rfl|exact d.elim
 |[],q::t,g,e,f,d=>f.elim
 |a::as,[],g,e,f,d=>by cases a<;>exact f.elim
 |a::as,q::t,[],e,f,d=>d.elim
 |a::as,q::t,v::g,[],f,d=>d.elim
 |a::as,q::t,v::g,k::e,f,d=>by
  have y:=R0 (as:=as) f.2 d.2;have l:=f.1;have p:=d.1;rw[mi,<-y];cases q with
  |m u F=>
   cases a with
   |ref id b=>cases b with
    |nil=>grind [amt,hk]
    |cons=>exact l.elim
   |_=>exact l.elim
  |w H E C B G=>
   cases a with
   |view id b i j=>cases b with
    |nil=>grind [amt,hk]
    |cons=>exact l.elim
   |ref id b=>cases b<;>exact l.elim
   |_=>exact l.elim
  |v u=>
   have:k=[]:=p;subst this;cases a with
   |ref id b=>grind [hk]
   |view id b i j=>grind [hk]
   |_=>simp only[hk,hx]
  |o u=>
   have:k=[]:=p;subst this;cases a with
   |ref id b=>grind [hk]
   |view id b i j=>grind [hk]
   |_=>simp only[hk,hx]
  |n=>
   have:k=[]:=p;subst this;cases a with
   |ref id b=>grind [hk]
   |view id b i j=>grind [hk]
   |_=>simp only[hk,hx]
  |s A i=>
   have:k=[]:=p;subst this;cases a with
   |ref id b=>grind [hk]
   |view id b i j=>grind [hk]
   |_=>simp only[hk,hx]
  |c n D=>
   have:k=[]:=p;subst this;cases a with
   |ref id b=>grind [hk]
   |view id b i j=>grind [hk]
   |_=>simp only[hk,hx]
theorem SG {I:X->Prop}:∀{e:bm aE} {cC:ez} {b:et},mY (CH I w) e cC b->∃g:eo,g.length=e.length/\b.length=e.length/\cC.length=e.length/\∀(d:X) (t:aE) (c:ez) (a:ak9) (f:Value),e[d]?=Y t->g[d]?=Y c->b[d]?=Y a->cC[d]?=Y f->f=c3 t.1 c/\aW (bf I (λ_=>b4)) w t.1 c t.2 a
 |[],cC,b,a=>by cases cC<;>cases b<;>first|exact⟨[],bn,bn,bn,λd t c a f q=>by grind⟩|exact a.elim
 |t::h,[],b,a=>a.elim
 |t::h,f::cC,[],a=>a.elim
 |t::h,f::cC,o::b,a=>by obtain⟨⟨c,k,s⟩,i⟩:=a;obtain⟨g,u,v,x,r⟩:=SG i;refine⟨c::g,by grind,by grind,by grind,λd y j p z al l m n=>?_⟩;grind
theorem SI {m:X} {n:bz}:∀{j:X} {i:bm aE} {c:eo} {d:et},c.length=i.length->d.length=i.length->∀a∈lF m n j i c d,∃e:X,i[e]?=Y a.2.1/\c[e]?=Y a.2.2.1/\d[e]?=Y a.2.2.2
 |j,[],c,d,f,g,a,b=>by cases c<;>cases d<;>simp[lF] at b
 |j,k::h,[],d,f,g,a,b=>by cases f
 |j,k::h,l::c,[],f,g,a,b=>by cases g
 |j,k::h,l::c,q::d,f,g,a,b=>by
  simp only[lF] at b;have s:a∈lF m n (j+1) h c d->∃e,(k::h)[e]?=Y a.2.1/\(l::c)[e]?=Y a.2.2.1/\(q::d)[e]?=Y a.2.2.2:=λb=>(by obtain⟨e,al,o,p⟩:=SI (by grind) (by grind) a b;exact⟨e+1,by rw[w9];exact al,by rw[w9];exact o,by rw[w9];exact p⟩);cases r:k.1.pure
  ·rw[r] at b;simp only[bP,fF] at b;rcases b with rfl|b
   ·exact⟨0,bn,bn,bn⟩
   grind
  grind
theorem SH {d:X} {s:bz}:∀{j:X} {res:bm aE} {cs:eo} {hs:et},((lF d s j res cs hs).map (λe=>e.2.2.2)).flatten.Sublist hs.flatten
 |j,[],cs,hs=>by simp[lF]
 |j,b::a,[],hs=>by simp[lF]
 |j,b::a,c::cs,[]=>by simp[lF]
 |j,b::a,c::cs,f::hs=>by have g:=SH (d:=d) (s:=s) (j:=j+1) (res:=a) (cs:=cs) (hs:=hs);simp only[lF];grind
theorem Nh (n:cP C st A w I rt fp) (f:∀a,C.B a->B' a) (m:∀id P,aq st.h id=Y P->eY id k=bq->∀a∈fp id,B' a) (c:cT (bf I C.B) w st.h rt fp V R) (b:zn st.h k V P):∃e,R=c3 P.1 e/\aW (bf I B') w P.1 e P.2 []:=by
 cases V with
 |val l j=>
  have b:oO l j P.1 P.2:=b;cases c with|val u=>
  exact⟨_,b.st _,b.rep f u ac⟩
 |eB D=>
  obtain⟨ax,y⟩:=b;cases c;grind [qJ]
 |ref id x=>
  obtain⟨o,z,l,j,d,t,i⟩:=b;cases c with|ref g r=>
  rw[d] at g;cases g;obtain⟨rfl,v,s,_,q⟩:=n.lz d t r;exact⟨_,i.st _,i.rep f s (λa p=>m id _ d o a (q a p))⟩
 |_=>exact b.elim
mutual
theorem Ic (j:cP C st A w I rt fp) {m:ak9} (g:∀a,C.B a->B' a) (i:∀id J,aq st.h id=Y J->eY id m=bq->∀a∈fp id,B' a):∀{n:ak} {d:ah} {u:d.den},pp st.h m n d u->∀{t:Value},cT (bf I C.B) w st.h rt fp n t->∃e,t=c3 d e/\aW (bf I B') w d e u []
 |_,_,_,.base k,_,b=>Nh j g i b k
 |_,_,_,.hL G k,_,b=>by
  cases b with|hL E F K f=>
  rename_i l a;obtain⟨e,al,p⟩:=Ic j g i k f;obtain⟨o,y⟩:=pP.one G;have c:=p.len;rw[o] at c;obtain⟨x,rfl⟩:=qr.1 c;rw[y] at al;have al:l=x:=al;subst al;have D:fE w a 0 [l]:=λr M q=>by
   cases r with
   |zero=>cases q;exact F
   |succ r=>cases q
  exact⟨[.pointer (Y ⟨a,0,bo⟩)],bn,bn,a,0,[l],bn,E,o.symm,D,p⟩
 |_,_,_,.di c,_,b=>by
  cases b with|di z f=>
  rename_i s;exact⟨[.func (.func _) #[] s],bn,bn,s.toList,bn,NH j g i c (zS (by simpa using z) (λH v a ax L=>f H v a ax (by grind)))⟩
theorem NH (k:cP C st A w I rt fp) {f:ak9} (i:∀b,C.B b->B' b) (j:∀id x,aq st.h id=Y x->eY id f=bq->∀b∈fp id,B' b):∀{m:bm ak} {e:ah} {n:e.den},w1 st.h f m e n->∀{a:ez},iY (cT (bf I C.B) w st.h rt fp) m a->aW (bf I B') w e a n []
 |_,_,_,.nil,a,c=>by
  cases a with
  |nil=>exact⟨bn,bn⟩
  |cons=>exact c.elim
 |_,_,_,.cons v t u,a,c=>by
  cases a with
  |nil=>exact c.elim
  |cons y a=>
   obtain⟨q,r⟩:=c;obtain⟨z,al,g⟩:=Ic k i j t q;have s:=NH k i j u r;obtain⟨d,p⟩:=pP.one v;have l:=g.len;rw[d] at l;obtain⟨o,rfl⟩:=qr.1 l;rw[p] at al;have al:y=o:=al;subst al;exact⟨[],[],bn,by rw[d];exact g,by rw[d];exact s⟩
end
def NM (j:cP C st A w I rt fp) {d:ak9} (g:∀b,C.B b->B' b) (i:∀id c,aq st.h id=Y c->eY id d=bq->∀b∈fp id,B' b):∀{e:bm ak} {l:ez} {k:bm aE},iY (cT (bf I C.B) w st.h rt fp) e l->iY (λm c=>pp st.h d m c.1 c.2) e k->iY (zr I B' w) k l
 |[],[],[],_,_=>trivial
 |[],_::_,_,a,_=>a.elim
 |_::_,[],_,a,_=>a.elim
 |[],_,_::_,_,a=>a.elim
 |_::_,_,[],_,a=>a.elim
 |_::_,_::_,_::_,a,f=>⟨Ic j g i f.1 a.1,NM j g i a.2 f.2⟩
theorem Nj (r:cP C st A w I rt fp) {S:ak9} (E:∀d,C.B d->B' d) (H:∀id q,aq st.h id=Y q->eY id S=bq->∀d∈fp id,B' d):∀{F:bm ak} {t:ez} {args:bm hP},iY (cT (bf I C.B) w st.h rt fp) F t->po st.h S F args->∃e,mY (zo I B' w) args t e/\e.flatten=((gA F args).map fp).flatten
 |[],t,args,i,g=>by cases args with
  |nil=>cases t with
   |nil=>exact⟨[],trivial,bn⟩
   |cons=>exact i.elim
  |cons=>exact g.elim
 |x::l,t,[],i,g=>by cases x<;>exact g.elim
 |x::l,[],d::u,i,g=>i.elim
 |av::l,v::t,d::u,i,g=>by
  obtain⟨p,i⟩:=i;obtain⟨a,ad⟩:=g;obtain⟨e,f,V⟩:=Nj r E H i ad;cases d with
  |v q=>
   have D:gA (av::l) (.v q::u)=gA l u:=by cases av<;>first|rfl|(rename_i id b;cases b<;>rfl)|(rename_i id b z D;cases b<;>rfl)
   have a:zn st.h S av q:=(by cases av<;>exact a);exact⟨[]::e,⟨⟨bn,Nh r E H p a⟩,f⟩,by grind⟩
  |s U z=>
   have D:gA (av::l) (.s U z::u)=gA l u:=by cases av<;>first|rfl|(rename_i id b;cases b<;>rfl)|(rename_i id b z D;cases b<;>rfl)
   exact⟨[]::e,⟨bn,f⟩,by grind⟩
  |n=>
   cases av with
   |eB Q=>
    obtain rfl:Q=.slice none 0 0:=a;cases p;exact⟨[]::e,⟨⟨bn,bn⟩,f⟩,by grind [gA]⟩
   |ref id b=>cases b<;>exact a.elim
   |_=>exact a.elim
  |c n d1=>
   cases av with
   |di m z=>
    obtain⟨rfl,a⟩:=a;cases p with|di cs am=>
    rename_i a4;refine⟨[]::e,⟨⟨bn,a4.toList,bn,NM r E H (zS aa (λap R d f V=>am ap R d f (by grind))) a⟩,f⟩,by grind [gA]⟩
   |ref id b=>cases b<;>exact a.elim
   |_=>exact a.elim
  |w bl l c1 co d3=>
   cases av with
   |view id b z D=>cases b with
    |nil=>
     obtain⟨k,⟨rfl,rfl⟩,J,a0⟩:=a;cases p with
     |mM=>omega
     |view j y ax dg dl=>
     rename_i d0 d4 c2 K P O L;rw[k] at j;cases j;obtain⟨al,ci,T⟩:=aZ.gE.1 y;simp only[ah.osl.injEq] at al;subst al;have N:=(r.tree id _ k).1;have G:rt id=[.slice (Y ⟨K,P,bo⟩) O L]:=T;have an:=N;obtain⟨bx,ce,a3,ds⟩:=an;rw[a3] at G;simp only[ia,alf,cc] at G;have cv:l.length=O:=G.2.1;refine⟨fp id::e,⟨⟨K,P,L,?_,⟨J,aa,aa⟩,?_⟩,f⟩,by grind [amt,gA]⟩
     ·rw[ar aa]
     have:=aW.gp (τ:=.osl bl) (B':=B') a0 N;grind
    |cons=>exact a.elim
   |ref id b=>cases b<;>exact a.elim
   |_=>exact a.elim
  |m q d2=>
   cases av with
   |ref id b=>cases b with
    |nil=>
     obtain⟨k,J,_⟩:=a;cases p with|ref j y=>
     rw[k] at j;cases j;obtain⟨rfl,rfl,rfl⟩:=aZ.gE.1 y;exact⟨fp id::e,⟨⟨rt id,bn,(r.tree id _ k).1.gp J⟩,f⟩,by grind [amt,gA]⟩
    |cons=>exact a.elim
   |_=>exact a.elim
  |o q=>
   cases av with
   |ref id b=>cases b with
    |nil=>
     have k:aq st.h id=Y q:=a;cases p with|ref j y=>
     rw[k] at j;cases j;obtain⟨rfl,rfl,rfl⟩:=aZ.gE.1 y;refine⟨fp id::e,⟨⟨rt id,bn,(r.tree id _ k).1.mono (λm d M=>⟨?_,dd.refl w d⟩) (λd _=>dd.refl w d)⟩,f⟩,by grind [amt,gA]⟩;cases m
     ·exact M
     exact M.imp (λg=>g) (E d)
    |cons=>exact a.elim
   |eB Q=>
    obtain⟨rfl,bs,rfl⟩:=a;cases p;exact⟨[]::e,⟨⟨[.slice bo 0 0],bn,bo,0,bn,.inl ⟨bn,bn,bn,bn⟩⟩,f⟩,by grind [gA]⟩
   |_=>exact a.elim
end
end
end Go.jN
end
