/- root.shape. -/
import Derived.Test.YtakhaanenlblmaaRRead1
import Derived.Test.YtakhaanenlblmaaRRead2
set_option linter.unusedSimpArgs false
set_option linter.unusedVariables false
namespace Go.Proofs.Ytakhaanenlblmaa
open Go.RowKit
theorem allT_lst:∀ {ks:List Itm} {i:Nat} {k:Itm},ks[i]?=some k→itl k=true→allT (ks.map erI)=none
 | [],i,k,h,_=>by simp at h
 | x::ks,0,k,h,hl=>by
  simp only [List.getElem?_cons_zero,Option.some.injEq] at h
  subst h
  cases x with
  | mk l tv t kv ks' =>
   have:l=true:=hl
   subst this
   rw [List.map_cons,erI_mk];rfl
 | x::ks,i+1,k,h,hl=>by
  simp only [List.getElem?_cons_succ] at h
  have ih:=allT_lst h hl
  rw [List.map_cons]
  cases hx:erI x with
  | txt t=>simp [allT,ih]
  | lst l=>rfl
theorem allT_texts:∀ {ks:List Itm},(∀ (i:Nat) (k:Itm),ks[i]?=some k→itl k=false)→allT (ks.map erI)=some (ks.map itt)
 | [],_=>rfl
 | x::ks,h=>by
  rw [List.map_cons,erI_text (h 0 x rfl)]
  simp only [allT,allT_texts (fun i k hk=>h (i+1) k hk),Option.map_some,List.map_cons]
def ShPost (o:Option Shq) (w:World) (e:Ending) (w':World):Prop :=
 Below w.heap.size w w'∧match o with
 | none=>∃ (kd:Int) (pa:Option Addr) (pn pc:Nat) (va:Option Addr) (vn vc:Nat) (ka:Option Addr) (kn kc:Nat),e=.returned (.tuple #[.agg #[.int .i64 kd,.slice pa pn pc,.slice va vn vc,.slice ka kn kc],.bool false])
 | some s=>∃ (pa:Option Addr) (pc:Nat) (va:Option Addr) (vc:Nat) (ka:Option Addr) (kc:Nat) (ps:List (Value × List UInt8)),e=.returned (.tuple #[.agg #[.int .i64 s.1,.slice pa s.2.1.length pc,.slice va s.2.2.1.length vc,.slice ka s.2.2.2.length kc],.bool true]) ∧
   Bytes w' (.slice pa s.2.1.length pc) s.2.1∧Bytes w' (.slice va s.2.2.1.length vc) s.2.2.1∧Texts w' (.slice ka s.2.2.2.length kc) ps∧ps.map (·.2)=s.2.2.2∧∀ x,(Value.slice ka s.2.2.2.length kc).ownBlock=some x→w.heap.size≤x
def zsh:List Value:=[.int .i64 0,.slice none 0 0,.slice none 0 0,.slice none 0 0]
structure ShW (w:World) (box cs:List Value) (u:World):Prop where
 hb:Below w.heap.size w u
 hx:Blk 289 u w.heap.size box
 hz:Blk 250 u (w.heap.size+1) cs
theorem ShW.kept {w u u':World} {box cs:List Value} (h:ShW w box cs u) (hb:Below u.heap.size u u'):ShW w box cs u':=⟨Below.then h.hb hb,h.hx.kept hb,h.hz.kept hb⟩
theorem ShW.start (w:World) (c0 c1 c2:Value):ShW w [c0,c1,c2] zsh ((w.alloc (.cells #[c0,c1,c2] 289)).alloc (.cells #[.int .i64 0,.slice none 0 0,.slice none 0 0,.slice none 0 0] 250)):=by
 refine ⟨((Below.refl _ _).alloc (Nat.le_refl _) _).alloc (by simp) _,(Blk.new w 289 [c0,c1,c2]).alloc _,?_⟩
 have:=Blk.new (w.alloc (.cells #[c0,c1,c2] 289)) 250 zsh
 simpa [zsh] using this
theorem ShW.set {w u:World} {box cs:List Value} (h:ShW w box cs u) (i:Nat) (v:Value):ShW w box (cs.set i v) (u.setCell ⟨w.heap.size+1,i,none⟩ v) :=
 ⟨h.hb.setCell (by show w.heap.size≤w.heap.size+1;omega) _,h.hx.other _ (by simp) _,h.hz.set i v⟩
theorem ShW.bytes {w u:World} {box cs:List Value} (h:ShW w box cs u) (hno:∀ x∈cs,∀ k,x≠.int .u8 k) (i:Nat) (x:Value) {v:Value} {t:List UInt8} (hb:Bytes u v t):Bytes (u.setCell ⟨w.heap.size+1,i,none⟩ x) v t :=
 Bytes.off_v hb h.hz hno (grown_cell i x)
theorem zsh_post (w u:World) (kd:Int) (hkd:kd=0) (hb:Below w.heap.size w u):ShPost (some (0,[],[],[])) w (.returned (.tuple #[.agg #[.int .i64 kd,.slice none 0 0,.slice none 0 0,.slice none 0 0],.bool true])) u:=by
 subst hkd
 exact ⟨hb,none,0,none,0,none,0,[],rfl,RowOf.nil b8 1 u,RowOf.nil b8 1 u,⟨RowOf.nil tcell 1 u,by simp⟩,rfl,by simp [Value.ownBlock]⟩
set_option maxHeartbeats 1000000 in
set_option maxRecDepth 100000 in
theorem shape_text (ta:Option Addr) (tn tc:Nat) (t:List UInt8) (htn:t.length=tn) (kv:Value) (w:World):Calls Try.prog 192 #[.agg #[.bool false,.slice ta tn tc,kv]] w (ShPost (shpP (.txt t)) w):=by
 obtain ⟨w1,hw1⟩:∃ w1,w1=(w.alloc (.cells #[.bool false,.slice ta tn tc,kv] 289)).alloc (.cells #[.int .i64 0,.slice none 0 0,.slice none 0 0,.slice none 0 0] 250):=⟨_,rfl⟩
 have F:ShW w [.bool false,.slice ta tn tc,kv] zsh w1:=by rw [hw1];exact ShW.start w _ _ _
 have Hw1:=Lib.hid hw1
 obtain ⟨ok,hok⟩:∃ ok:Bool,ok=decide (tn=0):=⟨_,rfl⟩
 have hokd:((tn:Int) == 0)=ok:=by
  rw [hok]
  by_cases h:tn=0
  ·rw [decide_eq_true h,beq_iff_eq];omega
  ·rw [decide_eq_false h,beq_eq_false_iff_ne];omega
 have hpost:∀ u,Below w.heap.size w u→ShPost (shpP (.txt t)) w (.returned (.tuple #[.agg #[.int .i64 0,.slice none 0 0,.slice none 0 0,.slice none 0 0],.bool ok])) u:=by
  intro u hu
  by_cases h:tn=0
  ·have ht:t=[]:=List.eq_nil_of_length_eq_zero (by omega)
   have e1:shpP (.txt t)=some (0,[],[],[]):=by rw [ht];rfl
   rw [e1,hok,decide_eq_true h]
   exact zsh_post w u 0 rfl hu
  ·have ht:t≠[]:=fun e=>h (by rw [← htn,e];rfl)
   have e1:shpP (.txt t)=none:=by simp [shpP,ht]
   rw [e1,hok,decide_eq_false h]
   exact ⟨hu,0,none,0,0,none,0,0,none,0,0,rfl⟩
 have Hpost:=Lib.hid hpost
 clear hw1 hok htn hpost
 go_enter Try.func192,Try.ntmps192
 go_wp2_with fail
 rw [← Hw1.out]
 refine wp_region_via (fun aa b w'=>b=((((((aa.put (some 14) (.agg zsh.toArray)).put (some 15) (.pointer (some ⟨w.heap.size,1,none⟩))).put (some 16) (.slice ta tn tc)).put (some 17) (.int .i64 (tn:Int))).put (some 18) (.bool ok)).put (some 3) (.bool ok))∧ShW w [.bool false,.slice ta tn tc,kv] zsh w') ?_ ?_
 ·refine wp_region_h (ShW w [.bool false,.slice ta tn tc,kv] zsh) (by kernel_rfl) ?_;intro u0 hu0;simp only [List.length_cons,List.length_nil,Nat.reduceAdd,List.replicate_succ,List.replicate_zero]
  have F0:ShW w [.bool false,.slice ta tn tc,kv] zsh u0:=by rw [hu0];exact F.kept (Below.refl _ _).drew
  have k1:∀ u:In (ShW w [.bool false,.slice ta tn tc,kv] zsh),u.val.cell? ⟨w.heap.size,1,none⟩=some (.slice ta tn tc):=fun u=>(u.held.hx.cell 1).trans rfl
  clear hu0 F
  (refine wpH_take 0 (by rfl) (by kernel_rfl) (by intro _ _ _ h;first|exact h|(cases h.1)) (by intro _ _ _ _ h;first|exact h|(cases h.1)) (by assumption) (fun K hK=>?_);simp only [List.setIfInBounds_toArray,List.set_cons_zero,List.set_cons_succ] at hK;refine take_loadA (by rfl) 250 (.tmp 2) (by rfl) (w.heap.size+1) (by rfl) aggShape (fun u hu=>hu.hz) (by rfl) (hK _ ?_);clear hK K;simp only [Act.put,List.getElem_toArray,List.getElem_cons_zero,List.getElem_cons_succ,List.setIfInBounds_toArray,List.set_cons_zero,List.set_cons_succ])
  (refine wpH_take 1 (by rfl) (by kernel_rfl) (by intro _ _ _ h;first|exact h|(cases h.1)) (by intro _ _ _ _ h;first|exact h|(cases h.1)) (by assumption) (fun K hK=>?_);simp only [List.setIfInBounds_toArray,List.set_cons_zero,List.set_cons_succ] at hK;go_simp;first|(refine hK _ ?_;clear hK K)|(apply Exists.intro;refine ⟨fun _=>rfl,hK _ ?_⟩;clear hK K));(refine wpH_take 2 (by rfl) (by kernel_rfl) (by intro _ _ _ h;first|exact h|(cases h.1)) (by intro _ _ _ _ h;first|exact h|(cases h.1)) (by assumption) (fun K hK=>?_);simp only [List.setIfInBounds_toArray,List.set_cons_zero,List.set_cons_succ] at hK;go_simp;first|(refine hK _ ?_;clear hK K)|(apply Exists.intro;refine ⟨fun _=>rfl,hK _ ?_⟩;clear hK K));(refine wpH_take 3 (by rfl) (by kernel_rfl) (by intro _ _ _ h;first|exact h|(cases h.1)) (by intro _ _ _ _ h;first|exact h|(cases h.1)) (by assumption) (fun K hK=>?_);simp only [List.setIfInBounds_toArray,List.set_cons_zero,List.set_cons_succ] at hK;go_simp;first|(refine hK _ ?_;clear hK K)|(apply Exists.intro;refine ⟨fun _=>rfl,hK _ ?_⟩;clear hK K));(refine wpH_take 4 (by rfl) (by kernel_rfl) (by intro _ _ _ h;first|exact h|(cases h.1)) (by intro _ _ _ _ h;first|exact h|(cases h.1)) (by assumption) (fun K hK=>?_);simp only [List.setIfInBounds_toArray,List.set_cons_zero,List.set_cons_succ] at hK;go_simp;first|(refine hK _ ?_;clear hK K)|(apply Exists.intro;refine ⟨fun _=>rfl,hK _ ?_⟩;clear hK K))
  clear k1
  refine wpH_only 5 (by rfl) (by kernel_rfl) (fun K hK=>?_)
  refine step_storeA (by rfl) 250 (.tmp 2) (.tmp 14) (by rfl) (w.heap.size+1) zsh (by rfl) (by rfl) aggShape F0.hz (by rfl) (by rfl) (by intro u hu;simp [zsh] at hu;rcases hu with rfl|rfl <;> rfl) (fun w7 h27 _ g7=>?_)
  have F7:ShW w [.bool false,.slice ta tn tc,kv] zsh w7:=⟨F0.hb.grown g7 F0.hb.size (fun y hy=>by cases hy;omega),F0.hx.grown g7 (by simp <;> omega),h27⟩
  refine hK _ _ F7 ?_;clear hK K
  (refine wpH_take 6 (by rfl) (by kernel_rfl) (by intro _ _ _ h;first|exact h|(cases h.1)) (by intro _ _ _ _ h;first|exact h|(cases h.1)) (by assumption) (fun K hK=>?_);simp only [List.setIfInBounds_toArray,List.set_cons_zero,List.set_cons_succ] at hK;go_simp;first|(refine hK _ ?_;clear hK K)|(apply Exists.intro;refine ⟨fun _=>rfl,hK _ ?_⟩;clear hK K))
  exact wpH_done (by kernel_rfl) ⟨rfl,rfl,F7⟩
 rintro b w9 ⟨rfl,F9⟩
 simp only [Act.put,List.setIfInBounds_toArray,List.set_cons_zero,List.set_cons_succ]
 go_wp2_with fail
 exact bodyPost_ret (v:=.tuple #[.agg #[.int .i64 0,.slice none 0 0,.slice none 0 0,.slice none 0 0],.bool ok]) (results_blk_tmp rfl _ _ (w.heap.size+1) aggShape F9.hz rfl rfl rfl) rfl (Hpost.out _ F9.hb)
end Go.Proofs.Ytakhaanenlblmaa
